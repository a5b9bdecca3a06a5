/- Part 2 of the proof of RankOrder. -/
import Derived.Test.YtjjagjehaoidbaaA1
import Derived.RangeFuncBox
import Derived.RangeFuncLeaves
import Derived.Shelf.Abstract
import Derived.WalkKit
import Derived.OwnWalkIn
import Derived.TacticsInMore
import Derived.LoopNIn
import Derived.LoopIn
import Derived.RangeFuncNested
import Derived.RangeFuncBound
import Derived.RangeFuncCalls
import Derived.Maps.AppendAt
import Derived.Maps.RangeWalk
import Derived.Shelf.SlSortCmp.WholeK
import Derived.Test.YtjjagjehaoidbaaProg
import Derived.Shelf.SlSortCmp.NoneTotal
import Derived.Laws.AppendOwn
import Derived.Below
import Derived.Deep.Draws
import Derived.Deep.AppendLies
import Derived.OwnWalk
import Derived.Laws.BytesArg
import Derived.Laws.MakeOwn
import Derived.Laws.OwnMore
import Derived.Deep.OwnRows
import Derived.Tactics
import Derived.Lib.ConvBytes
import Derived.Laws.Slices
import Derived.KernelRfl
import Derived.RowKit3
import Derived.Deep.LoopGhost
import Derived.Deep.QuietTactic
import Derived.BigQuiet
import Derived.WideLaws
import Derived.Deep.DeepCutAuto
import Derived.Deep.CutBlock
import Derived.Deep.RegionHeld3
import Derived.Laws.Rows
import Derived.Lib.AppendStr
import Derived.ArgAppend
import Derived.Laws.IdiomCopy
import Derived.OrdersHeld
import Derived.Laws.BitsLemmas
import Derived.RowKit
set_option linter.unusedVariables false
set_option linter.unusedSimpArgs false
set_option linter.unusedSectionVars false
namespace Go.Proofs.Ytjjagjehaoidbaa
open Go.RowKit Go.Shelf Go.Proofs
attribute [local go_sem] Oper.semAt_some
def encA (x : Alarm) : List Value := [.int .i64 x.spot.bed, .int .i64 x.spot.channel, .int .i64 x.phase, .int .i64 x.prio, .int .i64 x.since, .int .i64 x.until_]
instance : Inhabited Alarm := ⟨⟨⟨0, 0⟩, 0, 0, 0, 0⟩⟩
def upto {α : Type} (f : Nat → α) (k : Nat) : List α := (List.range k).map f
theorem upto_succ {α : Type} (f : Nat → α) (k : Nat) : upto f (k + 1) = upto f k ++ [f k] := by simp [upto, List.range_succ]
theorem upto_length {α : Type} (f : Nat → α) (k : Nat) : (upto f k).length = k := by simp [upto]
def RowA (W : World) (b off len : Nat) (zs : List Alarm) : Prop := ∀ j, j < len → ∀ i, i < 6 → W.cell? ⟨b, off + j * 6 + i, none⟩ = some ((encA (zs.getD j default)).getD i (.bool false))
set_option maxRecDepth 100000 in
set_option maxHeartbeats 2000000 in
theorem values1_in (F : Fence) (n : Nat) (h7 : F.fn 32) (hro : F.round = none) (hn : 1 ≤ n) (l Bs n₀ b off len cap : Nat) (zs : List Alarm) (hreach : len * 48 ≤ 140737488351232) (hb : b < n₀) (J Jx : List Alarm → World → Prop)
    (hAb : ∀ s (W : World) (o : Obj), J s W → J s (W.alloc o))
    (hY : ∀ pre x W, J pre W → pre.length < len → YieldAt F (n - 1) Try.prog l #[.agg (encA x).toArray] W fun e W' =>
      (e = .returned (.bool true) ∧ J (pre ++ [x]) W' ∧ Below n₀ W W') ∨ (e = .returned (.bool false) ∧ Jx (pre ++ [x]) W'))
    (W : World) (hn₀ : n₀ ≤ W.heap.size) (hBs : W.cell? ⟨Bs, 0, none⟩ = some (.slice (some ⟨b, off, none⟩) len cap)) (hc : RowA W b off len zs) (h0 : J [] W) :
    CallsIn F n Try.prog 32 #[.func (.yield l) #[] #[], .pointer (some ⟨Bs, 0, none⟩)] W fun e W' => (∃ v, e = .returned v) ∧
      ((∃ ys, ys = upto (fun j => zs.getD j default) len ∧ J ys W') ∨ (∃ pre, (∃ k, k ≤ len ∧ pre = upto (fun j => zs.getD j default) k) ∧ Jx pre W')) := by
  refine callsIn_of_wp Try.func32 rfl h7 ?_ hro
  simp only [Try.ntmps32, List.size_toArray, List.length_cons, List.length_nil, Nat.reduceAdd, Nat.reduceSub, Array.replicate_succ, Array.replicate_zero, List.push_toArray, List.append_toArray, List.nil_append, List.cons_append]
  gi_wp2
  gi_loopw [7] (fun i wr => ∃ k : Nat, k ≤ len ∧ i = .int .i64 k ∧ J (upto (fun j => zs.getD j default) k) wr ∧ Below n₀ W wr)
    (fun i _ => len - (intOf i).toNat)
  case atStart => exact ⟨0, Nat.zero_le _, rfl, h0, Below.refl _ _⟩
  case round =>
    obtain ⟨k, hk, rfl, hJs, hnx⟩ := hrel
    by_cases hlt : k < len
    · obtain ⟨x, hx⟩ : ∃ x, zs.getD k default = x := ⟨_, rfl⟩
      have hn₀w : n₀ ≤ wr.heap.size := Nat.le_trans hn₀ hnx.size
      have c0 : wr.cell? ⟨b, off + k * 6, none⟩ = some (.int .i64 x.spot.bed) := by
        have h := (hnx.cell (p := ⟨b, off + k * 6 + 0, none⟩) hb).trans (hc k hlt 0 (by omega))
        rw [hx] at h; exact h
      have c1 : wr.cell? ⟨b, off + k * 6 + 1, none⟩ = some (.int .i64 x.spot.channel) := by
        have h := (hnx.cell (p := ⟨b, off + k * 6 + 1, none⟩) hb).trans (hc k hlt 1 (by omega))
        rw [hx] at h; exact h
      have c2 : wr.cell? ⟨b, off + k * 6 + 2, none⟩ = some (.int .i64 x.phase) := by
        have h := (hnx.cell (p := ⟨b, off + k * 6 + 2, none⟩) hb).trans (hc k hlt 2 (by omega))
        rw [hx] at h; exact h
      have c3 : wr.cell? ⟨b, off + k * 6 + 3, none⟩ = some (.int .i64 x.prio) := by
        have h := (hnx.cell (p := ⟨b, off + k * 6 + 3, none⟩) hb).trans (hc k hlt 3 (by omega))
        rw [hx] at h; exact h
      have c4 : wr.cell? ⟨b, off + k * 6 + 4, none⟩ = some (.int .i64 x.since) := by
        have h := (hnx.cell (p := ⟨b, off + k * 6 + 4, none⟩) hb).trans (hc k hlt 4 (by omega))
        rw [hx] at h; exact h
      have c5 : wr.cell? ⟨b, off + k * 6 + 5, none⟩ = some (.int .i64 x.until_) := by
        have h := (hnx.cell (p := ⟨b, off + k * 6 + 5, none⟩) hb).trans (hc k hlt 5 (by omega))
        rw [hx] at h; exact h
      obtain ⟨fn, tmps, assign, body, hy, hR⟩ := hY _ x _ (hAb _ _ (.cells #[.int .i64 x.spot.bed, .int .i64 x.spot.channel, .int .i64 x.phase, .int .i64 x.prio, .int .i64 x.since, .int .i64 x.until_] 34) hJs) (by rw [upto_length]; exact hlt)
      simp only [encA] at hy
      have hnx2 : Below n₀ W (wr.alloc (.cells #[.int .i64 x.spot.bed, .int .i64 x.spot.channel, .int .i64 x.phase, .int .i64 x.prio, .int .i64 x.since, .int .i64 x.until_] 34)) := hnx.alloc hn₀w _
      gi_wp2
      refine hR.mono ?_
      rintro e W3 (⟨rfl, hJ3, hk3⟩ | ⟨rfl, hJx3⟩)
      ·
        gi_wp2
        go_roundw
        case rel => exact ⟨k + 1, by omega, by simp, by rw [upto_succ, hx]; exact hJ3, hnx2.trans hk3⟩
        case measure => simp [intOf]; omega
      · gi_wp2
        refine bodyPost_ret (results_none rfl _ _ _) rfl ?_
        exact ⟨⟨_, rfl⟩, .inr ⟨_, ⟨k + 1, by omega, by rw [upto_succ, hx]⟩, hJx3⟩⟩
    · obtain rfl : k = len := by omega
      gi_wp2
      go_end0
      exact ⟨⟨_, rfl⟩, .inl ⟨_, rfl, hJs⟩⟩
set_option maxRecDepth 100000 in
set_option maxHeartbeats 1000000 in
theorem values1_nil_in (F : Fence) (n : Nat) (h7 : F.fn 32) (hro : F.round = none) (l Bs : Nat) (J : List Alarm → World → Prop) (W : World) (A : Option Addr) (cap : Nat) (hBs : W.cell? ⟨Bs, 0, none⟩ = some (.slice A 0 cap)) (h0 : J [] W) :
    CallsIn F n Try.prog 32 #[.func (.yield l) #[] #[], .pointer (some ⟨Bs, 0, none⟩)] W fun e W' => (∃ v, e = .returned v) ∧ J [] W' := by
  refine callsIn_of_wp Try.func32 rfl h7 ?_ hro
  simp only [Try.ntmps32, List.size_toArray, List.length_cons, List.length_nil, Nat.reduceAdd, Nat.reduceSub, Array.replicate_succ, Array.replicate_zero, List.push_toArray, List.append_toArray, List.nil_append, List.cons_append]
  gi_wp2
  gi_loopw [7] (fun i wr => i = .int .i64 0 ∧ J [] wr) (fun _ _ => 0)
  case atStart => exact ⟨rfl, h0⟩
  case round =>
    obtain ⟨rfl, hJs⟩ := hrel
    gi_wp2
    go_end0
    exact ⟨⟨_, rfl⟩, hJs⟩
set_option maxHeartbeats 1000000 in
theorem values_in (F : Fence) (n : Nat) (h5 : F.fn 23) (hro : F.round = none) (a : Option Addr) (len cap : Nat) (w : World) :
    CallsIn F n Try.prog 23 #[.slice a len cap] w fun e w' => e = .returned (.func (.func 32) #[] #[.pointer (some ⟨w.heap.size, 0, none⟩)]) ∧ w' = w.alloc (.cells #[.slice a len cap] 22) := by
  refine callsIn_of_wp Try.func23 rfl h5 ?_ hro
  simp only [Try.ntmps23, List.size_toArray, List.length_cons, List.length_nil, Nat.reduceAdd, Nat.reduceSub, Array.replicate_succ, Array.replicate_zero, List.push_toArray, List.append_toArray, List.nil_append, List.cons_append]
  gi_wp2
  go_ret
  exact ⟨rfl, rfl⟩
def HoldsA (n₀ : Nat) (W : World) (sv : Value) (zs : List Alarm) : Prop :=
  ((∃ A cap, sv = .slice A 0 cap) ∧ zs = []) ∨ ∃ b off cap, sv = .slice (some ⟨b, off, none⟩) zs.length cap ∧ b < n₀ ∧ RowA W b off zs.length zs
theorem HoldsA.below {n₀ : Nat} {A B : World} (h : Below n₀ A B) {sv : Value} {zs : List Alarm} : HoldsA n₀ A sv zs → HoldsA n₀ B sv zs
  | .inl e => .inl e
  | .inr ⟨b, off, cap, e, hb, hc⟩ => .inr ⟨b, off, cap, e, hb, fun j hj i hi => (h.cell (p := ⟨b, off + j * 6 + i, none⟩) hb).trans (hc j hj i hi)⟩
theorem upto_all (zs : List Alarm) : upto (fun j => zs.getD j default) zs.length = zs := by
  apply List.ext_getElem
  · simp [upto]
  · intro i h1 h2
    simp [upto, h2]
theorem values_stops (F : Fence) (n : Nat) (h7 : F.fn 32) (hro : F.round = none) (hn : 1 ≤ n) (Bs n₀ : Nat) (sv : Value) (zs : List Alarm) (hreach : zs.length * 48 ≤ 140737488351232) (w : World) (hBs : Bs < w.heap.size) (hn₀ : n₀ ≤ w.heap.size)
    (hc : w.cell? ⟨Bs, 0, none⟩ = some sv) (hI : HoldsA n₀ w sv zs) :
    SeqStopsK F n Try.prog 32 #[.pointer (some ⟨Bs, 0, none⟩)] (fun x : Alarm => #[.agg (encA x).toArray]) (Below n₀) (fun ys => ys = zs) (fun _ => True) zs.length w := fun l J Jx W hW hJ _ hY h0 => by
  have hc' := (hW.cell (p := ⟨Bs, 0, none⟩) hBs).trans hc
  have hal : ∀ s (W : World) (o : Obj), J s W → J s (W.alloc o) := fun s W1 o hs => hJ s W1 _ none hs (World.grownBy_alloc W1 o none) (fun r e => by cases e)
  rcases hI.below (hW.mono hn₀) with ⟨⟨A, cap, rfl⟩, rfl⟩ | ⟨b, off, cap, rfl, hb, hcs⟩
  · exact (values1_nil_in F n h7 hro l Bs J W A cap hc' h0).mono fun e W' ⟨he, hj⟩ => ⟨he, .inl ⟨_, rfl, hj⟩⟩
  · refine (values1_in F n h7 hro hn l Bs n₀ b off zs.length cap zs hreach hb J Jx hal hY W (Nat.le_trans hn₀ hW.size) hc' hcs h0).mono ?_
    rintro e W' ⟨he, ⟨ys, rfl, hj⟩ | ⟨pre, _, hj⟩⟩
    · exact ⟨he, .inl ⟨_, upto_all zs, hj⟩⟩
    · exact ⟨he, .inr ⟨_, trivial, hj⟩⟩
end Go.Proofs.Ytjjagjehaoidbaa

namespace Go.Proofs.Ytjjagjehaoidbaa
open Go.RowKit Go.Shelf Go.Proofs
attribute [local go_sem] Oper.semAt_some
theorem info34 : (Try.prog.info? 34).map (fun i => (i.zero, i.size, i.bytes)) = some (some (.agg #[.int .i64 0, .int .i64 0, .int .i64 0, .int .i64 0, .int .i64 0, .int .i64 0]), 6, 48) := by kernel_rfl
def ApI (w0 : World) (B : Nat) (pre : List Alarm) (W : World) : Prop :=
  (∃ v, Boxed W B 22 v ∧ W.ownsRow w0.heap.size 34 6 v pre.length (pre.flatMap encA)) ∧ Below w0.heap.size w0 W
theorem ownsRow_ne {W : World} {base : Nat} {e : TypeId} {size : Nat} {v : Value} {k : Nat} {xs : List Value} (h : W.ownsRow base e size v k xs) {j : Nat} {o : Obj} (hj : W.heap[j]? = some o) (hno : ∀ cur, o ≠ .cells cur e (0, 0)) : some j ≠ v.ownBlock := by
  rcases h.2 with ⟨rfl, _⟩ | ⟨g, cap, cur, rfl, _, hgb, _⟩
  · simp [Value.ownBlock]
  · intro e'
    simp [Value.ownBlock] at e'
    subst e'
    rw [hj] at hgb; cases hgb; exact hno _ rfl
theorem ownsRow_cells {W : World} {base : Nat} {e : TypeId} {size : Nat} {v : Value} {k : Nat} {xs : List Value} (h : W.ownsRow base e size v k xs) {j : Nat} {o : Obj} (hj : W.heap[j]? = some o) (hno : o.isCells = false) : some j ≠ v.ownBlock := by
  rcases h.2 with ⟨rfl, _⟩ | ⟨g, cap, cur, rfl, _, hgb, _⟩
  · simp [Value.ownBlock]
  · intro e'
    simp [Value.ownBlock] at e'
    subst e'
    rw [hj] at hgb; cases hgb; cases hno
theorem ownsRow_ne2 {W : World} {base : Nat} {e : TypeId} {size : Nat} {v : Value} {k : Nat} {xs : List Value} (h : W.ownsRow base e size v k xs) {j : Nat} {l : Option (List Deferred)} (hj : W.heap[j]? = some (.deferred l)) : v.ownBlock = none ∨ v.ownBlock ≠ some j :=
  .inr fun q => ownsRow_ne h hj (fun cur e => by cases e) q.symm
theorem one_encA (x : Alarm) : ∀ u ∈ encA x, u.oneCell' = true := by
  intro u hu
  simp only [encA, List.mem_cons, List.not_mem_nil, or_false] at hu
  rcases hu with rfl | rfl | rfl | rfl | rfl | rfl <;> rfl
theorem cells_new (W : World) (l : List Value) (t : TypeId) : ∀ (j : Nat) (u : Value), l[j]? = some u → (W.alloc (.cells l.toArray t)).cell? ((⟨W.heap.size, 0, none⟩ : Addr).add j) = some u := by
  intro j u h
  have : (W.alloc (.cells l.toArray t)).heap[W.heap.size]? = some (.cells l.toArray t (0, 0)) := World.alloc_heap_new W _
  rw [@Go.Eng.addr_add ⟨True⟩ _ rfl, Nat.zero_add]
  unfold World.cell?
  dsimp only
  rw [this]
  simpa using h
theorem apI_grown {w0 : World} {B : Nat} {pre : List Alarm} {A A' : World} {row : Option Nat} (hB : w0.heap.size ≤ A.heap.size) (h : ApI w0 B pre A) (hg : A.grownBy A' row) (hr : ∀ r, row = some r → w0.heap.size ≤ r ∧ ∃ o : Obj, A.heap[r]? = some o ∧ o.isCells = false) : ApI w0 B pre A' := by
  obtain ⟨⟨v, hv, hrow⟩, hb⟩ := h
  refine ⟨⟨v, hv.kept hg (fun e' => ?_), hrow.kept hg ?_⟩, hb.grown hg hB fun k e => (hr k e).1⟩
  · obtain ⟨_, o, ho, hc⟩ := hr B e'.symm
    rw [show A.heap[B]? = _ from hv] at ho; cases ho; cases hc
  · cases hrw : row with
    | none => cases v.ownBlock <;> simp
    | some r =>
      obtain ⟨_, o, ho, hc⟩ := hr r hrw
      exact .inr fun e => ownsRow_cells hrow ho hc e.symm
set_option maxRecDepth 100000 in
set_option maxHeartbeats 4000000 in
theorem appendSeq_in (F : Fence) (n : Nat) (h38 : F.fn 38) (hro : F.round = none) (hn : 3 ≤ n) (g : Nat) (lb : Array Value) (hFg : F.fn g) (eg : ∀ args w, (callFunc g args).run Try.prog w = .ok (.enter g args) w)
    (zs : List Alarm) (hN : zs.length ≤ 1000000) (w : World) (n₀ : Nat) (hn₀ : n₀ ≤ w.heap.size) (hseq : SeqStopsK F (n - 1) Try.prog g lb (fun x : Alarm => #[.agg (encA x).toArray]) (Below n₀) (fun ys => ys = zs) (fun _ => True) zs.length w) :
    CallsIn F n Try.prog 38 #[.slice none 0 0, .func (.func g) #[] lb] w fun e w' => ∃ v : Value, e = .returned v ∧ w'.ownsRow w.heap.size 34 6 v zs.length (zs.flatMap encA) ∧ Below w.heap.size w w' := by
  have h1 : 1 ≤ n := by omega
  obtain ⟨i0, hi, hz0, hz1, hz2⟩ := info_parts info34
  refine callsIn_of_wp_marks Try.func38 rfl h38 ?_ hro
  simp only [Try.ntmps38, List.size_toArray, List.length_cons, List.length_nil, Nat.reduceAdd, Nat.reduceSub, Array.replicate_succ, Array.replicate_zero, List.push_toArray, List.append_toArray, List.nil_append, List.cons_append]
  gi_wp2
  have hb0 : Below w.heap.size w (w.alloc (.cells #[.slice none 0 0] 22)) := (Below.refl _ w).alloc (Nat.le_refl _) _
  refine wpIn_rangeFunc_ownH hro h1 (gf := g) (lb := lb) rfl hFg eg hseq belowK_t (belowK_b (by simp; omega)) hb0 (fun _ => rfl)
    (ApI w w.heap.size) (fun _ _ _ => False) ?own (fun _ _ _ _ _ hs _ _ => hs) ?start
    (fun x a' W => ∃ t, a' = { tmps := #[.slice none 0 0, .func (.func g) #[] lb, .pointer (some ⟨w.heap.size, 0, none⟩), undef, .slice none 0 0, .pointer (some ⟨t, 0, none⟩), .func (.func g) #[] lb, .agg (encA x).toArray, undef, undef, undef, undef, undef], defers := [] } ∧ W.heap[t]? = some (.cells (encA x).toArray 34 (0, 0)) ∧ w.heap.size < t)
    ?ax ?assign ?body ?done ?stop
  case own =>
    intro pre A B row hs hg hr
    refine apI_grown hs.2.size hs hg fun r e => ?_
    obtain ⟨h1, h2⟩ := hr r e
    exact ⟨by simp at h1; omega, h2⟩
  case start => exact ⟨⟨_, Boxed.new w 22 _, ⟨rfl, .inl ⟨rfl, rfl⟩⟩⟩, hb0⟩
  case ax =>
    rintro x a' _ A B row ⟨t, ha, ht, htw⟩ hg hr
    refine ⟨t, ha, (hg.block t (Array.getElem?_eq_some_iff.1 ht).1 (fun e => ?_)).trans ht, htw⟩
    obtain ⟨_, o, ho, hc⟩ := hr t e.symm
    rw [ht] at ho; cases ho; cases hc
  case assign =>
    intro l pre x W K hI hK
    simp only [encA]
    gi_wp2
    have hsz : w.heap.size < W.heap.size := hI.1.choose_spec.1.lt
    refine hK _ _ ((KeepsOthers.alloc _ _).from _) ((Below.refl _ _).alloc (by have := hI.2.size; omega) _) (apI_grown hI.2.size hI (World.grownBy_alloc W _ none) (fun r e => by cases e)) ⟨W.heap.size, rfl, World.alloc_heap_new W _, hsz⟩
  case body =>
    rintro l pre x a' W hl ⟨r, hr⟩ ⟨⟨v, hv, hrow⟩, hB⟩ ⟨t, rfl, ht, htw⟩ hlen
    have hBs : W.cell? ⟨w.heap.size, 0, none⟩ = some v := hv.cell
    have hBf := hv.frozen
    simp only [encA] at ht ⊢
    have c0 : W.cell? ⟨t, 0, none⟩ = some (.int .i64 x.spot.bed) := by simp [World.cell?, ht]
    have c1 : W.cell? ⟨t, 1, none⟩ = some (.int .i64 x.spot.channel) := by simp [World.cell?, ht]
    have c2 : W.cell? ⟨t, 2, none⟩ = some (.int .i64 x.phase) := by simp [World.cell?, ht]
    have c3 : W.cell? ⟨t, 3, none⟩ = some (.int .i64 x.prio) := by simp [World.cell?, ht]
    have c4 : W.cell? ⟨t, 4, none⟩ = some (.int .i64 x.since) := by simp [World.cell?, ht]
    have c5 : W.cell? ⟨t, 5, none⟩ = some (.int .i64 x.until_) := by simp [World.cell?, ht]
    have hne0 : some w.heap.size ≠ v.ownBlock := ownsRow_ne hrow (show W.heap[w.heap.size]? = _ from hv) (fun cur e => by cases e)
    have hsz : w.heap.size < W.heap.size := hv.lt
    gi_wp2_with (
      gi_at_builtin
      refine wpListIn_append_own _ rfl _ _ 22 rfl w.heap.size 34 i0 _ 6 48 Try.underlying22 hi hz0 hz1 hz2 rfl (by decide) _ _ _ rfl (hrow.alloc _) ⟨W.heap.size, 0, none⟩ 1 1 (encA x) rfl rfl (cells_new _ _ _) (one_encA x) (by unfold maxLen; omega) (by omega) (by simp; omega) ?_
      intro v' w3 hown' hg3 hnil3
      obtain ⟨g', cap', cur', rfl, hbase', hgb', hr1, hr2, hr3, hr4⟩ : ∃ g' cap' cur', v' = .slice (some ⟨g', 0, none⟩) (pre.length + 1) cap' ∧ w.heap.size ≤ g' ∧ w3.heap[g']? = some (.cells cur' 34 (0, 0)) ∧ pre.length + 1 ≤ cap' ∧ cap' ≤ maxLen ∧ cur'.size = cap' * 6 ∧ cur'.toList.take ((pre.length + 1) * 6) = pre.flatMap encA ++ encA x := by
        rcases hown'.2 with ⟨_, h0⟩ | h'
        · exact absurd h0 (by omega)
        · exact h'
      have hv3 : Boxed w3 w.heap.size 22 v := (hv.alloc _).kept hg3 hne0
      have hc3 := hv3.cell
      have hf3 := hv3.frozen
      go_frame)
    have hg3' : (W.alloc (.cells (encA x).toArray 34)).grownBy w3 v.ownBlock := hg3
    have hneg : v.ownBlock = none ∨ v.ownBlock ≠ some w.heap.size := .inr fun e => hne0 e.symm
    have hcells : ∀ (j : Nat) (o : Obj), v.ownBlock = some j → (W.alloc (.cells (encA x).toArray 34)).heap[j]? = some o → o.isCells = true := by
      intro j o e ho
      rcases (hrow.alloc (.cells (encA x).toArray 34)).2 with ⟨rfl, _⟩ | ⟨g, cap, cur, rfl, _, hgb, _⟩
      · simp [Value.ownBlock] at e
      · have : g = j := by simpa [Value.ownBlock] using e
        subst this; rw [hgb] at ho; cases ho; rfl
    have hne3 : some w.heap.size ≠ some g' := by
      have := ownsRow_ne hown' (show w3.heap[w.heap.size]? = _ from hv3) (fun cur e => by cases e)
      simpa [Value.ownBlock] using this
    have hk : KeepsOthers W (w3.setCell ⟨w.heap.size, 0, none⟩ (.slice (some ⟨g', 0, none⟩) (pre.length + 1) cap')) := ((KeepsOthers.alloc W _).trans (KeepsOthers.of_grownBy hg3' hcells)).trans (KeepsOthers.setCell _ _ _)
    have hbel : ∀ m, m ≤ w.heap.size → Below m W (w3.setCell ⟨w.heap.size, 0, none⟩ (.slice (some ⟨g', 0, none⟩) (pre.length + 1) cap')) := fun m hm =>
      ((((Below.refl m W).alloc (by omega) (.cells (encA x).toArray 34)).grown hg3' (by simp; omega) (fun k e => Nat.le_trans hm (hrow.lt k e).1))).setCell (p := ⟨w.heap.size, 0, none⟩) hm _
    refine ⟨hk.from _, hbel _ hn₀, ⟨⟨_, hv3.set _, ?_⟩, hB.trans (hbel _ (Nat.le_refl _))⟩⟩
    have h4 := hown'.kept (grownBy_setCell' w3 w.heap.size (.slice (some ⟨g', 0, none⟩) (pre.length + 1) cap')) (.inr fun e => hne3 (by rw [← e]; rfl))
    rw [List.length_append, List.flatMap_append, List.flatMap_singleton]
    exact h4
  case done =>
    rintro D ys W hD rfl ⟨⟨v, hv, hrow⟩, hB⟩ hK
    have hBs : W.cell? ⟨w.heap.size, 0, none⟩ = some v := hv.cell
    gi_wp2
    refine ⟨by simp, .inl ⟨_, _, rfl, run_takeDeferred hK, ?_⟩⟩
    exact ⟨_, results_tmp rfl _ _ _, v, rfl, hrow.kept (grownBy_putObj' W D _) (ownsRow_ne2 hrow hK), hB.trans (belowK_b (w := w) (Nat.le_refl _) W D _ _ (by simp at hD; omega) hK rfl rfl)⟩
  case stop =>
    rintro D c pre W _ _ h _
    exact h.elim
set_option maxHeartbeats 1000000 in
theorem collect_in (F : Fence) (n : Nat) (h30 : F.fn 30) (h38 : F.fn 38) (hro : F.round = none) (hn : 4 ≤ n) (g : Nat) (lb : Array Value) (hFg : F.fn g) (eg : ∀ args w, (callFunc g args).run Try.prog w = .ok (.enter g args) w)
    (zs : List Alarm) (hN : zs.length ≤ 1000000) (w : World) (n₀ : Nat) (hn₀ : n₀ ≤ w.heap.size) (hseq : SeqStopsK F (n - 1 - 1) Try.prog g lb (fun x : Alarm => #[.agg (encA x).toArray]) (Below n₀) (fun ys => ys = zs) (fun _ => True) zs.length w) :
    CallsIn F n Try.prog 30 #[.func (.func g) #[] lb] w fun e w' => ∃ v : Value, e = .returned v ∧ w'.ownsRow w.heap.size 34 6 v zs.length (zs.flatMap encA) ∧ Below w.heap.size w w' := by
  have h1 : 1 ≤ n := by omega
  refine callsIn_of_wp Try.func30 rfl h30 ?_ hro
  simp only [Try.ntmps30, List.size_toArray, List.length_cons, List.length_nil, Nat.reduceAdd, Nat.reduceSub, Array.replicate_succ, Array.replicate_zero, List.push_toArray, List.append_toArray, List.nil_append, List.cons_append]
  gi_wp2_with (
    gi_at_call 38
    refine (appendSeq_in F (n - 1) h38 hro (by omega) g lb hFg eg zs hN _ n₀ hn₀ hseq).mono ?_
    rintro e w' ⟨v, rfl, hrow, hb⟩)
  go_ret
  exact ⟨v, rfl, hrow, hb⟩
end Go.Proofs.Ytjjagjehaoidbaa

namespace Go.Proofs.Ytjjagjehaoidbaa
open Go.Proofs Go.Shelf
def sortA_ren : Go.Shelf.Ren := ⟨fun | 6 => 31 | 15 => 40 | 14 => 39 | 28 => 50 | 29 => 51 | 20 => 42 | 21 => 43 | 22 => 44 | 23 => 45 | 24 => 46 | 25 => 47 | 26 => 48 | 27 => 49 | 46 => 52 | 47 => 53 | 48 => 54 | 49 => 55 | 50 => 56 | 57 => 57 | n => n, fun | 22 => 22 | 24 => 34 | 25 => 32 | 3 => 3 | 39 => 66 | 0 => 0 | 53 => 77 | 55 => 79 | 4 => 4 | 46 => 71 | 45 => 70 | 50 => 27 | 5 => 5 | 9 => 9 | 66 => 80 | 70 => 84 | 76 => 86 | 77 => 87 | n => n, fun | n => n⟩
theorem sortA : Go.Proofs.SlLaysF0.n6 Try.prog sortA_ren := {
  mixed := by kernel_rfl,
  f6 := ⟨Try.f31.name, by decide, Try.func31.trans (congrArg some (by kernel_rfl))⟩,
  f14 := ⟨Try.f39.name, by decide, Try.func39.trans (congrArg some (by kernel_rfl))⟩,
  f15 := Try.func40.trans (congrArg some (by kernel_rfl)),
  f20 := ⟨Try.f42.name, by decide, Try.func42.trans (congrArg some (by kernel_rfl))⟩,
  f21 := ⟨Try.f43.name, by decide, Try.func43.trans (congrArg some (by kernel_rfl))⟩,
  f22 := ⟨Try.f44.name, by decide, Try.func44.trans (congrArg some (by kernel_rfl))⟩,
  f23 := ⟨Try.f45.name, by decide, Try.func45.trans (congrArg some (by kernel_rfl))⟩,
  f24 := ⟨Try.f46.name, by decide, Try.func46.trans (congrArg some (by kernel_rfl))⟩,
  f25 := ⟨Try.f47.name, by decide, Try.func47.trans (congrArg some (by kernel_rfl))⟩,
  f26 := ⟨Try.f48.name, by decide, Try.func48.trans (congrArg some (by kernel_rfl))⟩,
  f27 := ⟨Try.f49.name, by decide, Try.func49.trans (congrArg some (by kernel_rfl))⟩,
  f28 := Try.func50.trans (congrArg some (by kernel_rfl)),
  f29 := Try.func51.trans (congrArg some (by kernel_rfl)),
  f46 := ⟨Try.f52.name, by decide, Try.func52.trans (congrArg some (by kernel_rfl))⟩,
  f47 := Try.func53.trans (congrArg some (by kernel_rfl)),
  f48 := Try.func54.trans (congrArg some (by kernel_rfl)),
  f49 := ⟨Try.f55.name, by decide, Try.func55.trans (congrArg some (by kernel_rfl))⟩,
  f50 := ⟨Try.f56.name, by decide, Try.func56.trans (congrArg some (by kernel_rfl))⟩,
  f57 := ⟨Try.f57.name, by decide, Try.func57.trans (congrArg some (by kernel_rfl))⟩,
  t0 := Try.underlying0,
  a0 := Try.isAgg0,
  z0 := Try.sizeOf0,
  v0 := Try.zeroValue0,
  t3 := Try.underlying3,
  a3 := Try.isAgg3,
  z3 := Try.sizeOf3,
  v3 := Try.zeroValue3,
  t4 := Try.underlying4,
  a4 := Try.isAgg4,
  z4 := Try.sizeOf4,
  v4 := Try.zeroValue4,
  t5 := Try.underlying5,
  a5 := Try.isAgg5,
  z5 := Try.sizeOf5,
  v5 := Try.zeroValue5,
  t9 := Try.underlying9,
  a9 := Try.isAgg9,
  z9 := Try.sizeOf9,
  v9 := Try.zeroValue9,
  t22 := Try.underlying22,
  a22 := Try.isAgg22,
  z22 := Try.sizeOf22,
  v22 := Try.zeroValue22,
  t25 := Try.underlying32,
  a25 := Try.isAgg32,
  z25 := Try.sizeOf32,
  v25 := Try.zeroValue32,
  t39 := Try.underlying66,
  a39 := Try.isAgg66,
  z39 := Try.sizeOf66,
  v39 := Try.zeroValue66,
  t45 := Try.underlying70,
  a45 := Try.isAgg70,
  z45 := Try.sizeOf70,
  v45 := Try.zeroValue70,
  t46 := Try.underlying71,
  a46 := Try.isAgg71,
  z46 := Try.sizeOf71,
  v46 := Try.zeroValue71,
  t50 := Try.underlying27,
  a50 := Try.isAgg27,
  z50 := Try.sizeOf27,
  v50 := Try.zeroValue27,
  t53 := Try.underlying77,
  a53 := Try.isAgg77,
  z53 := Try.sizeOf77,
  v53 := Try.zeroValue77,
  t55 := Try.underlying79,
  a55 := Try.isAgg79,
  z55 := Try.sizeOf79,
  v55 := Try.zeroValue79,
  t66 := Try.underlying80,
  a66 := Try.isAgg80,
  z66 := Try.sizeOf80,
  v66 := Try.zeroValue80,
  t70 := Try.underlying84,
  a70 := Try.isAgg84,
  z70 := Try.sizeOf84,
  v70 := Try.zeroValue84,
  t76 := Try.underlying86,
  a76 := Try.isAgg86,
  z76 := Try.sizeOf86,
  v76 := Try.zeroValue86,
  t77 := Try.underlying87,
  a77 := Try.isAgg87,
  z77 := Try.sizeOf87,
  v77 := Try.zeroValue87 }
end Go.Proofs.Ytjjagjehaoidbaa

set_option linter.unusedVariables false
set_option linter.unusedSimpArgs false
namespace Go.Proofs.Ytjjagjehaoidbaa
open Go.Eng Go.Proofs
variable [Dr]
def cmpI (x : Int) (y : Int) : Int :=
  bif (x != x) then (bif (y != y) then 0
    else (-1))
  else (bif (y != y) then 1
    else (bif (decide (x < y)) then (-1)
      else (bif (decide (x > y)) then 1
        else 0)))
theorem cmpICf : CfOk Try.prog (runG Try.prog (conΔ []) 60 12) := runG_ok noNum mixed (conΔ_ok (fun c hc => by cases hc)) _
theorem cmpI_w0 (x : Int) (y : Int) : resOf (runG Try.prog (conΔ []) 60 12 35 [.int .i64 x, .int .i64 y] [] 0 [.go 0 true, .go 0 true]) = some (.ret (.int .i64 0), [(true, (x != x)), (true, (y != y))]) := by kernel_rfl
theorem cmpI_w1 (x : Int) (y : Int) : resOf (runG Try.prog (conΔ []) 60 12 35 [.int .i64 x, .int .i64 y] [] 0 [.go 0 true, .go 0 false]) = some (.ret (.int .i64 (-1)), [(true, (x != x)), (false, (y != y))]) := by kernel_rfl
theorem cmpI_w2 (x : Int) (y : Int) : resOf (runG Try.prog (conΔ []) 60 12 35 [.int .i64 x, .int .i64 y] [] 0 [.go 0 false, .go 0 true]) = some (.ret (.int .i64 1), [(false, (x != x)), (true, (y != y))]) := by kernel_rfl
theorem cmpI_w3 (x : Int) (y : Int) : resOf (runG Try.prog (conΔ []) 60 12 35 [.int .i64 x, .int .i64 y] [] 0 [.go 0 false, .go 0 false, .go 0 true]) = some (.ret (.int .i64 (-1)), [(false, (x != x)), (false, (y != y)), (true, (decide (x < y)))]) := by kernel_rfl
theorem cmpI_w4 (x : Int) (y : Int) : resOf (runG Try.prog (conΔ []) 60 12 35 [.int .i64 x, .int .i64 y] [] 0 [.go 0 false, .go 0 false, .go 0 false, .go 0 true]) = some (.ret (.int .i64 1), [(false, (x != x)), (false, (y != y)), (false, (decide (x < y))), (true, (decide (x > y)))]) := by kernel_rfl
theorem cmpI_w5 (x : Int) (y : Int) : resOf (runG Try.prog (conΔ []) 60 12 35 [.int .i64 x, .int .i64 y] [] 0 [.go 0 false, .go 0 false, .go 0 false, .go 0 false]) = some (.ret (.int .i64 0), [(false, (x != x)), (false, (y != y)), (false, (decide (x < y))), (false, (decide (x > y)))]) := by kernel_rfl
theorem cmpI_ok (x : Int) (y : Int)  (h : Heap) (n : Nat) : CallOk Try.prog 35 [.int .i64 x, .int .i64 y] h n (.ret (.int .i64 (cmpI x y))) h n := by
  rcases Bool.eq_false_or_eq_true (x != x) with h0 | h0
  ·
    rcases Bool.eq_false_or_eq_true (y != y) with h1 | h1
    ·
      have e : cmpI x y = 0 := by simp only [cmpI, h0, h1, cond]
      rw [e]
      exact way cmpICf (cmpI_w0 x y) (conds_cons h0.symm (conds_cons h1.symm conds_nil)) rfl rfl h n
    ·
      have e : cmpI x y = (-1) := by simp only [cmpI, h0, h1, cond]
      rw [e]
      exact way cmpICf (cmpI_w1 x y) (conds_cons h0.symm (conds_cons h1.symm conds_nil)) rfl rfl h n
  ·
    rcases Bool.eq_false_or_eq_true (y != y) with h1 | h1
    ·
      have e : cmpI x y = 1 := by simp only [cmpI, h0, h1, cond]
      rw [e]
      exact way cmpICf (cmpI_w2 x y) (conds_cons h0.symm (conds_cons h1.symm conds_nil)) rfl rfl h n
    ·
      rcases Bool.eq_false_or_eq_true (decide (x < y)) with h2 | h2
      ·
        have e : cmpI x y = (-1) := by simp only [cmpI, h0, h1, h2, cond]
        rw [e]
        exact way cmpICf (cmpI_w3 x y) (conds_cons h0.symm (conds_cons h1.symm (conds_cons h2.symm conds_nil))) rfl rfl h n
      ·
        rcases Bool.eq_false_or_eq_true (decide (x > y)) with h3 | h3
        ·
          have e : cmpI x y = 1 := by simp only [cmpI, h0, h1, h2, h3, cond]
          rw [e]
          exact way cmpICf (cmpI_w4 x y) (conds_cons h0.symm (conds_cons h1.symm (conds_cons h2.symm (conds_cons h3.symm conds_nil)))) rfl rfl h n
        ·
          have e : cmpI x y = 0 := by simp only [cmpI, h0, h1, h2, h3, cond]
          rw [e]
          exact way cmpICf (cmpI_w5 x y) (conds_cons h0.symm (conds_cons h1.symm (conds_cons h2.symm (conds_cons h3.symm conds_nil)))) rfl rfl h n
def concmpI : Con := (35, fun l => match l with
  | [.int .i64 s0, .int .i64 s1] => some (.int .i64 (cmpI s0 s1))
  | _ => none)
theorem concmpI_ok : ConOk Try.prog concmpI := by
  intro l v e h n
  simp only [concmpI] at e
  split at e
  · skip
    cases e
    exact cmpI_ok _ _ h n
  · cases e
def press (a : Alarm) : Int :=
  bif (Alarm.phase a == (2 : Int)) then 0
  else (bif (Alarm.phase a == (1 : Int)) then 1
    else (bif (Alarm.phase a == (4 : Int)) then 2
      else (bif (Alarm.phase a == (3 : Int)) then 3
        else 4)))
theorem pressCf : CfOk Try.prog (runG Try.prog (conΔ []) 60 12) := runG_ok noNum mixed (conΔ_ok (fun c hc => by cases hc)) _
theorem press_w0 (a : Alarm) : resOf (runG Try.prog (conΔ []) 60 12 36 [.agg (Alarm.cells a)] [] 0 [.go 1 true]) = some (.ret (.int .i64 0), [(true, true), (true, (Alarm.phase a == (2 : Int)))]) := by kernel_rfl
theorem press_w1 (a : Alarm) : resOf (runG Try.prog (conΔ []) 60 12 36 [.agg (Alarm.cells a)] [] 0 [.go 1 false, .go 1 true]) = some (.ret (.int .i64 1), [(true, true), (false, (Alarm.phase a == (2 : Int))), (true, true), (true, (Alarm.phase a == (1 : Int)))]) := by kernel_rfl
theorem press_w2 (a : Alarm) : resOf (runG Try.prog (conΔ []) 60 12 36 [.agg (Alarm.cells a)] [] 0 [.go 1 false, .go 1 false, .go 1 true]) = some (.ret (.int .i64 2), [(true, true), (false, (Alarm.phase a == (2 : Int))), (true, true), (false, (Alarm.phase a == (1 : Int))), (true, true), (true, (Alarm.phase a == (4 : Int)))]) := by kernel_rfl
theorem press_w3 (a : Alarm) : resOf (runG Try.prog (conΔ []) 60 12 36 [.agg (Alarm.cells a)] [] 0 [.go 1 false, .go 1 false, .go 1 false, .go 1 true]) = some (.ret (.int .i64 3), [(true, true), (false, (Alarm.phase a == (2 : Int))), (true, true), (false, (Alarm.phase a == (1 : Int))), (true, true), (false, (Alarm.phase a == (4 : Int))), (true, true), (true, (Alarm.phase a == (3 : Int)))]) := by kernel_rfl
theorem press_w4 (a : Alarm) : resOf (runG Try.prog (conΔ []) 60 12 36 [.agg (Alarm.cells a)] [] 0 [.go 1 false, .go 1 false, .go 1 false, .go 1 false]) = some (.ret (.int .i64 4), [(true, true), (false, (Alarm.phase a == (2 : Int))), (true, true), (false, (Alarm.phase a == (1 : Int))), (true, true), (false, (Alarm.phase a == (4 : Int))), (true, true), (false, (Alarm.phase a == (3 : Int)))]) := by kernel_rfl
theorem press_ok (a : Alarm)  (h : Heap) (n : Nat) : CallOk Try.prog 36 [.agg (Alarm.cells a)] h n (.ret (.int .i64 (press a))) h n := by
  rcases Bool.eq_false_or_eq_true (Alarm.phase a == (2 : Int)) with h0 | h0
  ·
    have e : press a = 0 := by simp only [press, h0, cond]
    rw [e]
    exact way pressCf (press_w0 a) (conds_cons rfl (conds_cons h0.symm conds_nil)) rfl rfl h n
  ·
    rcases Bool.eq_false_or_eq_true (Alarm.phase a == (1 : Int)) with h1 | h1
    ·
      have e : press a = 1 := by simp only [press, h0, h1, cond]
      rw [e]
      exact way pressCf (press_w1 a) (conds_cons rfl (conds_cons h0.symm (conds_cons rfl (conds_cons h1.symm conds_nil)))) rfl rfl h n
    ·
      rcases Bool.eq_false_or_eq_true (Alarm.phase a == (4 : Int)) with h2 | h2
      ·
        have e : press a = 2 := by simp only [press, h0, h1, h2, cond]
        rw [e]
        exact way pressCf (press_w2 a) (conds_cons rfl (conds_cons h0.symm (conds_cons rfl (conds_cons h1.symm (conds_cons rfl (conds_cons h2.symm conds_nil)))))) rfl rfl h n
      ·
        rcases Bool.eq_false_or_eq_true (Alarm.phase a == (3 : Int)) with h3 | h3
        ·
          have e : press a = 3 := by simp only [press, h0, h1, h2, h3, cond]
          rw [e]
          exact way pressCf (press_w3 a) (conds_cons rfl (conds_cons h0.symm (conds_cons rfl (conds_cons h1.symm (conds_cons rfl (conds_cons h2.symm (conds_cons rfl (conds_cons h3.symm conds_nil)))))))) rfl rfl h n
        ·
          have e : press a = 4 := by simp only [press, h0, h1, h2, h3, cond]
          rw [e]
          exact way pressCf (press_w4 a) (conds_cons rfl (conds_cons h0.symm (conds_cons rfl (conds_cons h1.symm (conds_cons rfl (conds_cons h2.symm (conds_cons rfl (conds_cons h3.symm conds_nil)))))))) rfl rfl h n
def conpress : Con := (36, fun l => match l with
  | [x0] => (match Alarm.of x0 with | some s0 => some (.int .i64 (press s0)) | none => none)
  | _ => none)
theorem conpress_ok : ConOk Try.prog conpress := by
  intro l v e h n
  simp only [conpress] at e
  split at e
  · skip
    split at e
    · rename_i s0 es0
      cases e
      cases Alarm.of_eq es0
      exact press_ok _ h n
    · cases e
  · cases e
def rPress (p : Int) : Int :=
  bif (p == (2 : Int)) then 0
  else (bif (p == (1 : Int)) then 1
    else (bif (p == (4 : Int)) then 2
      else (bif (p == (3 : Int)) then 3
        else 4)))
theorem rPressCf : CfOk Try.prog (runG Try.prog (conΔ []) 60 12) := runG_ok noNum mixed (conΔ_ok (fun c hc => by cases hc)) _
theorem rPress_w0 (p : Int) : resOf (runG Try.prog (conΔ []) 60 12 37 [.int .i64 p] [] 0 [.go 0 true]) = some (.ret (.int .i64 0), [(true, (p == (2 : Int)))]) := by kernel_rfl
theorem rPress_w1 (p : Int) : resOf (runG Try.prog (conΔ []) 60 12 37 [.int .i64 p] [] 0 [.go 0 false, .go 0 true]) = some (.ret (.int .i64 1), [(false, (p == (2 : Int))), (true, (p == (1 : Int)))]) := by kernel_rfl
theorem rPress_w2 (p : Int) : resOf (runG Try.prog (conΔ []) 60 12 37 [.int .i64 p] [] 0 [.go 0 false, .go 0 false, .go 0 true]) = some (.ret (.int .i64 2), [(false, (p == (2 : Int))), (false, (p == (1 : Int))), (true, (p == (4 : Int)))]) := by kernel_rfl
theorem rPress_w3 (p : Int) : resOf (runG Try.prog (conΔ []) 60 12 37 [.int .i64 p] [] 0 [.go 0 false, .go 0 false, .go 0 false, .go 0 true]) = some (.ret (.int .i64 3), [(false, (p == (2 : Int))), (false, (p == (1 : Int))), (false, (p == (4 : Int))), (true, (p == (3 : Int)))]) := by kernel_rfl
theorem rPress_w4 (p : Int) : resOf (runG Try.prog (conΔ []) 60 12 37 [.int .i64 p] [] 0 [.go 0 false, .go 0 false, .go 0 false, .go 0 false]) = some (.ret (.int .i64 4), [(false, (p == (2 : Int))), (false, (p == (1 : Int))), (false, (p == (4 : Int))), (false, (p == (3 : Int)))]) := by kernel_rfl
theorem rPress_ok (p : Int)  (h : Heap) (n : Nat) : CallOk Try.prog 37 [.int .i64 p] h n (.ret (.int .i64 (rPress p))) h n := by
  rcases Bool.eq_false_or_eq_true (p == (2 : Int)) with h0 | h0
  ·
    have e : rPress p = 0 := by simp only [rPress, h0, cond]
    rw [e]
    exact way rPressCf (rPress_w0 p) (conds_cons h0.symm conds_nil) rfl rfl h n
  ·
    rcases Bool.eq_false_or_eq_true (p == (1 : Int)) with h1 | h1
    ·
      have e : rPress p = 1 := by simp only [rPress, h0, h1, cond]
      rw [e]
      exact way rPressCf (rPress_w1 p) (conds_cons h0.symm (conds_cons h1.symm conds_nil)) rfl rfl h n
    ·
      rcases Bool.eq_false_or_eq_true (p == (4 : Int)) with h2 | h2
      ·
        have e : rPress p = 2 := by simp only [rPress, h0, h1, h2, cond]
        rw [e]
        exact way rPressCf (rPress_w2 p) (conds_cons h0.symm (conds_cons h1.symm (conds_cons h2.symm conds_nil))) rfl rfl h n
      ·
        rcases Bool.eq_false_or_eq_true (p == (3 : Int)) with h3 | h3
        ·
          have e : rPress p = 3 := by simp only [rPress, h0, h1, h2, h3, cond]
          rw [e]
          exact way rPressCf (rPress_w3 p) (conds_cons h0.symm (conds_cons h1.symm (conds_cons h2.symm (conds_cons h3.symm conds_nil)))) rfl rfl h n
        ·
          have e : rPress p = 4 := by simp only [rPress, h0, h1, h2, h3, cond]
          rw [e]
          exact way rPressCf (rPress_w4 p) (conds_cons h0.symm (conds_cons h1.symm (conds_cons h2.symm (conds_cons h3.symm conds_nil)))) rfl rfl h n
def conrPress : Con := (37, fun l => match l with
  | [.int .i64 s0] => some (.int .i64 (rPress s0))
  | _ => none)
theorem conrPress_ok : ConOk Try.prog conrPress := by
  intro l v e h n
  simp only [conrPress] at e
  split at e
  · skip
    cases e
    exact rPress_ok _ h n
  · cases e
def one (p : Int) (q : Int) (s : Int) : Alarm :=
  (⟨(⟨0, 0⟩ : Spot), p, q, s, 0⟩ : Alarm)
theorem oneCf : CfOk Try.prog (runG Try.prog (conΔ []) 60 12) := runG_ok noNum mixed (conΔ_ok (fun c hc => by cases hc)) _
theorem one_w0 (p : Int) (q : Int) (s : Int) : resOf (runG Try.prog (conΔ []) 60 12 29 [.int .i64 p, .int .i64 q, .int .i64 s] [] 0 []) = some (.ret (.agg [.int .i64 0, .int .i64 0, .int .i64 p, .int .i64 q, .int .i64 s, .int .i64 0]), []) := by kernel_rfl
theorem one_ok (p : Int) (q : Int) (s : Int)  (h : Heap) (n : Nat) : CallOk Try.prog 29 [.int .i64 p, .int .i64 q, .int .i64 s] h n (.ret (.agg (Alarm.cells (one p q s)))) h n := by
  have e : one p q s = (⟨(⟨0, 0⟩ : Spot), p, q, s, 0⟩ : Alarm) := by simp only [one, cond]
  rw [e]
  exact way oneCf (one_w0 p q s) conds_nil rfl rfl h n
def conone : Con := (29, fun l => match l with
  | [.int .i64 s0, .int .i64 s1, .int .i64 s2] => some (.agg (Alarm.cells (one s0 s1 s2)))
  | _ => none)
theorem conone_ok : ConOk Try.prog conone := by
  intro l v e h n
  simp only [conone] at e
  split at e
  · skip
    cases e
    exact one_ok _ _ _ h n
  · cases e
end Go.Proofs.Ytjjagjehaoidbaa

set_option linter.unusedVariables false
set_option linter.unusedSimpArgs false
namespace Go.Proofs.Ytjjagjehaoidbaa
open Go.Eng Go.Proofs
variable [Dr]
def toA (a : Alarm) (b : Alarm) : Int :=
  bif (cmpI (press a) (press b) != (0 : Int)) then ((cmpI (press a) (press b)))
  else (bif (cmpI (Alarm.prio a) (Alarm.prio b) != (0 : Int)) then ((cmpI (Alarm.prio a) (Alarm.prio b)))
    else (bif (cmpI (Alarm.since a) (Alarm.since b) != (0 : Int)) then ((cmpI (Alarm.since a) (Alarm.since b)))
      else (bif (cmpI (Alarm.until_ a) (Alarm.until_ b) != (0 : Int)) then ((cmpI (Alarm.until_ a) (Alarm.until_ b)))
        else (bif (cmpI (Alarm.phase a) (Alarm.phase b) != (0 : Int)) then ((cmpI (Alarm.phase a) (Alarm.phase b)))
          else (bif (cmpI (Spot.bed (Alarm.spot a)) (Spot.bed (Alarm.spot b)) != (0 : Int)) then ((cmpI (Spot.bed (Alarm.spot a)) (Spot.bed (Alarm.spot b))))
            else (bif (cmpI (Spot.channel (Alarm.spot a)) (Spot.channel (Alarm.spot b)) != (0 : Int)) then ((cmpI (Spot.channel (Alarm.spot a)) (Spot.channel (Alarm.spot b))))
              else 0))))))
theorem toACf : CfOk Try.prog (runG Try.prog (conΔ [concmpI, conpress]) 60 12) := runG_ok noNum mixed (conΔ_ok (List.forall_mem_cons.2 ⟨concmpI_ok, List.forall_mem_cons.2 ⟨conpress_ok, List.forall_mem_nil _⟩⟩)) _
theorem toA_w0 (a : Alarm) (b : Alarm) : resOf (runG Try.prog (conΔ [concmpI, conpress]) 60 12 27 [.agg (Alarm.cells a), .agg (Alarm.cells b)] [] 0 [.go 1 true]) = some (.ret (.int .i64 (cmpI (press a) (press b))), [(true, true), (true, true), (true, (cmpI (press a) (press b) != (0 : Int)))]) := by kernel_rfl
theorem toA_w1 (a : Alarm) (b : Alarm) : resOf (runG Try.prog (conΔ [concmpI, conpress]) 60 12 27 [.agg (Alarm.cells a), .agg (Alarm.cells b)] [] 0 [.go 1 false, .go 1 true]) = some (.ret (.int .i64 (cmpI (Alarm.prio a) (Alarm.prio b))), [(true, true), (true, true), (false, (cmpI (press a) (press b) != (0 : Int))), (true, true), (true, true), (true, (cmpI (Alarm.prio a) (Alarm.prio b) != (0 : Int)))]) := by kernel_rfl
theorem toA_w2 (a : Alarm) (b : Alarm) : resOf (runG Try.prog (conΔ [concmpI, conpress]) 60 12 27 [.agg (Alarm.cells a), .agg (Alarm.cells b)] [] 0 [.go 1 false, .go 1 false, .go 1 true]) = some (.ret (.int .i64 (cmpI (Alarm.since a) (Alarm.since b))), [(true, true), (true, true), (false, (cmpI (press a) (press b) != (0 : Int))), (true, true), (true, true), (false, (cmpI (Alarm.prio a) (Alarm.prio b) != (0 : Int))), (true, true), (true, true), (true, (cmpI (Alarm.since a) (Alarm.since b) != (0 : Int)))]) := by kernel_rfl
theorem toA_w3 (a : Alarm) (b : Alarm) : resOf (runG Try.prog (conΔ [concmpI, conpress]) 60 12 27 [.agg (Alarm.cells a), .agg (Alarm.cells b)] [] 0 [.go 1 false, .go 1 false, .go 1 false, .go 1 true]) = some (.ret (.int .i64 (cmpI (Alarm.until_ a) (Alarm.until_ b))), [(true, true), (true, true), (false, (cmpI (press a) (press b) != (0 : Int))), (true, true), (true, true), (false, (cmpI (Alarm.prio a) (Alarm.prio b) != (0 : Int))), (true, true), (true, true), (false, (cmpI (Alarm.since a) (Alarm.since b) != (0 : Int))), (true, true), (true, true), (true, (cmpI (Alarm.until_ a) (Alarm.until_ b) != (0 : Int)))]) := by kernel_rfl
theorem toA_w4 (a : Alarm) (b : Alarm) : resOf (runG Try.prog (conΔ [concmpI, conpress]) 60 12 27 [.agg (Alarm.cells a), .agg (Alarm.cells b)] [] 0 [.go 1 false, .go 1 false, .go 1 false, .go 1 false, .go 1 true]) = some (.ret (.int .i64 (cmpI (Alarm.phase a) (Alarm.phase b))), [(true, true), (true, true), (false, (cmpI (press a) (press b) != (0 : Int))), (true, true), (true, true), (false, (cmpI (Alarm.prio a) (Alarm.prio b) != (0 : Int))), (true, true), (true, true), (false, (cmpI (Alarm.since a) (Alarm.since b) != (0 : Int))), (true, true), (true, true), (false, (cmpI (Alarm.until_ a) (Alarm.until_ b) != (0 : Int))), (true, true), (true, true), (true, (cmpI (Alarm.phase a) (Alarm.phase b) != (0 : Int)))]) := by kernel_rfl
theorem toA_w5 (a : Alarm) (b : Alarm) : resOf (runG Try.prog (conΔ [concmpI, conpress]) 60 12 27 [.agg (Alarm.cells a), .agg (Alarm.cells b)] [] 0 [.go 1 false, .go 1 false, .go 1 false, .go 1 false, .go 1 false, .go 1 true]) = some (.ret (.int .i64 (cmpI (Spot.bed (Alarm.spot a)) (Spot.bed (Alarm.spot b)))), [(true, true), (true, true), (false, (cmpI (press a) (press b) != (0 : Int))), (true, true), (true, true), (false, (cmpI (Alarm.prio a) (Alarm.prio b) != (0 : Int))), (true, true), (true, true), (false, (cmpI (Alarm.since a) (Alarm.since b) != (0 : Int))), (true, true), (true, true), (false, (cmpI (Alarm.until_ a) (Alarm.until_ b) != (0 : Int))), (true, true), (true, true), (false, (cmpI (Alarm.phase a) (Alarm.phase b) != (0 : Int))), (true, true), (true, true), (true, (cmpI (Spot.bed (Alarm.spot a)) (Spot.bed (Alarm.spot b)) != (0 : Int)))]) := by kernel_rfl
theorem toA_w6 (a : Alarm) (b : Alarm) : resOf (runG Try.prog (conΔ [concmpI, conpress]) 60 12 27 [.agg (Alarm.cells a), .agg (Alarm.cells b)] [] 0 [.go 1 false, .go 1 false, .go 1 false, .go 1 false, .go 1 false, .go 1 false, .go 1 true]) = some (.ret (.int .i64 (cmpI (Spot.channel (Alarm.spot a)) (Spot.channel (Alarm.spot b)))), [(true, true), (true, true), (false, (cmpI (press a) (press b) != (0 : Int))), (true, true), (true, true), (false, (cmpI (Alarm.prio a) (Alarm.prio b) != (0 : Int))), (true, true), (true, true), (false, (cmpI (Alarm.since a) (Alarm.since b) != (0 : Int))), (true, true), (true, true), (false, (cmpI (Alarm.until_ a) (Alarm.until_ b) != (0 : Int))), (true, true), (true, true), (false, (cmpI (Alarm.phase a) (Alarm.phase b) != (0 : Int))), (true, true), (true, true), (false, (cmpI (Spot.bed (Alarm.spot a)) (Spot.bed (Alarm.spot b)) != (0 : Int))), (true, true), (true, true), (true, (cmpI (Spot.channel (Alarm.spot a)) (Spot.channel (Alarm.spot b)) != (0 : Int)))]) := by kernel_rfl
theorem toA_w7 (a : Alarm) (b : Alarm) : resOf (runG Try.prog (conΔ [concmpI, conpress]) 60 12 27 [.agg (Alarm.cells a), .agg (Alarm.cells b)] [] 0 [.go 1 false, .go 1 false, .go 1 false, .go 1 false, .go 1 false, .go 1 false, .go 1 false]) = some (.ret (.int .i64 0), [(true, true), (true, true), (false, (cmpI (press a) (press b) != (0 : Int))), (true, true), (true, true), (false, (cmpI (Alarm.prio a) (Alarm.prio b) != (0 : Int))), (true, true), (true, true), (false, (cmpI (Alarm.since a) (Alarm.since b) != (0 : Int))), (true, true), (true, true), (false, (cmpI (Alarm.until_ a) (Alarm.until_ b) != (0 : Int))), (true, true), (true, true), (false, (cmpI (Alarm.phase a) (Alarm.phase b) != (0 : Int))), (true, true), (true, true), (false, (cmpI (Spot.bed (Alarm.spot a)) (Spot.bed (Alarm.spot b)) != (0 : Int))), (true, true), (true, true), (false, (cmpI (Spot.channel (Alarm.spot a)) (Spot.channel (Alarm.spot b)) != (0 : Int)))]) := by kernel_rfl
theorem toA_ok (a : Alarm) (b : Alarm)  (h : Heap) (n : Nat) : CallOk Try.prog 27 [.agg (Alarm.cells a), .agg (Alarm.cells b)] h n (.ret (.int .i64 (toA a b))) h n := by
  rcases Bool.eq_false_or_eq_true (cmpI (press a) (press b) != (0 : Int)) with h0 | h0
  ·
    have e : toA a b = (cmpI (press a) (press b)) := by simp only [toA, h0, cond]
    rw [e]
    exact way toACf (toA_w0 a b) (conds_cons rfl (conds_cons rfl (conds_cons h0.symm conds_nil))) rfl rfl h n
  ·
    rcases Bool.eq_false_or_eq_true (cmpI (Alarm.prio a) (Alarm.prio b) != (0 : Int)) with h1 | h1
    ·
      have e : toA a b = (cmpI (Alarm.prio a) (Alarm.prio b)) := by simp only [toA, h0, h1, cond]
      rw [e]
      exact way toACf (toA_w1 a b) (conds_cons rfl (conds_cons rfl (conds_cons h0.symm (conds_cons rfl (conds_cons rfl (conds_cons h1.symm conds_nil)))))) rfl rfl h n
    ·
      rcases Bool.eq_false_or_eq_true (cmpI (Alarm.since a) (Alarm.since b) != (0 : Int)) with h2 | h2
      ·
        have e : toA a b = (cmpI (Alarm.since a) (Alarm.since b)) := by simp only [toA, h0, h1, h2, cond]
        rw [e]
        exact way toACf (toA_w2 a b) (conds_cons rfl (conds_cons rfl (conds_cons h0.symm (conds_cons rfl (conds_cons rfl (conds_cons h1.symm (conds_cons rfl (conds_cons rfl (conds_cons h2.symm conds_nil))))))))) rfl rfl h n
      ·
        rcases Bool.eq_false_or_eq_true (cmpI (Alarm.until_ a) (Alarm.until_ b) != (0 : Int)) with h3 | h3
        ·
          have e : toA a b = (cmpI (Alarm.until_ a) (Alarm.until_ b)) := by simp only [toA, h0, h1, h2, h3, cond]
          rw [e]
          exact way toACf (toA_w3 a b) (conds_cons rfl (conds_cons rfl (conds_cons h0.symm (conds_cons rfl (conds_cons rfl (conds_cons h1.symm (conds_cons rfl (conds_cons rfl (conds_cons h2.symm (conds_cons rfl (conds_cons rfl (conds_cons h3.symm conds_nil)))))))))))) rfl rfl h n
        ·
          rcases Bool.eq_false_or_eq_true (cmpI (Alarm.phase a) (Alarm.phase b) != (0 : Int)) with h4 | h4
          ·
            have e : toA a b = (cmpI (Alarm.phase a) (Alarm.phase b)) := by simp only [toA, h0, h1, h2, h3, h4, cond]
            rw [e]
            exact way toACf (toA_w4 a b) (conds_cons rfl (conds_cons rfl (conds_cons h0.symm (conds_cons rfl (conds_cons rfl (conds_cons h1.symm (conds_cons rfl (conds_cons rfl (conds_cons h2.symm (conds_cons rfl (conds_cons rfl (conds_cons h3.symm (conds_cons rfl (conds_cons rfl (conds_cons h4.symm conds_nil))))))))))))))) rfl rfl h n
          ·
            rcases Bool.eq_false_or_eq_true (cmpI (Spot.bed (Alarm.spot a)) (Spot.bed (Alarm.spot b)) != (0 : Int)) with h5 | h5
            ·
              have e : toA a b = (cmpI (Spot.bed (Alarm.spot a)) (Spot.bed (Alarm.spot b))) := by simp only [toA, h0, h1, h2, h3, h4, h5, cond]
              rw [e]
              exact way toACf (toA_w5 a b) (conds_cons rfl (conds_cons rfl (conds_cons h0.symm (conds_cons rfl (conds_cons rfl (conds_cons h1.symm (conds_cons rfl (conds_cons rfl (conds_cons h2.symm (conds_cons rfl (conds_cons rfl (conds_cons h3.symm (conds_cons rfl (conds_cons rfl (conds_cons h4.symm (conds_cons rfl (conds_cons rfl (conds_cons h5.symm conds_nil)))))))))))))))))) rfl rfl h n
            ·
              rcases Bool.eq_false_or_eq_true (cmpI (Spot.channel (Alarm.spot a)) (Spot.channel (Alarm.spot b)) != (0 : Int)) with h6 | h6
              ·
                have e : toA a b = (cmpI (Spot.channel (Alarm.spot a)) (Spot.channel (Alarm.spot b))) := by simp only [toA, h0, h1, h2, h3, h4, h5, h6, cond]
                rw [e]
                exact way toACf (toA_w6 a b) (conds_cons rfl (conds_cons rfl (conds_cons h0.symm (conds_cons rfl (conds_cons rfl (conds_cons h1.symm (conds_cons rfl (conds_cons rfl (conds_cons h2.symm (conds_cons rfl (conds_cons rfl (conds_cons h3.symm (conds_cons rfl (conds_cons rfl (conds_cons h4.symm (conds_cons rfl (conds_cons rfl (conds_cons h5.symm (conds_cons rfl (conds_cons rfl (conds_cons h6.symm conds_nil))))))))))))))))))))) rfl rfl h n
              ·
                have e : toA a b = 0 := by simp only [toA, h0, h1, h2, h3, h4, h5, h6, cond]
                rw [e]
                exact way toACf (toA_w7 a b) (conds_cons rfl (conds_cons rfl (conds_cons h0.symm (conds_cons rfl (conds_cons rfl (conds_cons h1.symm (conds_cons rfl (conds_cons rfl (conds_cons h2.symm (conds_cons rfl (conds_cons rfl (conds_cons h3.symm (conds_cons rfl (conds_cons rfl (conds_cons h4.symm (conds_cons rfl (conds_cons rfl (conds_cons h5.symm (conds_cons rfl (conds_cons rfl (conds_cons h6.symm conds_nil))))))))))))))))))))) rfl rfl h n
def contoA : Con := (27, fun l => match l with
  | [x0, x1] => (match Alarm.of x0 with | some s0 => (match Alarm.of x1 with | some s1 => some (.int .i64 (toA s0 s1)) | none => none) | none => none)
  | _ => none)
theorem contoA_ok : ConOk Try.prog contoA := by
  intro l v e h n
  simp only [contoA] at e
  split at e
  · skip
    split at e
    · rename_i s0 es0
      split at e
      · rename_i s1 es1
        cases e
        cases Alarm.of_eq es0
        cases Alarm.of_eq es1
        exact toA_ok _ _ h n
      · cases e
    · cases e
  · cases e
end Go.Proofs.Ytjjagjehaoidbaa

set_option linter.unusedVariables false
set_option linter.unusedSimpArgs false
namespace Go.Proofs.Ytjjagjehaoidbaa
open Go.Eng Go.Proofs
variable [Dr]
def cmpA (a : Alarm) (b : Alarm) : Int :=
  (toA a b)
theorem cmpACf : CfOk Try.prog (runG Try.prog (conΔ [contoA]) 60 12) := runG_ok noNum mixed (conΔ_ok (List.forall_mem_cons.2 ⟨contoA_ok, List.forall_mem_nil _⟩)) _
theorem cmpA_w0 (a : Alarm) (b : Alarm) : resOf (runG Try.prog (conΔ [contoA]) 60 12 18 [.agg (Alarm.cells a), .agg (Alarm.cells b)] [] 0 []) = some (.ret (.int .i64 (toA a b)), []) := by kernel_rfl
theorem cmpA_ok (a : Alarm) (b : Alarm)  (h : Heap) (n : Nat) : CallOk Try.prog 18 [.agg (Alarm.cells a), .agg (Alarm.cells b)] h n (.ret (.int .i64 (cmpA a b))) h n := by
  have e : cmpA a b = (toA a b) := by simp only [cmpA, cond]
  rw [e]
  exact way cmpACf (cmpA_w0 a b) conds_nil rfl rfl h n
def concmpA : Con := (18, fun l => match l with
  | [x0, x1] => (match Alarm.of x0 with | some s0 => (match Alarm.of x1 with | some s1 => some (.int .i64 (cmpA s0 s1)) | none => none) | none => none)
  | _ => none)
theorem concmpA_ok : ConOk Try.prog concmpA := by
  intro l v e h n
  simp only [concmpA] at e
  split at e
  · skip
    split at e
    · rename_i s0 es0
      split at e
      · rename_i s1 es1
        cases e
        cases Alarm.of_eq es0
        cases Alarm.of_eq es1
        exact cmpA_ok _ _ h n
      · cases e
    · cases e
  · cases e
def rCmpA (a : Alarm) (b : Alarm) : Int :=
  bif (decide (rPress (Alarm.phase a) < rPress (Alarm.phase b))) then (-1)
  else (bif (decide (rPress (Alarm.phase a) > rPress (Alarm.phase b))) then 1
    else (bif (decide (Alarm.prio a < Alarm.prio b)) then (-1)
      else (bif (decide (Alarm.prio a > Alarm.prio b)) then 1
        else (bif (decide (Alarm.since a < Alarm.since b)) then (-1)
          else (bif (decide (Alarm.since a > Alarm.since b)) then 1
            else (bif (decide (Alarm.until_ a < Alarm.until_ b)) then (-1)
              else (bif (decide (Alarm.until_ a > Alarm.until_ b)) then 1
                else (bif (decide (Alarm.phase a < Alarm.phase b)) then (-1)
                  else (bif (decide (Alarm.phase a > Alarm.phase b)) then 1
                    else (bif (decide (Spot.bed (Alarm.spot a) < Spot.bed (Alarm.spot b))) then (-1)
                      else (bif (decide (Spot.bed (Alarm.spot a) > Spot.bed (Alarm.spot b))) then 1
                        else (bif (decide (Spot.channel (Alarm.spot a) < Spot.channel (Alarm.spot b))) then (-1)
                          else (bif (decide (Spot.channel (Alarm.spot a) > Spot.channel (Alarm.spot b))) then 1
                            else 0)))))))))))))
theorem rCmpACf : CfOk Try.prog (runG Try.prog (conΔ [conrPress]) 60 12) := runG_ok noNum mixed (conΔ_ok (List.forall_mem_cons.2 ⟨conrPress_ok, List.forall_mem_nil _⟩)) _
theorem rCmpA_w0 (a : Alarm) (b : Alarm) : resOf (runG Try.prog (conΔ [conrPress]) 60 12 19 [.agg (Alarm.cells a), .agg (Alarm.cells b)] [] 0 [.go 1 true]) = some (.ret (.int .i64 (-1)), [(true, true), (true, true), (true, true), (true, true), (true, (decide (rPress (Alarm.phase a) < rPress (Alarm.phase b))))]) := by kernel_rfl
theorem rCmpA_w1 (a : Alarm) (b : Alarm) : resOf (runG Try.prog (conΔ [conrPress]) 60 12 19 [.agg (Alarm.cells a), .agg (Alarm.cells b)] [] 0 [.go 1 false, .go 0 true]) = some (.ret (.int .i64 1), [(true, true), (true, true), (true, true), (true, true), (false, (decide (rPress (Alarm.phase a) < rPress (Alarm.phase b)))), (true, true), (true, true), (true, true), (true, true), (true, (decide (rPress (Alarm.phase a) > rPress (Alarm.phase b))))]) := by kernel_rfl
theorem rCmpA_w2 (a : Alarm) (b : Alarm) : resOf (runG Try.prog (conΔ [conrPress]) 60 12 19 [.agg (Alarm.cells a), .agg (Alarm.cells b)] [] 0 [.go 1 false, .go 0 false, .go 1 true]) = some (.ret (.int .i64 (-1)), [(true, true), (true, true), (true, true), (true, true), (false, (decide (rPress (Alarm.phase a) < rPress (Alarm.phase b)))), (true, true), (true, true), (true, true), (true, true), (false, (decide (rPress (Alarm.phase a) > rPress (Alarm.phase b)))), (true, true), (true, true), (true, true), (true, true), (true, (decide (Alarm.prio a < Alarm.prio b)))]) := by kernel_rfl
theorem rCmpA_w3 (a : Alarm) (b : Alarm) : resOf (runG Try.prog (conΔ [conrPress]) 60 12 19 [.agg (Alarm.cells a), .agg (Alarm.cells b)] [] 0 [.go 1 false, .go 0 false, .go 1 false, .go 0 true]) = some (.ret (.int .i64 1), [(true, true), (true, true), (true, true), (true, true), (false, (decide (rPress (Alarm.phase a) < rPress (Alarm.phase b)))), (true, true), (true, true), (true, true), (true, true), (false, (decide (rPress (Alarm.phase a) > rPress (Alarm.phase b)))), (true, true), (true, true), (true, true), (true, true), (false, (decide (Alarm.prio a < Alarm.prio b))), (true, true), (true, true), (true, true), (true, true), (true, (decide (Alarm.prio a > Alarm.prio b)))]) := by kernel_rfl
theorem rCmpA_w4 (a : Alarm) (b : Alarm) : resOf (runG Try.prog (conΔ [conrPress]) 60 12 19 [.agg (Alarm.cells a), .agg (Alarm.cells b)] [] 0 [.go 1 false, .go 0 false, .go 1 false, .go 0 false, .go 1 true]) = some (.ret (.int .i64 (-1)), [(true, true), (true, true), (true, true), (true, true), (false, (decide (rPress (Alarm.phase a) < rPress (Alarm.phase b)))), (true, true), (true, true), (true, true), (true, true), (false, (decide (rPress (Alarm.phase a) > rPress (Alarm.phase b)))), (true, true), (true, true), (true, true), (true, true), (false, (decide (Alarm.prio a < Alarm.prio b))), (true, true), (true, true), (true, true), (true, true), (false, (decide (Alarm.prio a > Alarm.prio b))), (true, true), (true, true), (true, true), (true, true), (true, (decide (Alarm.since a < Alarm.since b)))]) := by kernel_rfl
theorem rCmpA_w5 (a : Alarm) (b : Alarm) : resOf (runG Try.prog (conΔ [conrPress]) 60 12 19 [.agg (Alarm.cells a), .agg (Alarm.cells b)] [] 0 [.go 1 false, .go 0 false, .go 1 false, .go 0 false, .go 1 false, .go 0 true]) = some (.ret (.int .i64 1), [(true, true), (true, true), (true, true), (true, true), (false, (decide (rPress (Alarm.phase a) < rPress (Alarm.phase b)))), (true, true), (true, true), (true, true), (true, true), (false, (decide (rPress (Alarm.phase a) > rPress (Alarm.phase b)))), (true, true), (true, true), (true, true), (true, true), (false, (decide (Alarm.prio a < Alarm.prio b))), (true, true), (true, true), (true, true), (true, true), (false, (decide (Alarm.prio a > Alarm.prio b))), (true, true), (true, true), (true, true), (true, true), (false, (decide (Alarm.since a < Alarm.since b))), (true, true), (true, true), (true, true), (true, true), (true, (decide (Alarm.since a > Alarm.since b)))]) := by kernel_rfl
theorem rCmpA_w6 (a : Alarm) (b : Alarm) : resOf (runG Try.prog (conΔ [conrPress]) 60 12 19 [.agg (Alarm.cells a), .agg (Alarm.cells b)] [] 0 [.go 1 false, .go 0 false, .go 1 false, .go 0 false, .go 1 false, .go 0 false, .go 1 true]) = some (.ret (.int .i64 (-1)), [(true, true), (true, true), (true, true), (true, true), (false, (decide (rPress (Alarm.phase a) < rPress (Alarm.phase b)))), (true, true), (true, true), (true, true), (true, true), (false, (decide (rPress (Alarm.phase a) > rPress (Alarm.phase b)))), (true, true), (true, true), (true, true), (true, true), (false, (decide (Alarm.prio a < Alarm.prio b))), (true, true), (true, true), (true, true), (true, true), (false, (decide (Alarm.prio a > Alarm.prio b))), (true, true), (true, true), (true, true), (true, true), (false, (decide (Alarm.since a < Alarm.since b))), (true, true), (true, true), (true, true), (true, true), (false, (decide (Alarm.since a > Alarm.since b))), (true, true), (true, true), (true, true), (true, true), (true, (decide (Alarm.until_ a < Alarm.until_ b)))]) := by kernel_rfl
theorem rCmpA_w7 (a : Alarm) (b : Alarm) : resOf (runG Try.prog (conΔ [conrPress]) 60 12 19 [.agg (Alarm.cells a), .agg (Alarm.cells b)] [] 0 [.go 1 false, .go 0 false, .go 1 false, .go 0 false, .go 1 false, .go 0 false, .go 1 false, .go 0 true]) = some (.ret (.int .i64 1), [(true, true), (true, true), (true, true), (true, true), (false, (decide (rPress (Alarm.phase a) < rPress (Alarm.phase b)))), (true, true), (true, true), (true, true), (true, true), (false, (decide (rPress (Alarm.phase a) > rPress (Alarm.phase b)))), (true, true), (true, true), (true, true), (true, true), (false, (decide (Alarm.prio a < Alarm.prio b))), (true, true), (true, true), (true, true), (true, true), (false, (decide (Alarm.prio a > Alarm.prio b))), (true, true), (true, true), (true, true), (true, true), (false, (decide (Alarm.since a < Alarm.since b))), (true, true), (true, true), (true, true), (true, true), (false, (decide (Alarm.since a > Alarm.since b))), (true, true), (true, true), (true, true), (true, true), (false, (decide (Alarm.until_ a < Alarm.until_ b))), (true, true), (true, true), (true, true), (true, true), (true, (decide (Alarm.until_ a > Alarm.until_ b)))]) := by kernel_rfl
theorem rCmpA_w8 (a : Alarm) (b : Alarm) : resOf (runG Try.prog (conΔ [conrPress]) 60 12 19 [.agg (Alarm.cells a), .agg (Alarm.cells b)] [] 0 [.go 1 false, .go 0 false, .go 1 false, .go 0 false, .go 1 false, .go 0 false, .go 1 false, .go 0 false, .go 1 true]) = some (.ret (.int .i64 (-1)), [(true, true), (true, true), (true, true), (true, true), (false, (decide (rPress (Alarm.phase a) < rPress (Alarm.phase b)))), (true, true), (true, true), (true, true), (true, true), (false, (decide (rPress (Alarm.phase a) > rPress (Alarm.phase b)))), (true, true), (true, true), (true, true), (true, true), (false, (decide (Alarm.prio a < Alarm.prio b))), (true, true), (true, true), (true, true), (true, true), (false, (decide (Alarm.prio a > Alarm.prio b))), (true, true), (true, true), (true, true), (true, true), (false, (decide (Alarm.since a < Alarm.since b))), (true, true), (true, true), (true, true), (true, true), (false, (decide (Alarm.since a > Alarm.since b))), (true, true), (true, true), (true, true), (true, true), (false, (decide (Alarm.until_ a < Alarm.until_ b))), (true, true), (true, true), (true, true), (true, true), (false, (decide (Alarm.until_ a > Alarm.until_ b))), (true, true), (true, true), (true, true), (true, true), (true, (decide (Alarm.phase a < Alarm.phase b)))]) := by kernel_rfl
theorem rCmpA_w9 (a : Alarm) (b : Alarm) : resOf (runG Try.prog (conΔ [conrPress]) 60 12 19 [.agg (Alarm.cells a), .agg (Alarm.cells b)] [] 0 [.go 1 false, .go 0 false, .go 1 false, .go 0 false, .go 1 false, .go 0 false, .go 1 false, .go 0 false, .go 1 false, .go 0 true]) = some (.ret (.int .i64 1), [(true, true), (true, true), (true, true), (true, true), (false, (decide (rPress (Alarm.phase a) < rPress (Alarm.phase b)))), (true, true), (true, true), (true, true), (true, true), (false, (decide (rPress (Alarm.phase a) > rPress (Alarm.phase b)))), (true, true), (true, true), (true, true), (true, true), (false, (decide (Alarm.prio a < Alarm.prio b))), (true, true), (true, true), (true, true), (true, true), (false, (decide (Alarm.prio a > Alarm.prio b))), (true, true), (true, true), (true, true), (true, true), (false, (decide (Alarm.since a < Alarm.since b))), (true, true), (true, true), (true, true), (true, true), (false, (decide (Alarm.since a > Alarm.since b))), (true, true), (true, true), (true, true), (true, true), (false, (decide (Alarm.until_ a < Alarm.until_ b))), (true, true), (true, true), (true, true), (true, true), (false, (decide (Alarm.until_ a > Alarm.until_ b))), (true, true), (true, true), (true, true), (true, true), (false, (decide (Alarm.phase a < Alarm.phase b))), (true, true), (true, true), (true, true), (true, true), (true, (decide (Alarm.phase a > Alarm.phase b)))]) := by kernel_rfl
theorem rCmpA_w10 (a : Alarm) (b : Alarm) : resOf (runG Try.prog (conΔ [conrPress]) 60 12 19 [.agg (Alarm.cells a), .agg (Alarm.cells b)] [] 0 [.go 1 false, .go 0 false, .go 1 false, .go 0 false, .go 1 false, .go 0 false, .go 1 false, .go 0 false, .go 1 false, .go 0 false, .go 1 true]) = some (.ret (.int .i64 (-1)), [(true, true), (true, true), (true, true), (true, true), (false, (decide (rPress (Alarm.phase a) < rPress (Alarm.phase b)))), (true, true), (true, true), (true, true), (true, true), (false, (decide (rPress (Alarm.phase a) > rPress (Alarm.phase b)))), (true, true), (true, true), (true, true), (true, true), (false, (decide (Alarm.prio a < Alarm.prio b))), (true, true), (true, true), (true, true), (true, true), (false, (decide (Alarm.prio a > Alarm.prio b))), (true, true), (true, true), (true, true), (true, true), (false, (decide (Alarm.since a < Alarm.since b))), (true, true), (true, true), (true, true), (true, true), (false, (decide (Alarm.since a > Alarm.since b))), (true, true), (true, true), (true, true), (true, true), (false, (decide (Alarm.until_ a < Alarm.until_ b))), (true, true), (true, true), (true, true), (true, true), (false, (decide (Alarm.until_ a > Alarm.until_ b))), (true, true), (true, true), (true, true), (true, true), (false, (decide (Alarm.phase a < Alarm.phase b))), (true, true), (true, true), (true, true), (true, true), (false, (decide (Alarm.phase a > Alarm.phase b))), (true, true), (true, true), (true, true), (true, true), (true, (decide (Spot.bed (Alarm.spot a) < Spot.bed (Alarm.spot b))))]) := by kernel_rfl
theorem rCmpA_w11 (a : Alarm) (b : Alarm) : resOf (runG Try.prog (conΔ [conrPress]) 60 12 19 [.agg (Alarm.cells a), .agg (Alarm.cells b)] [] 0 [.go 1 false, .go 0 false, .go 1 false, .go 0 false, .go 1 false, .go 0 false, .go 1 false, .go 0 false, .go 1 false, .go 0 false, .go 1 false, .go 0 true]) = some (.ret (.int .i64 1), [(true, true), (true, true), (true, true), (true, true), (false, (decide (rPress (Alarm.phase a) < rPress (Alarm.phase b)))), (true, true), (true, true), (true, true), (true, true), (false, (decide (rPress (Alarm.phase a) > rPress (Alarm.phase b)))), (true, true), (true, true), (true, true), (true, true), (false, (decide (Alarm.prio a < Alarm.prio b))), (true, true), (true, true), (true, true), (true, true), (false, (decide (Alarm.prio a > Alarm.prio b))), (true, true), (true, true), (true, true), (true, true), (false, (decide (Alarm.since a < Alarm.since b))), (true, true), (true, true), (true, true), (true, true), (false, (decide (Alarm.since a > Alarm.since b))), (true, true), (true, true), (true, true), (true, true), (false, (decide (Alarm.until_ a < Alarm.until_ b))), (true, true), (true, true), (true, true), (true, true), (false, (decide (Alarm.until_ a > Alarm.until_ b))), (true, true), (true, true), (true, true), (true, true), (false, (decide (Alarm.phase a < Alarm.phase b))), (true, true), (true, true), (true, true), (true, true), (false, (decide (Alarm.phase a > Alarm.phase b))), (true, true), (true, true), (true, true), (true, true), (false, (decide (Spot.bed (Alarm.spot a) < Spot.bed (Alarm.spot b)))), (true, true), (true, true), (true, true), (true, true), (true, (decide (Spot.bed (Alarm.spot a) > Spot.bed (Alarm.spot b))))]) := by kernel_rfl
theorem rCmpA_w12 (a : Alarm) (b : Alarm) : resOf (runG Try.prog (conΔ [conrPress]) 60 12 19 [.agg (Alarm.cells a), .agg (Alarm.cells b)] [] 0 [.go 1 false, .go 0 false, .go 1 false, .go 0 false, .go 1 false, .go 0 false, .go 1 false, .go 0 false, .go 1 false, .go 0 false, .go 1 false, .go 0 false, .go 1 true]) = some (.ret (.int .i64 (-1)), [(true, true), (true, true), (true, true), (true, true), (false, (decide (rPress (Alarm.phase a) < rPress (Alarm.phase b)))), (true, true), (true, true), (true, true), (true, true), (false, (decide (rPress (Alarm.phase a) > rPress (Alarm.phase b)))), (true, true), (true, true), (true, true), (true, true), (false, (decide (Alarm.prio a < Alarm.prio b))), (true, true), (true, true), (true, true), (true, true), (false, (decide (Alarm.prio a > Alarm.prio b))), (true, true), (true, true), (true, true), (true, true), (false, (decide (Alarm.since a < Alarm.since b))), (true, true), (true, true), (true, true), (true, true), (false, (decide (Alarm.since a > Alarm.since b))), (true, true), (true, true), (true, true), (true, true), (false, (decide (Alarm.until_ a < Alarm.until_ b))), (true, true), (true, true), (true, true), (true, true), (false, (decide (Alarm.until_ a > Alarm.until_ b))), (true, true), (true, true), (true, true), (true, true), (false, (decide (Alarm.phase a < Alarm.phase b))), (true, true), (true, true), (true, true), (true, true), (false, (decide (Alarm.phase a > Alarm.phase b))), (true, true), (true, true), (true, true), (true, true), (false, (decide (Spot.bed (Alarm.spot a) < Spot.bed (Alarm.spot b)))), (true, true), (true, true), (true, true), (true, true), (false, (decide (Spot.bed (Alarm.spot a) > Spot.bed (Alarm.spot b)))), (true, true), (true, true), (true, true), (true, true), (true, (decide (Spot.channel (Alarm.spot a) < Spot.channel (Alarm.spot b))))]) := by kernel_rfl
theorem rCmpA_w13 (a : Alarm) (b : Alarm) : resOf (runG Try.prog (conΔ [conrPress]) 60 12 19 [.agg (Alarm.cells a), .agg (Alarm.cells b)] [] 0 [.go 1 false, .go 0 false, .go 1 false, .go 0 false, .go 1 false, .go 0 false, .go 1 false, .go 0 false, .go 1 false, .go 0 false, .go 1 false, .go 0 false, .go 1 false, .go 0 true]) = some (.ret (.int .i64 1), [(true, true), (true, true), (true, true), (true, true), (false, (decide (rPress (Alarm.phase a) < rPress (Alarm.phase b)))), (true, true), (true, true), (true, true), (true, true), (false, (decide (rPress (Alarm.phase a) > rPress (Alarm.phase b)))), (true, true), (true, true), (true, true), (true, true), (false, (decide (Alarm.prio a < Alarm.prio b))), (true, true), (true, true), (true, true), (true, true), (false, (decide (Alarm.prio a > Alarm.prio b))), (true, true), (true, true), (true, true), (true, true), (false, (decide (Alarm.since a < Alarm.since b))), (true, true), (true, true), (true, true), (true, true), (false, (decide (Alarm.since a > Alarm.since b))), (true, true), (true, true), (true, true), (true, true), (false, (decide (Alarm.until_ a < Alarm.until_ b))), (true, true), (true, true), (true, true), (true, true), (false, (decide (Alarm.until_ a > Alarm.until_ b))), (true, true), (true, true), (true, true), (true, true), (false, (decide (Alarm.phase a < Alarm.phase b))), (true, true), (true, true), (true, true), (true, true), (false, (decide (Alarm.phase a > Alarm.phase b))), (true, true), (true, true), (true, true), (true, true), (false, (decide (Spot.bed (Alarm.spot a) < Spot.bed (Alarm.spot b)))), (true, true), (true, true), (true, true), (true, true), (false, (decide (Spot.bed (Alarm.spot a) > Spot.bed (Alarm.spot b)))), (true, true), (true, true), (true, true), (true, true), (false, (decide (Spot.channel (Alarm.spot a) < Spot.channel (Alarm.spot b)))), (true, true), (true, true), (true, true), (true, true), (true, (decide (Spot.channel (Alarm.spot a) > Spot.channel (Alarm.spot b))))]) := by kernel_rfl
theorem rCmpA_w14 (a : Alarm) (b : Alarm) : resOf (runG Try.prog (conΔ [conrPress]) 60 12 19 [.agg (Alarm.cells a), .agg (Alarm.cells b)] [] 0 [.go 1 false, .go 0 false, .go 1 false, .go 0 false, .go 1 false, .go 0 false, .go 1 false, .go 0 false, .go 1 false, .go 0 false, .go 1 false, .go 0 false, .go 1 false, .go 0 false]) = some (.ret (.int .i64 0), [(true, true), (true, true), (true, true), (true, true), (false, (decide (rPress (Alarm.phase a) < rPress (Alarm.phase b)))), (true, true), (true, true), (true, true), (true, true), (false, (decide (rPress (Alarm.phase a) > rPress (Alarm.phase b)))), (true, true), (true, true), (true, true), (true, true), (false, (decide (Alarm.prio a < Alarm.prio b))), (true, true), (true, true), (true, true), (true, true), (false, (decide (Alarm.prio a > Alarm.prio b))), (true, true), (true, true), (true, true), (true, true), (false, (decide (Alarm.since a < Alarm.since b))), (true, true), (true, true), (true, true), (true, true), (false, (decide (Alarm.since a > Alarm.since b))), (true, true), (true, true), (true, true), (true, true), (false, (decide (Alarm.until_ a < Alarm.until_ b))), (true, true), (true, true), (true, true), (true, true), (false, (decide (Alarm.until_ a > Alarm.until_ b))), (true, true), (true, true), (true, true), (true, true), (false, (decide (Alarm.phase a < Alarm.phase b))), (true, true), (true, true), (true, true), (true, true), (false, (decide (Alarm.phase a > Alarm.phase b))), (true, true), (true, true), (true, true), (true, true), (false, (decide (Spot.bed (Alarm.spot a) < Spot.bed (Alarm.spot b)))), (true, true), (true, true), (true, true), (true, true), (false, (decide (Spot.bed (Alarm.spot a) > Spot.bed (Alarm.spot b)))), (true, true), (true, true), (true, true), (true, true), (false, (decide (Spot.channel (Alarm.spot a) < Spot.channel (Alarm.spot b)))), (true, true), (true, true), (true, true), (true, true), (false, (decide (Spot.channel (Alarm.spot a) > Spot.channel (Alarm.spot b))))]) := by kernel_rfl
theorem rCmpA_ok (a : Alarm) (b : Alarm)  (h : Heap) (n : Nat) : CallOk Try.prog 19 [.agg (Alarm.cells a), .agg (Alarm.cells b)] h n (.ret (.int .i64 (rCmpA a b))) h n := by
  rcases Bool.eq_false_or_eq_true (decide (rPress (Alarm.phase a) < rPress (Alarm.phase b))) with h0 | h0
  ·
    have e : rCmpA a b = (-1) := by simp only [rCmpA, h0, cond]
    rw [e]
    exact way rCmpACf (rCmpA_w0 a b) (conds_cons rfl (conds_cons rfl (conds_cons rfl (conds_cons rfl (conds_cons h0.symm conds_nil))))) rfl rfl h n
  ·
    rcases Bool.eq_false_or_eq_true (decide (rPress (Alarm.phase a) > rPress (Alarm.phase b))) with h1 | h1
    ·
      have e : rCmpA a b = 1 := by simp only [rCmpA, h0, h1, cond]
      rw [e]
      exact way rCmpACf (rCmpA_w1 a b) (conds_cons rfl (conds_cons rfl (conds_cons rfl (conds_cons rfl (conds_cons h0.symm (conds_cons rfl (conds_cons rfl (conds_cons rfl (conds_cons rfl (conds_cons h1.symm conds_nil)))))))))) rfl rfl h n
    ·
      rcases Bool.eq_false_or_eq_true (decide (Alarm.prio a < Alarm.prio b)) with h2 | h2
      ·
        have e : rCmpA a b = (-1) := by simp only [rCmpA, h0, h1, h2, cond]
        rw [e]
        exact way rCmpACf (rCmpA_w2 a b) (conds_cons rfl (conds_cons rfl (conds_cons rfl (conds_cons rfl (conds_cons h0.symm (conds_cons rfl (conds_cons rfl (conds_cons rfl (conds_cons rfl (conds_cons h1.symm (conds_cons rfl (conds_cons rfl (conds_cons rfl (conds_cons rfl (conds_cons h2.symm conds_nil))))))))))))))) rfl rfl h n
      ·
        rcases Bool.eq_false_or_eq_true (decide (Alarm.prio a > Alarm.prio b)) with h3 | h3
        ·
          have e : rCmpA a b = 1 := by simp only [rCmpA, h0, h1, h2, h3, cond]
          rw [e]
          exact way rCmpACf (rCmpA_w3 a b) (conds_cons rfl (conds_cons rfl (conds_cons rfl (conds_cons rfl (conds_cons h0.symm (conds_cons rfl (conds_cons rfl (conds_cons rfl (conds_cons rfl (conds_cons h1.symm (conds_cons rfl (conds_cons rfl (conds_cons rfl (conds_cons rfl (conds_cons h2.symm (conds_cons rfl (conds_cons rfl (conds_cons rfl (conds_cons rfl (conds_cons h3.symm conds_nil)))))))))))))))))))) rfl rfl h n
        ·
          rcases Bool.eq_false_or_eq_true (decide (Alarm.since a < Alarm.since b)) with h4 | h4
          ·
            have e : rCmpA a b = (-1) := by simp only [rCmpA, h0, h1, h2, h3, h4, cond]
            rw [e]
            exact way rCmpACf (rCmpA_w4 a b) (conds_cons rfl (conds_cons rfl (conds_cons rfl (conds_cons rfl (conds_cons h0.symm (conds_cons rfl (conds_cons rfl (conds_cons rfl (conds_cons rfl (conds_cons h1.symm (conds_cons rfl (conds_cons rfl (conds_cons rfl (conds_cons rfl (conds_cons h2.symm (conds_cons rfl (conds_cons rfl (conds_cons rfl (conds_cons rfl (conds_cons h3.symm (conds_cons rfl (conds_cons rfl (conds_cons rfl (conds_cons rfl (conds_cons h4.symm conds_nil))))))))))))))))))))))))) rfl rfl h n
          ·
            rcases Bool.eq_false_or_eq_true (decide (Alarm.since a > Alarm.since b)) with h5 | h5
            ·
              have e : rCmpA a b = 1 := by simp only [rCmpA, h0, h1, h2, h3, h4, h5, cond]
              rw [e]
              exact way rCmpACf (rCmpA_w5 a b) (conds_cons rfl (conds_cons rfl (conds_cons rfl (conds_cons rfl (conds_cons h0.symm (conds_cons rfl (conds_cons rfl (conds_cons rfl (conds_cons rfl (conds_cons h1.symm (conds_cons rfl (conds_cons rfl (conds_cons rfl (conds_cons rfl (conds_cons h2.symm (conds_cons rfl (conds_cons rfl (conds_cons rfl (conds_cons rfl (conds_cons h3.symm (conds_cons rfl (conds_cons rfl (conds_cons rfl (conds_cons rfl (conds_cons h4.symm (conds_cons rfl (conds_cons rfl (conds_cons rfl (conds_cons rfl (conds_cons h5.symm conds_nil)))))))))))))))))))))))))))))) rfl rfl h n
            ·
              rcases Bool.eq_false_or_eq_true (decide (Alarm.until_ a < Alarm.until_ b)) with h6 | h6
              ·
                have e : rCmpA a b = (-1) := by simp only [rCmpA, h0, h1, h2, h3, h4, h5, h6, cond]
                rw [e]
                exact way rCmpACf (rCmpA_w6 a b) (conds_cons rfl (conds_cons rfl (conds_cons rfl (conds_cons rfl (conds_cons h0.symm (conds_cons rfl (conds_cons rfl (conds_cons rfl (conds_cons rfl (conds_cons h1.symm (conds_cons rfl (conds_cons rfl (conds_cons rfl (conds_cons rfl (conds_cons h2.symm (conds_cons rfl (conds_cons rfl (conds_cons rfl (conds_cons rfl (conds_cons h3.symm (conds_cons rfl (conds_cons rfl (conds_cons rfl (conds_cons rfl (conds_cons h4.symm (conds_cons rfl (conds_cons rfl (conds_cons rfl (conds_cons rfl (conds_cons h5.symm (conds_cons rfl (conds_cons rfl (conds_cons rfl (conds_cons rfl (conds_cons h6.symm conds_nil))))))))))))))))))))))))))))))))))) rfl rfl h n
              ·
                rcases Bool.eq_false_or_eq_true (decide (Alarm.until_ a > Alarm.until_ b)) with h7 | h7
                ·
                  have e : rCmpA a b = 1 := by simp only [rCmpA, h0, h1, h2, h3, h4, h5, h6, h7, cond]
                  rw [e]
                  exact way rCmpACf (rCmpA_w7 a b) (conds_cons rfl (conds_cons rfl (conds_cons rfl (conds_cons rfl (conds_cons h0.symm (conds_cons rfl (conds_cons rfl (conds_cons rfl (conds_cons rfl (conds_cons h1.symm (conds_cons rfl (conds_cons rfl (conds_cons rfl (conds_cons rfl (conds_cons h2.symm (conds_cons rfl (conds_cons rfl (conds_cons rfl (conds_cons rfl (conds_cons h3.symm (conds_cons rfl (conds_cons rfl (conds_cons rfl (conds_cons rfl (conds_cons h4.symm (conds_cons rfl (conds_cons rfl (conds_cons rfl (conds_cons rfl (conds_cons h5.symm (conds_cons rfl (conds_cons rfl (conds_cons rfl (conds_cons rfl (conds_cons h6.symm (conds_cons rfl (conds_cons rfl (conds_cons rfl (conds_cons rfl (conds_cons h7.symm conds_nil)))))))))))))))))))))))))))))))))))))))) rfl rfl h n
                ·
                  rcases Bool.eq_false_or_eq_true (decide (Alarm.phase a < Alarm.phase b)) with h8 | h8
                  ·
                    have e : rCmpA a b = (-1) := by simp only [rCmpA, h0, h1, h2, h3, h4, h5, h6, h7, h8, cond]
                    rw [e]
                    exact way rCmpACf (rCmpA_w8 a b) (conds_cons rfl (conds_cons rfl (conds_cons rfl (conds_cons rfl (conds_cons h0.symm (conds_cons rfl (conds_cons rfl (conds_cons rfl (conds_cons rfl (conds_cons h1.symm (conds_cons rfl (conds_cons rfl (conds_cons rfl (conds_cons rfl (conds_cons h2.symm (conds_cons rfl (conds_cons rfl (conds_cons rfl (conds_cons rfl (conds_cons h3.symm (conds_cons rfl (conds_cons rfl (conds_cons rfl (conds_cons rfl (conds_cons h4.symm (conds_cons rfl (conds_cons rfl (conds_cons rfl (conds_cons rfl (conds_cons h5.symm (conds_cons rfl (conds_cons rfl (conds_cons rfl (conds_cons rfl (conds_cons h6.symm (conds_cons rfl (conds_cons rfl (conds_cons rfl (conds_cons rfl (conds_cons h7.symm (conds_cons rfl (conds_cons rfl (conds_cons rfl (conds_cons rfl (conds_cons h8.symm conds_nil))))))))))))))))))))))))))))))))))))))))))))) rfl rfl h n
                  ·
                    rcases Bool.eq_false_or_eq_true (decide (Alarm.phase a > Alarm.phase b)) with h9 | h9
                    ·
                      have e : rCmpA a b = 1 := by simp only [rCmpA, h0, h1, h2, h3, h4, h5, h6, h7, h8, h9, cond]
                      rw [e]
                      exact way rCmpACf (rCmpA_w9 a b) (conds_cons rfl (conds_cons rfl (conds_cons rfl (conds_cons rfl (conds_cons h0.symm (conds_cons rfl (conds_cons rfl (conds_cons rfl (conds_cons rfl (conds_cons h1.symm (conds_cons rfl (conds_cons rfl (conds_cons rfl (conds_cons rfl (conds_cons h2.symm (conds_cons rfl (conds_cons rfl (conds_cons rfl (conds_cons rfl (conds_cons h3.symm (conds_cons rfl (conds_cons rfl (conds_cons rfl (conds_cons rfl (conds_cons h4.symm (conds_cons rfl (conds_cons rfl (conds_cons rfl (conds_cons rfl (conds_cons h5.symm (conds_cons rfl (conds_cons rfl (conds_cons rfl (conds_cons rfl (conds_cons h6.symm (conds_cons rfl (conds_cons rfl (conds_cons rfl (conds_cons rfl (conds_cons h7.symm (conds_cons rfl (conds_cons rfl (conds_cons rfl (conds_cons rfl (conds_cons h8.symm (conds_cons rfl (conds_cons rfl (conds_cons rfl (conds_cons rfl (conds_cons h9.symm conds_nil)))))))))))))))))))))))))))))))))))))))))))))))))) rfl rfl h n
                    ·
                      rcases Bool.eq_false_or_eq_true (decide (Spot.bed (Alarm.spot a) < Spot.bed (Alarm.spot b))) with h10 | h10
                      ·
                        have e : rCmpA a b = (-1) := by simp only [rCmpA, h0, h1, h2, h3, h4, h5, h6, h7, h8, h9, h10, cond]
                        rw [e]
                        exact way rCmpACf (rCmpA_w10 a b) (conds_cons rfl (conds_cons rfl (conds_cons rfl (conds_cons rfl (conds_cons h0.symm (conds_cons rfl (conds_cons rfl (conds_cons rfl (conds_cons rfl (conds_cons h1.symm (conds_cons rfl (conds_cons rfl (conds_cons rfl (conds_cons rfl (conds_cons h2.symm (conds_cons rfl (conds_cons rfl (conds_cons rfl (conds_cons rfl (conds_cons h3.symm (conds_cons rfl (conds_cons rfl (conds_cons rfl (conds_cons rfl (conds_cons h4.symm (conds_cons rfl (conds_cons rfl (conds_cons rfl (conds_cons rfl (conds_cons h5.symm (conds_cons rfl (conds_cons rfl (conds_cons rfl (conds_cons rfl (conds_cons h6.symm (conds_cons rfl (conds_cons rfl (conds_cons rfl (conds_cons rfl (conds_cons h7.symm (conds_cons rfl (conds_cons rfl (conds_cons rfl (conds_cons rfl (conds_cons h8.symm (conds_cons rfl (conds_cons rfl (conds_cons rfl (conds_cons rfl (conds_cons h9.symm (conds_cons rfl (conds_cons rfl (conds_cons rfl (conds_cons rfl (conds_cons h10.symm conds_nil))))))))))))))))))))))))))))))))))))))))))))))))))))))) rfl rfl h n
                      ·
                        rcases Bool.eq_false_or_eq_true (decide (Spot.bed (Alarm.spot a) > Spot.bed (Alarm.spot b))) with h11 | h11
                        ·
                          have e : rCmpA a b = 1 := by simp only [rCmpA, h0, h1, h2, h3, h4, h5, h6, h7, h8, h9, h10, h11, cond]
                          rw [e]
                          exact way rCmpACf (rCmpA_w11 a b) (conds_cons rfl (conds_cons rfl (conds_cons rfl (conds_cons rfl (conds_cons h0.symm (conds_cons rfl (conds_cons rfl (conds_cons rfl (conds_cons rfl (conds_cons h1.symm (conds_cons rfl (conds_cons rfl (conds_cons rfl (conds_cons rfl (conds_cons h2.symm (conds_cons rfl (conds_cons rfl (conds_cons rfl (conds_cons rfl (conds_cons h3.symm (conds_cons rfl (conds_cons rfl (conds_cons rfl (conds_cons rfl (conds_cons h4.symm (conds_cons rfl (conds_cons rfl (conds_cons rfl (conds_cons rfl (conds_cons h5.symm (conds_cons rfl (conds_cons rfl (conds_cons rfl (conds_cons rfl (conds_cons h6.symm (conds_cons rfl (conds_cons rfl (conds_cons rfl (conds_cons rfl (conds_cons h7.symm (conds_cons rfl (conds_cons rfl (conds_cons rfl (conds_cons rfl (conds_cons h8.symm (conds_cons rfl (conds_cons rfl (conds_cons rfl (conds_cons rfl (conds_cons h9.symm (conds_cons rfl (conds_cons rfl (conds_cons rfl (conds_cons rfl (conds_cons h10.symm (conds_cons rfl (conds_cons rfl (conds_cons rfl (conds_cons rfl (conds_cons h11.symm conds_nil)))))))))))))))))))))))))))))))))))))))))))))))))))))))))))) rfl rfl h n
                        ·
                          rcases Bool.eq_false_or_eq_true (decide (Spot.channel (Alarm.spot a) < Spot.channel (Alarm.spot b))) with h12 | h12
                          ·
                            have e : rCmpA a b = (-1) := by simp only [rCmpA, h0, h1, h2, h3, h4, h5, h6, h7, h8, h9, h10, h11, h12, cond]
                            rw [e]
                            exact way rCmpACf (rCmpA_w12 a b) (conds_cons rfl (conds_cons rfl (conds_cons rfl (conds_cons rfl (conds_cons h0.symm (conds_cons rfl (conds_cons rfl (conds_cons rfl (conds_cons rfl (conds_cons h1.symm (conds_cons rfl (conds_cons rfl (conds_cons rfl (conds_cons rfl (conds_cons h2.symm (conds_cons rfl (conds_cons rfl (conds_cons rfl (conds_cons rfl (conds_cons h3.symm (conds_cons rfl (conds_cons rfl (conds_cons rfl (conds_cons rfl (conds_cons h4.symm (conds_cons rfl (conds_cons rfl (conds_cons rfl (conds_cons rfl (conds_cons h5.symm (conds_cons rfl (conds_cons rfl (conds_cons rfl (conds_cons rfl (conds_cons h6.symm (conds_cons rfl (conds_cons rfl (conds_cons rfl (conds_cons rfl (conds_cons h7.symm (conds_cons rfl (conds_cons rfl (conds_cons rfl (conds_cons rfl (conds_cons h8.symm (conds_cons rfl (conds_cons rfl (conds_cons rfl (conds_cons rfl (conds_cons h9.symm (conds_cons rfl (conds_cons rfl (conds_cons rfl (conds_cons rfl (conds_cons h10.symm (conds_cons rfl (conds_cons rfl (conds_cons rfl (conds_cons rfl (conds_cons h11.symm (conds_cons rfl (conds_cons rfl (conds_cons rfl (conds_cons rfl (conds_cons h12.symm conds_nil))))))))))))))))))))))))))))))))))))))))))))))))))))))))))))))))) rfl rfl h n
                          ·
                            rcases Bool.eq_false_or_eq_true (decide (Spot.channel (Alarm.spot a) > Spot.channel (Alarm.spot b))) with h13 | h13
                            ·
                              have e : rCmpA a b = 1 := by simp only [rCmpA, h0, h1, h2, h3, h4, h5, h6, h7, h8, h9, h10, h11, h12, h13, cond]
                              rw [e]
                              exact way rCmpACf (rCmpA_w13 a b) (conds_cons rfl (conds_cons rfl (conds_cons rfl (conds_cons rfl (conds_cons h0.symm (conds_cons rfl (conds_cons rfl (conds_cons rfl (conds_cons rfl (conds_cons h1.symm (conds_cons rfl (conds_cons rfl (conds_cons rfl (conds_cons rfl (conds_cons h2.symm (conds_cons rfl (conds_cons rfl (conds_cons rfl (conds_cons rfl (conds_cons h3.symm (conds_cons rfl (conds_cons rfl (conds_cons rfl (conds_cons rfl (conds_cons h4.symm (conds_cons rfl (conds_cons rfl (conds_cons rfl (conds_cons rfl (conds_cons h5.symm (conds_cons rfl (conds_cons rfl (conds_cons rfl (conds_cons rfl (conds_cons h6.symm (conds_cons rfl (conds_cons rfl (conds_cons rfl (conds_cons rfl (conds_cons h7.symm (conds_cons rfl (conds_cons rfl (conds_cons rfl (conds_cons rfl (conds_cons h8.symm (conds_cons rfl (conds_cons rfl (conds_cons rfl (conds_cons rfl (conds_cons h9.symm (conds_cons rfl (conds_cons rfl (conds_cons rfl (conds_cons rfl (conds_cons h10.symm (conds_cons rfl (conds_cons rfl (conds_cons rfl (conds_cons rfl (conds_cons h11.symm (conds_cons rfl (conds_cons rfl (conds_cons rfl (conds_cons rfl (conds_cons h12.symm (conds_cons rfl (conds_cons rfl (conds_cons rfl (conds_cons rfl (conds_cons h13.symm conds_nil)))))))))))))))))))))))))))))))))))))))))))))))))))))))))))))))))))))) rfl rfl h n
                            ·
                              have e : rCmpA a b = 0 := by simp only [rCmpA, h0, h1, h2, h3, h4, h5, h6, h7, h8, h9, h10, h11, h12, h13, cond]
                              rw [e]
                              exact way rCmpACf (rCmpA_w14 a b) (conds_cons rfl (conds_cons rfl (conds_cons rfl (conds_cons rfl (conds_cons h0.symm (conds_cons rfl (conds_cons rfl (conds_cons rfl (conds_cons rfl (conds_cons h1.symm (conds_cons rfl (conds_cons rfl (conds_cons rfl (conds_cons rfl (conds_cons h2.symm (conds_cons rfl (conds_cons rfl (conds_cons rfl (conds_cons rfl (conds_cons h3.symm (conds_cons rfl (conds_cons rfl (conds_cons rfl (conds_cons rfl (conds_cons h4.symm (conds_cons rfl (conds_cons rfl (conds_cons rfl (conds_cons rfl (conds_cons h5.symm (conds_cons rfl (conds_cons rfl (conds_cons rfl (conds_cons rfl (conds_cons h6.symm (conds_cons rfl (conds_cons rfl (conds_cons rfl (conds_cons rfl (conds_cons h7.symm (conds_cons rfl (conds_cons rfl (conds_cons rfl (conds_cons rfl (conds_cons h8.symm (conds_cons rfl (conds_cons rfl (conds_cons rfl (conds_cons rfl (conds_cons h9.symm (conds_cons rfl (conds_cons rfl (conds_cons rfl (conds_cons rfl (conds_cons h10.symm (conds_cons rfl (conds_cons rfl (conds_cons rfl (conds_cons rfl (conds_cons h11.symm (conds_cons rfl (conds_cons rfl (conds_cons rfl (conds_cons rfl (conds_cons h12.symm (conds_cons rfl (conds_cons rfl (conds_cons rfl (conds_cons rfl (conds_cons h13.symm conds_nil)))))))))))))))))))))))))))))))))))))))))))))))))))))))))))))))))))))) rfl rfl h n
def conrCmpA : Con := (19, fun l => match l with
  | [x0, x1] => (match Alarm.of x0 with | some s0 => (match Alarm.of x1 with | some s1 => some (.int .i64 (rCmpA s0 s1)) | none => none) | none => none)
  | _ => none)
theorem conrCmpA_ok : ConOk Try.prog conrCmpA := by
  intro l v e h n
  simp only [conrCmpA] at e
  split at e
  · skip
    split at e
    · rename_i s0 es0
      split at e
      · rename_i s1 es1
        cases e
        cases Alarm.of_eq es0
        cases Alarm.of_eq es1
        exact rCmpA_ok _ _ h n
      · cases e
    · cases e
  · cases e
end Go.Proofs.Ytjjagjehaoidbaa

set_option linter.unusedVariables false
namespace Go.Proofs.Ytjjagjehaoidbaa
open Go.Eng Go.Proofs
def cmpL : List Int → List Int → Int
  | x :: xs, y :: ys => if x < y then -1 else if y < x then 1 else cmpL xs ys
  | _, _ => 0
theorem cmpL_cases : ∀ xs ys : List Int, cmpL xs ys = -1 ∨ cmpL xs ys = 0 ∨ cmpL xs ys = 1
  | [], _ => .inr (.inl (by cases ‹List Int› <;> rfl))
  | _ :: _, [] => .inr (.inl rfl)
  | x :: xs, y :: ys => by
    have := cmpL_cases xs ys
    simp only [cmpL]
    split
    · exact .inl rfl
    · split
      · exact .inr (.inr rfl)
      · exact this
theorem cmpL_swap : ∀ xs ys : List Int, cmpL ys xs = - cmpL xs ys
  | [], [] => rfl
  | [], _ :: _ => rfl
  | _ :: _, [] => rfl
  | x :: xs, y :: ys => by
    have := cmpL_swap xs ys
    simp only [cmpL]
    repeat' split
    all_goals omega
theorem cmpL_zero : ∀ xs ys : List Int, xs.length = ys.length → (cmpL xs ys = 0 ↔ xs = ys)
  | [], [], _ => by simp [cmpL]
  | [], _ :: _, h => by simp at h
  | _ :: _, [], h => by simp at h
  | x :: xs, y :: ys, h => by
    have := cmpL_zero xs ys (by simpa using h)
    simp only [cmpL, List.cons.injEq]
    split
    · omega
    · split
      · omega
      · have e : x = y := by omega
        rw [this]; simp [e]
theorem cmpL_lt_trans : ∀ xs ys zs : List Int, cmpL xs ys < 0 → cmpL ys zs ≤ 0 → xs.length = ys.length → ys.length = zs.length → cmpL xs zs < 0
  | [], _, _, h, _, _, _ => by simp [cmpL] at h
  | _ :: _, [], _, h, _, _, _ => by simp [cmpL] at h
  | _ :: _, _ :: _, [], _, _, _, h => by simp at h
  | x :: xs, y :: ys, z :: zs, h1, h2, l1, l2 => by
    have := cmpL_lt_trans xs ys zs
    simp only [cmpL] at *
    simp only [List.length_cons, Nat.add_right_cancel_iff] at l1 l2
    have this := fun a b => this a b l1 l2
    split at h1
    · split at h2
      · rw [if_pos (by omega)]; omega
      · split at h2
        · omega
        · rw [if_pos (by omega)]; omega
    · split at h1
      · omega
      · split at h2
        · rw [if_pos (by omega)]; omega
        · split at h2
          · omega
          · rw [if_neg (by omega), if_neg (by omega)]; exact this h1 h2
theorem cmpL_le_trans (xs ys zs : List Int) (h1 : cmpL xs ys ≤ 0) (h2 : cmpL ys zs ≤ 0) (l1 : xs.length = ys.length) (l2 : ys.length = zs.length) : cmpL xs zs ≤ 0 := by
  by_cases h : cmpL xs ys < 0
  · have := cmpL_lt_trans xs ys zs h h2 l1 l2; omega
  · have : cmpL xs ys = 0 := by omega
    rw [(cmpL_zero xs ys l1).1 this]; exact h2
theorem cmpI_eq (x y : Int) : cmpI x y = if x < y then -1 else if y < x then 1 else 0 := by
  unfold cmpI
  simp only [Bool.cond_eq_ite]
  by_cases h1 : x < y
  · simp [h1]
  · by_cases h2 : y < x
    · simp [h1, h2]
    · simp [h1, h2]
theorem cmpI_or (x y r : Int) : (bif (cmpI x y != (0 : Int)) then cmpI x y else r) = if x < y then -1 else if y < x then 1 else r := by
  rw [cmpI_eq]
  split
  · rfl
  · split <;> rfl
def keysA (a : Alarm) : List Int := [press a, a.prio, a.since, a.until_, a.phase, a.spot.bed, a.spot.channel]
theorem cmpA_keys (a b : Alarm) : cmpA a b = cmpL (keysA a) (keysA b) := by
  unfold cmpA toA keysA
  simp only [cmpI_or, cmpL]
theorem press_eq (a : Alarm) : press a = rPress a.phase := by
  unfold press rPress
  rfl
theorem rCmpA_keys (a b : Alarm) : rCmpA a b = cmpL (keysA a) (keysA b) := by
  unfold rCmpA keysA
  simp only [cmpL, press_eq, Bool.cond_eq_ite, decide_eq_true_eq, gt_iff_lt]
theorem cmpA_eq (a b : Alarm) : cmpA a b = rCmpA a b := by rw [cmpA_keys, rCmpA_keys]
theorem keysA_inj {a b : Alarm} (h : keysA a = keysA b) : a = b := by
  rcases a with ⟨⟨a1, a2⟩, a3, a4, a5, a6⟩
  rcases b with ⟨⟨b1, b2⟩, b3, b4, b5, b6⟩
  simp only [keysA, List.cons.injEq] at h
  simp only [Alarm.mk.injEq, Spot.mk.injEq]
  omega
theorem cmpA_cases (a b : Alarm) : cmpA a b = -1 ∨ cmpA a b = 0 ∨ cmpA a b = 1 := by rw [cmpA_keys]; exact cmpL_cases _ _
theorem cmpA_swap (a b : Alarm) : cmpA b a = - cmpA a b := by rw [cmpA_keys, cmpA_keys]; exact cmpL_swap _ _
theorem cmpA_zero (a b : Alarm) : cmpA a b = 0 ↔ a = b := by
  rw [cmpA_keys, cmpL_zero (keysA a) (keysA b) rfl]
  exact ⟨keysA_inj, fun h => by rw [h]⟩
theorem cmpA_lt_trans {a b c : Alarm} (h1 : cmpA a b < 0) (h2 : cmpA b c ≤ 0) : cmpA a c < 0 := by
  rw [cmpA_keys] at *; exact cmpL_lt_trans _ _ _ h1 h2 rfl rfl
theorem cmpA_le_trans {a b c : Alarm} (h1 : cmpA a b ≤ 0) (h2 : cmpA b c ≤ 0) : cmpA a c ≤ 0 := by
  rw [cmpA_keys] at *; exact cmpL_le_trans _ _ _ h1 h2 rfl rfl
end Go.Proofs.Ytjjagjehaoidbaa

set_option linter.unusedVariables false
namespace Go.Proofs.Ytjjagjehaoidbaa
open Go.RowKit Go.Shelf Go.Proofs Go.Sort Go.Lib
theorem encA_rel (ρ : Nat → Option Go.Eng.Loc) (RO : Nat → Prop) (w : World) (x : Alarm) : Go.Eng.VRel ρ RO w (.agg x.cells) (.agg (encA x).toArray) := by
  refine .agg rfl (one_encA x) ?_
  have : Go.Eng.VRels ρ RO w x.cells (encA x) := @Go.Eng.VRels.cons ⟨True⟩ _ _ _ _ _ _ _ (.int _ _) (@Go.Eng.VRels.cons ⟨True⟩ _ _ _ _ _ _ _ (.int _ _) (@Go.Eng.VRels.cons ⟨True⟩ _ _ _ _ _ _ _ (.int _ _) (@Go.Eng.VRels.cons ⟨True⟩ _ _ _ _ _ _ _ (.int _ _) (@Go.Eng.VRels.cons ⟨True⟩ _ _ _ _ _ _ _ (.int _ _) (@Go.Eng.VRels.cons ⟨True⟩ _ _ _ _ _ _ _ (.int _ _) (@Go.Eng.VRels.nil ⟨True⟩ _ _ _))))))
  exact this.2
theorem cmpLays (blk off size : Nat) (w : World) : CmpLays Try.prog 18 #[] encA 6 cmpA blk off size w := by
  intro m os dk hs x y
  letI d : Go.Eng.Dr := ⟨True⟩
  have hc := Go.Eng.CallOk.calls_int (kd := .i64) (z := cmpA x y) (fun h n => cmpA_ok x y h n) (vs := [.agg (encA x).toArray, .agg (encA y).toArray]) (w := sortWorldK encA 6 w blk off m dk os) (RO := fun _ => False) (fun b h => h.elim) (.cons (encA_rel _ _ _ x) (.cons (encA_rel _ _ _ y) .nil))
  exact hc.mono fun e w' ⟨he, f⟩ => ⟨he, Go.Eng.frame_grow trivial f⟩
theorem ltA (x y : Alarm) : ltOf cmpA x y = decide (cmpA x y < 0) := rfl
theorem swoA : SWO (ltOf cmpA) where
  irrefl x := by
    have := (cmpA_zero x x).2 rfl
    simp [ltA, this]
  trans x y z h1 h2 := by
    rw [ltA] at *; simp at *
    exact cmpA_lt_trans h1 (by omega)
  ntrans x y z h1 h2 := by
    rw [ltA] at *; simp at *
    have e1 := cmpA_swap x y; have e2 := cmpA_swap y z; have e3 := cmpA_swap x z
    have := @cmpA_le_trans z y x (by omega) (by omega)
    omega
theorem encA_length (x : Alarm) : (encA x).length = 6 := rfl
theorem flat_length (l : List Alarm) : (l.flatMap encA).length = l.length * 6 := by
  induction l with
  | nil => rfl
  | cons x l ih => rw [List.flatMap_cons, List.length_append, encA_length, ih, List.length_cons]; omega
theorem flat_get (l : List Alarm) : ∀ t, t < l.length * 6 → (l.flatMap encA)[t]? = some ((encA (l.getD (t / 6) default)).getD (t % 6) (.bool false)) := by
  induction l with
  | nil => intro t h; simp at h
  | cons x l ih =>
    intro t h
    rw [List.flatMap_cons]
    by_cases q : t < 6
    · rw [List.getElem?_append_left (by rw [encA_length]; exact q), show t / 6 = 0 by omega, show t % 6 = t by omega]
      rw [List.getElem?_eq_getElem (by rw [encA_length]; exact q)]
      have h6 : t < (encA x).length := q
      simp [List.getD, h6]
    · rw [List.getElem?_append_right (by rw [encA_length]; omega), encA_length, ih (t - 6) (by simp at h; omega), show (t - 6) % 6 = t % 6 by omega, show t / 6 = (t - 6) / 6 + 1 by omega]
      simp
theorem flatK_get (d : Array Alarm) (t : Nat) (ht : t < d.size * 6) : (flatK encA 6 d)[t]! = (encA (d.toList.getD (t / 6) default)).getD (t % 6) (.bool false) := by
  rw [get_flatK encA 6 d t ht]
  have hl : t / 6 < d.size := by omega
  have h6 : t % 6 < (encA d[t / 6]).length := Nat.mod_lt _ (by omega)
  have e1 : d[t / 6]! = d[t / 6] := getElem!_pos d (t / 6) hl
  have e2 : d.toList.getD (t / 6) default = d[t / 6] := by simp [List.getD, hl]
  rw [e1, e2, getElem!_pos (encA d[t / 6]) (t % 6) h6]
  simp [List.getD, h6]
theorem put_take {d : Array Alarm} {cur : Array Value} (h : d.size * 6 ≤ cur.size) : (putCells id 0 (flatK encA 6 d) cur).toList.take (d.size * 6) = d.toList.flatMap encA := by
  apply List.ext_getElem?
  intro t
  by_cases q : t < d.size * 6
  · rw [List.getElem?_take_of_lt q, flat_get d.toList t (by simpa using q), ← flatK_get d t q]
    have hq : t < cur.size := by omega
    have hs : t < (flatK encA 6 d).size := by rw [size_flatK]; exact q
    simp [putCells, hq, hs]
    intro h'; omega
  · rw [List.getElem?_eq_none (by simp; omega), List.getElem?_eq_none (by rw [flat_length]; simp; omega)]
theorem holds_of_owns {w : World} {blk : Nat} {cur : Array Value} {l : List Alarm} (hb : w.heap[blk]? = some (.cells cur 34 (0, 0))) (ht : cur.toList.take (l.length * 6) = l.flatMap encA) (hs : l.length * 6 ≤ cur.size) : HoldsK encA 6 w blk 0 l.toArray := by
  intro t ht'
  have ht2 : t < l.length * 6 := by simpa using ht'
  refine ⟨?_, by simp [World.frozen?, hb]⟩
  have h1 : cur[t]? = some ((encA (l.getD (t / 6) default)).getD (t % 6) (.bool false)) := by
    rw [← flat_get l t ht2, ← ht, List.getElem?_take_of_lt ht2]
    simp
  have h2 := flatK_get l.toArray t (by simpa using ht2)
  simp only [World.cell?, hb, id]
  rw [h2, Nat.zero_add]
  exact h1
end Go.Proofs.Ytjjagjehaoidbaa

set_option linter.unusedVariables false
namespace Go.Proofs.Ytjjagjehaoidbaa
open Go.RowKit Go.Shelf Go.Proofs Go.Sort Go.Lib
attribute [local go_sem] Oper.semAt_some
def Ranked (l : List Alarm) : Prop := l.Pairwise fun x y => cmpA x y ≤ 0
theorem sortW_heap {w : World} {blk n : Nat} {d' : Array Alarm} {os : Array Obj} {cur : Array Value} (hb : w.heap[blk]? = some (.cells cur 34 (0, 0))) :
    (sortWorldK encA 6 w blk 0 n d' os).heap[blk]? = some (.cells (putCells id 0 (flatK encA 6 d') cur) 34 (0, 0)) ∧ Below blk w (sortWorldK encA 6 w blk 0 n d' os) := by
  have hlt : blk < w.heap.size := (Array.getElem?_eq_some_iff.1 hb).1
  constructor
  · simp only [sortWorldK, grow, putRowK, putRow, mapBlock, Sort.ahead]
    rw [Array.getElem?_append_left (by simpa using hlt), Array.getElem?_modify, if_pos rfl, hb]
    rfl
  · refine ⟨rfl, rfl, rfl, ?_, fun k hk => ?_⟩
    · simp [sortWorldK, grow, putRowK, putRow, mapBlock, Sort.ahead]
    · simp only [sortWorldK, grow, putRowK, putRow, mapBlock, Sort.ahead]
      rw [Array.getElem?_append_left (by simp; omega), Array.getElem?_modify, if_neg (by omega)]
theorem sortFunc_calls (base : Nat) (v : Value) (l : List Alarm) (hl : l.length ≤ 1000000) (w : World) (hbase : base ≤ w.heap.size) (ho : w.ownsRow base 34 6 v l.length (l.flatMap encA)) :
    Calls Try.prog 31 #[v, .func (.func 18) #[] #[]] w fun e w' => e = .returned (.tuple #[]) ∧ ∃ l', l'.Perm l ∧ Ranked l' ∧ w'.ownsRow base 34 6 v l'.length (l'.flatMap encA) ∧ Below base w w' := by
  rcases ho.2 with ⟨rfl, h0⟩ | ⟨g, cap, cur, rfl, hg, hgb, h1, h2, h3, h4⟩
  · have hn : l = [] := List.length_eq_zero_iff.1 h0
    subst hn
    have := AnyF.slices_SortFunc_none sortA none 0 (.func (.func 18) #[] #[]) w
    exact this.mono fun e w' ⟨he, hw⟩ => ⟨he, [], .refl _, .nil, hw ▸ ho, hw ▸ Below.refl _ _⟩
  · have hH := holds_of_owns hgb h4 (by rw [h3]; exact Nat.mul_le_mul_right _ h1)
    have eg : ∀ args w, (callFunc 18 args).run Try.prog w = .ok (.enter 18 args) w := enters_of Try.func18 (by kernel_rfl) rfl
    have hcon := AnyQ.slices_SortFunc sortA 6 Try.isAgg34 Try.sizeOf34 encA (fun _ => rfl) one_encA cmpA swoA 18 #[] g 0 cap l.toArray w eg (cmpLays g 0 _ w) hH (Array.getElem?_eq_some_iff.1 hgb).1 (by simp; omega)
    have hs0 : l.toArray.size = l.length := by simp
    rw [hs0] at hcon
    change Calls Try.prog 31 _ _ _ at hcon
    refine hcon.mono ?_
    rintro e w' ⟨rfl, d', n, os, hp, hs, rfl⟩
    obtain ⟨q1, q2⟩ := sortW_heap (n := n) (d' := d') (os := os) hgb
    have hsz : d'.size = l.length := by have := hp.1; simpa using this
    have hperm : d'.toList.Perm l := by
      have := hp.2.2
      rw [show d'.extract 0 l.length = d' by rw [← hsz]; simp] at this
      simpa using this
    have hlen : d'.toList.length = l.length := by simpa using hsz
    refine ⟨rfl, d'.toList, hperm, ?_, ⟨?_, .inr ⟨g, cap, _, by rw [hlen], hg, q1, by omega, h2, ?_, ?_⟩⟩, ?_⟩
    · refine List.pairwise_iff_getElem.2 fun i j hi hj hij => ?_
      have hj' : j < d'.size := by simpa using hj
      have hi' : i < d'.size := by simpa using hi
      have := hs i j (Nat.zero_le _) hij (by omega)
      rw [ltA, getElem!_pos d' i hi', getElem!_pos d' j hj'] at this
      have h5 := of_decide_eq_false this
      have h6 := cmpA_swap d'[i] d'[j]
      simp only [Array.getElem_toList]
      omega
    · exact flat_length _
    · simp [putCells, h3]
    · rw [hlen, ← hsz]; exact put_take (by rw [hsz, h3]; exact Nat.mul_le_mul_right _ h1)
    · exact ⟨q2.os, q2.tape, q2.output, q2.size, fun k hk => q2.block k (by omega)⟩
end Go.Proofs.Ytjjagjehaoidbaa

set_option linter.unusedVariables false
namespace Go.Proofs.Ytjjagjehaoidbaa
open Go.RowKit Go.Shelf Go.Proofs Go.Sort Go.Lib
attribute [local go_sem] Oper.semAt_some
theorem enters32 : ∀ args w, (callFunc 32 args).run Try.prog w = .ok (.enter 32 args) w := enters_of Try.func32 (by kernel_rfl) rfl
def SortsIn (F : Fence) (n : Nat) : Prop := ∀ (base : Nat) (v : Value) (l : List Alarm), l.length ≤ 1000000 → ∀ (w : World), base ≤ w.heap.size → w.ownsRow base 34 6 v l.length (l.flatMap encA) →
  CallsIn F n Try.prog 31 #[v, .func (.func 18) #[] #[]] w fun e w' => e = .returned (.tuple #[]) ∧ ∃ l', l'.Perm l ∧ Ranked l' ∧ w'.ownsRow base 34 6 v l'.length (l'.flatMap encA) ∧ Below base w w'
set_option maxRecDepth 100000 in
set_option maxHeartbeats 2000000 in
theorem sortedFunc_in (F : Fence) (g22 : F.fn 22) (g30 : F.fn 30) (g31 : F.fn 31) (g32 : F.fn 32) (g38 : F.fn 38) (gr : F.round = none) (HS : SortsIn F (10 - 1)) (Bs : Nat) (sv : Value) (zs : List Alarm) (hN : zs.length ≤ 1000000) (w : World) (n₀ : Nat) (hn₀ : n₀ ≤ w.heap.size) (hBs : Bs < w.heap.size) (hc : w.cell? ⟨Bs, 0, none⟩ = some sv) (hI : HoldsA n₀ w sv zs) :
    CallsIn F 10 Try.prog 22 #[.func (.func 32) #[] #[.pointer (some ⟨Bs, 0, none⟩)], .func (.func 18) #[] #[]] w fun e w' =>
      ∃ (v : Value) (l : List Alarm), e = .returned v ∧ l.Perm zs ∧ Ranked l ∧ w'.ownsRow w.heap.size 34 6 v l.length (l.flatMap encA) ∧ Below w.heap.size w w' := by
  have hseq := values_stops F (10 - 1 - 1 - 1) g32 gr (by omega) Bs n₀ sv zs (by omega) w hBs hn₀ hc hI
  refine callsIn_of_wp Try.func22 rfl g22 ?_ gr
  simp only [Try.ntmps22, List.size_toArray, List.length_cons, List.length_nil, Nat.reduceAdd, Nat.reduceSub, Array.replicate_succ, Array.replicate_zero, List.push_toArray, List.append_toArray, List.nil_append, List.cons_append]
  gi_wp2_with (first
    | (gi_at_call 30
       refine (collect_in F (10 - 1) g30 g38 gr (by omega) 32 _ g32 enters32 zs hN _ n₀ hn₀ hseq).mono ?_
       rintro e w1 ⟨v, rfl, hrow, hb⟩)
    | (gi_at_call 31
       refine (HS w.heap.size v zs hN w1 hb.size hrow).mono ?_
       rintro e w2 ⟨rfl, l, hp, hr, hrow2, hb2⟩))
  go_ret
  exact ⟨v, l, rfl, hp, hr, hrow2, hb.trans hb2⟩
set_option maxRecDepth 100000 in
set_option maxHeartbeats 2000000 in
theorem sort_in (F : Fence) (g9 : F.fn 9) (g22 : F.fn 22) (g23 : F.fn 23) (g30 : F.fn 30) (g31 : F.fn 31) (g32 : F.fn 32) (g38 : F.fn 38) (gr : F.round = none) (HS : SortsIn F (10 - 1)) (a : Option Addr) (len cap : Nat) (zs : List Alarm) (hN : zs.length ≤ 1000000) (w : World) (hI : HoldsA w.heap.size w (.slice a len cap) zs) :
    CallsIn F 11 Try.prog 9 #[.slice a len cap] w fun e w' =>
      ∃ (v : Value) (l : List Alarm), e = .returned v ∧ l.Perm zs ∧ Ranked l ∧ w'.ownsRow w.heap.size 34 6 v l.length (l.flatMap encA) ∧ Below w.heap.size w w' := by
  refine callsIn_of_wp Try.func9 rfl g9 ?_ gr
  simp only [Try.ntmps9, List.size_toArray, List.length_cons, List.length_nil, Nat.reduceAdd, Nat.reduceSub, Array.replicate_succ, Array.replicate_zero, List.push_toArray, List.append_toArray, List.nil_append, List.cons_append]
  have hb0 : Below w.heap.size w (w.alloc (.cells #[.slice a len cap] 22)) := (Below.refl _ w).alloc (Nat.le_refl _) _
  have hbx := Boxed.new w 22 (.slice a len cap)
  gi_wp2_with (first
    | (gi_at_call 23
       refine (values_in F 10 g23 gr a len cap w).mono ?_
       rintro e w1 ⟨rfl, rfl⟩)
    | (gi_at_call 22
       refine (sortedFunc_in F g22 g30 g31 g32 g38 gr HS w.heap.size (.slice a len cap) zs hN _ w.heap.size (by simp) (by simp) hbx.cell (hI.below hb0)).mono ?_
       rintro e w2 ⟨v, l, rfl, hp, hr, hrow, hb⟩))
  go_ret
  refine ⟨v, l, rfl, hp, hr, ⟨hrow.1, ?_⟩, hb0.trans (hb.mono (by simp))⟩
  rcases hrow.2 with q | ⟨g, cap, cur, q1, q2, q3⟩
  · exact .inl q
  · exact .inr ⟨g, cap, cur, q1, by simp at q2; omega, q3⟩
theorem sort_calls (a : Option Addr) (len cap : Nat) (zs : List Alarm) (hN : zs.length ≤ 1000000) (w : World) (hI : HoldsA w.heap.size w (.slice a len cap) zs) :
    Calls Try.prog 9 #[.slice a len cap] w fun e w' =>
      ∃ (v : Value) (l : List Alarm), e = .returned v ∧ l.Perm zs ∧ Ranked l ∧ w'.ownsRow w.heap.size 34 6 v l.length (l.flatMap encA) ∧ Below w.heap.size w w' :=
  callsIn_wide.1 (sort_in Fence.wide trivial trivial trivial trivial trivial trivial trivial rfl (fun base v l hl w hb ho => callsIn_wide.2 (sortFunc_calls base v l hl w hb ho)) a len cap zs hN w hI)
end Go.Proofs.Ytjjagjehaoidbaa

set_option linter.unusedVariables false
set_option linter.unusedSectionVars false
namespace Go.Eng
variable [Dr]
open Go.RowKit
variable {P : Program} {N : Nat}
theorem CallOk.ofOwns {k : FuncId} {args : List AV} {ty : TypeId} {sz m : Nat} {vals : Nat → Nat → AV} (hD : ¬ Dr.p) (hfn : ∃ fn, P.funcs[k]? = some fn ∧ fn.body.isSome = true) (hs : 1 ≤ sz)
    (hc : ∀ (ρ : Nat → Option Loc) (RO : Nat → Prop) (w : World) (vs : List Value), (∀ b, RO b → b < w.heap.size) → VRels ρ RO w args vs → Calls P k vs.toArray w fun e w' => ∃ (v : Value) (xs : List Value), e = .returned v ∧ Below w.heap.size w w' ∧
      w'.ownsRow w.heap.size ty sz v m xs ∧ ∀ i j, i < m → j < sz → ∃ u, xs[i * sz + j]? = some u ∧ u.oneCell' = true ∧ ∀ ρ RO w, VRel ρ RO w (vals i j) u) :
    CallOk P k args [] 0 (.ret (.sl 0 0 m m)) [(0, some (.row ty sz m vals))] 1 := by
  refine ⟨hfn, fun w0 F ρ RO w vs H hvs => ?_⟩
  refine (hc ρ RO w vs H.ro hvs).mono fun e w' he => ?_
  obtain ⟨v, xs, rfl, hb, hown, hx⟩ := he
  have fr : Frame w0 F w' := ⟨hb.os.trans H.frame.os, hb.tape.trans H.frame.tape, hb.output.trans H.frame.output, Nat.le_trans H.frame.size hb.size,
    fun k hk hF => (hb.block k (Nat.lt_of_lt_of_le hk H.frame.size)).trans (H.frame.block k hk hF), fun d => absurd d hD⟩
  rcases hown.2 with ⟨rfl, h0⟩ | ⟨g, cap, cur, rfl, hg, hgb, h1, h2, h3, h4⟩
  · subst h0
    obtain ⟨ext, fin⟩ := H.add (w' := w') (.row ty sz 0 vals) ⟨0, 0, sz, 0⟩ fr (fun k hk => hb.block k hk) hb.size
    exact ⟨_, RO, ext, fin (.inl ⟨ty, sz, vals, rfl, rfl, rfl, hs⟩), _, rfl, .sl (if_pos rfl) (Nat.le_refl _) (Nat.le_refl _) (fun h => absurd rfl h)⟩
  · obtain ⟨ext, fin⟩ := H.add (w' := w') (.row ty sz m vals) ⟨g, 0, sz, cap * sz⟩ fr (fun k hk => hb.block k hk) hb.size
    have hlt : g < w'.heap.size := (Array.getElem?_eq_some_iff.1 hgb).1
    refine ⟨_, RO, ext, fin (.inr ⟨hg, ⟨rfl, cur, hgb, h3, fun i j hi hj => ?_⟩, hlt, .inl (Nat.le_trans H.frame.size hg), fun hr => by have := H.ro _ hr; simp only at this; omega⟩), _, rfl, .sl (if_pos rfl) (Nat.le_refl _) h1 (fun _ => ⟨by simp, by simp⟩)⟩
    obtain ⟨u, u1, u2, u3⟩ := hx i j hi hj
    refine ⟨u, ?_, u2, u3 _ _ _⟩
    have hij : i * sz + j < m * sz := by
      have : (i + 1) * sz ≤ m * sz := Nat.mul_le_mul_right _ hi
      rw [Nat.add_mul] at this; omega
    rw [Nat.zero_add, ← Array.getElem?_toList, ← u1, ← h4, List.getElem?_take_of_lt hij]
end Go.Eng

set_option linter.unusedVariables false
namespace Go.Proofs.Ytjjagjehaoidbaa
open Go.Eng Go.Proofs
instance drN : Dr := ⟨False⟩
def insA (x : Alarm) : List Alarm → List Alarm
  | [] => [x]
  | y :: l => if cmpA y x ≤ 0 then y :: insA x l else x :: y :: l
def sortA' : List Alarm → List Alarm → List Alarm
  | out, [] => out
  | out, x :: l => sortA' (insA x out) l
def rankA (l : List Alarm) : List Alarm := sortA' [] l
theorem insA_perm (x : Alarm) : ∀ l, (insA x l).Perm (x :: l)
  | [] => .refl _
  | y :: l => by
    simp only [insA]
    split
    · exact ((insA_perm x l).cons y).trans (.swap _ _ _)
    · exact .refl _
theorem insA_ranked (x : Alarm) : ∀ l, Ranked l → Ranked (insA x l)
  | [], _ => List.pairwise_singleton _ _
  | y :: l, h => by
    obtain ⟨h1, h2⟩ := List.pairwise_cons.1 h
    simp only [insA]
    split
    · rename_i hyx
      refine List.pairwise_cons.2 ⟨fun z hz => ?_, insA_ranked x l h2⟩
      rcases List.mem_cons.1 ((insA_perm x l).mem_iff.1 hz) with rfl | hz
      · exact hyx
      · exact h1 z hz
    · rename_i hyx
      have hxy : cmpA x y ≤ 0 := by have := cmpA_swap y x; omega
      refine List.pairwise_cons.2 ⟨fun z hz => ?_, h⟩
      rcases List.mem_cons.1 hz with rfl | hz
      · exact hxy
      · exact cmpA_le_trans hxy (h1 z hz)
theorem sortA'_perm : ∀ l out, (sortA' out l).Perm (out ++ l)
  | [], out => by simp [sortA']
  | x :: l, out => by
    refine (sortA'_perm l (insA x out)).trans ?_
    exact ((insA_perm x out).append_right l).trans (List.perm_middle.symm)
theorem sortA'_ranked : ∀ l out, Ranked out → Ranked (sortA' out l)
  | [], out, h => h
  | x :: l, out, h => sortA'_ranked l _ (insA_ranked x out h)
theorem rankA_perm (l : List Alarm) : (rankA l).Perm l := by simpa [rankA] using sortA'_perm l []
theorem rankA_ranked (l : List Alarm) : Ranked (rankA l) := sortA'_ranked l [] .nil
theorem rankA_unique {l m : List Alarm} (hp : m.Perm l) (hr : Ranked m) : m = rankA l :=
  List.Perm.eq_of_pairwise (fun a b _ _ h1 h2 => (cmpA_zero a b).1 (by have := cmpA_swap a b; omega)) hr (rankA_ranked l) (hp.trans (rankA_perm l).symm)
theorem rankA_length (l : List Alarm) : (rankA l).length = l.length := (rankA_perm l).length_eq
def alarmOf (f : Nat → AV) : Alarm := ⟨⟨toI (f 0), toI (f 1)⟩, toI (f 2), toI (f 3), toI (f 4), toI (f 5)⟩
def rdA (m : Nat) (el : Nat → Nat → AV) : List Alarm := (List.range m).map fun i => alarmOf (el i)
noncomputable def isA (m : Nat) (el : Nat → Nat → AV) : Bool := @decide (∀ i j, i < m → j < 6 → el i j = .int .i64 (toI (el i j))) (Classical.propDecidable _)
theorem isA_iff {m : Nat} {el : Nat → Nat → AV} : isA m el = true ↔ ∀ i j, i < m → j < 6 → el i j = .int .i64 (toI (el i j)) := @decide_eq_true_iff _ (Classical.propDecidable _)
abbrev elA (l : List Alarm) : Nat → Nat → AV := elK Alarm.cells l
abbrev alarmsA (l : List Alarm) : AV := .dsl 6 l.length (elA l)
theorem rdA_length (m : Nat) (el : Nat → Nat → AV) : (rdA m el).length = m := by simp [rdA]
theorem lt6 {j : Nat} (h : j < 6) : j = 0 ∨ j = 1 ∨ j = 2 ∨ j = 3 ∨ j = 4 ∨ j = 5 := by omega
theorem cells_int (x : Alarm) {j : Nat} (h : j < 6) : x.cells.getD j .nilp = .int .i64 (toI (x.cells.getD j .nilp)) := by
  rcases lt6 h with rfl | rfl | rfl | rfl | rfl | rfl <;> rfl
theorem isA_elA (m : Nat) (l : List Alarm) : isA m (elA l) = true := isA_iff.2 fun i j hi hj => cells_int _ hj
theorem rdA_elA (l : List Alarm) : rdA l.length (elA l) = l := by
  apply List.ext_getElem
  · simp [rdA]
  · intro i h1 h2
    simp [rdA, alarmOf, toI, h2]
theorem getD_rdA {m : Nat} {el : Nat → Nat → AV} (h : isA m el = true) (i j : Nat) (hi : i < m) (hj : j < 6) : el i j = elA (rdA m el) i j := by
  rw [isA_iff.1 h i j hi hj]
  have e : (rdA m el).getD i default = alarmOf (el i) := by simp [rdA, hi]
  show _ = ((rdA m el).getD i default).cells.getD j .nilp
  rw [e]
  rcases lt6 hj with rfl | rfl | rfl | rfl | rfl | rfl <;> rfl
theorem flatA_row (m : Nat) (l : List Alarm) : FlatRow m 6 (elA l) := fun i j hi hj => by
  show Flat ((l.getD i default).cells.getD j .nilp)
  rw [cells_int _ hj]; exact .int _ _
theorem bareA_row (m : Nat) (l : List Alarm) : ∀ i j, i < m → j < 6 → bareCell (elA l i j) = true := fun i j hi hj => by
  show bareCell ((l.getD i default).cells.getD j .nilp) = true
  rw [cells_int _ hj]; rfl
theorem ASees.alarms {m : Nat} {el : Nat → Nat → AV} {l l' : List AV} (hi : isA m el = true) (t : ASees l l') : ASees (.dsl 6 m el :: l) (alarmsA (rdA m el) :: l') := by
  refine .cons (fun ρ RO w v hv => ?_) t
  unfold alarmsA
  rw [rdA_length]
  exact hv.dslC fun i k hi' hk => getD_rdA hi i k hi' hk
theorem int_of {ρ : Nat → Option Eng.Loc} {RO : Nat → Prop} {w : World} {u : Value} {z : Int} (h : VRel ρ RO w (.int .i64 z) u) : u = .int .i64 z := by cases h; rfl
theorem holdsA_of {ρ : Nat → Option Eng.Loc} {RO : Nat → Prop} {w : World} {l : List Alarm} {v : Value} (hro : ∀ b, RO b → b < w.heap.size) (h : VRel ρ RO w (alarmsA l) v) : ∃ a c, v = .slice a l.length c ∧ HoldsA w.heap.size w v l := by
  cases h with
  | @dsl sz n c elem A hn vs hA h1 hf hv =>
    refine ⟨A, c, rfl, ?_⟩
    by_cases h0 : l.length = 0
    · have : l = [] := List.length_eq_zero_iff.1 h0
      subst this
      exact .inl ⟨⟨A, c, rfl⟩, rfl⟩
    · obtain ⟨blk, o, rfl, hr, hcell⟩ := hA h0
      refine .inr ⟨blk, o, c, rfl, hro blk hr, fun i hi j hj => ?_⟩
      rw [Nat.add_assoc, hcell i j hi hj]
      have hvj := hv i j hi hj
      have e : elA l i j = (l.getD i default).cells.getD j .nilp := rfl
      rw [e] at hvj
      congr 1
      rcases lt6 hj with rfl | rfl | rfl | rfl | rfl | rfl <;> exact int_of hvj
theorem body9 : ∃ fn, Try.prog.funcs[9]? = some fn ∧ fn.body.isSome = true := ⟨_, Try.func9, by kernel_rfl⟩
def rowRes (l : List Alarm) : LRes := ⟨fun n => .sl n 0 l.length l.length, fun n => [(n, some (.row 34 6 l.length (elA l)))], 1⟩
theorem rowRes_ok (l : List Alarm) : LResOk (rowRes l) := ⟨fun n => rfl, fun n => rfl, bareA_row _ _, True.intro⟩
theorem sort_ok (l : List Alarm) (hl : l.length ≤ 1000000) : CallOk Try.prog 9 [alarmsA l] [] 0 (.ret ((rowRes (rankA l)).val 0)) ((rowRes (rankA l)).objs 0) 1 := by
  refine CallOk.ofOwns (fun h => h) body9 (by decide) fun ρ RO w vs hro hvs => ?_
  obtain ⟨v, t, rfl, hv, ht⟩ := hvs.inv_cons
  obtain rfl := ht.inv_nil
  obtain ⟨a, c, rfl, hh⟩ := holdsA_of hro hv
  refine (sort_calls a l.length c l hl w hh).mono fun e w' he => ?_
  obtain ⟨v, m, rfl, hp, hr, hown, hb⟩ := he
  obtain rfl := rankA_unique hp hr
  refine ⟨v, _, rfl, hb, hown, fun i j hi hj => ?_⟩
  have hij : i * 6 + j < (rankA l).length * 6 := by omega
  refine ⟨_, flat_get _ _ hij, ?_, fun ρ RO w => ?_⟩
  · rw [show (i * 6 + j) % 6 = j by omega]
    rcases lt6 hj with rfl | rfl | rfl | rfl | rfl | rfl <;> rfl
  · rw [show (i * 6 + j) / 6 = i by omega, show (i * 6 + j) % 6 = j by omega]
    show VRel ρ RO w (((rankA l).getD i default).cells.getD j .nilp) _
    rcases lt6 hj with rfl | rfl | rfl | rfl | rfl | rfl <;> exact .int _ _
noncomputable def gSort : List AV → Option (LRes × Conds) := fun l => match l with
  | [.dsl 6 m el] => some (rowRes (rankA (rdA m el)), [(isA m el, true), (decide (m ≤ 1000000), true)])
  | _ => none
theorem gSort_ok : LOk Try.prog 9 gSort := by
  intro args r c e hc
  unfold gSort at e
  split at e
  · rename_i m el
    cases e
    have h1 := hc (isA m el, true) (by simp)
    have h2 := of_decide_eq_true (hc (decide (m ≤ 1000000), true) (by simp))
    exact ⟨(sort_ok (rdA m el) (by rw [rdA_length]; exact h2)).sees (ASees.alarms h1 .nil), rowRes_ok _⟩
  · cases e
end Go.Proofs.Ytjjagjehaoidbaa

set_option linter.unusedVariables false
namespace Go.Proofs.Ytjjagjehaoidbaa
open Go.Eng Go.Proofs
abbrev eqAB (x y : Alarm) : Bool := (x.spot.bed == y.spot.bed && x.spot.channel == y.spot.channel) && (x.phase == y.phase && (x.prio == y.prio && (x.since == y.since && x.until_ == y.until_)))
theorem eqAB_iff (x y : Alarm) : eqAB x y = true ↔ x = y := by
  rcases x with ⟨⟨a1, a2⟩, a3, a4, a5, a6⟩
  rcases y with ⟨⟨b1, b2⟩, b3, b4, b5, b6⟩
  simp only [eqAB, Alarm.mk.injEq, Spot.mk.injEq, Bool.and_eq_true, beq_iff_eq]
theorem wrap_sub {x : Int} (h : -9223372036854775808 ≤ x ∧ x ≤ 9223372036854775807) : IntKind.i64.wrap x = x := by
  simp [IntKind.wrap, IntKind.bits, IntKind.signed]; omega
theorem wrap_nat (i : Nat) (h : i ≤ 1000000000) : IntKind.i64.wrap ((i : Int) + 1) = ((i + 1 : Nat) : Int) := by rw [wrap_sub (by omega)]; rfl
noncomputable instance : DecidableEq Alarm := fun a b => Classical.propDecidable (a = b)
noncomputable abbrev cf0f : CallF := runG Try.prog (entΔ []) 60 4
theorem cf0 : CfOk Try.prog cf0f := runG_ok noNum mixed (entΔ_ok (List.forall_mem_nil _)) _
noncomputable def bd14 : Code := loopOf ((blocksOf 0 (codeAt Try.prog 14)).headD .skip)
theorem lp14_eq : blocksOf 0 (codeAt Try.prog 14) = [.loop bd14] := by kernel_rfl
noncomputable def run14 : Run := runC2 Try.prog (tmpsAt Try.prog 14) cf0f 60 bd14
theorem run14_ok : RunW Try.prog (tmpsAt Try.prog 14) bd14 run14 := (runC2_ok noNum mixed cf0 _).toW
abbrev env14 (a b : List Alarm) (i : Int) : Env := [(0, some (alarmsA a)), (1, some (alarmsA b)), (5, some (.int .i64 i))]
theorem s14_go (a b : List Alarm) (i : Int) : cutR [] [0, 1, 5] (run14 (env14 a b i) [] 0 [.go 0 true, .go 0 false]) = some (.normal, env14 a b (IntKind.i64.wrap (i + 1)), [],
    [(true, decide (i < (a.length : Int))), (decide (0 ≤ i ∧ i < (a.length : Int)), true), (decide (0 ≤ i ∧ i < (b.length : Int)), true), (false, !eqAB (a.getD i.toNat default) (b.getD i.toNat default))]) := by kernel_rfl
theorem s14_no (a b : List Alarm) (i : Int) : cutR [] [4] (run14 (env14 a b i) [] 0 [.go 0 true, .go 0 true]) = some (.ret, [(4, some (.bool false))], [],
    [(true, decide (i < (a.length : Int))), (decide (0 ≤ i ∧ i < (a.length : Int)), true), (decide (0 ≤ i ∧ i < (b.length : Int)), true), (true, !eqAB (a.getD i.toNat default) (b.getD i.toNat default))]) := by kernel_rfl
theorem s14_end (a b : List Alarm) (i : Int) : cutR [] [] (run14 (env14 a b i) [] 0 [.go 0 false]) = some (.exit 0, [], [], [(false, decide (i < (a.length : Int)))]) := by kernel_rfl
def sameFrom (a b : List Alarm) (i : Nat) : Prop := a.drop i = b.drop i
theorem same_step {a b : List Alarm} {i : Nat} (ha : i < a.length) (hb : i < b.length) : sameFrom a b i ↔ (a.getD i default = b.getD i default ∧ sameFrom a b (i + 1)) := by
  unfold sameFrom
  have e1 : a.getD i default = a[i] := by simp [ha]
  have e2 : b.getD i default = b[i] := by simp [hb]
  rw [e1, e2, List.drop_eq_getElem_cons ha, List.drop_eq_getElem_cons hb, List.cons.injEq]
theorem rounds14 (a b : List Alarm) (hl : a.length = b.length) (hn : a.length ≤ 1000000) : ∀ (k i : Nat), a.length - i = k → i ≤ a.length →
    (sameFrom a b i → WRok Try.prog (tmpsAt Try.prog 14) bd14 (env14 a b i) [] 0 (.exit 0) [] [] 0) ∧
    (¬ sameFrom a b i → WRok Try.prog (tmpsAt Try.prog 14) bd14 (env14 a b i) [] 0 .ret [(4, some (.bool false))] [] 0)
  | 0, i, hk, hi => by
    refine ⟨fun _ => .exit (pieceF (T := []) (n' := 0) run14_ok (s14_end a b i) rfl rfl True.intro (conds_cons (decide_eq_false (by omega)).symm conds_nil)) (by simp), fun h => absurd ?_ h⟩
    unfold sameFrom
    rw [List.drop_eq_nil_of_le (by omega), List.drop_eq_nil_of_le (by omega)]
  | k + 1, i, hk, hi => by
    have ha : i < a.length := by omega
    have hb : i < b.length := by omega
    have d1 : true = decide ((i : Int) < (a.length : Int)) := (decide_eq_true (by omega)).symm
    have d2 : decide (0 ≤ (i : Int) ∧ (i : Int) < (a.length : Int)) = true := decide_eq_true (by omega)
    have d3 : decide (0 ≤ (i : Int) ∧ (i : Int) < (b.length : Int)) = true := decide_eq_true (by omega)
    obtain ⟨r1, r2⟩ := rounds14 a b hl hn k (i + 1) (by omega) (by omega)
    by_cases q : a.getD i default = b.getD i default
    · have d4 : false = !eqAB (a.getD (i : Int).toNat default) (b.getD (i : Int).toNat default) := by
        rw [Int.toNat_natCast, (eqAB_iff _ _).2 q]; rfl
      have st := pieceF (T := []) (n' := 0) run14_ok (s14_go a b i) rfl rfl True.intro (conds_cons d1 (conds_cons d2 (conds_cons d3 (conds_cons d4 conds_nil))))
      rw [wrap_nat i (by omega)] at st
      exact ⟨fun h => .step st (r1 ((same_step ha hb).1 h).2), fun h => .step st (r2 fun h' => h ((same_step ha hb).2 ⟨q, h'⟩))⟩
    · have d4 : true = !eqAB (a.getD (i : Int).toNat default) (b.getD (i : Int).toNat default) := by
        rw [Int.toNat_natCast]
        cases hq : eqAB (a.getD i default) (b.getD i default) with
        | true => exact absurd ((eqAB_iff _ _).1 hq) q
        | false => rfl
      have st := pieceF (T := []) (n' := 0) run14_ok (s14_no a b i) rfl rfl True.intro (conds_cons d1 (conds_cons d2 (conds_cons d3 (conds_cons d4 conds_nil))))
      exact ⟨fun h => absurd ((same_step ha hb).1 h).1 q, fun _ => .exit st (by simp)⟩
noncomputable def lam14 (a b : List Alarm) : Run := lamIf [] [0, 1, 5] (env14 a b 0) [] (decide (a = b)) .normal [] [] .ret [(4, some (.bool false))] [] 0 (decide (a.length = b.length) && decide (a.length ≤ 1000000))
theorem lam14_ok (a b : List Alarm) : RunW Try.prog (tmpsAt Try.prog 14) (.block 0 (.loop bd14)) (lam14 a b) := by
  refine lamIf_ok (n0 := 0) rfl True.intro (fun hg hb => ?_) (fun hg hb => ?_)
  · simp only [Bool.and_eq_true, decide_eq_true_eq] at hg
    have hb := of_decide_eq_true hb
    exact ((rounds14 a b hg.1 hg.2 _ 0 rfl (Nat.zero_le _)).1 (by rw [hb]; rfl)).loop.block (id := 0)
  · simp only [Bool.and_eq_true, decide_eq_true_eq] at hg
    have hb := of_decide_eq_false hb
    exact ((rounds14 a b hg.1 hg.2 _ 0 rfl (Nat.zero_le _)).2 (fun h => hb (by simpa [sameFrom] using h))).loop.block (id := 0)
theorem lams14 (a b : List Alarm) (fn : Func) (cd : Code) (hfn : Try.prog.funcs[14]? = some fn) (hb : fn.body = some cd) : LamW Try.prog fn.ntmps cd (lams [(0, lam14 a b)]) := by
  obtain ⟨rfl, h2⟩ := codeAt_eq hfn hb
  rw [h2]
  exact lamsW (List.forall_mem_cons.2 ⟨⟨_, lp14_eq, lam14_ok a b⟩, List.forall_mem_nil _⟩)
noncomputable abbrev call14 (a b : List Alarm) (ds : List Dec) : Option (Came AEnd) := callLam Try.prog (lams [(0, lam14 a b)]) 60 cf0f 14 [alarmsA a, alarmsA b] [] 0 ds
theorem w14a (a b : List Alarm) : resOf (call14 a b [.go 0 true]) = some (.ret (.bool false), [(true, (a.length : Int) != (b.length : Int))]) := by kernel_rfl
theorem w14b (a b : List Alarm) : resOf (call14 a b [.go 0 false, .go 0 true]) = some (.ret (.bool true), [(false, (a.length : Int) != (b.length : Int)), (true, decide (a = b)), (eqO (some (env14 a b 0)) (some (env14 a b 0)), true), (eqO (some ([] : Heap)) (some []), true), (decide (a.length = b.length) && decide (a.length ≤ 1000000), true)]) := by kernel_rfl
theorem w14c (a b : List Alarm) : resOf (call14 a b [.go 0 false, .go 0 false]) = some (.ret (.bool false), [(false, (a.length : Int) != (b.length : Int)), (false, decide (a = b)), (eqO (some (env14 a b 0)) (some (env14 a b 0)), true), (eqO (some ([] : Heap)) (some []), true), (decide (a.length = b.length) && decide (a.length ≤ 1000000), true)]) := by kernel_rfl
theorem same_ok (a b : List Alarm) (hl : a.length ≤ 1000000) (h : Heap) (n : Nat) : CallOk Try.prog 14 [alarmsA a, alarmsA b] h n (.ret (.bool (decide (a = b)))) h n := by
  by_cases q : a.length = b.length
  · have c1 : false = ((a.length : Int) != (b.length : Int)) := by simp [q]
    have c2 : (decide (a.length = b.length) && decide (a.length ≤ 1000000)) = true := by simp [q]; omega
    by_cases e : a = b
    · have c3 : true = decide (a = b) := (decide_eq_true e).symm
      rw [← c3]
      exact wayW noNum mixed cf0 (lams14 a b) (w14b a b) (conds_cons c1 (conds_cons c3 (conds_cons (eqO_self _) (conds_cons (eqO_self _) (conds_cons c2 conds_nil))))) rfl rfl h n
    · have c3 : false = decide (a = b) := (decide_eq_false e).symm
      rw [← c3]
      exact wayW noNum mixed cf0 (lams14 a b) (w14c a b) (conds_cons c1 (conds_cons c3 (conds_cons (eqO_self _) (conds_cons (eqO_self _) (conds_cons c2 conds_nil))))) rfl rfl h n
  · have e : decide (a = b) = false := decide_eq_false fun h => q (by rw [h])
    rw [e]
    exact wayW noNum mixed cf0 (lams14 a b) (w14a a b) (conds_cons (by simp; omega) conds_nil) rfl rfl h n
def valRes (v : AV) : LRes := ⟨fun _ => v, fun _ => [], 0⟩
noncomputable def gSame : List AV → Option (LRes × Conds) := fun l => match l with
  | [.dsl 6 m el, .dsl 6 m' el'] => some (valRes (.bool (decide (rdA m el = rdA m' el'))), [(isA m el, true), (isA m' el', true), (decide (m ≤ 1000000), true)])
  | _ => none
theorem gSame_ok : LOk Try.prog 14 gSame := by
  intro args r c e hc
  unfold gSame at e
  split at e
  · rename_i m el m' el'
    cases e
    have h1 := hc (isA m el, true) (by simp)
    have h2 := hc (isA m' el', true) (by simp)
    have h3 := of_decide_eq_true (hc (decide (m ≤ 1000000), true) (by simp))
    exact ⟨(same_ok (rdA m el) (rdA m' el') (by rw [rdA_length]; exact h3) [] 0).sees (ASees.alarms h1 (ASees.alarms h2 .nil)), fun n => rfl, fun n => rfl, True.intro⟩
  · cases e
end Go.Proofs.Ytjjagjehaoidbaa

set_option linter.unusedVariables false
set_option linter.unusedSectionVars false
namespace Go.Eng
variable [Dr]
open Go.RowKit
variable {P : Program} {N : Nat}
def wpL (P : Program) : List Code → (Exit → Act → World → Prop) → Act → World → Prop
  | [], Q, a, w => Q .normal a w
  | c :: r, Q, a, w => c.wp P (Exit.then (wpL P r Q) Q) a w
theorem then_mono {K K' : Act → World → Prop} {Q Q' : Exit → Act → World → Prop} (hk : ∀ a w, K a w → K' a w) (hq : ∀ x a w, Q x a w → Q' x a w) : ∀ x a w, Exit.then K Q x a w → Exit.then K' Q' x a w := by
  intro x a w h
  cases x <;> first | exact hk _ _ h | exact hq _ _ _ h
def WLOk (P : Program) (N : Nat) (l : List Code) (env : Env) (h : Heap) (n : Nat) (x : AExit) (env' : Env) (h' : Heap) (n' : Nat) : Prop :=
  ∀ (w0 : World) (F : Nat → Prop) (ρ : Nat → Option Loc) (RO : Nat → Prop) (a : Act) (w : World), HRel w0 F h n ρ RO w → ARel N ρ RO w env a → wpL P l (PostW w0 F N RO w x env' h' n') a w
theorem wpL_mono {Q Q' : Exit → Act → World → Prop} (hq : ∀ x a w, Q x a w → Q' x a w) : ∀ {l : List Code} {a : Act} {w : World}, wpL P l Q a w → wpL P l Q' a w
  | [], a, w, h => hq _ _ _ h
  | c :: r, a, w, h => by
    have h : c.wp P (Exit.then (wpL P r Q) Q) a w := h
    exact wp_mono h (then_mono (fun _ _ => wpL_mono hq) hq)
theorem WLOk.append {l1 l2 : List Code} {env env1 env' : Env} {h h1 h' : Heap} {n n1 n' : Nat} {x : AExit} (o1 : WLOk P N l1 env h n .normal env1 h1 n1) (o2 : WLOk P N l2 env1 h1 n1 x env' h' n') : WLOk P N (l1 ++ l2) env h n x env' h' n' := by
  intro w0 F ρ RO a w H A
  have key : ∀ (l : List Code) (a : Act) (w1 : World), wpL P l (PostW w0 F N RO w .normal env1 h1 n1) a w1 → wpL P (l ++ l2) (PostW w0 F N RO w x env' h' n') a w1 := by
    intro l
    induction l with
    | nil =>
      intro a w1 q
      obtain ⟨ρ', RO', p1, p2, p3, p4⟩ := q
      exact wpL_mono (fun x a' w' q => q.trans p1) (o2 w0 F ρ' RO' a w1 p2 p4)
    | cons c r ih =>
      intro a w1 q
      have q : c.wp P (Exit.then (wpL P r (PostW w0 F N RO w .normal env1 h1 n1)) (PostW w0 F N RO w .normal env1 h1 n1)) a w1 := q
      refine wp_mono q fun e a' w' q => ?_
      cases e with
      | normal => exact ih _ _ q
      | _ =>
        obtain ⟨ρ', RO', p1, p2, p3, p4⟩ := q
        cases p3
  exact key l1 a w (o1 w0 F ρ RO a w H A)
theorem WLOk.stop {l1 l2 : List Code} {env env' : Env} {h h' : Heap} {n n' : Nat} {x : AExit} (o1 : WLOk P N l1 env h n x env' h' n') (hx : x ≠ .normal) : WLOk P N (l1 ++ l2) env h n x env' h' n' := by
  intro w0 F ρ RO a w H A
  have key : ∀ (l : List Code) (a : Act) (w1 : World), wpL P l (PostW w0 F N RO w x env' h' n') a w1 → wpL P (l ++ l2) (PostW w0 F N RO w x env' h' n') a w1 := by
    intro l
    induction l with
    | nil =>
      intro a w1 q
      obtain ⟨ρ', RO', p1, p2, p3, p4⟩ := q
      exact absurd (xrel_normal p3) hx
    | cons c r ih =>
      intro a w1 q
      have q : c.wp P (Exit.then (wpL P r (PostW w0 F N RO w x env' h' n')) (PostW w0 F N RO w x env' h' n')) a w1 := q
      refine wp_mono q fun e a' w' q => ?_
      cases e with
      | normal => exact ih _ _ q
      | _ => exact q
  exact key l1 a w (o1 w0 F ρ RO a w H A)
theorem WLOk.pre {l : List Code} {env env2 env' : Env} {h h2 h' : Heap} {n n2 n' : Nat} {x : AExit} (s : Sees N env h n env2 h2 n2) (o : WLOk P N l env2 h2 n2 x env' h' n') : WLOk P N l env h n x env' h' n' := by
  intro w0 F ρ RO a w H A
  obtain ⟨ρ', H', A'⟩ := s w0 F ρ RO a w H A
  exact o w0 F ρ' RO a w H' A'
theorem WLOk.post {l : List Code} {env env' env2 : Env} {h h' h2 : Heap} {n n' n2 : Nat} {x : AExit} (o : WLOk P N l env h n x env' h' n') (hx : plainX x = true) (s : Sees N env' h' n' env2 h2 n2) : WLOk P N l env h n x env2 h2 n2 := by
  intro w0 F ρ RO a w H A
  refine wpL_mono (fun x' a' w' q => ?_) (o w0 F ρ RO a w H A)
  obtain ⟨ρ', RO', p1, p2, p3, p4⟩ := q
  obtain ⟨ρ2, H2, A2⟩ := s _ _ _ _ _ _ p2 p4
  exact ⟨ρ2, RO', p1, H2, p3.plain hx, A2⟩
end Go.Eng

set_option linter.unusedVariables false
set_option linter.unusedSectionVars false
namespace Go.Eng
variable [Dr]
open Go.RowKit
variable {P : Program} {N : Nat}
def resAt (P : Program) (k : FuncId) (env : Env) (h : Heap) (n : Nat) : Option AV := match P.funcs[k]? with
  | some fn => match resA P env h n fn.results.toList with | some l => some (oneOf l) | none => none
  | none => none
theorem call_of_w {k : FuncId} {args : List AV} {env' : Env} {h' : Heap} {n' : Nat} {v : AV} {x : AExit} (hfn : ∃ fn, P.funcs[k]? = some fn ∧ fn.body.isSome = true) (hle : Nat.ble args.length (tmpsAt P k) = true) (hx : x = .ret ∨ x = .normal)
    (o : WOk P (tmpsAt P k) (codeAt P k) (params args 0) [] 0 x env' h' n') (hres : resAt P k env' h' n' = some v) : CallOk P k args [] 0 (.ret v) h' n' := by
  obtain ⟨fn, hfn, hb⟩ := hfn
  obtain ⟨c, hbody⟩ := Option.isSome_iff_exists.1 hb
  obtain ⟨hc, ht⟩ := codeAt_eq hfn hbody
  rw [← hc, ← ht] at o
  rw [← ht] at hle
  let run : Run := fun env h n ds => match n with
    | 0 => @ite _ (env = params args 0 ∧ h = []) (Classical.propDecidable _) (some ⟨⟨x, env'⟩, h', n', ds, []⟩) none
    | _ + 1 => none
  have hrun : RunW P fn.ntmps c run := by
    intro env h n ds r e hc
    cases n with
    | zero =>
      simp only [run] at e
      split at e
      · rename_i hq
        obtain ⟨rfl, rfl⟩ := hq
        cases e
        exact o
      · cases e
    | succ n => cases e
  have e1 : run (params args 0) [] 0 [] = some ⟨⟨x, env'⟩, h', n', [], []⟩ := by
    simp [run]
  refine call_of_run (run := fun env h n ds => match n with | 0 => run env h 0 ds | _ + 1 => none) (ds := []) (r := ⟨.ret v, h', n', [], []⟩) hfn hbody hrun.start (Nat.le_of_ble_eq_true hle) ?_ (fun c hc => by cases hc)
  show endOf P fn (run (params args 0) [] 0 []) = _
  rw [e1]
  unfold resAt at hres
  rw [hfn] at hres
  simp only at hres
  split at hres
  · rename_i l hl
    cases hres
    rcases hx with rfl | rfl <;> simp only [endOf, hl]
  · cases hres
noncomputable def bodyRun (P : Program) (Λ : Lam) (fuel : Nat) (cf : CallF) (k : FuncId) (args : List AV) (ds : List Dec) : Option (Came AOut) := runC3 P Λ (tmpsAt P k) cf fuel (codeAt P k) (params args 0) [] 0 ds
theorem wayT {Λ : Lam} {cf : CallF} {fuel : Nat} {k : FuncId} {args : List AV} {ds : List Dec} {T : Ren} {ts : List Nat} {x : AExit} {env' : Env} {h' h2 : Heap} {n' : Nat} {v : AV} {c : Conds} (hP : NoNum P) (hm : P.follows .mixedOrders = true) (hcf : CfOk P cf)
    (hl : LamW P (tmpsAt P k) (codeAt P k) Λ) (hfn : ∃ fn, P.funcs[k]? = some fn ∧ fn.body.isSome = true) (e : cutR T ts (bodyRun P Λ fuel cf k args ds) = some (x, env', h', c)) (hle : Nat.ble args.length (tmpsAt P k) = true) (hx : x = .ret ∨ x = .normal)
    (ht : tOk T n' = true) (hf : FlatHeap h') (hc : ∀ x ∈ c, x.1 = x.2) (hr : HRef h' h2) (hres : resAt P k env' h2 n' = some v) : CallOk P k args [] 0 (.ret v) h2 n' := by
  have hpx : plainX x = true := by rcases hx with rfl | rfl <;> rfl
  exact call_of_w hfn hle hx ((pieceF (runC3_okW hP hm hcf _ hl) e hpx ht hf hc).sees hpx hr) hres
theorem lams_nil {body : Code} : LamW P N body (lams []) := lamsW (List.forall_mem_nil _)
theorem HRef.one {id : Nat} {o o' : AObj} {h : Heap} (r : ORef o o') : HRef ((id, some o) :: h) [(id, some o')] := HRef.cons (by rw [lookH_cons, if_pos rfl]) r .nil
theorem HRef.refl (h : Heap) : HRef h h := fun id o e => ⟨o, e, ORef.refl o⟩
end Go.Eng

set_option linter.unusedVariables false
namespace Go.Proofs.Ytjjagjehaoidbaa
open Go.Eng Go.Proofs
abbrev rowA (m : Nat) (l : List Alarm) : Option AObj := some (.row 34 6 m (elA l))
theorem flat_rowA (m : Nat) (l : List Alarm) : FlatHeap [(0, rowA m l)] := ⟨flatA_row m l, True.intro⟩
noncomputable abbrev cf26f : CallF := runG Try.prog (entΔ []) 60 8
theorem cf26 : CfOk Try.prog cf26f := runG_ok noNum mixed (entΔ_ok (List.forall_mem_nil _)) _
abbrev twoA (a b : List Alarm) : AV := .dsl 1 2 fun i _ => bif Nat.beq i 0 then alarmsA a else alarmsA b
abbrev sumW (a b : List Alarm) : Int := IntKind.i64.wrap (IntKind.i64.wrap (0 + (a.length : Int)) + (b.length : Int))
abbrev sizW (a b : List Alarm) : Int := IntKind.i64.wrap (sumW a b - IntKind.i64.wrap (0 - 0))
abbrev zC : List AV := [.int .i64 0, .int .i64 0, .int .i64 0, .int .i64 0, .int .i64 0, .int .i64 0]
theorem conA (a b : List Alarm) : cutR [(2, 0)] [2] (bodyRun Try.prog (lams []) 60 cf26f 26 [twoA a b] [.go 1 false, .go 1 false, .go 1 false, .go 0 true]) =
    some (.ret, [(2, some (.sl 0 0 (0 - 0 + a.length + b.length) (0 - 0 + a.length + b.length)))],
      [(0, some (.row 34 6 (0 - 0 + a.length + b.length) fun i c => if i < 0 - 0 + a.length then (if 0 + i < 0 - 0 then zC.getD c .nilp else elA a (0 + i - (0 - 0)) c) else elA b (i - (0 - 0 + a.length)) c))],
      [(true, true), (false, decide (IntKind.i64.wrap (0 + (a.length : Int)) < 0)), (true, true), (false, decide (sumW a b < 0)), (false, decide (sumW a b < 0)), (true, decide (sizW a b > 0)), (true, true),
       (decide (0 ≤ sizW a b ∧ sizW a b * 48 ≤ 140737488355328 ∧ sizW a b ≤ 140737488355328), true), (true, true), (true, true), (true, true), (decide ((0 - 0 + a.length) * 48 ≤ 140737488355328), true), (true, true), (true, true), (true, true),
       (decide ((0 - 0 + a.length + b.length) * 48 ≤ 140737488355328), true), (decide (0 + (0 - 0 + a.length) ≤ 0 - 0 + a.length), true)]) := by kernel_rfl
theorem conB (a b : List Alarm) : cutR [(1, 0)] [2] (bodyRun Try.prog (lams []) 60 cf26f 26 [twoA a b] [.go 1 false, .go 1 false, .go 1 false, .go 0 false]) =
    some (.ret, [(2, some (.sl 0 0 (a.length + b.length) (a.length + b.length)))],
      [(0, some (.row 34 6 (a.length + b.length) fun i c => if i < a.length then elA a (0 + i) c else elA b (i - a.length) c))],
      [(true, true), (false, decide (IntKind.i64.wrap (0 + (a.length : Int)) < 0)), (true, true), (false, decide (sumW a b < 0)), (false, decide (sumW a b < 0)), (false, decide (sizW a b > 0)), (true, true), (true, true),
       (decide (a.length * 48 ≤ 140737488355328), true), (true, true), (true, true), (decide ((a.length + b.length) * 48 ≤ 140737488355328), true), (decide (0 + a.length ≤ a.length), true)]) := by kernel_rfl
theorem body26 : ∃ fn, Try.prog.funcs[26]? = some fn ∧ fn.body.isSome = true := ⟨_, Try.func26, by kernel_rfl⟩
theorem elA_app (a b : List Alarm) (i c : Nat) : elA (a ++ b) i c = if i < a.length then elA a i c else elA b (i - a.length) c := by
  have e : (a ++ b).getD i default = if i < a.length then a.getD i default else b.getD (i - a.length) default := by
    by_cases q : i < a.length
    · simp [q, List.getElem?_append_left q]
    · rw [if_neg q]; simp [List.getElem?_append_right (Nat.le_of_not_lt q)]
  show ((a ++ b).getD i default).cells.getD c .nilp = _
  rw [e]
  split <;> rfl
theorem concat_ok (a b : List Alarm) (hl : a.length + b.length ≤ 1000000) : CallOk Try.prog 26 [twoA a b] [] 0 (.ret (.sl 0 0 (a ++ b).length (a ++ b).length)) [(0, rowA (a ++ b).length (a ++ b))] 1 := by
  have e1 : IntKind.i64.wrap (0 + (a.length : Int)) = a.length := by rw [wrap_sub (by omega)]; omega
  have e2 : sumW a b = (a.length : Int) + b.length := by unfold sumW; rw [e1, wrap_sub (by omega)]
  have e3 : sizW a b = (a.length : Int) + b.length := by
    unfold sizW; rw [e2, show IntKind.i64.wrap (0 - 0) = 0 by decide, wrap_sub (by omega)]; omega
  have hlen : (a ++ b).length = a.length + b.length := by simp
  have flat : FlatRow (0 - 0 + a.length + b.length) 6 fun i c => if i < 0 - 0 + a.length then (if 0 + i < 0 - 0 then zC.getD c .nilp else elA a (0 + i - (0 - 0)) c) else elA b (i - (0 - 0 + a.length)) c := by
    intro i c hi hc
    dsimp only
    split
    · rw [if_neg (by omega)]; exact flatA_row a.length a _ c (by omega) hc
    · exact flatA_row b.length b _ c (by omega) hc
  by_cases h0 : a.length + b.length = 0
  · have flat2 : FlatRow (a.length + b.length) 6 fun i c => if i < a.length then elA a (0 + i) c else elA b (i - a.length) c := fun i c hi => by omega
    refine wayT (n' := 1) noNum mixed cf26 lams_nil body26 (conB a b) rfl (.inl rfl) rfl ⟨flat2, True.intro⟩ (conds_cons rfl (conds_cons (by rw [e1]; simp) (conds_cons rfl (conds_cons (by rw [e2]; simp; omega) (conds_cons (by rw [e2]; simp; omega) (conds_cons (by rw [e3]; simp; omega) (conds_cons rfl (conds_cons rfl (conds_cons (by simp; omega) (conds_cons rfl (conds_cons rfl (conds_cons (by simp; omega) (conds_cons (by simp) conds_nil))))))))))))) (HRef.one ⟨(a ++ b).length, elA (a ++ b), rfl, by omega, fun i k hi hk => by omega⟩) ?_
    rw [hlen]; rfl
  · refine wayT (n' := 1) noNum mixed cf26 lams_nil body26 (conA a b) rfl (.inl rfl) rfl ⟨flat, True.intro⟩ (conds_cons rfl (conds_cons (by rw [e1]; simp) (conds_cons rfl (conds_cons (by rw [e2]; simp; omega) (conds_cons (by rw [e2]; simp; omega) (conds_cons (by rw [e3]; simp; omega) (conds_cons rfl (conds_cons (by rw [e3]; simp; omega) (conds_cons rfl (conds_cons rfl (conds_cons rfl (conds_cons (by simp; omega) (conds_cons rfl (conds_cons rfl (conds_cons rfl (conds_cons (by simp; omega) (conds_cons (by simp) conds_nil))))))))))))))))) (HRef.one ⟨(a ++ b).length, elA (a ++ b), rfl, by omega, fun i k hi hk => ?_⟩) ?_
    · rw [elA_app a b i k]
      simp only [Nat.sub_self, Nat.zero_add, Nat.sub_zero, Nat.not_lt_zero, if_false]
    · rw [hlen, show 0 - 0 + a.length + b.length = a.length + b.length by omega]; rfl
end Go.Proofs.Ytjjagjehaoidbaa

set_option linter.unusedVariables false
namespace Go.Proofs.Ytjjagjehaoidbaa
open Go.Eng Go.Proofs
noncomputable abbrev cf24f : CallF := runG Try.prog (entΔ []) 60 4
theorem cf24 : CfOk Try.prog cf24f := runG_ok noNum mixed (entΔ_ok (List.forall_mem_nil _)) _
noncomputable def bd24 : Code := loopOf ((blocksOf 0 (codeAt Try.prog 24)).headD .skip)
theorem lp24_eq : blocksOf 0 (codeAt Try.prog 24) = [.loop bd24] := by kernel_rfl
noncomputable def run24 : Run := runC2 Try.prog (tmpsAt Try.prog 24) cf24f 60 bd24
theorem run24_ok : RunW Try.prog (tmpsAt Try.prog 24) bd24 run24 := (runC2_ok noNum mixed cf24 _).toW
abbrev spotF (s : Spot) : AV := .fn (.func 25) [] [.dptr 2 fun k => s.cells.getD k .nilp]
abbrev env24 (l : List Alarm) (s : Spot) (i : Int) : Env := [(0, some (alarmsA l)), (1, some (spotF s)), (7, some (.int .i64 l.length)), (8, some (.int .i64 i))]
abbrev eqSB (x : Alarm) (s : Spot) : Bool := x.spot.bed == s.bed && x.spot.channel == s.channel
theorem eqSB_iff (x : Alarm) (s : Spot) : eqSB x s = true ↔ x.spot = s := by
  rcases x with ⟨⟨a1, a2⟩, a3, a4, a5, a6⟩
  rcases s with ⟨b1, b2⟩
  simp only [eqSB, Spot.mk.injEq, Bool.and_eq_true, beq_iff_eq]
theorem s24_hit (l : List Alarm) (s : Spot) (i : Int) : cutR [] [4] (run24 (env24 l s i) [] 0 [.go 0 true, .go 0 true]) = some (.ret, [(4, some (.int .i64 i))], [],
    [(true, decide (i < (l.length : Int))), (decide (0 ≤ i ∧ i < (l.length : Int)), true), (true, eqSB (l.getD i.toNat default) s)]) := by kernel_rfl
theorem s24_go (l : List Alarm) (s : Spot) (i : Int) : cutR [] [0, 1, 7, 8] (run24 (env24 l s i) [] 0 [.go 0 true, .go 0 false]) = some (.normal, env24 l s (IntKind.i64.wrap (i + 1)), [],
    [(true, decide (i < (l.length : Int))), (decide (0 ≤ i ∧ i < (l.length : Int)), true), (false, eqSB (l.getD i.toNat default) s)]) := by kernel_rfl
theorem s24_end (l : List Alarm) (s : Spot) (i : Int) : cutR [] [] (run24 (env24 l s i) [] 0 [.go 0 false]) = some (.exit 0, [], [], [(false, decide (i < (l.length : Int)))]) := by kernel_rfl
def idxS (s : Spot) : List Alarm → Nat
  | [] => 0
  | x :: l => bif eqSB x s then 0 else idxS s l + 1
theorem idxS_le (s : Spot) : ∀ l, idxS s l ≤ l.length
  | [] => Nat.le_refl _
  | x :: l => by
    have := idxS_le s l
    simp only [idxS]
    cases eqSB x s <;> simp; omega
theorem idxS_drop (s : Spot) : ∀ (l : List Alarm) (k : Nat), k ≤ idxS s l → idxS s l = k + idxS s (l.drop k)
  | l, 0, _ => by simp
  | [], k + 1, h => by simp [idxS] at h
  | x :: l, k + 1, h => by
    simp only [idxS] at h ⊢
    cases hx : eqSB x s with
    | true => rw [hx] at h; simp at h
    | false =>
      rw [hx] at h
      have := idxS_drop s l k (by simpa using h)
      simp only [List.drop_succ_cons, cond_false]
      omega
theorem rounds24 (l : List Alarm) (s : Spot) (hn : l.length ≤ 1000000) : ∀ (k i : Nat), l.length - i = k → i ≤ idxS s l →
    (idxS s l < l.length → WRok Try.prog (tmpsAt Try.prog 24) bd24 (env24 l s i) [] 0 .ret [(4, some (.int .i64 (idxS s l : Nat)))] [] 0) ∧
    (¬ idxS s l < l.length → WRok Try.prog (tmpsAt Try.prog 24) bd24 (env24 l s i) [] 0 (.exit 0) [] [] 0)
  | k, i, hk, hi => by
    have hle := idxS_le s l
    have hd := idxS_drop s l i hi
    by_cases hlt : i < l.length
    · have d1 : true = decide ((i : Int) < (l.length : Int)) := (decide_eq_true (by omega)).symm
      have d2 : decide (0 ≤ (i : Int) ∧ (i : Int) < (l.length : Int)) = true := decide_eq_true (by omega)
      have e : l.getD (i : Int).toNat default = l[i] := by simp [hlt]
      rw [List.drop_eq_getElem_cons hlt] at hd
      simp only [idxS] at hd
      cases hx : eqSB l[i] s with
      | true =>
        rw [hx] at hd
        have he : idxS s l = i := by simpa using hd
        rw [he]
        refine ⟨fun _ => .exit (pieceF (T := []) (n' := 0) run24_ok (s24_hit l s i) rfl rfl True.intro (conds_cons d1 (conds_cons d2 (conds_cons (by rw [e]; exact hx.symm) conds_nil)))) (by simp), fun h => absurd hlt h⟩
      | false =>
        rw [hx] at hd
        simp only [cond_false] at hd
        have st := pieceF (T := []) (n' := 0) run24_ok (s24_go l s i) rfl rfl True.intro (conds_cons d1 (conds_cons d2 (conds_cons (by rw [e]; exact hx.symm) conds_nil)))
        rw [wrap_nat i (by omega)] at st
        cases k with
        | zero => omega
        | succ k =>
          obtain ⟨r1, r2⟩ := rounds24 l s hn k (i + 1) (by omega) (by omega)
          exact ⟨fun h => .step st (r1 h), fun h => .step st (r2 h)⟩
    · have : idxS s l = l.length := by omega
      exact ⟨fun h => by omega, fun _ => .exit (pieceF (T := []) (n' := 0) run24_ok (s24_end l s i) rfl rfl True.intro (conds_cons (decide_eq_false (by omega)).symm conds_nil)) (by simp)⟩
noncomputable def lam24 (l : List Alarm) (s : Spot) : Run := lamIf [] [0, 1, 7, 8] (env24 l s 0) [] (decide (idxS s l < l.length)) .ret [(4, some (.int .i64 (idxS s l : Nat)))] [] .normal [] [] 0 (decide (l.length ≤ 1000000))
theorem lam24_ok (l : List Alarm) (s : Spot) : RunW Try.prog (tmpsAt Try.prog 24) (.block 0 (.loop bd24)) (lam24 l s) := by
  refine lamIf_ok (n0 := 0) rfl True.intro (fun hg hb => ?_) (fun hg hb => ?_)
  · exact ((rounds24 l s (of_decide_eq_true hg) _ 0 rfl (Nat.zero_le _)).1 (of_decide_eq_true hb)).loop.block (id := 0)
  · exact ((rounds24 l s (of_decide_eq_true hg) _ 0 rfl (Nat.zero_le _)).2 (of_decide_eq_false hb)).loop.block (id := 0)
theorem lams24 (l : List Alarm) (s : Spot) : LamW Try.prog (tmpsAt Try.prog 24) (codeAt Try.prog 24) (lams [(0, lam24 l s)]) :=
  lamsW (List.forall_mem_cons.2 ⟨⟨_, lp24_eq, lam24_ok l s⟩, List.forall_mem_nil _⟩)
theorem body24 : ∃ fn, Try.prog.funcs[24]? = some fn ∧ fn.body.isSome = true := ⟨_, Try.func24, by kernel_rfl⟩
noncomputable abbrev call24 (l : List Alarm) (s : Spot) (ds : List Dec) : Option (Came AOut) := bodyRun Try.prog (lams [(0, lam24 l s)]) 60 cf24f 24 [alarmsA l, spotF s] ds
theorem w24a (l : List Alarm) (s : Spot) : cutR [] [4] (call24 l s [.go 0 true]) = some (.ret, [(4, some (.int .i64 (idxS s l : Nat)))], [], [(true, decide (idxS s l < l.length)), (eqO (some (env24 l s 0)) (some (env24 l s 0)), true), (eqO (some ([] : Heap)) (some []), true), (decide (l.length ≤ 1000000), true)]) := by kernel_rfl
theorem w24b (l : List Alarm) (s : Spot) : cutR [] [4] (call24 l s [.go 0 false]) = some (.ret, [(4, some (.int .i64 (-1)))], [], [(false, decide (idxS s l < l.length)), (eqO (some (env24 l s 0)) (some (env24 l s 0)), true), (eqO (some ([] : Heap)) (some []), true), (decide (l.length ≤ 1000000), true)]) := by kernel_rfl
def idxI (s : Spot) (l : List Alarm) : Int := bif decide (idxS s l < l.length) then (idxS s l : Nat) else -1
theorem idx_ok (l : List Alarm) (s : Spot) (hl : l.length ≤ 1000000) : CallOk Try.prog 24 [alarmsA l, spotF s] [] 0 (.ret (.int .i64 (idxI s l))) [] 0 := by
  unfold idxI
  by_cases q : idxS s l < l.length
  · rw [decide_eq_true q]
    exact wayT (n' := 0) noNum mixed cf24 (lams24 l s) body24 (w24a l s) rfl (.inl rfl) rfl True.intro (conds_cons (decide_eq_true q).symm (conds_cons (eqO_self _) (conds_cons (eqO_self _) (conds_cons (decide_eq_true hl) conds_nil)))) (HRef.refl _) rfl
  · rw [decide_eq_false q]
    exact wayT (n' := 0) noNum mixed cf24 (lams24 l s) body24 (w24b l s) rfl (.inl rfl) rfl True.intro (conds_cons (decide_eq_false q).symm (conds_cons (eqO_self _) (conds_cons (eqO_self _) (conds_cons (decide_eq_true hl) conds_nil)))) (HRef.refl _) rfl
theorem VRel.fnC {ρ : Nat → Option Eng.Loc} {RO : Nat → Prop} {w : World} {f : Fn} {c c' : Nat → AV} {v : Value} (hv : VRel ρ RO w (.fn f [] [.dptr 2 c]) v) (h0 : c 0 = c' 0) (h1 : c 1 = c' 1) : VRel ρ RO w (.fn f [] [.dptr 2 c']) v := by
  have e : ∀ k, k < 2 → c k = c' k := fun k hk => by
    have : k = 0 ∨ k = 1 := by omega
    rcases this with rfl | rfl <;> assumption
  cases hv with
  | fn e1 e2 q1 q2 =>
    refine .fn e1 e2 q1 fun i a v ha hv => ?_
    cases i with
    | succ i => simp at ha
    | zero =>
      simp at ha; subst ha
      have := q2 0 (.dptr 2 c) v rfl hv
      cases this with
      | dptr vs hr hc g1 hf hvv => exact .dptr vs hr hc g1 (fun k hk => by rw [← e k hk]; exact hf k hk) (fun k hk => by rw [← e k hk]; exact hvv k hk)
noncomputable def gIdx : List AV → Option (LRes × Conds) := fun l => match l with
  | [.dsl 6 m el, .fn (.func 25) [] [.dptr 2 c]] => match c 0, c 1 with
    | .int .i64 b, .int .i64 ch => some (valRes (.int .i64 (idxI ⟨b, ch⟩ (rdA m el))), [(isA m el, true), (decide (m ≤ 1000000), true)])
    | _, _ => none
  | _ => none
theorem gIdx_ok : LOk Try.prog 24 gIdx := by
  intro args r c e hc
  unfold gIdx at e
  split at e
  · rename_i m el cs
    split at e
    · rename_i b ch e0 e1
      cases e
      have h1 := hc (isA m el, true) (by simp)
      have h2 := of_decide_eq_true (hc (decide (m ≤ 1000000), true) (by simp))
      refine ⟨(idx_ok (rdA m el) ⟨b, ch⟩ (by rw [rdA_length]; exact h2)).sees (ASees.alarms h1 (.cons (fun ρ RO w v hv => VRel.fnC hv e0 e1) .nil)), fun n => rfl, fun n => rfl, True.intro⟩
    · cases e
  · cases e
end Go.Proofs.Ytjjagjehaoidbaa

set_option linter.unusedVariables false
set_option linter.unusedSectionVars false
namespace Go.Eng
open Go.RowKit Go.Proofs.YtjjagjehaoidbaaW.PrintWords
variable [Dr]
theorem vrel_of_C {α : Type} [Inhabited α] {d : Kd α} {cells : α → List AV} {w : World} {A : Option Addr} {l : List α} {c : Nat} (hs : 1 ≤ d.sz) (h : d.C w A l.length l) (hc : l.length ≤ c)
    (hK : ∀ x cs, d.K w x cs → ∀ ρ, VRels ρ (fun b => b < w.heap.size) w (cells x) cs) (flat : ∀ x : α, ∀ a ∈ cells x, Flat a) (ρ : Nat → Option Eng.Loc) :
    VRel ρ (fun b => b < w.heap.size) w (.dsl d.sz l.length (elK cells l)) (.slice A l.length c) := by
  by_cases h0 : 0 < l.length
  · obtain ⟨ad, rfl, hcell⟩ := h.2.2 h0
    have each : ∀ i, ∃ cs : List Value, i < l.length → (cs.length = d.sz ∧ d.K w (l.getD i default) cs ∧ ∀ j u, cs[j]? = some u → w.cell? (ad.add (i * d.sz + j)) = some u) := by
      intro i
      by_cases hi : i < l.length
      · obtain ⟨cs, q1, q2, q3⟩ := hcell i l[i] (List.getElem?_eq_getElem hi)
        refine ⟨cs, fun _ => ⟨q1, ?_, q3⟩⟩
        have : l.getD i default = l[i] := by simp [hi]
        rw [this]; exact q2
      · exact ⟨[], fun h => absurd h hi⟩
    obtain ⟨C, hC⟩ := Classical.axiomOfChoice each
    have hget : ∀ i k, i < l.length → k < d.sz → (C i)[k]? = some ((C i).getD k undef) := by
      intro i k hi hk
      have hlt : k < (C i).length := by rw [(hC i hi).1]; exact hk
      simp [hlt]
    have hat : ∀ i k, i < l.length → k < d.sz → w.cell? (ad.add (i * d.sz + k)) = some ((C i).getD k undef) := fun i k hi hk => (hC i hi).2.2 k _ (hget i k hi hk)
    have h00 := hat 0 0 h0 (by omega)
    have hz : ad.add (0 * d.sz + 0) = ad := by simp [Addr.add]
    rw [hz] at h00
    have hsp := spot_none h00
    have hel : ∀ i k, i < l.length → k < d.sz → (cells (l.getD i default))[k]? = some (elK cells l i k) := by
      intro i k hi hk
      have hv := hK _ _ (hC i hi).2.1 ρ
      have hlt : k < (cells (l.getD i default)).length := by rw [hv.1, (hC i hi).1]; exact hk
      show (cells (l.getD i default))[k]? = some ((cells (l.getD i default)).getD k .nilp)
      generalize cells (l.getD i default) = L at hlt ⊢
      simp [hlt]
    refine .dsl hc (fun i k => (C i).getD k undef) (fun _ => ⟨ad.block, ad.off, by obtain ⟨b, o, s⟩ := ad; simp only at hsp; subst hsp; rfl, block_lt h00, fun i k hi hk => ?_⟩) (fun i k hi hk => ?_) (fun i k hi hk => ?_) (fun i k hi hk => ?_)
    · have := hat i k hi hk
      rw [addr_add hsp] at this
      exact this
    · exact d.K_one (hC i hi).2.1 _ (List.mem_of_getElem? (hget i k hi hk))
    · exact flat _ _ (List.mem_of_getElem? (hel i k hi hk))
    · exact (hK _ _ (hC i hi).2.1 ρ).2 k _ _ (hel i k hi hk) (hget i k hi hk)
  · have hn : l = [] := List.length_eq_zero_iff.1 (by omega)
    subst hn
    exact .dsl hc (fun _ _ => .bool false) (fun h => absurd rfl h) (fun i k hi => by simp at hi) (fun i k hi => by simp at hi) (fun i k hi => by simp at hi)
theorem reps_flat {α : Type} {R : α → List Value → Prop} {size : Nat} {enc : α → List Value} (hR : ∀ x, R x (enc x)) (hl : ∀ x, (enc x).length = size) : ∀ (l pre : List α) (cs : List Value), Reps R size pre cs → Reps R size (pre ++ l) (cs ++ l.flatMap enc)
  | [], pre, cs, h => by simpa using h
  | p :: l, pre, cs, h => by
    have := reps_flat hR hl l _ _ (h.snoc (hR p) (hl p))
    simpa using this
theorem R_of_flat {α : Type} {d : Kd α} {enc : α → List Value} {e base : Nat} {w : World} {v : Value} {l : List α} (ho : w.ownsRow base e d.sz v l.length (l.flatMap enc)) (hM : ∀ ok x, d.M w base ok x (enc x)) (hl : ∀ x, (enc x).length = d.sz) : d.R e w base (fun _ => True) v l :=
  ⟨fun _ _ => trivial, l.flatMap enc, ho, by simpa using reps_flat (R := d.M w base _) (hM _) hl l [] [] (Reps.none _ _)⟩
end Go.Eng

set_option linter.unusedVariables false
namespace Go.Proofs.Ytjjagjehaoidbaa
open Go.Eng Go.Proofs Go.RowKit
open Go.Proofs.YtjjagjehaoidbaaW.PrintWords
noncomputable abbrev cf11f : CallF := runG Try.prog (entΔ [lendEnt 9 gSort, lendEnt 24 gIdx]) 60 8
theorem cf11 : CfOk Try.prog cf11f := runG_ok noNum mixed (entΔ_ok (List.forall_mem_cons.2 ⟨lendEnt_ok gSort_ok, List.forall_mem_cons.2 ⟨lendEnt_ok gIdx_ok, List.forall_mem_nil _⟩⟩)) _
abbrev placeX (l : List Alarm) (s : Spot) : Int := idxI s (rdA (rankA (rdA l.length (elA l))).length fun i k => elA (rankA (rdA l.length (elA l))) (addO 0 i) k)
theorem w11 (l : List Alarm) (s : Spot) : resOf (cf11f 11 [alarmsA l, .agg s.cells] [] 0 []) = some (.ret (.tup [.int .i64 (if (0 : Int) > placeX l s then 0 else placeX l s), .bool (decide (placeX l s ≥ 0))]),
    [(isA l.length (elA l), true), (decide (l.length ≤ 1000000), true), (decide (addO 0 (rankA (rdA l.length (elA l))).length ≤ (rankA (rdA l.length (elA l))).length), true),
     (flatB (rankA (rdA l.length (elA l))).length 6 (fun i k => elA (rankA (rdA l.length (elA l))) (addO 0 i) k), true), (isA (rankA (rdA l.length (elA l))).length (fun i k => elA (rankA (rdA l.length (elA l))) (addO 0 i) k), true),
     (decide ((rankA (rdA l.length (elA l))).length ≤ 1000000), true)]) := by kernel_rfl
theorem addO0 (i : Nat) : addO 0 i = i := rfl
theorem placeX_eq (l : List Alarm) (s : Spot) : placeX l s = idxI s (rankA l) := by
  unfold placeX
  simp only [rdA_elA, addO0]
def placeN (s : Spot) (l : List Alarm) : Int × Bool := (if idxI s (rankA l) < 0 then 0 else idxI s (rankA l), decide (idxI s (rankA l) ≥ 0))
theorem place_ok (l : List Alarm) (s : Spot) (hl : l.length ≤ 1000000) (h : Heap) (n : Nat) : CallOk Try.prog 11 [alarmsA l, .agg s.cells] h n (.ret (.tup [.int .i64 (placeN s l).1, .bool (placeN s l).2])) h n := by
  have e := w11 l s
  have hr : rdA l.length (elA l) = l := rdA_elA l
  have hX := placeX_eq l s
  have := way cf11 e (conds_cons (isA_elA _ _) (conds_cons (decide_eq_true hl) (conds_cons (by rw [addO0]; exact decide_eq_true (Nat.le_refl _)) (conds_cons (flatB_iff.2 (flatA_row _ _)) (conds_cons (isA_elA _ _) (conds_cons (by rw [hr, rankA_length]; exact decide_eq_true hl) conds_nil)))))) rfl rfl h n
  rw [hX] at this
  exact this
theorem agg_alarm (ρ : Nat → Option Eng.Loc) (RO : Nat → Prop) (w : World) (a : Alarm) : VRel ρ RO w (.agg a.cells) (.agg (encA a).toArray) := by
  refine .agg rfl (one_encA a) fun i x v h1 h2 => ?_
  match i with
  | 0 => cases h1; cases h2; exact .int _ _
  | 1 => cases h1; cases h2; exact .int _ _
  | 2 => cases h1; cases h2; exact .int _ _
  | 3 => cases h1; cases h2; exact .int _ _
  | 4 => cases h1; cases h2; exact .int _ _
  | 5 => cases h1; cases h2; exact .int _ _
  | n + 6 => simp at h1
theorem agg_spot (ρ : Nat → Option Eng.Loc) (RO : Nat → Prop) (w : World) (s : Spot) : VRel ρ RO w (.agg s.cells) (.agg #[.int .i64 s.bed, .int .i64 s.channel]) := by
  refine .agg (vs := [.int .i64 s.bed, .int .i64 s.channel]) rfl (by simp [Value.oneCell']) fun i x v h1 h2 => ?_
  match i with
  | 0 => cases h1; cases h2; exact .int _ _
  | 1 => cases h1; cases h2; exact .int _ _
  | n + 2 => simp at h1
theorem cmp_calls (a b : Alarm) (w : World) : Calls Try.prog 18 #[.agg (encA a).toArray, .agg (encA b).toArray] w fun e w' => e = .returned (.int .i64 (cmpA a b)) ∧ Below w.heap.size w w' :=
  (CallOk.calls_int (fun h n => cmpA_ok a b h n) (RO := fun b => b < w.heap.size) (fun _ h => h) (VRels.cons (agg_alarm _ _ _ a) (VRels.cons (agg_alarm _ _ _ b) .nil))).mono fun e w' h => ⟨h.1, h.2.below⟩
theorem place_calls (l : List Alarm) (s : Spot) (hl : l.length ≤ 1000000) (w : World) (v : Value) (hv : VRel (fun _ => none) (fun b => b < w.heap.size) w (alarmsA l) v) :
    Calls Try.prog 11 #[v, .agg #[.int .i64 s.bed, .int .i64 s.channel]] w fun e w' => e = .returned (.tuple #[.int .i64 (placeN s l).1, .bool (placeN s l).2]) ∧ Below w.heap.size w w' := by
  refine ((place_ok l s hl [] 0).2 w (fun _ => False) (fun _ => none) (fun b => b < w.heap.size) w _ (HRel.start fun _ h => h) (VRels.cons hv (VRels.cons (agg_spot _ _ _ s) .nil))).mono fun e w' he => ?_
  obtain ⟨ρ', RO', p1, p2, u, rfl, p3⟩ := he
  refine ⟨?_, p2.frame.below⟩
  cases p3 with
  | @tup L vs e1 h1 =>
    obtain ⟨x, t, rfl, hx, ht⟩ := VRels.inv_cons ⟨e1, h1⟩
    obtain ⟨y, t', rfl, hy, ht'⟩ := ht.inv_cons
    obtain rfl := ht'.inv_nil
    cases hx; cases hy; rfl
theorem concat_calls (a b : List Alarm) (hl : a.length + b.length ≤ 1000000) (w : World) (v : Value) (hv : VRel (fun _ => none) (fun b => b < w.heap.size) w (twoA a b) v) :
    Calls Try.prog 26 #[v] w fun e w' => ∃ A c, e = .returned (.slice A (a ++ b).length c) ∧ HoldsA w'.heap.size w' (.slice A (a ++ b).length c) (a ++ b) ∧ Below w.heap.size w w' := by
  refine ((concat_ok a b hl).2 w (fun _ => False) (fun _ => none) (fun b => b < w.heap.size) w _ (HRel.start fun _ h => h) (VRels.cons hv .nil)).mono fun e w' he => ?_
  obtain ⟨ρ', RO', p1, p2, u, rfl, p3⟩ := he
  obtain ⟨x, hx, hs⟩ := p2.objs 0 _ (by rw [lookH_cons, if_pos rfl])
  cases p3 with
  | @sl id off len cap c L A hL h1 h2 hA =>
    rw [hx] at hL; cases hL
    refine ⟨A, c, rfl, ?_, p2.frame.below⟩
    by_cases h0 : (a ++ b).length = 0
    · have hn : a ++ b = [] := List.length_eq_zero_iff.1 h0
      rw [hn]
      exact .inl ⟨⟨A, c, rfl⟩, rfl⟩
    · rcases hs with hg | hs
      · obtain ⟨_, _, _, e, _⟩ := hg
        injection e with _ _ e _
        exact absurd e h0
      · obtain ⟨r1, cs, r2, r3, r4⟩ := hs.rel
        obtain ⟨rfl, _⟩ := hA (by omega)
        refine .inr ⟨x.blk, x.base, c, by simp, hs.lt, fun i hi j hj => ?_⟩
        obtain ⟨u, u1, u2, u3⟩ := r4 i j hi hj
        have hc : w'.cell? ⟨x.blk, x.base + i * 6 + j, none⟩ = some u := by
          rw [cell_block r2, ← u1]; congr 1; omega
        rw [hc]
        have e : elA (a ++ b) i j = ((a ++ b).getD i default).cells.getD j .nilp := rfl
        rw [e] at u3
        congr 1
        rcases lt6 hj with rfl | rfl | rfl | rfl | rfl | rfl <;> exact int_of u3
end Go.Proofs.Ytjjagjehaoidbaa

namespace Go.Proofs.Ytjjagjehaoidbaa.P
open Go.RowKit Go.Proofs.YtjjagjehaoidbaaW.PrintWords Go.Proofs.YtjjagjehaoidbaaW.PrintLast Go.Proofs.YtjjagjehaoidbaaW.PrintMore
attribute [local go_sem] max2_int min2_int max_two min_two max_three min_three max_four min_four
set_option linter.unusedVariables false
set_option linter.unusedSimpArgs false
def errW : Option Int → Value
  | none => .nilIface
  | some c => .iface 0 (.int .i64 c)
theorem errW_none : errW none = .nilIface := rfl
theorem errW_some (c : Int) : errW (some c) = .iface 0 (.int .i64 c) := rfl
theorem info3 : (Try.prog.info? 3).map (fun i => (i.zero, i.size, i.bytes)) = some (some (.int .i64 0), 1, 8) := by kernel_rfl
theorem info34 : (Try.prog.info? 34).map (fun i => (i.zero, i.size, i.bytes)) = some (some (.agg #[(.int .i64 0), (.int .i64 0), (.int .i64 0), (.int .i64 0), (.int .i64 0), (.int .i64 0)]), 6, 48) := by kernel_rfl
structure S24 where
  f0 : Int
  f1 : Int
def z24 : S24 := ⟨(0 : Int), (0 : Int)⟩
def k24 : Kd S24 := Kd.iso (Kd.pair (Kd.int .i64) (Kd.int .i64)) (fun x : S24 => (x.f0, x.f1))
theorem k24_open {w : World} {x : S24} {cs : List Value} (h : k24.K w x cs) : cs = [.int .i64 x.f0, .int .i64 x.f1] := by
  obtain ⟨_, _, rfl, rfl, rfl⟩ := h
  exact rfl
theorem k24_openM {w : World} {base : Nat} {ok : Nat → Prop} {x : S24} {cs : List Value} (h : k24.M w base ok x cs) : cs = [.int .i64 x.f0, .int .i64 x.f1] := by
  obtain ⟨_, _, rfl, rfl, rfl⟩ := h
  exact rfl
theorem k24_mk (w : World) (x : S24)  : k24.K w x [.int .i64 x.f0, .int .i64 x.f1] := ⟨[.int .i64 x.f0], [.int .i64 x.f1], rfl, rfl, rfl⟩
theorem k24_mkM (w : World) (base : Nat) (ok : Nat → Prop) (x : S24)  : k24.M w base ok x [.int .i64 x.f0, .int .i64 x.f1] := ⟨[.int .i64 x.f0], [.int .i64 x.f1], rfl, rfl, rfl⟩
def rd_T24 (xs : List S24) (i : Int) : S24 := xs.getD i.toNat z24
theorem at_T24 {w : World} {A : Option Addr} {n : Nat} {xs : List S24} (h : Kd.C k24 w A n xs) (i : Int) (h0 : 0 ≤ i) (h1 : i < n) : ∃ ad , A = some ad ∧ w.cell? (ad.add (i.toNat * 2)) = some (.int .i64 (rd_T24 xs i).f0) ∧ w.cell? ⟨(ad.add (i.toNat * 2)).block, (ad.add (i.toNat * 2)).off + 1, none⟩ = some (.int .i64 (rd_T24 xs i).f1) := by
  obtain ⟨ad, c, e, _, hK, hc0⟩ := Kd.C_get h z24 i h0 h1
  have hc : ∀ j u, c[j]? = some u → w.cell? (ad.add (i.toNat * 2 + j)) = some u := hc0
  obtain rfl := k24_open hK
  exact ⟨ad, e, hc 0 _ rfl, by rw [← add_field _ _ 1 (by omega)]; exact hc 1 _ rfl⟩
structure S34 where
  f0 : S24
  f1 : Int
  f2 : Int
  f3 : Int
  f4 : Int
def z34 : S34 := ⟨z24, (0 : Int), (0 : Int), (0 : Int), (0 : Int)⟩
def k34 : Kd S34 := Kd.iso (Kd.pair k24 (Kd.pair (Kd.int .i64) (Kd.pair (Kd.int .i64) (Kd.pair (Kd.int .i64) (Kd.int .i64))))) (fun x : S34 => (x.f0, x.f1, x.f2, x.f3, x.f4))
theorem k34_open {w : World} {x : S34} {cs : List Value} (h : k34.K w x cs) : cs = [.int .i64 x.f0.f0, .int .i64 x.f0.f1, .int .i64 x.f1, .int .i64 x.f2, .int .i64 x.f3, .int .i64 x.f4] := by
  obtain ⟨_, _, rfl, s0, ⟨_, _, rfl, rfl, ⟨_, _, rfl, rfl, ⟨_, _, rfl, rfl, rfl⟩⟩⟩⟩ := h
  obtain rfl := k24_open s0
  exact rfl
theorem k34_openM {w : World} {base : Nat} {ok : Nat → Prop} {x : S34} {cs : List Value} (h : k34.M w base ok x cs) : cs = [.int .i64 x.f0.f0, .int .i64 x.f0.f1, .int .i64 x.f1, .int .i64 x.f2, .int .i64 x.f3, .int .i64 x.f4] := by
  obtain ⟨_, _, rfl, s0, ⟨_, _, rfl, rfl, ⟨_, _, rfl, rfl, ⟨_, _, rfl, rfl, rfl⟩⟩⟩⟩ := h
  obtain rfl := k24_openM s0
  exact rfl
theorem k34_mk (w : World) (x : S34)  : k34.K w x [.int .i64 x.f0.f0, .int .i64 x.f0.f1, .int .i64 x.f1, .int .i64 x.f2, .int .i64 x.f3, .int .i64 x.f4] := ⟨[.int .i64 x.f0.f0, .int .i64 x.f0.f1], [.int .i64 x.f1, .int .i64 x.f2, .int .i64 x.f3, .int .i64 x.f4], rfl, (k24_mk w x.f0 ), ⟨[.int .i64 x.f1], [.int .i64 x.f2, .int .i64 x.f3, .int .i64 x.f4], rfl, rfl, ⟨[.int .i64 x.f2], [.int .i64 x.f3, .int .i64 x.f4], rfl, rfl, ⟨[.int .i64 x.f3], [.int .i64 x.f4], rfl, rfl, rfl⟩⟩⟩⟩
theorem k34_mkM (w : World) (base : Nat) (ok : Nat → Prop) (x : S34)  : k34.M w base ok x [.int .i64 x.f0.f0, .int .i64 x.f0.f1, .int .i64 x.f1, .int .i64 x.f2, .int .i64 x.f3, .int .i64 x.f4] := ⟨[.int .i64 x.f0.f0, .int .i64 x.f0.f1], [.int .i64 x.f1, .int .i64 x.f2, .int .i64 x.f3, .int .i64 x.f4], rfl, (k24_mkM w base ok x.f0 ), ⟨[.int .i64 x.f1], [.int .i64 x.f2, .int .i64 x.f3, .int .i64 x.f4], rfl, rfl, ⟨[.int .i64 x.f2], [.int .i64 x.f3, .int .i64 x.f4], rfl, rfl, ⟨[.int .i64 x.f3], [.int .i64 x.f4], rfl, rfl, rfl⟩⟩⟩⟩
def rd_T34 (xs : List S34) (i : Int) : S34 := xs.getD i.toNat z34
theorem at_T34 {w : World} {A : Option Addr} {n : Nat} {xs : List S34} (h : Kd.C k34 w A n xs) (i : Int) (h0 : 0 ≤ i) (h1 : i < n) : ∃ ad , A = some ad ∧ w.cell? (ad.add (i.toNat * 6)) = some (.int .i64 (rd_T34 xs i).f0.f0) ∧ w.cell? ⟨(ad.add (i.toNat * 6)).block, (ad.add (i.toNat * 6)).off + 1, none⟩ = some (.int .i64 (rd_T34 xs i).f0.f1) ∧ w.cell? ⟨(ad.add (i.toNat * 6)).block, (ad.add (i.toNat * 6)).off + 2, none⟩ = some (.int .i64 (rd_T34 xs i).f1) ∧ w.cell? ⟨(ad.add (i.toNat * 6)).block, (ad.add (i.toNat * 6)).off + 3, none⟩ = some (.int .i64 (rd_T34 xs i).f2) ∧ w.cell? ⟨(ad.add (i.toNat * 6)).block, (ad.add (i.toNat * 6)).off + 4, none⟩ = some (.int .i64 (rd_T34 xs i).f3) ∧ w.cell? ⟨(ad.add (i.toNat * 6)).block, (ad.add (i.toNat * 6)).off + 5, none⟩ = some (.int .i64 (rd_T34 xs i).f4) := by
  obtain ⟨ad, c, e, _, hK, hc0⟩ := Kd.C_get h z34 i h0 h1
  have hc : ∀ j u, c[j]? = some u → w.cell? (ad.add (i.toNat * 6 + j)) = some u := hc0
  obtain rfl := k34_open hK
  exact ⟨ad, e, hc 0 _ rfl, by rw [← add_field _ _ 1 (by omega)]; exact hc 1 _ rfl, by rw [← add_field _ _ 2 (by omega)]; exact hc 2 _ rfl, by rw [← add_field _ _ 3 (by omega)]; exact hc 3 _ rfl, by rw [← add_field _ _ 4 (by omega)]; exact hc 4 _ rfl, by rw [← add_field _ _ 5 (by omega)]; exact hc 5 _ rfl⟩
end Go.Proofs.Ytjjagjehaoidbaa.P

namespace Go.Proofs.Ytjjagjehaoidbaa.P
open Go.RowKit Go.Proofs.YtjjagjehaoidbaaW.PrintWords Go.Proofs.YtjjagjehaoidbaaW.PrintLast Go.Proofs.YtjjagjehaoidbaaW.PrintMore
attribute [local go_sem] max2_int min2_int max_two min_two max_three min_three max_four min_four
set_option linter.unusedVariables false
set_option linter.unusedSimpArgs false
theorem eqA24 (d : Nat) (w : World) (x0 y0 : Int) (x1 y1 : Int) :
    (Op.equalIn (d + 2) 24 (.agg #[.int .i64 x0, .int .i64 x1]) (.agg #[.int .i64 y0, .int .i64 y1])).run Try.prog w = .ok (x0 == y0 && (x1 == y1)) w := by
  refine eqA_of Try.underlying24 (by kernel_rfl) ?_
  refine eqf_cons (by rfl) (by go_simp; rfl) (by go_simp; rfl) (by go_simp) ?_
  exact eqf_last (by rfl) (by go_simp; rfl) (by go_simp; rfl) (by go_simp)
end Go.Proofs.Ytjjagjehaoidbaa.P

namespace Go.Proofs.Ytjjagjehaoidbaa.P
open Go.RowKit Go.Proofs.YtjjagjehaoidbaaW.PrintWords Go.Proofs.YtjjagjehaoidbaaW.PrintLast Go.Proofs.YtjjagjehaoidbaaW.PrintMore
attribute [local go_sem] max2_int min2_int max_two min_two max_three min_three max_four min_four
set_option linter.unusedVariables false
set_option linter.unusedSimpArgs false
theorem eqA34 (d : Nat) (w : World) (x0 y0 : Int) (x1 y1 : Int) (x2 y2 : Int) (x3 y3 : Int) (x4 y4 : Int) (x5 y5 : Int) :
    (Op.equalIn (d + 3) 34 (.agg #[.int .i64 x0, .int .i64 x1, .int .i64 x2, .int .i64 x3, .int .i64 x4, .int .i64 x5]) (.agg #[.int .i64 y0, .int .i64 y1, .int .i64 y2, .int .i64 y3, .int .i64 y4, .int .i64 y5])).run Try.prog w = .ok ((x0 == y0 && (x1 == y1)) && (x2 == y2 && (x3 == y3 && (x4 == y4 && (x5 == y5))))) w := by
  refine eqA_of Try.underlying34 (by kernel_rfl) ?_
  refine eqf_cons (by rfl) (by go_simp) (by go_simp) (eqA24 (d + 0) w _ _ _ _) ?_
  refine eqf_cons (by rfl) (by go_simp; rfl) (by go_simp; rfl) (by go_simp) ?_
  refine eqf_cons (by rfl) (by go_simp; rfl) (by go_simp; rfl) (by go_simp) ?_
  refine eqf_cons (by rfl) (by go_simp; rfl) (by go_simp; rfl) (by go_simp) ?_
  exact eqf_last (by rfl) (by go_simp; rfl) (by go_simp; rfl) (by go_simp)
end Go.Proofs.Ytjjagjehaoidbaa.P

namespace Go.Proofs.Ytjjagjehaoidbaa.P
open Go.RowKit Go.Proofs.YtjjagjehaoidbaaW.PrintWords Go.Proofs.YtjjagjehaoidbaaW.PrintLast Go.Proofs.YtjjagjehaoidbaaW.PrintMore
attribute [local go_sem] max2_int min2_int max_two min_two max_three min_three max_four min_four
set_option linter.unusedVariables false
set_option linter.unusedSimpArgs false
instance inhS34 : Inhabited S34 := ⟨z34⟩
def toA (x : S34) : Alarm := ⟨⟨x.f0.f0, x.f0.f1⟩, x.f1, x.f2, x.f3, x.f4⟩
def ofA (x : Alarm) : S34 := ⟨⟨x.spot.bed, x.spot.channel⟩, x.phase, x.prio, x.since, x.until_⟩
theorem toA_ofA (x : Alarm) : toA (ofA x) = x := rfl
theorem ofA_toA (x : S34) : ofA (toA x) = x := rfl
theorem getD_toA (l : List S34) (i : Nat) : (l.map toA).getD i default = toA (l.getD i default) := by
  by_cases h : i < l.length
  · simp [h]
  · simp [Nat.le_of_not_lt h]; rfl
theorem cells34 {w : World} {x : S34} {cs : List Value} (h : k34.K w x cs) (ρ : Nat → Option Go.Eng.Loc) (RO : Nat → Prop) : Go.Eng.VRels ρ RO w (toA x).cells cs := by
  obtain rfl := k34_open h
  exact .cons (.int _ _) (.cons (.int _ _) (.cons (.int _ _) (.cons (.int _ _) (.cons (.int _ _) (.cons (.int _ _) .nil)))))
theorem flat34 (x : S34) : ∀ a ∈ (toA x).cells, Go.Eng.Flat a := by
  intro a ha
  simp only [Alarm.cells, List.mem_cons, List.not_mem_nil, or_false] at ha
  rcases ha with rfl | rfl | rfl | rfl | rfl | rfl <;> exact .int _ _
theorem alarms_rel {w : World} {A : Option Addr} {c : Nat} {l : List S34} (h : Kd.C k34 w A l.length l) (hc : l.length ≤ c) : Go.Eng.VRel (fun _ => none) (fun b => b < w.heap.size) w (alarmsA (l.map toA)) (.slice A l.length c) := by
  have := Go.Eng.vrel_of_C (d := k34) (cells := fun x => (toA x).cells) (by decide) h hc (fun x cs hk ρ => cells34 hk ρ _) flat34 (fun _ => none)
  have e : (l.map toA).length = l.length := List.length_map _
  unfold alarmsA
  rw [e]
  refine this.dslC fun i k hi hk => ?_
  show (toA (l.getD i default)).cells.getD k .nilp = ((l.map toA).getD i default).cells.getD k .nilp
  rw [getD_toA]
theorem alarms_own {w : World} {base : Nat} {v : Value} {l : List Alarm} (h : w.ownsRow base 34 6 v l.length (l.flatMap encA)) : Kd.R k34 34 w base (fun _ => True) v (l.map ofA) := by
  refine Go.Eng.R_of_flat (enc := fun x => encA (toA x)) ?_ (fun ok x => k34_mkM _ _ _ x) (fun x => rfl)
  have e : (l.map ofA).flatMap (fun x => encA (toA x)) = l.flatMap encA := by rw [List.flatMap_map]; rfl
  rw [e, List.length_map]
  exact h
theorem alarms_holds {w : World} {A : Option Addr} {c : Nat} {l : List S34} (h : Kd.C k34 w A l.length l) (hc : l.length ≤ c) : HoldsA w.heap.size w (.slice A l.length c) (l.map toA) := by
  obtain ⟨a, c', e, hI⟩ := holdsA_of (fun _ h => h) (alarms_rel h hc)
  exact hI
theorem two_rel {w : World} {a b : List Alarm} {v0 v1 : Value} {t : TypeId} (h0 : Go.Eng.VRel (fun _ => none) (fun b => b < w.heap.size) w (alarmsA a) v0) (h1 : Go.Eng.VRel (fun _ => none) (fun b => b < w.heap.size) w (alarmsA b) v1) :
    Go.Eng.VRel (fun _ => none) (fun b => b < (w.alloc (.cells #[v0, v1] t)).heap.size) (w.alloc (.cells #[v0, v1] t)) (twoA a b) (.slice (some ⟨w.heap.size, 0, none⟩) 2 2) := by
  have ext : Go.Eng.Ext (fun _ => none) (fun b => b < w.heap.size) w (fun _ => none) (fun b => b < (w.alloc (.cells #[v0, v1] t)).heap.size) (w.alloc (.cells #[v0, v1] t)) :=
    ⟨fun _ _ h => h, fun b hb => by simp; omega, fun b hb => Below.heap_alloc w _ b hb⟩
  have hb : (w.alloc (.cells #[v0, v1] t)).heap[w.heap.size]? = some (.cells #[v0, v1] t (0, 0)) := heap_alloc_new w _
  have one : ∀ {x : List Alarm} {v : Value}, Go.Eng.VRel (fun _ => none) (fun b => b < w.heap.size) w (alarmsA x) v → v.oneCell' = true := by
    intro x v h; cases h; rfl
  have flat : ∀ x : List Alarm, Go.Eng.Flat (alarmsA x) := fun x => .dsl fun i k hi hk => flatA_row _ x i k hi hk
  refine .dsl (Nat.le_refl _) (fun i _ => bif Nat.beq i 0 then v0 else v1) (fun _ => ⟨w.heap.size, 0, rfl, by simp, fun i k hi hk => ?_⟩) (fun i k hi hk => ?_) (fun i k hi hk => ?_) (fun i k hi hk => ?_)
  all_goals
    have hk0 : k = 0 := by omega
    subst hk0
    have hi2 : i = 0 ∨ i = 1 := by omega
  · rw [Go.Eng.cell_block hb]
    rcases hi2 with rfl | rfl <;> rfl
  · rcases hi2 with rfl | rfl
    · exact one h0
    · exact one h1
  · rcases hi2 with rfl | rfl
    · exact flat a
    · exact flat b
  · rcases hi2 with rfl | rfl
    · exact h0.mono ext
    · exact h1.mono ext
def watchmanref07_Own.f (l0 : List (S34)) : Option ((List (S34))) := if ([] : List (S34)).length + l0.length < 2932031007402 then (some (([] : List (S34)) ++ l0)) else (none)
set_option maxHeartbeats 8000000 in
set_option maxRecDepth 100000 in
theorem watchmanref07_Own.calls (A0 : Option Addr) (c0 : Nat) (l0 : List (S34)) (r : List (S34)) (w : World) (hr0 : Kd.C k34 w A0 l0.length l0) (hc0 : l0.length ≤ c0) (h : watchmanref07_Own.f l0 = some r) :
    Calls Try.prog 8 #[.slice A0 l0.length c0] w fun e w' => ∃ v0_ : Value, e = .returned (v0_) ∧ Kd.R k34 34 w' w.heap.size (fun _ => True) v0_ r ∧ Below w.heap.size w w' := by
  have HR0 := Aside0.mk hr0
  have HC0 := Aside0.mk hc0
  clear hr0 hc0
  have HB := Aside0.mk (Below.refl w.heap.size w)
  have H : (if ([] : List (S34)).length + l0.length < 2932031007402 then (some (([] : List (S34)) ++ l0)) else (none)) = some r := h
  clear h
  by_cases c2 : ([] : List (S34)).length + l0.length < 2932031007402
  · rw [if_pos c2] at H
    have LMc2 := Aside0.mk c2
    clear c2
    obtain ⟨y101, hy101⟩ : ∃ y_ : List (S34), y_ = (([] : List (S34)) ++ l0) := ⟨_, rfl⟩
    replace H : (some y101) = some r := by first | (rw [hy101]; with_reducible exact H) | (have H2_ := (Option.bind_some _ _).symm.trans H; rw [hy101]; with_reducible exact H2_) | (have H2_ := (Option.bind_some _ _).symm.trans H; with_reducible exact H2_) | with_reducible exact H | (rw [hy101]; exact H) | exact H
    have Ny101 := Aside0.mk hy101
    clear hy101
    obtain rfl := Option.some.inj H
    go_enter Try.func8, Try.ntmps8
    go_wp2_with (first | ((with_reducible refine gate_builtin (b := .append) (xs := #[.tmp 4, .tmp 5]) rfl ?_); at_builtin; refine Kd.R_append_rows k34 (w0 := w) w.heap.size rfl (.tmp 4) (.tmp 5) 22 34 (.agg #[(.int .i64 0), (.int .i64 0), (.int .i64 0), (.int .i64 0), (.int .i64 0), (.int .i64 0)]) 48 rfl Try.underlying22 info34 rfl (by decide) (by omega) (.slice none 0 0) ([] : List (S34)) l0 _ _ _ (fun _ => True) (fun _ => False) rfl rfl ?aO ?aR (fun _ _ h => h) (fun _ h => h.elim) ?aF ?aB ?aS ?aL ?_; (case aR => repeat (first | exact HR0.out | (with_reducible refine Kd.C_alloc ?_ _) | (with_reducible refine Kd.C_drewN ?_ _) | (with_reducible refine Kd.C_drew ?_))); (case aB => exact (by repeat (first | (with_reducible first | exact HB.out | apply below_alloc | apply pw_below_drewN | apply below_drew1) | exact HB.out))); (case aF => exact (fun _ _ => trivial)); (case aO => exact ((Kd.R_nil _ _ _ _ (fun _ => True)))); (case aS => exact (below_size (by repeat (first | (with_reducible first | exact HB.out | apply below_alloc | apply pw_below_drewN | apply below_drew1) | exact HB.out)))); (case aL => have := LMc2.out; omega); intro v102 w3 ho hb hg hat; rw [← Ny101.out] at ho; have n0_ := Aside0.mk (hb); have n1_ := Aside0.mk (ho); clear HB; have HB := n0_; have HO103 := n1_; clear n0_ n1_; clear ho hb hg hat))
    go_ret
    exact ⟨_, by first | rfl | (simp [errW_none, errW_some] <;> rfl) | (simp [*, errW_none, errW_some] <;> rfl), by (with_reducible repeat (first | apply Kd.R_alloc | apply Kd.R_drewN | apply Kd.R_drew)); exact HO103.out, by repeat (first | (with_reducible first | exact HB.out | apply below_alloc | apply pw_below_drewN | apply below_drew1) | exact HB.out)⟩
  · rw [if_neg c2] at H
    exact absurd H (by simp)
def rank_Sort.f (l0 : List (S34)) : Option ((List (S34))) := if l0.length ≤ 1000000 then some ((rankA (l0.map toA)).map ofA) else none
theorem rank_Sort.calls (A0 : Option Addr) (c0 : Nat) (l0 : List (S34)) (r : List (S34)) (w : World) (hr0 : Kd.C k34 w A0 l0.length l0) (hc0 : l0.length ≤ c0) (h : rank_Sort.f l0 = some r) :
    Calls Try.prog 9 #[.slice A0 l0.length c0] w fun e w' => ∃ v0_ : Value, e = .returned (v0_) ∧ Kd.R k34 34 w' w.heap.size (fun _ => True) v0_ r ∧ Below w.heap.size w w' := by
  by_cases hl : l0.length ≤ 1000000
  · unfold rank_Sort.f at h
    rw [if_pos hl] at h
    obtain rfl := Option.some.inj h
    refine (sort_calls A0 l0.length c0 (l0.map toA) (by simpa using hl) w (alarms_holds hr0 hc0)).mono fun e w' he => ?_
    obtain ⟨v, l', rfl, hp, hr, hown, hb⟩ := he
    obtain rfl := rankA_unique hp hr
    exact ⟨v, rfl, alarms_own hown, hb⟩
  · unfold rank_Sort.f at h
    rw [if_neg hl] at h
    cases h
def rank_Top.f (a0 : Int) (l1 : List (S34)) : Option ((List (S34))) := (rank_Sort.f l1).bind fun t104 => (if 0 ≤ (mn (mx a0 0) (t104.length : Int)) then (if (mn (mx a0 0) (t104.length : Int)) ≤ (t104.length : Int) then (some (t104.take ((mn (mx a0 0) (t104.length : Int)) : Int).toNat)) else (none)) else (none))
set_option maxHeartbeats 8000000 in
set_option maxRecDepth 100000 in
theorem rank_Top.calls (a0 : Int) (A1 : Option Addr) (c1 : Nat) (l1 : List (S34)) (r : List (S34)) (w : World) (hr1 : Kd.C k34 w A1 l1.length l1) (hc1 : l1.length ≤ c1) (h : rank_Top.f a0 l1 = some r) :
    Calls Try.prog 10 #[.int .i64 a0, .slice A1 l1.length c1] w fun e w' => ∃ v0_ : Value, e = .returned (v0_) ∧ Kd.R k34 34 w' w.heap.size (fun _ => True) v0_ r ∧ Below w.heap.size w w' := by
  have HR1 := Aside0.mk hr1
  have HC1 := Aside0.mk hc1
  clear hr1 hc1
  have HB := Aside0.mk (Below.refl w.heap.size w)
  have H : ((rank_Sort.f l1).bind fun t104 => (if 0 ≤ (mn (mx a0 0) (t104.length : Int)) then (if (mn (mx a0 0) (t104.length : Int)) ≤ (t104.length : Int) then (some (t104.take ((mn (mx a0 0) (t104.length : Int)) : Int).toNat)) else (none)) else (none))) = some r := h
  clear h
  replace H := Option.bind_eq_some_iff.mp H
  obtain ⟨t104, A30, H⟩ := H
  replace H : (if 0 ≤ (mn (mx a0 0) (t104.length : Int)) then (if (mn (mx a0 0) (t104.length : Int)) ≤ (t104.length : Int) then (some (t104.take ((mn (mx a0 0) (t104.length : Int)) : Int).toNat)) else (none)) else (none)) = some r := H
  have A3 := Aside0.mk A30
  clear A30
  obtain ⟨ji4, hji4⟩ : ∃ j_ : Int, (mx a0 0) = j_ := ⟨_, rfl⟩
  replace H : (if 0 ≤ (mn (ji4) (t104.length : Int)) then (if (mn (ji4) (t104.length : Int)) ≤ (t104.length : Int) then (some (t104.take ((mn (ji4) (t104.length : Int)) : Int).toNat)) else (none)) else (none)) = some r := by first | (rw [hji4] at H; exact H) | (simp only [hji4] at H ⊢; exact H)
  (try rw [hji4] at A3)
  (try (have hji4l : 0 ≤ ji4 := by (rw [← hji4]; unfold mx; (repeat' split) <;> omega)))
  (try (have hji4m : 0 ≤ ji4 := by omega))
  have hji4_ : (if a0 < 0 then 0 else a0) = ji4 := hji4
  obtain ⟨ji5, hji5⟩ : ∃ j_ : Int, (mn (ji4) (t104.length : Int)) = j_ := ⟨_, rfl⟩
  replace H : (if 0 ≤ (ji5) then (if (ji5) ≤ (t104.length : Int) then (some (t104.take ((ji5) : Int).toNat)) else (none)) else (none)) = some r := by first | (rw [hji5] at H; exact H) | (simp only [hji5] at H ⊢; exact H)
  (try rw [hji5] at A3)
  have hji5_ : (if (t104.length : Int) < (ji4) then (t104.length : Int) else (ji4)) = ji5 := hji5
  by_cases c6 : 0 ≤ (ji5)
  · rw [if_pos c6] at H
    have c6b0 := eq_true c6
    have c6b1 : decide (0 ≤ (ji5)) = true := decide_eq_true c6
    clear c6
    by_cases c7 : (ji5) ≤ (t104.length : Int)
    · rw [if_pos c7] at H
      have c7b0 := eq_true c7
      have c7b1 : decide ((ji5) ≤ (t104.length : Int)) = true := decide_eq_true c7
      clear c7
      obtain ⟨y107, hy107⟩ : ∃ y_ : List (S34), y_ = (t104.take ((ji5) : Int).toNat) := ⟨_, rfl⟩
      replace H : (some y107) = some r := by first | (rw [hy107]; with_reducible exact H) | (have H2_ := (Option.bind_some _ _).symm.trans H; rw [hy107]; with_reducible exact H2_) | (have H2_ := (Option.bind_some _ _).symm.trans H; with_reducible exact H2_) | with_reducible exact H | (rw [hy107]; exact H) | exact H
      have Ny107 := Aside0.mk hy107
      clear hy107
      obtain rfl := Option.some.inj H
      go_enter Try.func10, Try.ntmps10
      go_wp2_with (first | ((with_reducible refine gate_callee (f := 9) rfl ?_); refine goesL_ (some 7) rfl rfl Try.func9 (by kernel_rfl) rfl #[.slice A1 l1.length c1] rfl (by (try simp only [List.map_toArray, List.map_cons, List.map_nil]); first | done | rfl | (simp only [List.length_drop, List.length_take]; rfl)) ?_; (with_reducible refine (rank_Sort.calls _ _ l1 t104 _ ?side1 ?side2 A3.out).mono ?_); (case side1 => repeat (first | exact HR1.out | (with_reducible refine Kd.C_alloc ?_ _) | (with_reducible refine Kd.C_drewN ?_ _) | (with_reducible refine Kd.C_drew ?_))); (case side2 => exact HC1.out); rintro e w8 ⟨v105, rfl, ho0, hb⟩; refine ⟨_, rfl, ?_⟩; have n0_ := Aside0.mk (Kd.R_lower ho0 (below_size (by repeat (first | (with_reducible first | exact HB.out | apply below_alloc | apply pw_below_drewN | apply below_drew1) | exact HB.out)))); have n1_ := Aside0.mk (below_step (by repeat (first | (with_reducible first | exact HB.out | apply below_alloc | apply pw_below_drewN | apply below_drew1) | exact HB.out)) hb); clear HB; have HO106 := n0_; have HB := n1_; clear n0_ n1_; (try clear hb); (try clear hb2); (try clear hk); (try clear hi); (try clear ho0); obtain ⟨Ao9, co9, eo9⟩ := Kd.R_slice HO106.out; subst eo9; have q10 : ((ji5) : Int) ≤ ((t104.length : Int) : Int) := of_decide_eq_true (by first | (with_reducible assumption) | assumption); obtain ⟨i010, hi010, _, hsz10, _⟩ := info_parts info34; have hcut10 := cut_to (P := Try.prog) 22 34 .i64 Try.underlying22 hi010 Ao9 t104.length co9 (ji5) (of_decide_eq_true (by first | (with_reducible assumption) | assumption)) q10 (Kd.R_reads' HO106.out).2.1; have hr10 := Kd.R_take (m := ((ji5) : Int).toNat) HO106.out (by omega); have hy10 : y107.length = ((ji5) : Int).toNat := (by rw [Ny107.out, List.length_take]; omega); rw [← Ny107.out] at hr10; rw [← hy10] at hr10 hcut10; clear hy10 hi010 hsz10 HO106; have HO109 := Aside0.mk hr10; clear hr10; replace q10 := eq_true q10))
      go_ret
      exact ⟨_, by first | rfl | (simp [errW_none, errW_some] <;> rfl) | (simp only [← hji4, ← hji5]; first | rfl | (simp [errW_none, errW_some] <;> rfl)) | (simp [*, errW_none, errW_some] <;> rfl), by (with_reducible repeat (first | apply Kd.R_alloc | apply Kd.R_drewN | apply Kd.R_drew)); exact HO109.out, by repeat (first | (with_reducible first | exact HB.out | apply below_alloc | apply pw_below_drewN | apply below_drew1) | exact HB.out)⟩
    · rw [if_neg c7] at H
      exact absurd H (by simp)
  · rw [if_neg c6] at H
    exact absurd H (by simp)
def rank_Place.f (l0 : List (S34)) (a1_0 : Int) (a1_1 : Int) : Option (Int × Bool) := if l0.length ≤ 1000000 then some (placeN ⟨a1_0, a1_1⟩ (l0.map toA)) else none
theorem rank_Place.calls (A0 : Option Addr) (c0 : Nat) (l0 : List (S34)) (a1_0 : Int) (a1_1 : Int) (r1 : Int) (r2 : Bool) (w : World) (hr0 : Kd.C k34 w A0 l0.length l0) (hc0 : l0.length ≤ c0) (h : rank_Place.f l0 a1_0 a1_1 = some (r1, r2)) :
    Calls Try.prog 11 #[.slice A0 l0.length c0, .agg #[.int .i64 a1_0, .int .i64 a1_1]] w fun e w' => e = .returned (.tuple #[.int .i64 r1, .bool r2]) ∧ Below w.heap.size w w' := by
  by_cases hl : l0.length ≤ 1000000
  · unfold rank_Place.f at h
    rw [if_pos hl] at h
    have e := Option.some.inj h
    have := place_calls (l0.map toA) ⟨a1_0, a1_1⟩ (by simpa using hl) w _ (alarms_rel hr0 hc0)
    rw [e] at this
    exact this
  · unfold rank_Place.f at h
    rw [if_neg hl] at h
    cases h
def watchmanref07_press.f (a0 : Int) : Option (Int) := if a0 = 2 then (some 0) else (if a0 = 1 then (some 1) else (if a0 = 4 then (some 2) else (if a0 = 3 then (some 3) else (some 4))))
set_option maxHeartbeats 8000000 in
set_option maxRecDepth 100000 in
theorem watchmanref07_press.calls (a0 : Int) (r : Int) (w : World) (h : watchmanref07_press.f a0 = some r) :
    Calls Try.prog 37 #[.int .i64 a0] w fun e w' => e = .returned (.int .i64 r) ∧ Drawn0 w w' := by
  have H : (if a0 = 2 then (some 0) else (if a0 = 1 then (some 1) else (if a0 = 4 then (some 2) else (if a0 = 3 then (some 3) else (some 4))))) = some r := h
  clear h
  by_cases c2 : a0 = 2
  · rw [if_pos c2] at H
    have c2b0 : (a0 == 2) = true := beq_iff_eq.mpr c2
    have c2b1 : (a0 != 2) = false := bne_eq_false_iff_eq.mpr c2
    clear c2
    obtain rfl := Option.some.inj H
    go_enter Try.func37, Try.ntmps37
    go_wp2
    go_ret
    exact ⟨by first | rfl | (simp; done) | (simp [*]; done), by repeat (first | exact Drawn0.refl _ | apply Drawn0.step)⟩
  · rw [if_neg c2] at H
    have c2b0 : (a0 == 2) = false := beq_eq_false_iff_ne.mpr c2
    have c2b1 : (a0 != 2) = true := bne_iff_ne.mpr c2
    by_cases c3 : a0 = 1
    · rw [if_pos c3] at H
      have c3b0 : (a0 == 1) = true := beq_iff_eq.mpr c3
      have c3b1 : (a0 != 1) = false := bne_eq_false_iff_eq.mpr c3
      clear c3
      obtain rfl := Option.some.inj H
      go_enter Try.func37, Try.ntmps37
      go_wp2
      go_ret
      exact ⟨by first | rfl | (simp; done) | (simp [*]; done), by repeat (first | exact Drawn0.refl _ | apply Drawn0.step)⟩
    · rw [if_neg c3] at H
      have c3b0 : (a0 == 1) = false := beq_eq_false_iff_ne.mpr c3
      have c3b1 : (a0 != 1) = true := bne_iff_ne.mpr c3
      by_cases c4 : a0 = 4
      · rw [if_pos c4] at H
        have c4b0 : (a0 == 4) = true := beq_iff_eq.mpr c4
        have c4b1 : (a0 != 4) = false := bne_eq_false_iff_eq.mpr c4
        clear c4
        obtain rfl := Option.some.inj H
        go_enter Try.func37, Try.ntmps37
        go_wp2
        go_ret
        exact ⟨by first | rfl | (simp; done) | (simp [*]; done), by repeat (first | exact Drawn0.refl _ | apply Drawn0.step)⟩
      · rw [if_neg c4] at H
        have c4b0 : (a0 == 4) = false := beq_eq_false_iff_ne.mpr c4
        have c4b1 : (a0 != 4) = true := bne_iff_ne.mpr c4
        by_cases c5 : a0 = 3
        · rw [if_pos c5] at H
          have c5b0 : (a0 == 3) = true := beq_iff_eq.mpr c5
          have c5b1 : (a0 != 3) = false := bne_eq_false_iff_eq.mpr c5
          clear c5
          obtain rfl := Option.some.inj H
          go_enter Try.func37, Try.ntmps37
          go_wp2
          go_ret
          exact ⟨by first | rfl | (simp; done) | (simp [*]; done), by repeat (first | exact Drawn0.refl _ | apply Drawn0.step)⟩
        · rw [if_neg c5] at H
          have c5b0 : (a0 == 3) = false := beq_eq_false_iff_ne.mpr c5
          have c5b1 : (a0 != 3) = true := bne_iff_ne.mpr c5
          obtain rfl := Option.some.inj H
          go_enter Try.func37, Try.ntmps37
          go_wp2
          go_ret
          exact ⟨by first | rfl | (simp; done) | (simp [*]; done), by repeat (first | exact Drawn0.refl _ | apply Drawn0.step)⟩
def watchmanref07_keys.f (a0_0 : Int) (a0_1 : Int) (a0_2 : Int) (a0_3 : Int) (a0_4 : Int) (a0_5 : Int) : Option (List Int) := (watchmanref07_press.f a0_2).bind fun t111 => (some (([t111, a0_3, a0_4, a0_5, a0_2, a0_0, a0_1] : List Int)))
def watchmanref07_keys.T1 : Bool × List (List Nat × List Nat) := (true, [([], []), ([0], [0]), ([1], [1]), ([], []), ([3], [3]), ([], []), ([5], [5]), ([], []), ([7], [7]), ([], []), ([9], [9]), ([], []), ([11], [11]), ([12], [12]), ([], []), ([14], [14]), ([15], [15]), ([2, 4, 6, 8, 10, 13, 16], [2, 4, 6, 8, 10, 13, 16]), ([17, 2, 0, 1, 2, 3, 4, 5, 6, 7, 8, 9, 10, 11, 12, 13, 14, 15, 16, 17], [17])])
def watchmanref07_keys.B1 : List Nat := [0, 1, 3, 0, 8, 0, 32, 0, 128, 0, 512, 0, 2048, 6144, 0, 16384, 49152, 131071, 262143]
theorem watchmanref07_keys.tab1 : rtab .any (opsOf Try.f28 1) = watchmanref07_keys.T1 := by kernel_rfl
theorem watchmanref07_keys.bits1 : waitsOk watchmanref07_keys.T1.2 watchmanref07_keys.B1 = true := by kernel_rfl
set_option maxHeartbeats 8000000 in
set_option maxRecDepth 100000 in
theorem watchmanref07_keys.calls (a0_0 : Int) (a0_1 : Int) (a0_2 : Int) (a0_3 : Int) (a0_4 : Int) (a0_5 : Int) (r : List Int) (w : World) (h : watchmanref07_keys.f a0_0 a0_1 a0_2 a0_3 a0_4 a0_5 = some r) :
    Calls Try.prog 28 #[.agg #[.int .i64 a0_0, .int .i64 a0_1, .int .i64 a0_2, .int .i64 a0_3, .int .i64 a0_4, .int .i64 a0_5]] w fun e w' => ∃ v0_ : Value, e = .returned (v0_) ∧ Kd.R (Kd.int .i64) 3 w' w.heap.size (fun _ => True) v0_ r ∧ Below w.heap.size w w' := by
  have hu34 := Try.underlying34
  have HB := Aside0.mk (Below.refl w.heap.size w)
  have H : ((watchmanref07_press.f a0_2).bind fun t111 => (some (([t111, a0_3, a0_4, a0_5, a0_2, a0_0, a0_1] : List Int)))) = some r := h
  clear h
  replace H := Option.bind_eq_some_iff.mp H
  obtain ⟨t111, A20, H⟩ := H
  replace H : (some (([t111, a0_3, a0_4, a0_5, a0_2, a0_0, a0_1] : List Int))) = some r := H
  have A2 := Aside0.mk A20
  clear A20
  obtain ⟨y112, hy112⟩ : ∃ y_ : List Int, y_ = (([t111, a0_3, a0_4, a0_5, a0_2, a0_0, a0_1] : List Int)) := ⟨_, rfl⟩
  replace H : (some y112) = some r := by first | (rw [hy112]; with_reducible exact H) | (have H2_ := (Option.bind_some _ _).symm.trans H; rw [hy112]; with_reducible exact H2_) | (have H2_ := (Option.bind_some _ _).symm.trans H; with_reducible exact H2_) | with_reducible exact H | (rw [hy112]; exact H) | exact H
  have Ny112 := Aside0.mk hy112
  clear hy112
  obtain rfl := Option.some.inj H
  go_enter Try.func28, Try.ntmps28
  try go_wp2_with (first | ((with_reducible refine gate_dst (N := 1) rfl ?_); refine box_event ?hg (N := 1) ?hd (cs := #[.int .i64 a0_0, .int .i64 a0_1, .int .i64 a0_2, .int .i64 a0_3, .int .i64 a0_4, .int .i64 a0_5]) (t := 34) ?hr ?_; (case hd => rfl); (case hg => rfl); (case hr => first | (go_simp; done) | (go_simp; rfl)); intro gb110 hg w3 hbox hb; have n0_ := Aside0.mk (below_step (by repeat (first | (with_reducible first | exact HB.out | apply below_alloc | apply pw_below_drewN | apply below_drew1) | exact HB.out)) hb); have n1_ := Aside0.mk (hbox); have n2_ := Aside0.mk ((by rw [hg]; exact (below_size (by repeat (first | (with_reducible first | exact HB.out | apply below_alloc | apply pw_below_drewN | apply below_drew1) | exact HB.out))) : w.heap.size ≤ gb110)); have n3_ := Aside0.mk ((by rw [hg]; exact (below_size (by repeat (first | (with_reducible first | exact HB.out | apply below_alloc | apply pw_below_drewN | apply below_drew1) | exact HB.out))) : w.heap.size ≤ gb110)); clear HB; have HB := n0_; have BK110 := n1_; have GW110 := n2_; have GE110 := n3_; clear n0_ n1_ n2_ n3_; clear hb hbox hg))
  have n0_ := Aside0.mk (blk_drew BK110.out)
  have n1_ := Aside0.mk (below_drew1 HB.out)
  clear BK110
  clear HB
  have BK110 := n0_
  have HB := n1_
  clear n0_ n1_
  refine start_ (n := 19) (S := fun w' => w'.cell? ⟨gb110, 0, none⟩ = some (.int .i64 a0_0) ∧ w'.cell? ⟨gb110, 1, none⟩ = some (.int .i64 a0_1) ∧ w'.cell? ⟨gb110, 2, none⟩ = some (.int .i64 a0_2) ∧ w'.cell? ⟨gb110, 3, none⟩ = some (.int .i64 a0_3) ∧ w'.cell? ⟨gb110, 4, none⟩ = some (.int .i64 a0_4) ∧ w'.cell? ⟨gb110, 5, none⟩ = some (.int .i64 a0_5)) (ds := []) #[false, false, false, false, false, false, false, false, false, false, false, false, false, false, false, false, false, false, false] (by kernel_rfl) rfl rfl ⟨(blk_cell BK110.out 0).trans rfl, (blk_cell BK110.out 1).trans rfl, (blk_cell BK110.out 2).trans rfl, (blk_cell BK110.out 3).trans rfl, (blk_cell BK110.out 4).trans rfl, (blk_cell BK110.out 5).trans rfl⟩ (fun hHeld => ?_); refine with_tabW watchmanref07_keys.tab1 watchmanref07_keys.bits1 (fun HT_ HW_ => ?_)
  generalize w3.drew = w4 at BK110 HB hHeld ⊢
  refine pure_ (i := 0) (N := some 3) (v := ?_) (a' := ?_) #[true, false, false, false, false, false, false, false, false, false, false, false, false, false, false, false, false, false, false] rfl rfl (any_of HT_.out (by kernel_rfl)) (fun _ _ _ h => h) (Or.inl ⟨by rfl, ?_⟩) ?_ ?_
  rotate_left
  · intro w'
    go_simp
    with_reducible rfl
  rotate_left
  · simp only [Act.put, List.setIfInBounds_toArray, List.set_cons_zero, List.set_cons_succ, i64_w, i32_w]
    rfl
  refine pure_ (i := 3) (N := some 6) (v := ?_) (a' := ?_) #[true, false, false, true, false, false, false, false, false, false, false, false, false, false, false, false, false, false, false] rfl rfl (any_of HT_.out (by kernel_rfl)) (fun _ _ _ h => h) (Or.inl ⟨by rfl, ?_⟩) ?_ ?_
  rotate_left
  · intro w'
    go_simp
    with_reducible rfl
  rotate_left
  · simp only [Act.put, List.setIfInBounds_toArray, List.set_cons_zero, List.set_cons_succ, i64_w, i32_w]
    rfl
  refine pure_ (i := 5) (N := some 8) (v := ?_) (a' := ?_) #[true, false, false, true, false, true, false, false, false, false, false, false, false, false, false, false, false, false, false] rfl rfl (any_of HT_.out (by kernel_rfl)) (fun _ _ _ h => h) (Or.inl ⟨by rfl, ?_⟩) ?_ ?_
  rotate_left
  · intro w'
    go_simp
    with_reducible rfl
  rotate_left
  · simp only [Act.put, List.setIfInBounds_toArray, List.set_cons_zero, List.set_cons_succ, i64_w, i32_w]
    rfl
  refine pure_ (i := 7) (N := some 10) (v := ?_) (a' := ?_) #[true, false, false, true, false, true, false, true, false, false, false, false, false, false, false, false, false, false, false] rfl rfl (any_of HT_.out (by kernel_rfl)) (fun _ _ _ h => h) (Or.inl ⟨by rfl, ?_⟩) ?_ ?_
  rotate_left
  · intro w'
    go_simp
    with_reducible rfl
  rotate_left
  · simp only [Act.put, List.setIfInBounds_toArray, List.set_cons_zero, List.set_cons_succ, i64_w, i32_w]
    rfl
  refine pure_ (i := 9) (N := some 12) (v := ?_) (a' := ?_) #[true, false, false, true, false, true, false, true, false, true, false, false, false, false, false, false, false, false, false] rfl rfl (any_of HT_.out (by kernel_rfl)) (fun _ _ _ h => h) (Or.inl ⟨by rfl, ?_⟩) ?_ ?_
  rotate_left
  · intro w'
    go_simp
    with_reducible rfl
  rotate_left
  · simp only [Act.put, List.setIfInBounds_toArray, List.set_cons_zero, List.set_cons_succ, i64_w, i32_w]
    rfl
  refine pure_ (i := 11) (N := some 14) (v := ?_) (a' := ?_) #[true, false, false, true, false, true, false, true, false, true, false, true, false, false, false, false, false, false, false] rfl rfl (any_of HT_.out (by kernel_rfl)) (fun _ _ _ h => h) (Or.inl ⟨by rfl, ?_⟩) ?_ ?_
  rotate_left
  · intro w'
    go_simp
    with_reducible rfl
  rotate_left
  · simp only [Act.put, List.setIfInBounds_toArray, List.set_cons_zero, List.set_cons_succ, i64_w, i32_w]
    rfl
  refine pure_ (i := 12) (N := some 15) (v := ?_) (a' := ?_) #[true, false, false, true, false, true, false, true, false, true, false, true, true, false, false, false, false, false, false] rfl rfl (any_of HT_.out (by kernel_rfl)) (fun _ _ _ h => h) (Or.inl ⟨by rfl, ?_⟩) ?_ ?_
  rotate_left
  · intro w'
    go_simp
    with_reducible rfl
  rotate_left
  · simp only [Act.put, List.setIfInBounds_toArray, List.set_cons_zero, List.set_cons_succ, i64_w, i32_w]
    rfl
  refine pure_ (i := 14) (N := some 17) (v := ?_) (a' := ?_) #[true, false, false, true, false, true, false, true, false, true, false, true, true, false, true, false, false, false, false] rfl rfl (any_of HT_.out (by kernel_rfl)) (fun _ _ _ h => h) (Or.inl ⟨by rfl, ?_⟩) ?_ ?_
  rotate_left
  · intro w'
    go_simp
    with_reducible rfl
  rotate_left
  · simp only [Act.put, List.setIfInBounds_toArray, List.set_cons_zero, List.set_cons_succ, i64_w, i32_w]
    rfl
  refine pure_ (i := 15) (N := some 18) (v := ?_) (a' := ?_) #[true, false, false, true, false, true, false, true, false, true, false, true, true, false, true, true, false, false, false] rfl rfl (any_of HT_.out (by kernel_rfl)) (fun _ _ _ h => h) (Or.inl ⟨by rfl, ?_⟩) ?_ ?_
  rotate_left
  · intro w'
    go_simp
    with_reducible rfl
  rotate_left
  · simp only [Act.put, List.setIfInBounds_toArray, List.set_cons_zero, List.set_cons_succ, i64_w, i32_w]
    rfl
  refine take_ (i := 1) (N := some 4) (v := ?_) (a' := ?_) #[true, true, false, true, false, true, false, true, false, true, false, true, true, false, true, true, false, false, false] rfl rfl (take_ofW HT_.out HW_.out (by kernel_rfl)) (fun _ _ _ h => h) (Or.inl ⟨by rfl, ?_⟩) hHeld ?_ ?_
  rotate_left
  · rintro w' ⟨s0, s1, s2, s3, s4, s5⟩
    go_simp
    with_reducible rfl
  rotate_left
  · simp only [Act.put, List.setIfInBounds_toArray, List.set_cons_zero, List.set_cons_succ, i64_w, i32_w]
    rfl
  refine take_ (i := 4) (N := some 7) (v := ?_) (a' := ?_) #[true, true, false, true, true, true, false, true, false, true, false, true, true, false, true, true, false, false, false] rfl rfl (take_ofW HT_.out HW_.out (by kernel_rfl)) (fun _ _ _ h => h) (Or.inl ⟨by rfl, ?_⟩) hHeld ?_ ?_
  rotate_left
  · rintro w' ⟨s0, s1, s2, s3, s4, s5⟩
    go_simp
    with_reducible rfl
  rotate_left
  · simp only [Act.put, List.setIfInBounds_toArray, List.set_cons_zero, List.set_cons_succ, i64_w, i32_w]
    rfl
  refine take_ (i := 6) (N := some 9) (v := ?_) (a' := ?_) #[true, true, false, true, true, true, true, true, false, true, false, true, true, false, true, true, false, false, false] rfl rfl (take_ofW HT_.out HW_.out (by kernel_rfl)) (fun _ _ _ h => h) (Or.inl ⟨by rfl, ?_⟩) hHeld ?_ ?_
  rotate_left
  · rintro w' ⟨s0, s1, s2, s3, s4, s5⟩
    go_simp
    with_reducible rfl
  rotate_left
  · simp only [Act.put, List.setIfInBounds_toArray, List.set_cons_zero, List.set_cons_succ, i64_w, i32_w]
    rfl
  refine take_ (i := 8) (N := some 11) (v := ?_) (a' := ?_) #[true, true, false, true, true, true, true, true, true, true, false, true, true, false, true, true, false, false, false] rfl rfl (take_ofW HT_.out HW_.out (by kernel_rfl)) (fun _ _ _ h => h) (Or.inl ⟨by rfl, ?_⟩) hHeld ?_ ?_
  rotate_left
  · rintro w' ⟨s0, s1, s2, s3, s4, s5⟩
    go_simp
    with_reducible rfl
  rotate_left
  · simp only [Act.put, List.setIfInBounds_toArray, List.set_cons_zero, List.set_cons_succ, i64_w, i32_w]
    rfl
  refine take_ (i := 10) (N := some 13) (v := ?_) (a' := ?_) #[true, true, false, true, true, true, true, true, true, true, true, true, true, false, true, true, false, false, false] rfl rfl (take_ofW HT_.out HW_.out (by kernel_rfl)) (fun _ _ _ h => h) (Or.inl ⟨by rfl, ?_⟩) hHeld ?_ ?_
  rotate_left
  · rintro w' ⟨s0, s1, s2, s3, s4, s5⟩
    go_simp
    with_reducible rfl
  rotate_left
  · simp only [Act.put, List.setIfInBounds_toArray, List.set_cons_zero, List.set_cons_succ, i64_w, i32_w]
    rfl
  refine take_ (i := 13) (N := some 16) (v := ?_) (a' := ?_) #[true, true, false, true, true, true, true, true, true, true, true, true, true, true, true, true, false, false, false] rfl rfl (take_ofW HT_.out HW_.out (by kernel_rfl)) (fun _ _ _ h => h) (Or.inl ⟨by rfl, ?_⟩) hHeld ?_ ?_
  rotate_left
  · rintro w' ⟨s0, s1, s2, s3, s4, s5⟩
    go_simp
    with_reducible rfl
  rotate_left
  · simp only [Act.put, List.setIfInBounds_toArray, List.set_cons_zero, List.set_cons_succ, i64_w, i32_w]
    rfl
  refine take_ (i := 16) (N := some 19) (v := ?_) (a' := ?_) #[true, true, false, true, true, true, true, true, true, true, true, true, true, true, true, true, true, false, false] rfl rfl (take_ofW HT_.out HW_.out (by kernel_rfl)) (fun _ _ _ h => h) (Or.inl ⟨by rfl, ?_⟩) hHeld ?_ ?_
  rotate_left
  · rintro w' ⟨s0, s1, s2, s3, s4, s5⟩
    go_simp
    with_reducible rfl
  rotate_left
  · simp only [Act.put, List.setIfInBounds_toArray, List.set_cons_zero, List.set_cons_succ, i64_w, i32_w]
    rfl
  refine one_ (i := 2) (N := some 5) #[true, true, true, true, true, true, true, true, true, true, true, true, true, true, true, true, true, false, false] rfl rfl (one_of HT_.out (by kernel_rfl)) (by decide) (fun K hK => ?_)
  refine goes_ Try.func37 (by kernel_rfl) rfl #[.int .i64 a0_2] (by rfl) rfl rfl (by (try simp only [List.map_toArray, List.map_cons, List.map_nil]); first | done | rfl | (simp only [List.length_drop, List.length_take]; rfl)) ?_
  with_reducible refine (watchmanref07_press.calls a0_2 t111 _ A2.out).mono ?_
  rintro e w' ⟨rfl, ⟨nd, rfl⟩⟩
  refine ⟨_, rfl, ?_⟩
  refine hK.out _ _ ⟨(blk_cell BK110.out 0).trans rfl, (blk_cell BK110.out 1).trans rfl, (blk_cell BK110.out 2).trans rfl, (blk_cell BK110.out 3).trans rfl, (blk_cell BK110.out 4).trans rfl, (blk_cell BK110.out 5).trans rfl⟩ (fun hHeld => ?_)
  clear hK K
  refine norm_ (a' := ?_) ?_ ?_
  rotate_left
  · show Act.put _ (some 5) _ = _
    simp only [Act.put, List.setIfInBounds_toArray, List.set_cons_zero, List.set_cons_succ, i64_w, i32_w]
    rfl
  refine one_ (i := 17) (N := some 20) #[true, true, true, true, true, true, true, true, true, true, true, true, true, true, true, true, true, true, false] rfl rfl (one_of HT_.out (by kernel_rfl)) (by decide) (fun K hK => ?_)
  refine Kd.R_lit_step (Kd.int .i64) _ 3 ?hg (N := 20) ?hd (xs := ([t111, a0_3, a0_4, a0_5, a0_2, a0_0, a0_1] : List Int)) (inner := [.int .i64 t111, .int .i64 a0_3, .int .i64 a0_4, .int .i64 a0_5, .int .i64 a0_2, .int .i64 a0_0, .int .i64 a0_1]) (ok := fun _ => True) (okp := fun _ => True) ?hr ?hp (fun _ hk => hk) trivial (Below.refl _ _) (Nat.le_refl _) (by simp) ?_; (case hd => rfl); (case hg => rfl); (case hr => first | (go_simp; done) | (go_simp; rfl)); (case hp => exact (Reps.one (show Kd.M (Kd.int .i64) _ _ _ t111 [.int .i64 t111] from rfl) (Reps.one (show Kd.M (Kd.int .i64) _ _ _ a0_3 [.int .i64 a0_3] from rfl) (Reps.one (show Kd.M (Kd.int .i64) _ _ _ a0_4 [.int .i64 a0_4] from rfl) (Reps.one (show Kd.M (Kd.int .i64) _ _ _ a0_5 [.int .i64 a0_5] from rfl) (Reps.one (show Kd.M (Kd.int .i64) _ _ _ a0_2 [.int .i64 a0_2] from rfl) (Reps.one (show Kd.M (Kd.int .i64) _ _ _ a0_0 [.int .i64 a0_0] from rfl) (Reps.one (show Kd.M (Kd.int .i64) _ _ _ a0_1 [.int .i64 a0_1] from rfl) (Reps.none _ _)))))))))
  intro v113 w5 ho6 hb hg_ hnew_
  clear hg_ hnew_
  (first | rw [← Ny112.out] at ho6 | (simp only [Int.reduceToNat] at ho6; rw [← Ny112.out] at ho6))
  have n0_ := Aside0.mk (Kd.R_lower ho6 (below_size (by repeat (first | (with_reducible first | exact HB.out | apply below_alloc | apply pw_below_drewN | apply below_drew1 | refine below_set ?_ GE110.out) | exact HB.out))))
  have n1_ := Aside0.mk (blk_below (g := gb110) (o := .cells #[.int .i64 a0_0, .int .i64 a0_1, .int .i64 a0_2, .int .i64 a0_3, .int .i64 a0_4, .int .i64 a0_5] 34 (0, 0)) (by (with_reducible repeat (first | refine blk_drewN ?_ _ | refine blk_drew ?_ | refine blk_alloc ?_ _)); exact BK110.out) hb)
  have n2_ := Aside0.mk (below_step (by repeat (first | (with_reducible first | exact HB.out | apply below_alloc | apply pw_below_drewN | apply below_drew1 | refine below_set ?_ GE110.out) | exact HB.out)) hb)
  clear BK110
  clear HB
  have HO114 := n0_
  have BK110 := n1_
  have HB := n2_
  clear n0_ n1_ n2_
  clear hb ho6
  refine hK.out _ _ ⟨(blk_cell BK110.out 0).trans rfl, (blk_cell BK110.out 1).trans rfl, (blk_cell BK110.out 2).trans rfl, (blk_cell BK110.out 3).trans rfl, (blk_cell BK110.out 4).trans rfl, (blk_cell BK110.out 5).trans rfl⟩ (fun hHeld => ?_)
  clear hK K
  refine norm_ (a' := ?_) ?_ ?_
  rotate_left
  · show Act.put _ (some 20) _ = _
    simp only [Act.put, List.setIfInBounds_toArray, List.set_cons_zero, List.set_cons_succ, i64_w, i32_w]
    rfl
  refine pure_ (i := 18) (N := some 2) (v := ?_) (a' := ?_) #[true, true, true, true, true, true, true, true, true, true, true, true, true, true, true, true, true, true, true] rfl rfl (any_of HT_.out (by kernel_rfl)) (fun _ _ _ h => h) (Or.inl ⟨by rfl, ?_⟩) ?_ ?_
  rotate_left
  · intro w'
    go_simp
    with_reducible rfl
  rotate_left
  · simp only [Act.put, List.setIfInBounds_toArray, List.set_cons_zero, List.set_cons_succ, i64_w, i32_w]
    rfl
  refine done_ (done_of HT_.out (by kernel_rfl)) ?_
  try go_wp2
  go_ret
  exact ⟨_, by first | rfl | (simp [errW_none, errW_some] <;> rfl) | (simp [*, errW_none, errW_some] <;> rfl), by (with_reducible repeat (first | apply Kd.R_alloc | apply Kd.R_drewN | apply Kd.R_drew)); exact HO114.out, by repeat (first | (with_reducible first | exact HB.out | apply below_alloc | apply pw_below_drewN | apply below_drew1 | refine below_set ?_ GE110.out) | exact HB.out)⟩
def watchmanref07_Compare.l0 : Nat → List Int → List Int → Int → Option (Int)
  | 0, _, _, _ => none
  | k + 1, x5, x6, x7 => if x7 < (x5.length : Int) then (if 0 ≤ x7 then (if x7 < (x6.length : Int) then (if (rd x5 x7) < (rd x6 x7) then (some (-1)) else (if (rd x5 x7) > (rd x6 x7) then (some 1) else (watchmanref07_Compare.l0 k x5 x6 (wrap64 (x7 + 1))))) else (none)) else (none)) else (some 0)
def watchmanref07_Compare.f (k : Nat) (a0_0 : Int) (a0_1 : Int) (a0_2 : Int) (a0_3 : Int) (a0_4 : Int) (a0_5 : Int) (a1_0 : Int) (a1_1 : Int) (a1_2 : Int) (a1_3 : Int) (a1_4 : Int) (a1_5 : Int) : Option (Int) := (watchmanref07_keys.f a0_0 a0_1 a0_2 a0_3 a0_4 a0_5).bind fun t117 => ((watchmanref07_keys.f a1_0 a1_1 a1_2 a1_3 a1_4 a1_5).bind fun t120 => (watchmanref07_Compare.l0 k t117 t120 0))
theorem watchmanref07_Compare.mono_l : ∀ k, (∀ y0 y1 y2, LeO (watchmanref07_Compare.l0 k y0 y1 y2) (watchmanref07_Compare.l0 (k + 1) y0 y1 y2))
  | 0 => fun _ _ _ r h => by simp [watchmanref07_Compare.l0] at h
  | k + 1 => by
    have ih0 := watchmanref07_Compare.mono_l k
    · intro y0 y1 y2
      unfold watchmanref07_Compare.l0
      repeat' first
      | (with_reducible exact ih0 _ _ _)
      | (with_reducible exact LeO.refl _)
      | (with_reducible exact LeO.none _)
      | (with_reducible refine LeO.ite ?_ ?_)
      | (with_reducible refine LeO.bind ?_ (fun _ => ?_))
      | exact ih0 _ _ _
      | exact LeO.none _
      | refine LeO.ite ?_ ?_
      | refine LeO.bind ?_ (fun _ => ?_)
theorem watchmanref07_Compare.mono : ∀ a0 a1 a2 a3 a4 a5 a6 a7 a8 a9 a10 a11 k, LeO (watchmanref07_Compare.f k a0 a1 a2 a3 a4 a5 a6 a7 a8 a9 a10 a11) (watchmanref07_Compare.f (k + 1) a0 a1 a2 a3 a4 a5 a6 a7 a8 a9 a10 a11) := by
  intro a0 a1 a2 a3 a4 a5 a6 a7 a8 a9 a10 a11 k
  have ih0 := watchmanref07_Compare.mono_l k
  unfold watchmanref07_Compare.f
  repeat' first
      | (with_reducible exact ih0 _ _ _)
      | (with_reducible exact LeO.refl _)
      | (with_reducible exact LeO.none _)
      | (with_reducible refine LeO.ite ?_ ?_)
      | (with_reducible refine LeO.bind ?_ (fun _ => ?_))
      | exact ih0 _ _ _
      | exact LeO.none _
      | refine LeO.ite ?_ ?_
      | refine LeO.bind ?_ (fun _ => ?_)
set_option maxHeartbeats 8000000 in
set_option maxRecDepth 100000 in
theorem watchmanref07_Compare.calls (k : Nat) (a0_0 : Int) (a0_1 : Int) (a0_2 : Int) (a0_3 : Int) (a0_4 : Int) (a0_5 : Int) (a1_0 : Int) (a1_1 : Int) (a1_2 : Int) (a1_3 : Int) (a1_4 : Int) (a1_5 : Int) (r : Int) (w : World) (h : watchmanref07_Compare.f k a0_0 a0_1 a0_2 a0_3 a0_4 a0_5 a1_0 a1_1 a1_2 a1_3 a1_4 a1_5 = some r) :
    Calls Try.prog 19 #[.agg #[.int .i64 a0_0, .int .i64 a0_1, .int .i64 a0_2, .int .i64 a0_3, .int .i64 a0_4, .int .i64 a0_5], .agg #[.int .i64 a1_0, .int .i64 a1_1, .int .i64 a1_2, .int .i64 a1_3, .int .i64 a1_4, .int .i64 a1_5]] w fun e w' => e = .returned (.int .i64 r) ∧ Below w.heap.size w w' := by
  have hu34 := Try.underlying34
  have HB := Aside0.mk (Below.refl w.heap.size w)
  have H : ((watchmanref07_keys.f a0_0 a0_1 a0_2 a0_3 a0_4 a0_5).bind fun t117 => ((watchmanref07_keys.f a1_0 a1_1 a1_2 a1_3 a1_4 a1_5).bind fun t120 => (watchmanref07_Compare.l0 k t117 t120 0))) = some r := h
  clear h
  replace H := Option.bind_eq_some_iff.mp H
  obtain ⟨t117, A30, H⟩ := H
  replace H : ((watchmanref07_keys.f a1_0 a1_1 a1_2 a1_3 a1_4 a1_5).bind fun t120 => (watchmanref07_Compare.l0 k t117 t120 0)) = some r := H
  have A3 := Aside0.mk A30
  clear A30
  replace H := Option.bind_eq_some_iff.mp H
  obtain ⟨t120, A40, H⟩ := H
  replace H : (watchmanref07_Compare.l0 k t117 t120 0) = some r := H
  have A4 := Aside0.mk A40
  clear A40
  have H' := Aside0.mk H
  clear H
  go_enter Try.func19, Try.ntmps19
  go_wp2_with (first | ((with_reducible refine gate_dst (N := 2) rfl ?_); refine box_event ?hg (N := 2) ?hd (cs := #[.int .i64 a0_0, .int .i64 a0_1, .int .i64 a0_2, .int .i64 a0_3, .int .i64 a0_4, .int .i64 a0_5]) (t := 34) ?hr ?_; (case hd => rfl); (case hg => rfl); (case hr => first | (go_simp; done) | (go_simp; rfl)); intro gb115 hg w5 hbox hb; have n0_ := Aside0.mk (below_step (by repeat (first | (with_reducible first | exact HB.out | apply below_alloc | apply pw_below_drewN | apply below_drew1) | exact HB.out)) hb); have n1_ := Aside0.mk (hbox); have n2_ := Aside0.mk ((by rw [hg]; exact (below_size (by repeat (first | (with_reducible first | exact HB.out | apply below_alloc | apply pw_below_drewN | apply below_drew1) | exact HB.out))) : w.heap.size ≤ gb115)); have n3_ := Aside0.mk ((by rw [hg]; exact (below_size (by repeat (first | (with_reducible first | exact HB.out | apply below_alloc | apply pw_below_drewN | apply below_drew1) | exact HB.out))) : w.heap.size ≤ gb115)); clear HB; have HB := n0_; have BK115 := n1_; have GW115 := n2_; have GE115 := n3_; clear n0_ n1_ n2_ n3_; clear hb hbox hg) | ((with_reducible refine gate_dst (N := 3) rfl ?_); refine box_event ?hg (N := 3) ?hd (cs := #[.int .i64 a1_0, .int .i64 a1_1, .int .i64 a1_2, .int .i64 a1_3, .int .i64 a1_4, .int .i64 a1_5]) (t := 34) ?hr ?_; (case hd => rfl); (case hg => rfl); (case hr => first | (go_simp; done) | (go_simp; rfl)); intro gb116 hg w6 hbox hb; have n0_ := Aside0.mk (blk_below (g := gb115) (o := .cells #[.int .i64 a0_0, .int .i64 a0_1, .int .i64 a0_2, .int .i64 a0_3, .int .i64 a0_4, .int .i64 a0_5] 34 (0, 0)) (by (with_reducible repeat (first | refine blk_drewN ?_ _ | refine blk_drew ?_ | refine blk_alloc ?_ _)); exact BK115.out) hb); have n1_ := Aside0.mk (below_step (by repeat (first | (with_reducible first | exact HB.out | apply below_alloc | apply pw_below_drewN | apply below_drew1 | refine below_set ?_ GE115.out) | exact HB.out)) hb); have n2_ := Aside0.mk (hbox); have n3_ := Aside0.mk ((by rw [hg]; exact (below_size (by repeat (first | (with_reducible first | exact HB.out | apply below_alloc | apply pw_below_drewN | apply below_drew1 | refine below_set ?_ GE115.out) | exact HB.out))) : w.heap.size ≤ gb116)); have n4_ := Aside0.mk ((by rw [hg]; exact (below_size (by repeat (first | (with_reducible first | exact HB.out | apply below_alloc | apply pw_below_drewN | apply below_drew1 | refine below_set ?_ GE115.out) | exact HB.out))) : w.heap.size ≤ gb116)); have n5_ := Aside0.mk ((by rw [hg]; exact Nat.ne_of_lt (blk_lt (g := gb115) (o := .cells #[.int .i64 a0_0, .int .i64 a0_1, .int .i64 a0_2, .int .i64 a0_3, .int .i64 a0_4, .int .i64 a0_5] 34 (0, 0)) (by (with_reducible repeat (first | refine blk_drewN ?_ _ | refine blk_drew ?_ | refine blk_alloc ?_ _)); exact BK115.out)) : gb115 ≠ gb116)); have n6_ := Aside0.mk ((by rw [hg]; exact Nat.ne_of_gt (blk_lt (g := gb115) (o := .cells #[.int .i64 a0_0, .int .i64 a0_1, .int .i64 a0_2, .int .i64 a0_3, .int .i64 a0_4, .int .i64 a0_5] 34 (0, 0)) (by (with_reducible repeat (first | refine blk_drewN ?_ _ | refine blk_drew ?_ | refine blk_alloc ?_ _)); exact BK115.out)) : gb116 ≠ gb115)); clear BK115; clear HB; have BK115 := n0_; have HB := n1_; have BK116 := n2_; have GW116 := n3_; have GE116 := n4_; have NB115_116 := n5_; have NB116_115 := n6_; clear n0_ n1_ n2_ n3_ n4_ n5_ n6_; clear hb hbox hg; have hnb7 := NB115_116.out; have hnc7 := NB116_115.out; have hcz8_0 : w6.cell? ⟨gb115, 0, none⟩ = some (.int .i64 a0_0) := (blk_cell BK115.out 0).trans rfl; have hcz8_1 : w6.cell? ⟨gb115, 1, none⟩ = some (.int .i64 a0_1) := (blk_cell BK115.out 1).trans rfl; have hcz8_2 : w6.cell? ⟨gb115, 2, none⟩ = some (.int .i64 a0_2) := (blk_cell BK115.out 2).trans rfl; have hcz8_3 : w6.cell? ⟨gb115, 3, none⟩ = some (.int .i64 a0_3) := (blk_cell BK115.out 3).trans rfl; have hcz8_4 : w6.cell? ⟨gb115, 4, none⟩ = some (.int .i64 a0_4) := (blk_cell BK115.out 4).trans rfl; have hcz8_5 : w6.cell? ⟨gb115, 5, none⟩ = some (.int .i64 a0_5) := (blk_cell BK115.out 5).trans rfl; have hfz8_0 := blk_frozen BK115.out 0; have hfz8_1 := blk_frozen BK115.out 1; have hfz8_2 := blk_frozen BK115.out 2; have hfz8_3 := blk_frozen BK115.out 3; have hfz8_4 := blk_frozen BK115.out 4; have hfz8_5 := blk_frozen BK115.out 5) | (go_at_call 28; (with_reducible refine (watchmanref07_keys.calls a0_0 a0_1 a0_2 a0_3 a0_4 a0_5 t117 _ A3.out).mono ?_); rintro e w9 ⟨v118, rfl, ho0, hb⟩; have n0_ := Aside0.mk (Kd.R_lower ho0 (below_size (by repeat (first | (with_reducible first | exact HB.out | apply below_alloc | apply pw_below_drewN | apply below_drew1 | refine below_set ?_ GE115.out | refine below_set ?_ GE116.out) | exact HB.out)))); have n1_ := Aside0.mk (blk_below (g := gb115) (o := .cells #[.int .i64 a0_0, .int .i64 a0_1, .int .i64 a0_2, .int .i64 a0_3, .int .i64 a0_4, .int .i64 a0_5] 34 (0, 0)) (by (with_reducible repeat (first | refine blk_drewN ?_ _ | refine blk_drew ?_ | refine blk_alloc ?_ _)); exact BK115.out) hb); have n2_ := Aside0.mk (blk_below (g := gb116) (o := .cells #[.int .i64 a1_0, .int .i64 a1_1, .int .i64 a1_2, .int .i64 a1_3, .int .i64 a1_4, .int .i64 a1_5] 34 (0, 0)) (by (with_reducible repeat (first | refine blk_drewN ?_ _ | refine blk_drew ?_ | refine blk_alloc ?_ _)); exact BK116.out) hb); have n3_ := Aside0.mk (below_step (by repeat (first | (with_reducible first | exact HB.out | apply below_alloc | apply pw_below_drewN | apply below_drew1 | refine below_set ?_ GE115.out | refine below_set ?_ GE116.out) | exact HB.out)) hb); clear BK115; clear BK116; clear HB; have HO119 := n0_; have BK115 := n1_; have BK116 := n2_; have HB := n3_; clear n0_ n1_ n2_ n3_; (try clear hb); (try clear hb2); (try clear hk); (try clear hi); (try clear ho0); have hcz10_0 : w9.cell? ⟨gb116, 0, none⟩ = some (.int .i64 a1_0) := (blk_cell BK116.out 0).trans rfl; have hcz10_1 : w9.cell? ⟨gb116, 1, none⟩ = some (.int .i64 a1_1) := (blk_cell BK116.out 1).trans rfl; have hcz10_2 : w9.cell? ⟨gb116, 2, none⟩ = some (.int .i64 a1_2) := (blk_cell BK116.out 2).trans rfl; have hcz10_3 : w9.cell? ⟨gb116, 3, none⟩ = some (.int .i64 a1_3) := (blk_cell BK116.out 3).trans rfl; have hcz10_4 : w9.cell? ⟨gb116, 4, none⟩ = some (.int .i64 a1_4) := (blk_cell BK116.out 4).trans rfl; have hcz10_5 : w9.cell? ⟨gb116, 5, none⟩ = some (.int .i64 a1_5) := (blk_cell BK116.out 5).trans rfl; have hfz10_0 := blk_frozen BK116.out 0; have hfz10_1 := blk_frozen BK116.out 1; have hfz10_2 := blk_frozen BK116.out 2; have hfz10_3 := blk_frozen BK116.out 3; have hfz10_4 := blk_frozen BK116.out 4; have hfz10_5 := blk_frozen BK116.out 5) | (go_at_call 28; (with_reducible refine (watchmanref07_keys.calls a1_0 a1_1 a1_2 a1_3 a1_4 a1_5 t120 _ A4.out).mono ?_); rintro e w11 ⟨v121, rfl, ho0, hb⟩; have n0_ := Aside0.mk (Kd.R_elder' (by (with_reducible repeat (first | apply Kd.R_alloc | apply Kd.R_drewN | apply Kd.R_drew)); exact HO119.out) (Kd.R_base ho0) hb); have n1_ := Aside0.mk (Kd.R_lower (Kd.R_new' ho0 (Kd.R_lt (by (with_reducible repeat (first | apply Kd.R_alloc | apply Kd.R_drewN | apply Kd.R_drew)); exact HO119.out))) (below_size (by repeat (first | (with_reducible first | exact HB.out | apply below_alloc | apply pw_below_drewN | apply below_drew1 | refine below_set ?_ GE115.out | refine below_set ?_ GE116.out) | exact HB.out)))); have n2_ := Aside0.mk (blk_below (g := gb115) (o := .cells #[.int .i64 a0_0, .int .i64 a0_1, .int .i64 a0_2, .int .i64 a0_3, .int .i64 a0_4, .int .i64 a0_5] 34 (0, 0)) (by (with_reducible repeat (first | refine blk_drewN ?_ _ | refine blk_drew ?_ | refine blk_alloc ?_ _)); exact BK115.out) hb); have n3_ := Aside0.mk (blk_below (g := gb116) (o := .cells #[.int .i64 a1_0, .int .i64 a1_1, .int .i64 a1_2, .int .i64 a1_3, .int .i64 a1_4, .int .i64 a1_5] 34 (0, 0)) (by (with_reducible repeat (first | refine blk_drewN ?_ _ | refine blk_drew ?_ | refine blk_alloc ?_ _)); exact BK116.out) hb); have n4_ := Aside0.mk (below_step (by repeat (first | (with_reducible first | exact HB.out | apply below_alloc | apply pw_below_drewN | apply below_drew1 | refine below_set ?_ GE115.out | refine below_set ?_ GE116.out) | exact HB.out)) hb); clear HO119; clear BK115; clear BK116; clear HB; have HO119 := n0_; have HO122 := n1_; have BK115 := n2_; have BK116 := n3_; have HB := n4_; clear n0_ n1_ n2_ n3_ n4_; (try clear hb); (try clear hb2); (try clear hk); (try clear hi); (try clear ho0)))
  repeat (go_quiet (first | ((with_reducible refine gate_dst (N := 2) rfl ?_); refine box_event ?hg (N := 2) ?hd (cs := #[.int .i64 a0_0, .int .i64 a0_1, .int .i64 a0_2, .int .i64 a0_3, .int .i64 a0_4, .int .i64 a0_5]) (t := 34) ?hr ?_; (case hd => rfl); (case hg => rfl); (case hr => first | (go_simp; done) | (go_simp; rfl)); intro gb115 hg w5 hbox hb; have n0_ := Aside0.mk (below_step (by repeat (first | (with_reducible first | exact HB.out | apply below_alloc | apply pw_below_drewN | apply below_drew1) | exact HB.out)) hb); have n1_ := Aside0.mk (hbox); have n2_ := Aside0.mk ((by rw [hg]; exact (below_size (by repeat (first | (with_reducible first | exact HB.out | apply below_alloc | apply pw_below_drewN | apply below_drew1) | exact HB.out))) : w.heap.size ≤ gb115)); have n3_ := Aside0.mk ((by rw [hg]; exact (below_size (by repeat (first | (with_reducible first | exact HB.out | apply below_alloc | apply pw_below_drewN | apply below_drew1) | exact HB.out))) : w.heap.size ≤ gb115)); clear HB; have HB := n0_; have BK115 := n1_; have GW115 := n2_; have GE115 := n3_; clear n0_ n1_ n2_ n3_; clear hb hbox hg) | ((with_reducible refine gate_dst (N := 3) rfl ?_); refine box_event ?hg (N := 3) ?hd (cs := #[.int .i64 a1_0, .int .i64 a1_1, .int .i64 a1_2, .int .i64 a1_3, .int .i64 a1_4, .int .i64 a1_5]) (t := 34) ?hr ?_; (case hd => rfl); (case hg => rfl); (case hr => first | (go_simp; done) | (go_simp; rfl)); intro gb116 hg w6 hbox hb; have n0_ := Aside0.mk (blk_below (g := gb115) (o := .cells #[.int .i64 a0_0, .int .i64 a0_1, .int .i64 a0_2, .int .i64 a0_3, .int .i64 a0_4, .int .i64 a0_5] 34 (0, 0)) (by (with_reducible repeat (first | refine blk_drewN ?_ _ | refine blk_drew ?_ | refine blk_alloc ?_ _)); exact BK115.out) hb); have n1_ := Aside0.mk (below_step (by repeat (first | (with_reducible first | exact HB.out | apply below_alloc | apply pw_below_drewN | apply below_drew1 | refine below_set ?_ GE115.out) | exact HB.out)) hb); have n2_ := Aside0.mk (hbox); have n3_ := Aside0.mk ((by rw [hg]; exact (below_size (by repeat (first | (with_reducible first | exact HB.out | apply below_alloc | apply pw_below_drewN | apply below_drew1 | refine below_set ?_ GE115.out) | exact HB.out))) : w.heap.size ≤ gb116)); have n4_ := Aside0.mk ((by rw [hg]; exact (below_size (by repeat (first | (with_reducible first | exact HB.out | apply below_alloc | apply pw_below_drewN | apply below_drew1 | refine below_set ?_ GE115.out) | exact HB.out))) : w.heap.size ≤ gb116)); have n5_ := Aside0.mk ((by rw [hg]; exact Nat.ne_of_lt (blk_lt (g := gb115) (o := .cells #[.int .i64 a0_0, .int .i64 a0_1, .int .i64 a0_2, .int .i64 a0_3, .int .i64 a0_4, .int .i64 a0_5] 34 (0, 0)) (by (with_reducible repeat (first | refine blk_drewN ?_ _ | refine blk_drew ?_ | refine blk_alloc ?_ _)); exact BK115.out)) : gb115 ≠ gb116)); have n6_ := Aside0.mk ((by rw [hg]; exact Nat.ne_of_gt (blk_lt (g := gb115) (o := .cells #[.int .i64 a0_0, .int .i64 a0_1, .int .i64 a0_2, .int .i64 a0_3, .int .i64 a0_4, .int .i64 a0_5] 34 (0, 0)) (by (with_reducible repeat (first | refine blk_drewN ?_ _ | refine blk_drew ?_ | refine blk_alloc ?_ _)); exact BK115.out)) : gb116 ≠ gb115)); clear BK115; clear HB; have BK115 := n0_; have HB := n1_; have BK116 := n2_; have GW116 := n3_; have GE116 := n4_; have NB115_116 := n5_; have NB116_115 := n6_; clear n0_ n1_ n2_ n3_ n4_ n5_ n6_; clear hb hbox hg; have hnb7 := NB115_116.out; have hnc7 := NB116_115.out; have hcz8_0 : w6.cell? ⟨gb115, 0, none⟩ = some (.int .i64 a0_0) := (blk_cell BK115.out 0).trans rfl; have hcz8_1 : w6.cell? ⟨gb115, 1, none⟩ = some (.int .i64 a0_1) := (blk_cell BK115.out 1).trans rfl; have hcz8_2 : w6.cell? ⟨gb115, 2, none⟩ = some (.int .i64 a0_2) := (blk_cell BK115.out 2).trans rfl; have hcz8_3 : w6.cell? ⟨gb115, 3, none⟩ = some (.int .i64 a0_3) := (blk_cell BK115.out 3).trans rfl; have hcz8_4 : w6.cell? ⟨gb115, 4, none⟩ = some (.int .i64 a0_4) := (blk_cell BK115.out 4).trans rfl; have hcz8_5 : w6.cell? ⟨gb115, 5, none⟩ = some (.int .i64 a0_5) := (blk_cell BK115.out 5).trans rfl; have hfz8_0 := blk_frozen BK115.out 0; have hfz8_1 := blk_frozen BK115.out 1; have hfz8_2 := blk_frozen BK115.out 2; have hfz8_3 := blk_frozen BK115.out 3; have hfz8_4 := blk_frozen BK115.out 4; have hfz8_5 := blk_frozen BK115.out 5) | (go_at_call 28; (with_reducible refine (watchmanref07_keys.calls a0_0 a0_1 a0_2 a0_3 a0_4 a0_5 t117 _ A3.out).mono ?_); rintro e w9 ⟨v118, rfl, ho0, hb⟩; have n0_ := Aside0.mk (Kd.R_lower ho0 (below_size (by repeat (first | (with_reducible first | exact HB.out | apply below_alloc | apply pw_below_drewN | apply below_drew1 | refine below_set ?_ GE115.out | refine below_set ?_ GE116.out) | exact HB.out)))); have n1_ := Aside0.mk (blk_below (g := gb115) (o := .cells #[.int .i64 a0_0, .int .i64 a0_1, .int .i64 a0_2, .int .i64 a0_3, .int .i64 a0_4, .int .i64 a0_5] 34 (0, 0)) (by (with_reducible repeat (first | refine blk_drewN ?_ _ | refine blk_drew ?_ | refine blk_alloc ?_ _)); exact BK115.out) hb); have n2_ := Aside0.mk (blk_below (g := gb116) (o := .cells #[.int .i64 a1_0, .int .i64 a1_1, .int .i64 a1_2, .int .i64 a1_3, .int .i64 a1_4, .int .i64 a1_5] 34 (0, 0)) (by (with_reducible repeat (first | refine blk_drewN ?_ _ | refine blk_drew ?_ | refine blk_alloc ?_ _)); exact BK116.out) hb); have n3_ := Aside0.mk (below_step (by repeat (first | (with_reducible first | exact HB.out | apply below_alloc | apply pw_below_drewN | apply below_drew1 | refine below_set ?_ GE115.out | refine below_set ?_ GE116.out) | exact HB.out)) hb); clear BK115; clear BK116; clear HB; have HO119 := n0_; have BK115 := n1_; have BK116 := n2_; have HB := n3_; clear n0_ n1_ n2_ n3_; (try clear hb); (try clear hb2); (try clear hk); (try clear hi); (try clear ho0); have hcz10_0 : w9.cell? ⟨gb116, 0, none⟩ = some (.int .i64 a1_0) := (blk_cell BK116.out 0).trans rfl; have hcz10_1 : w9.cell? ⟨gb116, 1, none⟩ = some (.int .i64 a1_1) := (blk_cell BK116.out 1).trans rfl; have hcz10_2 : w9.cell? ⟨gb116, 2, none⟩ = some (.int .i64 a1_2) := (blk_cell BK116.out 2).trans rfl; have hcz10_3 : w9.cell? ⟨gb116, 3, none⟩ = some (.int .i64 a1_3) := (blk_cell BK116.out 3).trans rfl; have hcz10_4 : w9.cell? ⟨gb116, 4, none⟩ = some (.int .i64 a1_4) := (blk_cell BK116.out 4).trans rfl; have hcz10_5 : w9.cell? ⟨gb116, 5, none⟩ = some (.int .i64 a1_5) := (blk_cell BK116.out 5).trans rfl; have hfz10_0 := blk_frozen BK116.out 0; have hfz10_1 := blk_frozen BK116.out 1; have hfz10_2 := blk_frozen BK116.out 2; have hfz10_3 := blk_frozen BK116.out 3; have hfz10_4 := blk_frozen BK116.out 4; have hfz10_5 := blk_frozen BK116.out 5) | (go_at_call 28; (with_reducible refine (watchmanref07_keys.calls a1_0 a1_1 a1_2 a1_3 a1_4 a1_5 t120 _ A4.out).mono ?_); rintro e w11 ⟨v121, rfl, ho0, hb⟩; have n0_ := Aside0.mk (Kd.R_elder' (by (with_reducible repeat (first | apply Kd.R_alloc | apply Kd.R_drewN | apply Kd.R_drew)); exact HO119.out) (Kd.R_base ho0) hb); have n1_ := Aside0.mk (Kd.R_lower (Kd.R_new' ho0 (Kd.R_lt (by (with_reducible repeat (first | apply Kd.R_alloc | apply Kd.R_drewN | apply Kd.R_drew)); exact HO119.out))) (below_size (by repeat (first | (with_reducible first | exact HB.out | apply below_alloc | apply pw_below_drewN | apply below_drew1 | refine below_set ?_ GE115.out | refine below_set ?_ GE116.out) | exact HB.out)))); have n2_ := Aside0.mk (blk_below (g := gb115) (o := .cells #[.int .i64 a0_0, .int .i64 a0_1, .int .i64 a0_2, .int .i64 a0_3, .int .i64 a0_4, .int .i64 a0_5] 34 (0, 0)) (by (with_reducible repeat (first | refine blk_drewN ?_ _ | refine blk_drew ?_ | refine blk_alloc ?_ _)); exact BK115.out) hb); have n3_ := Aside0.mk (blk_below (g := gb116) (o := .cells #[.int .i64 a1_0, .int .i64 a1_1, .int .i64 a1_2, .int .i64 a1_3, .int .i64 a1_4, .int .i64 a1_5] 34 (0, 0)) (by (with_reducible repeat (first | refine blk_drewN ?_ _ | refine blk_drew ?_ | refine blk_alloc ?_ _)); exact BK116.out) hb); have n4_ := Aside0.mk (below_step (by repeat (first | (with_reducible first | exact HB.out | apply below_alloc | apply pw_below_drewN | apply below_drew1 | refine below_set ?_ GE115.out | refine below_set ?_ GE116.out) | exact HB.out)) hb); clear HO119; clear BK115; clear BK116; clear HB; have HO119 := n0_; have HO122 := n1_; have BK115 := n2_; have BK116 := n3_; have HB := n4_; clear n0_ n1_ n2_ n3_ n4_; (try clear hb); (try clear hb2); (try clear hk); (try clear hi); (try clear ho0))); try go_wp2_with (first | ((with_reducible refine gate_dst (N := 2) rfl ?_); refine box_event ?hg (N := 2) ?hd (cs := #[.int .i64 a0_0, .int .i64 a0_1, .int .i64 a0_2, .int .i64 a0_3, .int .i64 a0_4, .int .i64 a0_5]) (t := 34) ?hr ?_; (case hd => rfl); (case hg => rfl); (case hr => first | (go_simp; done) | (go_simp; rfl)); intro gb115 hg w5 hbox hb; have n0_ := Aside0.mk (below_step (by repeat (first | (with_reducible first | exact HB.out | apply below_alloc | apply pw_below_drewN | apply below_drew1) | exact HB.out)) hb); have n1_ := Aside0.mk (hbox); have n2_ := Aside0.mk ((by rw [hg]; exact (below_size (by repeat (first | (with_reducible first | exact HB.out | apply below_alloc | apply pw_below_drewN | apply below_drew1) | exact HB.out))) : w.heap.size ≤ gb115)); have n3_ := Aside0.mk ((by rw [hg]; exact (below_size (by repeat (first | (with_reducible first | exact HB.out | apply below_alloc | apply pw_below_drewN | apply below_drew1) | exact HB.out))) : w.heap.size ≤ gb115)); clear HB; have HB := n0_; have BK115 := n1_; have GW115 := n2_; have GE115 := n3_; clear n0_ n1_ n2_ n3_; clear hb hbox hg) | ((with_reducible refine gate_dst (N := 3) rfl ?_); refine box_event ?hg (N := 3) ?hd (cs := #[.int .i64 a1_0, .int .i64 a1_1, .int .i64 a1_2, .int .i64 a1_3, .int .i64 a1_4, .int .i64 a1_5]) (t := 34) ?hr ?_; (case hd => rfl); (case hg => rfl); (case hr => first | (go_simp; done) | (go_simp; rfl)); intro gb116 hg w6 hbox hb; have n0_ := Aside0.mk (blk_below (g := gb115) (o := .cells #[.int .i64 a0_0, .int .i64 a0_1, .int .i64 a0_2, .int .i64 a0_3, .int .i64 a0_4, .int .i64 a0_5] 34 (0, 0)) (by (with_reducible repeat (first | refine blk_drewN ?_ _ | refine blk_drew ?_ | refine blk_alloc ?_ _)); exact BK115.out) hb); have n1_ := Aside0.mk (below_step (by repeat (first | (with_reducible first | exact HB.out | apply below_alloc | apply pw_below_drewN | apply below_drew1 | refine below_set ?_ GE115.out) | exact HB.out)) hb); have n2_ := Aside0.mk (hbox); have n3_ := Aside0.mk ((by rw [hg]; exact (below_size (by repeat (first | (with_reducible first | exact HB.out | apply below_alloc | apply pw_below_drewN | apply below_drew1 | refine below_set ?_ GE115.out) | exact HB.out))) : w.heap.size ≤ gb116)); have n4_ := Aside0.mk ((by rw [hg]; exact (below_size (by repeat (first | (with_reducible first | exact HB.out | apply below_alloc | apply pw_below_drewN | apply below_drew1 | refine below_set ?_ GE115.out) | exact HB.out))) : w.heap.size ≤ gb116)); have n5_ := Aside0.mk ((by rw [hg]; exact Nat.ne_of_lt (blk_lt (g := gb115) (o := .cells #[.int .i64 a0_0, .int .i64 a0_1, .int .i64 a0_2, .int .i64 a0_3, .int .i64 a0_4, .int .i64 a0_5] 34 (0, 0)) (by (with_reducible repeat (first | refine blk_drewN ?_ _ | refine blk_drew ?_ | refine blk_alloc ?_ _)); exact BK115.out)) : gb115 ≠ gb116)); have n6_ := Aside0.mk ((by rw [hg]; exact Nat.ne_of_gt (blk_lt (g := gb115) (o := .cells #[.int .i64 a0_0, .int .i64 a0_1, .int .i64 a0_2, .int .i64 a0_3, .int .i64 a0_4, .int .i64 a0_5] 34 (0, 0)) (by (with_reducible repeat (first | refine blk_drewN ?_ _ | refine blk_drew ?_ | refine blk_alloc ?_ _)); exact BK115.out)) : gb116 ≠ gb115)); clear BK115; clear HB; have BK115 := n0_; have HB := n1_; have BK116 := n2_; have GW116 := n3_; have GE116 := n4_; have NB115_116 := n5_; have NB116_115 := n6_; clear n0_ n1_ n2_ n3_ n4_ n5_ n6_; clear hb hbox hg; have hnb7 := NB115_116.out; have hnc7 := NB116_115.out; have hcz8_0 : w6.cell? ⟨gb115, 0, none⟩ = some (.int .i64 a0_0) := (blk_cell BK115.out 0).trans rfl; have hcz8_1 : w6.cell? ⟨gb115, 1, none⟩ = some (.int .i64 a0_1) := (blk_cell BK115.out 1).trans rfl; have hcz8_2 : w6.cell? ⟨gb115, 2, none⟩ = some (.int .i64 a0_2) := (blk_cell BK115.out 2).trans rfl; have hcz8_3 : w6.cell? ⟨gb115, 3, none⟩ = some (.int .i64 a0_3) := (blk_cell BK115.out 3).trans rfl; have hcz8_4 : w6.cell? ⟨gb115, 4, none⟩ = some (.int .i64 a0_4) := (blk_cell BK115.out 4).trans rfl; have hcz8_5 : w6.cell? ⟨gb115, 5, none⟩ = some (.int .i64 a0_5) := (blk_cell BK115.out 5).trans rfl; have hfz8_0 := blk_frozen BK115.out 0; have hfz8_1 := blk_frozen BK115.out 1; have hfz8_2 := blk_frozen BK115.out 2; have hfz8_3 := blk_frozen BK115.out 3; have hfz8_4 := blk_frozen BK115.out 4; have hfz8_5 := blk_frozen BK115.out 5) | (go_at_call 28; (with_reducible refine (watchmanref07_keys.calls a0_0 a0_1 a0_2 a0_3 a0_4 a0_5 t117 _ A3.out).mono ?_); rintro e w9 ⟨v118, rfl, ho0, hb⟩; have n0_ := Aside0.mk (Kd.R_lower ho0 (below_size (by repeat (first | (with_reducible first | exact HB.out | apply below_alloc | apply pw_below_drewN | apply below_drew1 | refine below_set ?_ GE115.out | refine below_set ?_ GE116.out) | exact HB.out)))); have n1_ := Aside0.mk (blk_below (g := gb115) (o := .cells #[.int .i64 a0_0, .int .i64 a0_1, .int .i64 a0_2, .int .i64 a0_3, .int .i64 a0_4, .int .i64 a0_5] 34 (0, 0)) (by (with_reducible repeat (first | refine blk_drewN ?_ _ | refine blk_drew ?_ | refine blk_alloc ?_ _)); exact BK115.out) hb); have n2_ := Aside0.mk (blk_below (g := gb116) (o := .cells #[.int .i64 a1_0, .int .i64 a1_1, .int .i64 a1_2, .int .i64 a1_3, .int .i64 a1_4, .int .i64 a1_5] 34 (0, 0)) (by (with_reducible repeat (first | refine blk_drewN ?_ _ | refine blk_drew ?_ | refine blk_alloc ?_ _)); exact BK116.out) hb); have n3_ := Aside0.mk (below_step (by repeat (first | (with_reducible first | exact HB.out | apply below_alloc | apply pw_below_drewN | apply below_drew1 | refine below_set ?_ GE115.out | refine below_set ?_ GE116.out) | exact HB.out)) hb); clear BK115; clear BK116; clear HB; have HO119 := n0_; have BK115 := n1_; have BK116 := n2_; have HB := n3_; clear n0_ n1_ n2_ n3_; (try clear hb); (try clear hb2); (try clear hk); (try clear hi); (try clear ho0); have hcz10_0 : w9.cell? ⟨gb116, 0, none⟩ = some (.int .i64 a1_0) := (blk_cell BK116.out 0).trans rfl; have hcz10_1 : w9.cell? ⟨gb116, 1, none⟩ = some (.int .i64 a1_1) := (blk_cell BK116.out 1).trans rfl; have hcz10_2 : w9.cell? ⟨gb116, 2, none⟩ = some (.int .i64 a1_2) := (blk_cell BK116.out 2).trans rfl; have hcz10_3 : w9.cell? ⟨gb116, 3, none⟩ = some (.int .i64 a1_3) := (blk_cell BK116.out 3).trans rfl; have hcz10_4 : w9.cell? ⟨gb116, 4, none⟩ = some (.int .i64 a1_4) := (blk_cell BK116.out 4).trans rfl; have hcz10_5 : w9.cell? ⟨gb116, 5, none⟩ = some (.int .i64 a1_5) := (blk_cell BK116.out 5).trans rfl; have hfz10_0 := blk_frozen BK116.out 0; have hfz10_1 := blk_frozen BK116.out 1; have hfz10_2 := blk_frozen BK116.out 2; have hfz10_3 := blk_frozen BK116.out 3; have hfz10_4 := blk_frozen BK116.out 4; have hfz10_5 := blk_frozen BK116.out 5) | (go_at_call 28; (with_reducible refine (watchmanref07_keys.calls a1_0 a1_1 a1_2 a1_3 a1_4 a1_5 t120 _ A4.out).mono ?_); rintro e w11 ⟨v121, rfl, ho0, hb⟩; have n0_ := Aside0.mk (Kd.R_elder' (by (with_reducible repeat (first | apply Kd.R_alloc | apply Kd.R_drewN | apply Kd.R_drew)); exact HO119.out) (Kd.R_base ho0) hb); have n1_ := Aside0.mk (Kd.R_lower (Kd.R_new' ho0 (Kd.R_lt (by (with_reducible repeat (first | apply Kd.R_alloc | apply Kd.R_drewN | apply Kd.R_drew)); exact HO119.out))) (below_size (by repeat (first | (with_reducible first | exact HB.out | apply below_alloc | apply pw_below_drewN | apply below_drew1 | refine below_set ?_ GE115.out | refine below_set ?_ GE116.out) | exact HB.out)))); have n2_ := Aside0.mk (blk_below (g := gb115) (o := .cells #[.int .i64 a0_0, .int .i64 a0_1, .int .i64 a0_2, .int .i64 a0_3, .int .i64 a0_4, .int .i64 a0_5] 34 (0, 0)) (by (with_reducible repeat (first | refine blk_drewN ?_ _ | refine blk_drew ?_ | refine blk_alloc ?_ _)); exact BK115.out) hb); have n3_ := Aside0.mk (blk_below (g := gb116) (o := .cells #[.int .i64 a1_0, .int .i64 a1_1, .int .i64 a1_2, .int .i64 a1_3, .int .i64 a1_4, .int .i64 a1_5] 34 (0, 0)) (by (with_reducible repeat (first | refine blk_drewN ?_ _ | refine blk_drew ?_ | refine blk_alloc ?_ _)); exact BK116.out) hb); have n4_ := Aside0.mk (below_step (by repeat (first | (with_reducible first | exact HB.out | apply below_alloc | apply pw_below_drewN | apply below_drew1 | refine below_set ?_ GE115.out | refine below_set ?_ GE116.out) | exact HB.out)) hb); clear HO119; clear BK115; clear BK116; clear HB; have HO119 := n0_; have HO122 := n1_; have BK115 := n2_; have BK116 := n3_; have HB := n4_; clear n0_ n1_ n2_ n3_ n4_; (try clear hb); (try clear hb2); (try clear hk); (try clear hi); (try clear ho0))))
  go_loopg [7] k (fun kq v7 w' => ∃ (x7_1 : Int), v7 = .int .i64 x7_1 ∧ Aside0 (watchmanref07_Compare.l0 kq t117 t120 x7_1 = some r) ∧ Aside0 (kq ≤ k) ∧ Aside0 (Kd.R (Kd.int .i64) 3 w' w.heap.size (fun k_ => some k_ ≠ (v121 : Value).ownBlock) v118 t117) ∧ Aside0 (Kd.R (Kd.int .i64) 3 w' w.heap.size (fun k_ => some k_ ≠ (v118 : Value).ownBlock) v121 t120) ∧ Aside0 (w'.heap[gb115]? = some (.cells #[.int .i64 a0_0, .int .i64 a0_1, .int .i64 a0_2, .int .i64 a0_3, .int .i64 a0_4, .int .i64 a0_5] 34 (0, 0))) ∧ Aside0 (w'.heap[gb116]? = some (.cells #[.int .i64 a1_0, .int .i64 a1_1, .int .i64 a1_2, .int .i64 a1_3, .int .i64 a1_4, .int .i64 a1_5] 34 (0, 0))) ∧ Aside0 (Below w.heap.size w w'))
  case atStart => exact ⟨(0), (by first | rfl | (simp; done) | (simp [*]; done)), H', ⟨Nat.le_refl _⟩, ⟨by (with_reducible repeat (first | apply Kd.R_alloc | apply Kd.R_drewN | apply Kd.R_drew)); exact Kd.R_mono HO119.out (fun _ hk => hk.2)⟩, ⟨by (with_reducible repeat (first | apply Kd.R_alloc | apply Kd.R_drewN | apply Kd.R_drew)); exact Kd.R_mono HO122.out (fun _ hk => hk.2)⟩, ⟨by (with_reducible repeat (first | refine blk_drewN ?_ _ | refine blk_drew ?_ | refine blk_alloc ?_ _)); exact BK115.out⟩, ⟨by (with_reducible repeat (first | refine blk_drewN ?_ _ | refine blk_drew ?_ | refine blk_alloc ?_ _)); exact BK116.out⟩, ⟨by repeat (first | (with_reducible first | exact HB.out | apply below_alloc | apply pw_below_drewN | apply below_drew1 | refine below_set ?_ GE115.out | refine below_set ?_ GE116.out) | exact HB.out)⟩⟩
  case round =>
    clear H'
    try clear c1
    try clear p2
    try clear c7
    try clear hcz10_0
    try clear hcz10_1
    try clear hcz10_2
    try clear hcz10_3
    try clear hcz10_4
    try clear hcz10_5
    try clear hcz8_0
    try clear hcz8_1
    try clear hcz8_2
    try clear hcz8_3
    try clear hcz8_4
    try clear hcz8_5
    try clear hfz10_0
    try clear hfz10_1
    try clear hfz10_2
    try clear hfz10_3
    try clear hfz10_4
    try clear hfz10_5
    try clear hfz8_0
    try clear hfz8_1
    try clear hfz8_2
    try clear hfz8_3
    try clear hfz8_4
    try clear hfz8_5
    obtain ⟨x7_1, rfl, HA, HK1, HO_5, HO_6, BK115, BK116, HB⟩ := hrel
    cases gk with
    | zero => exact absurd HA.out (by simp [watchmanref07_Compare.l0])
    | succ k1 =>
      have H := HA.out
      clear HA
      simp only [watchmanref07_Compare.l0] at H
      by_cases c12 : x7_1 < (t117.length : Int)
      · rw [if_pos c12] at H
        have c12b0 : decide (x7_1 < (t117.length : Int)) = true := decide_eq_true c12
        clear c12
        by_cases c13 : 0 ≤ x7_1
        · rw [if_pos c13] at H
          have c13b0 : decide (0 ≤ x7_1) = true := decide_eq_true c13
          clear c13
          by_cases c14 : x7_1 < (t120.length : Int)
          · rw [if_pos c14] at H
            have c14b0 : decide (x7_1 < (t120.length : Int)) = true := decide_eq_true c14
            clear c14
            by_cases c15 : (rd t117 x7_1) < (rd t120 x7_1)
            · rw [if_pos c15] at H
              have c15b0 : decide ((rd t117 x7_1) < (rd t120 x7_1)) = true := decide_eq_true c15
              clear c15
              obtain rfl := Option.some.inj H
              obtain ⟨Ao16, co16, eo16⟩ := Kd.R_slice HO_5.out
              subst eo16
              have p123 : 0 ≤ (x7_1 : Int) := of_decide_eq_true (by first | (with_reducible assumption) | assumption)
              have q123 : x7_1 < (t117.length : Int) := of_decide_eq_true (by first | (with_reducible assumption) | assumption)
              obtain ⟨ad123, e123, hx123_0⟩ := Kd.at_int (Kd.R_reads' HO_5.out).2.2 x7_1 p123 q123
              cases e123
              replace p123 := eq_true p123
              replace q123 := eq_true q123
              obtain ⟨Ao17, co17, eo17⟩ := Kd.R_slice HO_6.out
              subst eo17
              have p124 : 0 ≤ (x7_1 : Int) := of_decide_eq_true (by first | (with_reducible assumption) | assumption)
              have q124 : x7_1 < (t120.length : Int) := of_decide_eq_true (by first | (with_reducible assumption) | assumption)
              obtain ⟨ad124, e124, hx124_0⟩ := Kd.at_int (Kd.R_reads' HO_6.out).2.2 x7_1 p124 q124
              cases e124
              replace p124 := eq_true p124
              replace q124 := eq_true q124
              go_wp2
              repeat (go_quiet (fail); try go_wp2)
              go_ret
              exact ⟨by first | rfl | (simp [errW_none, errW_some] <;> rfl) | (simp [*, errW_none, errW_some] <;> rfl), by repeat (first | (with_reducible first | exact HB.out | apply below_alloc | apply pw_below_drewN | apply below_drew1 | refine below_set ?_ GE115.out | refine below_set ?_ GE116.out) | exact HB.out)⟩
            · rw [if_neg c15] at H
              have c15b0 : decide ((rd t117 x7_1) < (rd t120 x7_1)) = false := decide_eq_false c15
              clear c15
              by_cases c18 : (rd t117 x7_1) > (rd t120 x7_1)
              · rw [if_pos c18] at H
                have c18b0 : decide ((rd t120 x7_1) < (rd t117 x7_1)) = true := decide_eq_true c18
                clear c18
                obtain rfl := Option.some.inj H
                obtain ⟨Ao19, co19, eo19⟩ := Kd.R_slice HO_5.out
                subst eo19
                have p123 : 0 ≤ (x7_1 : Int) := of_decide_eq_true (by first | (with_reducible assumption) | assumption)
                have q123 : x7_1 < (t117.length : Int) := of_decide_eq_true (by first | (with_reducible assumption) | assumption)
                obtain ⟨ad123, e123, hx123_0⟩ := Kd.at_int (Kd.R_reads' HO_5.out).2.2 x7_1 p123 q123
                cases e123
                replace p123 := eq_true p123
                replace q123 := eq_true q123
                obtain ⟨Ao20, co20, eo20⟩ := Kd.R_slice HO_6.out
                subst eo20
                have p124 : 0 ≤ (x7_1 : Int) := of_decide_eq_true (by first | (with_reducible assumption) | assumption)
                have q124 : x7_1 < (t120.length : Int) := of_decide_eq_true (by first | (with_reducible assumption) | assumption)
                obtain ⟨ad124, e124, hx124_0⟩ := Kd.at_int (Kd.R_reads' HO_6.out).2.2 x7_1 p124 q124
                cases e124
                replace p124 := eq_true p124
                replace q124 := eq_true q124
                have p125 : 0 ≤ (x7_1 : Int) := of_decide_eq_true (by first | (with_reducible assumption) | assumption)
                have q125 : x7_1 < (t117.length : Int) := of_decide_eq_true (by first | (with_reducible assumption) | assumption)
                obtain ⟨ad125, e125, hx125_0⟩ := Kd.at_int (Kd.R_reads' HO_5.out).2.2 x7_1 p125 q125
                obtain rfl : ad123 = ad125 := (by injection e125)
                replace p125 := eq_true p125
                replace q125 := eq_true q125
                have p126 : 0 ≤ (x7_1 : Int) := of_decide_eq_true (by first | (with_reducible assumption) | assumption)
                have q126 : x7_1 < (t120.length : Int) := of_decide_eq_true (by first | (with_reducible assumption) | assumption)
                obtain ⟨ad126, e126, hx126_0⟩ := Kd.at_int (Kd.R_reads' HO_6.out).2.2 x7_1 p126 q126
                obtain rfl : ad124 = ad126 := (by injection e126)
                replace p126 := eq_true p126
                replace q126 := eq_true q126
                go_wp2
                repeat (go_quiet (fail); try go_wp2)
                go_ret
                exact ⟨by first | rfl | (simp [errW_none, errW_some] <;> rfl) | (simp [*, errW_none, errW_some] <;> rfl), by repeat (first | (with_reducible first | exact HB.out | apply below_alloc | apply pw_below_drewN | apply below_drew1 | refine below_set ?_ GE115.out | refine below_set ?_ GE116.out) | exact HB.out)⟩
              · rw [if_neg c18] at H
                have c18b0 : decide ((rd t120 x7_1) < (rd t117 x7_1)) = false := decide_eq_false c18
                clear c18
                have H' := Aside0.mk H
                clear H
                obtain ⟨Ao21, co21, eo21⟩ := Kd.R_slice HO_5.out
                subst eo21
                have p123 : 0 ≤ (x7_1 : Int) := of_decide_eq_true (by first | (with_reducible assumption) | assumption)
                have q123 : x7_1 < (t117.length : Int) := of_decide_eq_true (by first | (with_reducible assumption) | assumption)
                obtain ⟨ad123, e123, hx123_0⟩ := Kd.at_int (Kd.R_reads' HO_5.out).2.2 x7_1 p123 q123
                cases e123
                replace p123 := eq_true p123
                replace q123 := eq_true q123
                obtain ⟨Ao22, co22, eo22⟩ := Kd.R_slice HO_6.out
                subst eo22
                have p124 : 0 ≤ (x7_1 : Int) := of_decide_eq_true (by first | (with_reducible assumption) | assumption)
                have q124 : x7_1 < (t120.length : Int) := of_decide_eq_true (by first | (with_reducible assumption) | assumption)
                obtain ⟨ad124, e124, hx124_0⟩ := Kd.at_int (Kd.R_reads' HO_6.out).2.2 x7_1 p124 q124
                cases e124
                replace p124 := eq_true p124
                replace q124 := eq_true q124
                have p125 : 0 ≤ (x7_1 : Int) := of_decide_eq_true (by first | (with_reducible assumption) | assumption)
                have q125 : x7_1 < (t117.length : Int) := of_decide_eq_true (by first | (with_reducible assumption) | assumption)
                obtain ⟨ad125, e125, hx125_0⟩ := Kd.at_int (Kd.R_reads' HO_5.out).2.2 x7_1 p125 q125
                obtain rfl : ad123 = ad125 := (by injection e125)
                replace p125 := eq_true p125
                replace q125 := eq_true q125
                have p126 : 0 ≤ (x7_1 : Int) := of_decide_eq_true (by first | (with_reducible assumption) | assumption)
                have q126 : x7_1 < (t120.length : Int) := of_decide_eq_true (by first | (with_reducible assumption) | assumption)
                obtain ⟨ad126, e126, hx126_0⟩ := Kd.at_int (Kd.R_reads' HO_6.out).2.2 x7_1 p126 q126
                obtain rfl : ad124 = ad126 := (by injection e126)
                replace p126 := eq_true p126
                replace q126 := eq_true q126
                go_wp2
                repeat (go_quiet (fail); try go_wp2)
                go_roundg k1
                case measure => have := HK1.out; omega
                case rel => exact ⟨(wrap64 (x7_1 + 1)), (by first | rfl | (simp; done) | (simp [*]; done)), H', ⟨by have := HK1.out; omega⟩, ⟨by (with_reducible repeat (first | apply Kd.R_alloc | apply Kd.R_drewN | apply Kd.R_drew)); exact HO_5.out⟩, ⟨by (with_reducible repeat (first | apply Kd.R_alloc | apply Kd.R_drewN | apply Kd.R_drew)); exact HO_6.out⟩, ⟨by (with_reducible repeat (first | refine blk_drewN ?_ _ | refine blk_drew ?_ | refine blk_alloc ?_ _)); exact BK115.out⟩, ⟨by (with_reducible repeat (first | refine blk_drewN ?_ _ | refine blk_drew ?_ | refine blk_alloc ?_ _)); exact BK116.out⟩, ⟨by repeat (first | (with_reducible first | exact HB.out | apply below_alloc | apply pw_below_drewN | apply below_drew1 | refine below_set ?_ GE115.out | refine below_set ?_ GE116.out) | exact HB.out)⟩⟩
          · rw [if_neg c14] at H
            exact absurd H (by simp)
        · rw [if_neg c13] at H
          exact absurd H (by simp)
      · rw [if_neg c12] at H
        have c12b0 : decide (x7_1 < (t117.length : Int)) = false := decide_eq_false c12
        clear c12
        obtain rfl := Option.some.inj H
        obtain ⟨Ao23, co23, eo23⟩ := Kd.R_slice HO_5.out
        subst eo23
        go_wp2
        repeat (go_quiet (fail); try go_wp2)
        go_ret
        exact ⟨by first | rfl | (simp [errW_none, errW_some] <;> rfl) | (simp [*, errW_none, errW_some] <;> rfl), by repeat (first | (with_reducible first | exact HB.out | apply below_alloc | apply pw_below_drewN | apply below_drew1 | refine below_set ?_ GE115.out | refine below_set ?_ GE116.out) | exact HB.out)⟩
end Go.Proofs.Ytjjagjehaoidbaa.P

