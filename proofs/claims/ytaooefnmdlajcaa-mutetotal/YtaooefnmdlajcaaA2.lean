/- Part 2 of the proof of MuteTotal. -/
import Derived.Test.YtaooefnmdlajcaaA1
import Derived.RangeFuncBox
import Derived.RangeFuncLeaves
import Derived.Shelf.Abstract
import Derived.WalkKit
import Derived.OwnWalkIn
import Derived.TacticsInMore
import Derived.LoopNIn
import Derived.LoopIn
import Derived.RangeFuncNested
import Derived.RangeFuncBound
import Derived.RangeFuncCalls
import Derived.Maps.AppendAt
import Derived.Maps.RangeWalk
import Derived.Shelf.SlSortCmp.WholeK
import Derived.Test.YtaooefnmdlajcaaProg
import Derived.Shelf.SlSortCmp.NoneTotal
import Derived.Laws.AppendOwn
import Derived.Below
import Derived.Deep.Draws
import Derived.Deep.AppendLies
import Derived.OwnWalk
import Derived.Laws.BytesArg
import Derived.Laws.MakeOwn
import Derived.Laws.OwnMore
import Derived.Deep.OwnRows
import Derived.Tactics
import Derived.Lib.ConvBytes
import Derived.Laws.Slices
import Derived.KernelRfl
import Derived.RowKit3
import Derived.Deep.LoopGhost
import Derived.Deep.QuietTactic
import Derived.BigQuiet
import Derived.WideLaws
import Derived.Deep.DeepCutAuto
import Derived.Deep.CutBlock
import Derived.Deep.RegionHeld3
import Derived.Laws.Rows
import Derived.Lib.AppendStr
import Derived.ArgAppend
import Derived.Laws.IdiomCopy
import Derived.OrdersHeld
import Derived.Laws.BitsLemmas
import Derived.RowKit
import Derived.Lib.SliceRun
set_option linter.unusedVariables false
set_option linter.unusedSimpArgs false
set_option linter.unusedSectionVars false
set_option linter.unusedVariables false
set_option linter.unusedSectionVars false
namespace Go.Proofs.Ytaooefnmdlajcaa
def HasW (w : Win) (b t : Int) : Prop := w.bed = b ∧ w.lo ≤ t ∧ t < w.hi
instance (w : Win) (b t : Int) : Decidable (HasW w b t) := inferInstanceAs (Decidable (_ ∧ _ ∧ _))
def Has (l : List Win) (b t : Int) : Prop := ∃ w ∈ l, HasW w b t
def Lt (a b : Win) : Prop := a.bed < b.bed ∨ a.bed = b.bed ∧ a.hi < b.lo
def Canon (l : List Win) : Prop := l.Pairwise Lt ∧ ∀ w ∈ l, w.lo < w.hi
theorem has_nil (b t : Int) : ¬ Has [] b t := by rintro ⟨w, h, _⟩; cases h
theorem has_cons {a : Win} {l : List Win} {b t : Int} : Has (a :: l) b t ↔ HasW a b t ∨ Has l b t := by simp [Has]
theorem has_append {l m : List Win} {b t : Int} : Has (l ++ m) b t ↔ Has l b t ∨ Has m b t := by
  simp only [Has, List.mem_append]
  constructor
  · rintro ⟨w, h | h, e⟩
    · exact .inl ⟨w, h, e⟩
    · exact .inr ⟨w, h, e⟩
  · rintro (⟨w, h, e⟩ | ⟨w, h, e⟩)
    · exact ⟨w, .inl h, e⟩
    · exact ⟨w, .inr h, e⟩
theorem has_one {a : Win} {b t : Int} : Has [a] b t ↔ HasW a b t := by simp [Has]
theorem Canon.nil : Canon [] := ⟨.nil, by simp⟩
theorem canon_cons {a : Win} {l : List Win} : Canon (a :: l) ↔ a.lo < a.hi ∧ (∀ w ∈ l, Lt a w) ∧ Canon l := by
  simp only [Canon, List.pairwise_cons, List.forall_mem_cons]
  constructor
  · rintro ⟨⟨h1, h2⟩, h3, h4⟩; exact ⟨h3, h1, h2, h4⟩
  · rintro ⟨h3, h1, h2, h4⟩; exact ⟨⟨h1, h2⟩, h3, h4⟩
theorem head_first {a : Win} {l : List Win} (h : Canon (a :: l)) {b t : Int} (ht : Has (a :: l) b t) : a.bed < b ∨ a.bed = b ∧ a.lo ≤ t := by
  obtain ⟨h1, h2, h3⟩ := canon_cons.1 h
  obtain ⟨w, hw, e1, e2, e3⟩ := ht
  rcases List.mem_cons.1 hw with rfl | hw
  · exact .inr ⟨e1, e2⟩
  · rcases h2 w hw with h | ⟨h, h'⟩
    · left; omega
    · right; omega
theorem head_has {a : Win} {l : List Win} (h : Canon (a :: l)) : Has (a :: l) a.bed a.lo :=
  ⟨a, by simp, rfl, Int.le_refl _, (canon_cons.1 h).1⟩
theorem rest_not {a : Win} {l : List Win} (h : Canon (a :: l)) {t : Int} (ht : t ≤ a.hi) : ¬ Has l a.bed t := by
  obtain ⟨h1, h2, h3⟩ := canon_cons.1 h
  rintro ⟨w, hw, e1, e2, e3⟩
  rcases h2 w hw with h | ⟨h, h'⟩ <;> omega
theorem canon_rest {a : Win} {l : List Win} (h : Canon (a :: l)) {b t : Int} : Has l b t ↔ Has (a :: l) b t ∧ ¬ HasW a b t := by
  rw [has_cons]
  constructor
  · intro hl
    refine ⟨.inr hl, fun ⟨e1, e2, e3⟩ => ?_⟩
    subst e1
    exact rest_not h (by omega) hl
  · rintro ⟨h | h, h'⟩
    · exact absurd h h'
    · exact h
theorem canon_unique : ∀ {l l' : List Win}, Canon l → Canon l' → (∀ b t, Has l b t ↔ Has l' b t) → l = l'
  | [], [], _, _, _ => rfl
  | [], a :: l', _, h', e => absurd ((e _ _).2 (head_has h')) (has_nil _ _)
  | a :: l, [], h, _, e => absurd ((e _ _).1 (head_has h)) (has_nil _ _)
  | a :: l, a' :: l', h, h', e => by
    have f1 := head_first h ((e _ _).2 (head_has h'))
    have f2 := head_first h' ((e _ _).1 (head_has h))
    have hb : a.bed = a'.bed := by omega
    have hl : a.lo = a'.lo := by omega
    have n1 := (canon_cons.1 h).1
    have n2 := (canon_cons.1 h').1
    have hh : a.hi = a'.hi := by
      rcases Int.lt_trichotomy a.hi a'.hi with hlt | heq | hgt
      · exfalso
        have : Has (a' :: l') a.bed a.hi := ⟨a', by simp, hb.symm, by omega, hlt⟩
        rcases has_cons.1 ((e _ _).2 this) with ⟨_, _, h3⟩ | h3
        · omega
        · exact rest_not h (Int.le_refl _) h3
      · exact heq
      · exfalso
        have : Has (a :: l) a'.bed a'.hi := ⟨a, by simp, hb, by omega, hgt⟩
        rcases has_cons.1 ((e _ _).1 this) with ⟨_, _, h3⟩ | h3
        · omega
        · exact rest_not h' (Int.le_refl _) h3
    have ha : a = a' := by cases a; cases a'; simp_all
    subst ha
    rw [canon_unique (canon_cons.1 h).2.2 (canon_cons.1 h').2.2 fun b t => by rw [canon_rest h, canon_rest h', e]]
def jstep (out : List Win) (w : Win) : List Win :=
  match out.getLast? with
  | some o => if o.bed = w.bed ∧ w.lo ≤ o.hi then out.dropLast ++ [⟨o.bed, o.lo, max o.hi w.hi⟩] else out ++ [w]
  | none => [w]
def LeK (a b : Win) : Prop := a.bed < b.bed ∨ a.bed = b.bed ∧ a.lo ≤ b.lo
theorem jstep_nil (w : Win) : jstep [] w = [w] := rfl
theorem jstep_snoc (l : List Win) (o w : Win) : jstep (l ++ [o]) w = if o.bed = w.bed ∧ w.lo ≤ o.hi then l ++ [⟨o.bed, o.lo, max o.hi w.hi⟩] else l ++ [o] ++ [w] := by
  unfold jstep
  simp
theorem canon_snoc {l : List Win} {o : Win} : Canon (l ++ [o]) ↔ Canon l ∧ o.lo < o.hi ∧ ∀ w ∈ l, Lt w o := by
  simp only [Canon, List.pairwise_append, List.mem_append, List.mem_singleton]
  constructor
  · rintro ⟨⟨h1, h2, h3⟩, h4⟩
    exact ⟨⟨h1, fun w hw => h4 w (.inl hw)⟩, h4 o (.inr rfl), fun w hw => h3 w hw o rfl⟩
  · rintro ⟨⟨h1, h2⟩, h3, h4⟩
    refine ⟨⟨h1, by simp, fun a ha b hb => by subst hb; exact h4 a ha⟩, ?_⟩
    rintro w (h | rfl)
    · exact h2 w h
    · exact h3
theorem Lt.trans' {a b c : Win} (h : b.lo < b.hi) (h1 : Lt a b) (h2 : Lt b c) : Lt a c := by
  unfold Lt at *; omega
theorem snoc_cases {α : Type} : ∀ (l : List α), l = [] ∨ ∃ r o, l = r ++ [o]
  | [] => .inl rfl
  | a :: l => by
    rcases snoc_cases l with rfl | ⟨r, o, rfl⟩
    · exact .inr ⟨[], a, rfl⟩
    · exact .inr ⟨a :: r, o, rfl⟩
theorem jstep_ok {out : List Win} {w : Win} (h : Canon out) (hw : w.lo < w.hi) (hk : ∀ o ∈ out.getLast?, LeK o w) :
    Canon (jstep out w) ∧ (∀ b t, Has (jstep out w) b t ↔ Has out b t ∨ HasW w b t) ∧ ∃ o, (jstep out w).getLast? = some o ∧ LeK o w ∧ (o = w ∨ ∃ q ∈ out.getLast?, o.bed = q.bed ∧ o.lo = q.lo) := by
  rcases snoc_cases out with rfl | ⟨l, o, rfl⟩
  · rw [jstep_nil]
    refine ⟨canon_cons.2 ⟨hw, by simp, .nil⟩, fun b t => ?_, w, rfl, ?_, .inl rfl⟩
    · rw [has_one]
      exact ⟨.inr, fun h => h.resolve_left (has_nil _ _)⟩
    · exact .inr ⟨rfl, Int.le_refl _⟩
  · have ho : LeK o w := hk o (by simp)
    obtain ⟨c1, c2, c3⟩ := canon_snoc.1 h
    rw [jstep_snoc]
    split
    · rename_i hm
      refine ⟨canon_snoc.2 ⟨c1, ?_, fun x hx => ?_⟩, fun b t => ?_, ⟨o.bed, o.lo, max o.hi w.hi⟩, by simp, ?_, .inr ⟨o, by simp, rfl, rfl⟩⟩
      · show o.lo < max o.hi w.hi
        omega
      · have := c3 x hx
        unfold Lt at *
        exact this
      · rw [has_append, has_append, has_one, has_one, or_assoc]
        have : HasW ⟨o.bed, o.lo, max o.hi w.hi⟩ b t ↔ HasW o b t ∨ HasW w b t := by
          unfold HasW
          unfold LeK at ho
          simp only
          omega
        rw [this]
      · unfold LeK at *
        exact ho
    · rename_i hm
      refine ⟨canon_snoc.2 ⟨h, hw, fun x hx => ?_⟩, fun b t => ?_, w, by simp, .inr ⟨rfl, Int.le_refl _⟩, .inl rfl⟩
      · have how : Lt o w := by
          unfold LeK at ho
          unfold Lt
          omega
        rcases List.mem_append.1 hx with hx | hx
        · exact (c3 x hx).trans' c2 how
        · obtain rfl := List.mem_singleton.1 hx
          exact how
      · rw [has_append, has_one]
theorem LeK.trans' {a b c : Win} (h1 : LeK a b) (h2 : LeK b c) : LeK a c := by
  unfold LeK at *; omega
theorem jfold_ok : ∀ (l out : List Win), Canon out → (∀ w ∈ l, w.lo < w.hi) → l.Pairwise LeK → (∀ o ∈ out.getLast?, ∀ w ∈ l, LeK o w) →
    Canon (l.foldl jstep out) ∧ ∀ b t, Has (l.foldl jstep out) b t ↔ Has out b t ∨ Has l b t
  | [], out, h, _, _, _ => ⟨h, fun b t => by simp [has_nil]⟩
  | w :: l, out, h, hw, hp, hk => by
    obtain ⟨p1, p2⟩ := List.pairwise_cons.1 hp
    obtain ⟨q1, q2, o, q3, q4, q5⟩ := jstep_ok h (hw w (by simp)) (fun o ho => hk o ho w (by simp))
    obtain ⟨r1, r2⟩ := jfold_ok l (jstep out w) q1 (fun x hx => hw x (by simp [hx])) p2 (fun x hx y hy => by
      rw [q3] at hx
      obtain rfl : o = x := by simpa using hx
      exact q4.trans' (p1 y hy))
    rw [List.foldl_cons]
    refine ⟨r1, fun b t => ?_⟩
    rw [r2, q2, has_cons, or_assoc]
theorem joined_ok {l : List Win} (hw : ∀ w ∈ l, w.lo < w.hi) (hp : l.Pairwise LeK) : Canon (l.foldl jstep []) ∧ ∀ b t, Has (l.foldl jstep []) b t ↔ Has l b t := by
  obtain ⟨h1, h2⟩ := jfold_ok l [] .nil hw hp (by simp)
  exact ⟨h1, fun b t => by rw [h2]; exact ⟨fun h => h.resolve_left (has_nil _ _), .inr⟩⟩
theorem has_perm {l m : List Win} (h : l.Perm m) (b t : Int) : Has l b t ↔ Has m b t := by
  unfold Has
  exact ⟨fun ⟨w, hw, e⟩ => ⟨w, h.mem_iff.1 hw, e⟩, fun ⟨w, hw, e⟩ => ⟨w, h.mem_iff.2 hw, e⟩⟩
instance (a b : Win) : Decidable (LeK a b) := inferInstanceAs (Decidable (_ ∨ _ ∧ _))
def joinW (l : List Win) : List Win := (l.mergeSort fun a b => decide (LeK a b)).foldl jstep []
theorem sortK_perm (l : List Win) : (l.mergeSort fun a b => decide (LeK a b)).Perm l := List.mergeSort_perm _ _
theorem sortK_sorted (l : List Win) : (l.mergeSort fun a b => decide (LeK a b)).Pairwise LeK := by
  have := List.pairwise_mergeSort (le := fun a b => decide (LeK a b)) (fun a b c h1 h2 => by simp only [decide_eq_true_eq] at *; exact h1.trans' h2) (fun a b => by simp only [Bool.or_eq_true, decide_eq_true_eq]; unfold LeK; omega) l
  exact this.imp fun h => of_decide_eq_true h
theorem joinW_ok {l : List Win} (hw : ∀ w ∈ l, w.lo < w.hi) : Canon (joinW l) ∧ ∀ b t, Has (joinW l) b t ↔ Has l b t := by
  obtain ⟨h1, h2⟩ := joined_ok (fun w h => hw w ((sortK_perm l).mem_iff.1 h)) (sortK_sorted l)
  exact ⟨h1, fun b t => (h2 b t).trans (has_perm (sortK_perm l) b t)⟩
theorem joined_any {l l' : List Win} (hw : ∀ w ∈ l, w.lo < w.hi) (hp : l'.Perm l) (hs : l'.Pairwise LeK) : l'.foldl jstep [] = joinW l := by
  obtain ⟨h1, h2⟩ := joined_ok (fun w h => hw w (hp.mem_iff.1 h)) hs
  obtain ⟨g1, g2⟩ := joinW_ok hw
  exact canon_unique h1 g1 fun b t => by rw [h2, g2, has_perm hp]
def withoutW (a b : Win) : List Win :=
  if a.bed ≠ b.bed ∨ b.hi ≤ a.lo ∨ a.hi ≤ b.lo then [a]
  else (if a.lo < b.lo then [⟨a.bed, a.lo, b.lo⟩] else []) ++ (if b.hi < a.hi then [⟨a.bed, b.hi, a.hi⟩] else [])
theorem without_has {a b : Win} (ha : a.lo < a.hi) (hb : b.lo < b.hi) (c t : Int) : Has (withoutW a b) c t ↔ HasW a c t ∧ ¬ HasW b c t := by
  unfold withoutW
  split
  · rw [has_one]; unfold HasW; omega
  · rw [has_append]
    split <;> split <;> simp only [has_one, has_nil, HasW, or_false, false_or, false_iff] <;> omega
theorem without_canon {a b : Win} (ha : a.lo < a.hi) (hb : b.lo < b.hi) : Canon (withoutW a b) ∧ ∀ w ∈ withoutW a b, w.bed = a.bed ∧ a.lo ≤ w.lo ∧ w.hi ≤ a.hi := by
  unfold withoutW
  split
  · exact ⟨canon_cons.2 ⟨ha, by simp, .nil⟩, by simp⟩
  · split <;> split
    · refine ⟨canon_cons.2 ⟨by assumption, ?_, canon_cons.2 ⟨by assumption, by simp, .nil⟩⟩, ?_⟩
      · simp [Lt]; omega
      · simp; omega
    · exact ⟨canon_cons.2 ⟨by assumption, by simp, .nil⟩, by simp; omega⟩
    · exact ⟨canon_cons.2 ⟨by assumption, by simp, .nil⟩, by simp; omega⟩
    · exact ⟨.nil, by simp⟩
def cut1 (l : List Win) (b : Win) : List Win := l.flatMap (withoutW · b)
theorem cut1_ok {b : Win} (hb : b.lo < b.hi) : ∀ {l : List Win}, Canon l → Canon (cut1 l b) ∧ ∀ c t, Has (cut1 l b) c t ↔ Has l c t ∧ ¬ HasW b c t
  | [], _ => ⟨.nil, fun c t => by simp [cut1, has_nil]⟩
  | a :: l, h => by
    obtain ⟨h1, h2, h3⟩ := canon_cons.1 h
    obtain ⟨i1, i2⟩ := cut1_ok hb h3
    obtain ⟨w1, w2⟩ := without_canon h1 hb
    have e : cut1 (a :: l) b = withoutW a b ++ cut1 l b := by simp [cut1]
    rw [e]
    refine ⟨⟨List.pairwise_append.2 ⟨w1.1, i1.1, fun x hx y hy => ?_⟩, fun w hw => ?_⟩, fun c t => ?_⟩
    · obtain ⟨z, hz, hy⟩ := List.mem_flatMap.1 hy
      obtain ⟨y1, y2, y3⟩ := (without_canon (h3.2 z hz) hb).2 y hy
      obtain ⟨x1, x2, x3⟩ := w2 x hx
      have := h2 z hz
      unfold Lt at *
      omega
    · rcases List.mem_append.1 hw with hw | hw
      · exact w1.2 w hw
      · exact i1.2 w hw
    · rw [has_append, i2, without_has h1 hb, has_cons, or_and_right]
theorem cuts_ok : ∀ {m l : List Win}, (∀ w ∈ m, w.lo < w.hi) → Canon l → Canon (m.foldl cut1 l) ∧ ∀ c t, Has (m.foldl cut1 l) c t ↔ Has l c t ∧ ¬ Has m c t
  | [], l, _, h => ⟨h, fun c t => by simp [has_nil]⟩
  | b :: m, l, hm, h => by
    obtain ⟨h1, h2⟩ := cut1_ok (hm b (by simp)) h
    obtain ⟨i1, i2⟩ := cuts_ok (m := m) (fun w hw => hm w (by simp [hw])) h1
    rw [List.foldl_cons]
    refine ⟨i1, fun c t => ?_⟩
    rw [i2, h2, has_cons, not_or, and_assoc]
def May (w : Win) : Prop := 1 ≤ w.bed ∧ w.bed ≤ 99 ∧ 0 ≤ w.lo ∧ w.lo < w.hi ∧ w.hi ≤ 1000000000
instance (w : Win) : Decidable (May w) := inferInstanceAs (Decidable (_ ∧ _ ∧ _ ∧ _ ∧ _))
def Good (l : List Win) : Prop := Canon l ∧ ∀ w ∈ l, May w
theorem May.lt {w : Win} (h : May w) : w.lo < w.hi := h.2.2.2.1
theorem good_of {l : List Win} (h : Canon l) (hb : ∀ b t, Has l b t → 1 ≤ b ∧ b ≤ 99 ∧ 0 ≤ t ∧ t < 1000000000) : Good l := by
  refine ⟨h, fun w hw => ?_⟩
  have hlt := h.2 w hw
  have h1 := hb w.bed w.lo ⟨w, hw, rfl, Int.le_refl _, hlt⟩
  have h2 := hb w.bed (w.hi - 1) ⟨w, hw, rfl, by omega, by omega⟩
  unfold May
  omega
theorem has_may {l : List Win} (h : ∀ w ∈ l, May w) {b t : Int} (ht : Has l b t) : 1 ≤ b ∧ b ≤ 99 ∧ 0 ≤ t ∧ t < 1000000000 := by
  obtain ⟨w, hw, e1, e2, e3⟩ := ht
  have := h w hw
  unfold May at this
  omega
end Go.Proofs.Ytaooefnmdlajcaa

namespace Go.Proofs.Ytaooefnmdlajcaa
open Go.RowKit Go.Shelf Go.Proofs
attribute [local go_sem] Oper.semAt_some
def encA (x : Win) : List Value := [.int .i64 x.bed, .int .i64 x.lo, .int .i64 x.hi]
def upto {α : Type} (f : Nat → α) (k : Nat) : List α := (List.range k).map f
theorem upto_succ {α : Type} (f : Nat → α) (k : Nat) : upto f (k + 1) = upto f k ++ [f k] := by simp [upto, List.range_succ]
theorem upto_length {α : Type} (f : Nat → α) (k : Nat) : (upto f k).length = k := by simp [upto]
def RowA (W : World) (b off len : Nat) (zs : List Win) : Prop := ∀ j, j < len → ∀ i, i < 3 → W.cell? ⟨b, off + j * 3 + i, none⟩ = some ((encA (zs.getD j default)).getD i (.bool false))
set_option maxRecDepth 100000 in
set_option maxHeartbeats 2000000 in
theorem values1_in (F : Fence) (n : Nat) (h7 : F.fn 113) (hro : F.round = none) (hn : 1 ≤ n) (l Bs n₀ b off len cap : Nat) (zs : List Win) (hreach : len * 24 ≤ 140737488351232) (hb : b < n₀) (J Jx : List Win → World → Prop)
    (hAb : ∀ s (W : World) (o : Obj), J s W → J s (W.alloc o))
    (hY : ∀ pre x W, J pre W → pre.length < len → YieldAt F (n - 1) Try.prog l #[.agg (encA x).toArray] W fun e W' =>
      (e = .returned (.bool true) ∧ J (pre ++ [x]) W' ∧ Below n₀ W W') ∨ (e = .returned (.bool false) ∧ Jx (pre ++ [x]) W'))
    (W : World) (hn₀ : n₀ ≤ W.heap.size) (hBs : W.cell? ⟨Bs, 0, none⟩ = some (.slice (some ⟨b, off, none⟩) len cap)) (hc : RowA W b off len zs) (h0 : J [] W) :
    CallsIn F n Try.prog 113 #[.func (.yield l) #[] #[], .pointer (some ⟨Bs, 0, none⟩)] W fun e W' => (∃ v, e = .returned v) ∧
      ((∃ ys, ys = upto (fun j => zs.getD j default) len ∧ J ys W') ∨ (∃ pre, (∃ k, k ≤ len ∧ pre = upto (fun j => zs.getD j default) k) ∧ Jx pre W')) := by
  refine callsIn_of_wp Try.func113 rfl h7 ?_ hro
  simp only [Try.ntmps113, List.size_toArray, List.length_cons, List.length_nil, Nat.reduceAdd, Nat.reduceSub, Array.replicate_succ, Array.replicate_zero, List.push_toArray, List.append_toArray, List.nil_append, List.cons_append]
  gi_wp2
  gi_loopw [7] (fun i wr => ∃ k : Nat, k ≤ len ∧ i = .int .i64 k ∧ J (upto (fun j => zs.getD j default) k) wr ∧ Below n₀ W wr)
    (fun i _ => len - (intOf i).toNat)
  case atStart => exact ⟨0, Nat.zero_le _, rfl, h0, Below.refl _ _⟩
  case round =>
    obtain ⟨k, hk, rfl, hJs, hnx⟩ := hrel
    by_cases hlt : k < len
    · obtain ⟨x, hx⟩ : ∃ x, zs.getD k default = x := ⟨_, rfl⟩
      have hn₀w : n₀ ≤ wr.heap.size := Nat.le_trans hn₀ hnx.size
      have c0 : wr.cell? ⟨b, off + k * 3, none⟩ = some (.int .i64 x.bed) := by
        have h := (hnx.cell (p := ⟨b, off + k * 3 + 0, none⟩) hb).trans (hc k hlt 0 (by omega))
        rw [hx] at h; exact h
      have c1 : wr.cell? ⟨b, off + k * 3 + 1, none⟩ = some (.int .i64 x.lo) := by
        have h := (hnx.cell (p := ⟨b, off + k * 3 + 1, none⟩) hb).trans (hc k hlt 1 (by omega))
        rw [hx] at h; exact h
      have c2 : wr.cell? ⟨b, off + k * 3 + 2, none⟩ = some (.int .i64 x.hi) := by
        have h := (hnx.cell (p := ⟨b, off + k * 3 + 2, none⟩) hb).trans (hc k hlt 2 (by omega))
        rw [hx] at h; exact h
      obtain ⟨fn, tmps, assign, body, hy, hR⟩ := hY _ x _ (hAb _ _ (.cells #[.int .i64 x.bed, .int .i64 x.lo, .int .i64 x.hi] 32) hJs) (by rw [upto_length]; exact hlt)
      simp only [encA] at hy
      have hnx2 : Below n₀ W (wr.alloc (.cells #[.int .i64 x.bed, .int .i64 x.lo, .int .i64 x.hi] 32)) := hnx.alloc hn₀w _
      gi_wp2
      refine hR.mono ?_
      rintro e W3 (⟨rfl, hJ3, hk3⟩ | ⟨rfl, hJx3⟩)
      ·
        gi_wp2
        go_roundw
        case rel => exact ⟨k + 1, by omega, by simp, by rw [upto_succ, hx]; exact hJ3, hnx2.trans hk3⟩
        case measure => simp [intOf]; omega
      · gi_wp2
        refine bodyPost_ret (results_none rfl _ _ _) rfl ?_
        exact ⟨⟨_, rfl⟩, .inr ⟨_, ⟨k + 1, by omega, by rw [upto_succ, hx]⟩, hJx3⟩⟩
    · obtain rfl : k = len := by omega
      gi_wp2
      go_end0
      exact ⟨⟨_, rfl⟩, .inl ⟨_, rfl, hJs⟩⟩
set_option maxRecDepth 100000 in
set_option maxHeartbeats 1000000 in
theorem values1_nil_in (F : Fence) (n : Nat) (h7 : F.fn 113) (hro : F.round = none) (l Bs : Nat) (J : List Win → World → Prop) (W : World) (A : Option Addr) (cap : Nat) (hBs : W.cell? ⟨Bs, 0, none⟩ = some (.slice A 0 cap)) (h0 : J [] W) :
    CallsIn F n Try.prog 113 #[.func (.yield l) #[] #[], .pointer (some ⟨Bs, 0, none⟩)] W fun e W' => (∃ v, e = .returned v) ∧ J [] W' := by
  refine callsIn_of_wp Try.func113 rfl h7 ?_ hro
  simp only [Try.ntmps113, List.size_toArray, List.length_cons, List.length_nil, Nat.reduceAdd, Nat.reduceSub, Array.replicate_succ, Array.replicate_zero, List.push_toArray, List.append_toArray, List.nil_append, List.cons_append]
  gi_wp2
  gi_loopw [7] (fun i wr => i = .int .i64 0 ∧ J [] wr) (fun _ _ => 0)
  case atStart => exact ⟨rfl, h0⟩
  case round =>
    obtain ⟨rfl, hJs⟩ := hrel
    gi_wp2
    go_end0
    exact ⟨⟨_, rfl⟩, hJs⟩
set_option maxHeartbeats 1000000 in
theorem values_in (F : Fence) (n : Nat) (h5 : F.fn 77) (hro : F.round = none) (a : Option Addr) (len cap : Nat) (w : World) :
    CallsIn F n Try.prog 77 #[.slice a len cap] w fun e w' => e = .returned (.func (.func 113) #[] #[.pointer (some ⟨w.heap.size, 0, none⟩)]) ∧ w' = w.alloc (.cells #[.slice a len cap] 22) := by
  refine callsIn_of_wp Try.func77 rfl h5 ?_ hro
  simp only [Try.ntmps77, List.size_toArray, List.length_cons, List.length_nil, Nat.reduceAdd, Nat.reduceSub, Array.replicate_succ, Array.replicate_zero, List.push_toArray, List.append_toArray, List.nil_append, List.cons_append]
  gi_wp2
  go_ret
  exact ⟨rfl, rfl⟩
def HoldsA (n₀ : Nat) (W : World) (sv : Value) (zs : List Win) : Prop :=
  ((∃ A cap, sv = .slice A 0 cap) ∧ zs = []) ∨ ∃ b off cap, sv = .slice (some ⟨b, off, none⟩) zs.length cap ∧ b < n₀ ∧ RowA W b off zs.length zs
theorem HoldsA.below {n₀ : Nat} {A B : World} (h : Below n₀ A B) {sv : Value} {zs : List Win} : HoldsA n₀ A sv zs → HoldsA n₀ B sv zs
  | .inl e => .inl e
  | .inr ⟨b, off, cap, e, hb, hc⟩ => .inr ⟨b, off, cap, e, hb, fun j hj i hi => (h.cell (p := ⟨b, off + j * 3 + i, none⟩) hb).trans (hc j hj i hi)⟩
theorem upto_all (zs : List Win) : upto (fun j => zs.getD j default) zs.length = zs := by
  apply List.ext_getElem
  · simp [upto]
  · intro i h1 h2
    simp [upto, h2]
theorem values_stops (F : Fence) (n : Nat) (h7 : F.fn 113) (hro : F.round = none) (hn : 1 ≤ n) (Bs n₀ : Nat) (sv : Value) (zs : List Win) (hreach : zs.length * 24 ≤ 140737488351232) (w : World) (hBs : Bs < w.heap.size) (hn₀ : n₀ ≤ w.heap.size)
    (hc : w.cell? ⟨Bs, 0, none⟩ = some sv) (hI : HoldsA n₀ w sv zs) :
    SeqStopsK F n Try.prog 113 #[.pointer (some ⟨Bs, 0, none⟩)] (fun x : Win => #[.agg (encA x).toArray]) (Below n₀) (fun ys => ys = zs) (fun _ => True) zs.length w := fun l J Jx W hW hJ _ hY h0 => by
  have hc' := (hW.cell (p := ⟨Bs, 0, none⟩) hBs).trans hc
  have hal : ∀ s (W : World) (o : Obj), J s W → J s (W.alloc o) := fun s W1 o hs => hJ s W1 _ none hs (World.grownBy_alloc W1 o none) (fun r e => by cases e)
  rcases hI.below (hW.mono hn₀) with ⟨⟨A, cap, rfl⟩, rfl⟩ | ⟨b, off, cap, rfl, hb, hcs⟩
  · exact (values1_nil_in F n h7 hro l Bs J W A cap hc' h0).mono fun e W' ⟨he, hj⟩ => ⟨he, .inl ⟨_, rfl, hj⟩⟩
  · refine (values1_in F n h7 hro hn l Bs n₀ b off zs.length cap zs hreach hb J Jx hal hY W (Nat.le_trans hn₀ hW.size) hc' hcs h0).mono ?_
    rintro e W' ⟨he, ⟨ys, rfl, hj⟩ | ⟨pre, _, hj⟩⟩
    · exact ⟨he, .inl ⟨_, upto_all zs, hj⟩⟩
    · exact ⟨he, .inr ⟨_, trivial, hj⟩⟩
end Go.Proofs.Ytaooefnmdlajcaa

namespace Go.Proofs.Ytaooefnmdlajcaa
open Go.RowKit Go.Shelf Go.Proofs
attribute [local go_sem] Oper.semAt_some
theorem info32 : (Try.prog.info? 32).map (fun i => (i.zero, i.size, i.bytes)) = some (some (.agg #[.int .i64 0, .int .i64 0, .int .i64 0]), 3, 24) := by kernel_rfl
def ApI (w0 : World) (B : Nat) (pre : List Win) (W : World) : Prop :=
  (∃ v, Boxed W B 22 v ∧ W.ownsRow w0.heap.size 32 3 v pre.length (pre.flatMap encA)) ∧ Below w0.heap.size w0 W
theorem ownsRow_ne {W : World} {base : Nat} {e : TypeId} {size : Nat} {v : Value} {k : Nat} {xs : List Value} (h : W.ownsRow base e size v k xs) {j : Nat} {o : Obj} (hj : W.heap[j]? = some o) (hno : ∀ cur, o ≠ .cells cur e (0, 0)) : some j ≠ v.ownBlock := by
  rcases h.2 with ⟨rfl, _⟩ | ⟨g, cap, cur, rfl, _, hgb, _⟩
  · simp [Value.ownBlock]
  · intro e'
    simp [Value.ownBlock] at e'
    subst e'
    rw [hj] at hgb; cases hgb; exact hno _ rfl
theorem ownsRow_cells {W : World} {base : Nat} {e : TypeId} {size : Nat} {v : Value} {k : Nat} {xs : List Value} (h : W.ownsRow base e size v k xs) {j : Nat} {o : Obj} (hj : W.heap[j]? = some o) (hno : o.isCells = false) : some j ≠ v.ownBlock := by
  rcases h.2 with ⟨rfl, _⟩ | ⟨g, cap, cur, rfl, _, hgb, _⟩
  · simp [Value.ownBlock]
  · intro e'
    simp [Value.ownBlock] at e'
    subst e'
    rw [hj] at hgb; cases hgb; cases hno
theorem ownsRow_ne2 {W : World} {base : Nat} {e : TypeId} {size : Nat} {v : Value} {k : Nat} {xs : List Value} (h : W.ownsRow base e size v k xs) {j : Nat} {l : Option (List Deferred)} (hj : W.heap[j]? = some (.deferred l)) : v.ownBlock = none ∨ v.ownBlock ≠ some j :=
  .inr fun q => ownsRow_ne h hj (fun cur e => by cases e) q.symm
theorem one_encA (x : Win) : ∀ u ∈ encA x, u.oneCell' = true := by
  intro u hu
  simp only [encA, List.mem_cons, List.not_mem_nil, or_false] at hu
  rcases hu with rfl | rfl | rfl <;> rfl
theorem cells_new (W : World) (l : List Value) (t : TypeId) : ∀ (j : Nat) (u : Value), l[j]? = some u → (W.alloc (.cells l.toArray t)).cell? ((⟨W.heap.size, 0, none⟩ : Addr).add j) = some u := by
  intro j u h
  have : (W.alloc (.cells l.toArray t)).heap[W.heap.size]? = some (.cells l.toArray t (0, 0)) := World.alloc_heap_new W _
  rw [@Go.Eng.addr_add ⟨True⟩ _ rfl, Nat.zero_add]
  unfold World.cell?
  dsimp only
  rw [this]
  simpa using h
theorem apI_grown {w0 : World} {B : Nat} {pre : List Win} {A A' : World} {row : Option Nat} (hB : w0.heap.size ≤ A.heap.size) (h : ApI w0 B pre A) (hg : A.grownBy A' row) (hr : ∀ r, row = some r → w0.heap.size ≤ r ∧ ∃ o : Obj, A.heap[r]? = some o ∧ o.isCells = false) : ApI w0 B pre A' := by
  obtain ⟨⟨v, hv, hrow⟩, hb⟩ := h
  refine ⟨⟨v, hv.kept hg (fun e' => ?_), hrow.kept hg ?_⟩, hb.grown hg hB fun k e => (hr k e).1⟩
  · obtain ⟨_, o, ho, hc⟩ := hr B e'.symm
    rw [show A.heap[B]? = _ from hv] at ho; cases ho; cases hc
  · cases hrw : row with
    | none => cases v.ownBlock <;> simp
    | some r =>
      obtain ⟨_, o, ho, hc⟩ := hr r hrw
      exact .inr fun e => ownsRow_cells hrow ho hc e.symm
set_option maxRecDepth 100000 in
set_option maxHeartbeats 4000000 in
theorem appendSeq_in (F : Fence) (n : Nat) (h38 : F.fn 124) (hro : F.round = none) (hn : 3 ≤ n) (g : Nat) (lb : Array Value) (hFg : F.fn g) (eg : ∀ args w, (callFunc g args).run Try.prog w = .ok (.enter g args) w)
    (zs : List Win) (hN : zs.length ≤ 1000000) (w : World) (n₀ : Nat) (hn₀ : n₀ ≤ w.heap.size) (hseq : SeqStopsK F (n - 1) Try.prog g lb (fun x : Win => #[.agg (encA x).toArray]) (Below n₀) (fun ys => ys = zs) (fun _ => True) zs.length w) :
    CallsIn F n Try.prog 124 #[.slice none 0 0, .func (.func g) #[] lb] w fun e w' => ∃ v : Value, e = .returned v ∧ w'.ownsRow w.heap.size 32 3 v zs.length (zs.flatMap encA) ∧ Below w.heap.size w w' := by
  have h1 : 1 ≤ n := by omega
  obtain ⟨i0, hi, hz0, hz1, hz2⟩ := info_parts info32
  refine callsIn_of_wp_marks Try.func124 rfl h38 ?_ hro
  simp only [Try.ntmps124, List.size_toArray, List.length_cons, List.length_nil, Nat.reduceAdd, Nat.reduceSub, Array.replicate_succ, Array.replicate_zero, List.push_toArray, List.append_toArray, List.nil_append, List.cons_append]
  gi_wp2
  have hb0 : Below w.heap.size w (w.alloc (.cells #[.slice none 0 0] 22)) := (Below.refl _ w).alloc (Nat.le_refl _) _
  refine wpIn_rangeFunc_ownH hro h1 (gf := g) (lb := lb) rfl hFg eg hseq belowK_t (belowK_b (by simp; omega)) hb0 (fun _ => rfl)
    (ApI w w.heap.size) (fun _ _ _ => False) ?own (fun _ _ _ _ _ hs _ _ => hs) ?start
    (fun x a' W => ∃ t, a' = { tmps := #[.slice none 0 0, .func (.func g) #[] lb, .pointer (some ⟨w.heap.size, 0, none⟩), undef, .slice none 0 0, .pointer (some ⟨t, 0, none⟩), .func (.func g) #[] lb, .agg (encA x).toArray, undef, undef, undef, undef, undef], defers := [] } ∧ W.heap[t]? = some (.cells (encA x).toArray 32 (0, 0)) ∧ w.heap.size < t)
    ?ax ?assign ?body ?done ?stop
  case own =>
    intro pre A B row hs hg hr
    refine apI_grown hs.2.size hs hg fun r e => ?_
    obtain ⟨h1, h2⟩ := hr r e
    exact ⟨by simp at h1; omega, h2⟩
  case start => exact ⟨⟨_, Boxed.new w 22 _, ⟨rfl, .inl ⟨rfl, rfl⟩⟩⟩, hb0⟩
  case ax =>
    rintro x a' _ A B row ⟨t, ha, ht, htw⟩ hg hr
    refine ⟨t, ha, (hg.block t (Array.getElem?_eq_some_iff.1 ht).1 (fun e => ?_)).trans ht, htw⟩
    obtain ⟨_, o, ho, hc⟩ := hr t e.symm
    rw [ht] at ho; cases ho; cases hc
  case assign =>
    intro l pre x W K hI hK
    simp only [encA]
    gi_wp2
    have hsz : w.heap.size < W.heap.size := hI.1.choose_spec.1.lt
    refine hK _ _ ((KeepsOthers.alloc _ _).from _) ((Below.refl _ _).alloc (by have := hI.2.size; omega) _) (apI_grown hI.2.size hI (World.grownBy_alloc W _ none) (fun r e => by cases e)) ⟨W.heap.size, rfl, World.alloc_heap_new W _, hsz⟩
  case body =>
    rintro l pre x a' W hl ⟨r, hr⟩ ⟨⟨v, hv, hrow⟩, hB⟩ ⟨t, rfl, ht, htw⟩ hlen
    have hBs : W.cell? ⟨w.heap.size, 0, none⟩ = some v := hv.cell
    have hBf := hv.frozen
    simp only [encA] at ht ⊢
    have c0 : W.cell? ⟨t, 0, none⟩ = some (.int .i64 x.bed) := by simp [World.cell?, ht]
    have c1 : W.cell? ⟨t, 1, none⟩ = some (.int .i64 x.lo) := by simp [World.cell?, ht]
    have c2 : W.cell? ⟨t, 2, none⟩ = some (.int .i64 x.hi) := by simp [World.cell?, ht]
    have hne0 : some w.heap.size ≠ v.ownBlock := ownsRow_ne hrow (show W.heap[w.heap.size]? = _ from hv) (fun cur e => by cases e)
    have hsz : w.heap.size < W.heap.size := hv.lt
    gi_wp2_with (
      gi_at_builtin
      refine wpListIn_append_own _ rfl _ _ 22 rfl w.heap.size 32 i0 _ 3 24 Try.underlying22 hi hz0 hz1 hz2 rfl (by decide) _ _ _ rfl (hrow.alloc _) ⟨W.heap.size, 0, none⟩ 1 1 (encA x) rfl rfl (cells_new _ _ _) (one_encA x) (by unfold maxLen; omega) (by omega) (by simp; omega) ?_
      intro v' w3 hown' hg3 hnil3
      obtain ⟨g', cap', cur', rfl, hbase', hgb', hr1, hr2, hr3, hr4⟩ : ∃ g' cap' cur', v' = .slice (some ⟨g', 0, none⟩) (pre.length + 1) cap' ∧ w.heap.size ≤ g' ∧ w3.heap[g']? = some (.cells cur' 32 (0, 0)) ∧ pre.length + 1 ≤ cap' ∧ cap' ≤ maxLen ∧ cur'.size = cap' * 3 ∧ cur'.toList.take ((pre.length + 1) * 3) = pre.flatMap encA ++ encA x := by
        rcases hown'.2 with ⟨_, h0⟩ | h'
        · exact absurd h0 (by omega)
        · exact h'
      have hv3 : Boxed w3 w.heap.size 22 v := (hv.alloc _).kept hg3 hne0
      have hc3 := hv3.cell
      have hf3 := hv3.frozen
      go_frame)
    have hg3' : (W.alloc (.cells (encA x).toArray 32)).grownBy w3 v.ownBlock := hg3
    have hneg : v.ownBlock = none ∨ v.ownBlock ≠ some w.heap.size := .inr fun e => hne0 e.symm
    have hcells : ∀ (j : Nat) (o : Obj), v.ownBlock = some j → (W.alloc (.cells (encA x).toArray 32)).heap[j]? = some o → o.isCells = true := by
      intro j o e ho
      rcases (hrow.alloc (.cells (encA x).toArray 32)).2 with ⟨rfl, _⟩ | ⟨g, cap, cur, rfl, _, hgb, _⟩
      · simp [Value.ownBlock] at e
      · have : g = j := by simpa [Value.ownBlock] using e
        subst this; rw [hgb] at ho; cases ho; rfl
    have hne3 : some w.heap.size ≠ some g' := by
      have := ownsRow_ne hown' (show w3.heap[w.heap.size]? = _ from hv3) (fun cur e => by cases e)
      simpa [Value.ownBlock] using this
    have hk : KeepsOthers W (w3.setCell ⟨w.heap.size, 0, none⟩ (.slice (some ⟨g', 0, none⟩) (pre.length + 1) cap')) := ((KeepsOthers.alloc W _).trans (KeepsOthers.of_grownBy hg3' hcells)).trans (KeepsOthers.setCell _ _ _)
    have hbel : ∀ m, m ≤ w.heap.size → Below m W (w3.setCell ⟨w.heap.size, 0, none⟩ (.slice (some ⟨g', 0, none⟩) (pre.length + 1) cap')) := fun m hm =>
      ((((Below.refl m W).alloc (by omega) (.cells (encA x).toArray 32)).grown hg3' (by simp; omega) (fun k e => Nat.le_trans hm (hrow.lt k e).1))).setCell (p := ⟨w.heap.size, 0, none⟩) hm _
    refine ⟨hk.from _, hbel _ hn₀, ⟨⟨_, hv3.set _, ?_⟩, hB.trans (hbel _ (Nat.le_refl _))⟩⟩
    have h4 := hown'.kept (grownBy_setCell' w3 w.heap.size (.slice (some ⟨g', 0, none⟩) (pre.length + 1) cap')) (.inr fun e => hne3 (by rw [← e]; rfl))
    rw [List.length_append, List.flatMap_append, List.flatMap_singleton]
    exact h4
  case done =>
    rintro D ys W hD rfl ⟨⟨v, hv, hrow⟩, hB⟩ hK
    have hBs : W.cell? ⟨w.heap.size, 0, none⟩ = some v := hv.cell
    gi_wp2
    refine ⟨by simp, .inl ⟨_, _, rfl, run_takeDeferred hK, ?_⟩⟩
    exact ⟨_, results_tmp rfl _ _ _, v, rfl, hrow.kept (grownBy_putObj' W D _) (ownsRow_ne2 hrow hK), hB.trans (belowK_b (w := w) (Nat.le_refl _) W D _ _ (by simp at hD; omega) hK rfl rfl)⟩
  case stop =>
    rintro D c pre W _ _ h _
    exact h.elim
set_option maxHeartbeats 1000000 in
theorem collect_in (F : Fence) (n : Nat) (h30 : F.fn 111) (h38 : F.fn 124) (hro : F.round = none) (hn : 4 ≤ n) (g : Nat) (lb : Array Value) (hFg : F.fn g) (eg : ∀ args w, (callFunc g args).run Try.prog w = .ok (.enter g args) w)
    (zs : List Win) (hN : zs.length ≤ 1000000) (w : World) (n₀ : Nat) (hn₀ : n₀ ≤ w.heap.size) (hseq : SeqStopsK F (n - 1 - 1) Try.prog g lb (fun x : Win => #[.agg (encA x).toArray]) (Below n₀) (fun ys => ys = zs) (fun _ => True) zs.length w) :
    CallsIn F n Try.prog 111 #[.func (.func g) #[] lb] w fun e w' => ∃ v : Value, e = .returned v ∧ w'.ownsRow w.heap.size 32 3 v zs.length (zs.flatMap encA) ∧ Below w.heap.size w w' := by
  have h1 : 1 ≤ n := by omega
  refine callsIn_of_wp Try.func111 rfl h30 ?_ hro
  simp only [Try.ntmps111, List.size_toArray, List.length_cons, List.length_nil, Nat.reduceAdd, Nat.reduceSub, Array.replicate_succ, Array.replicate_zero, List.push_toArray, List.append_toArray, List.nil_append, List.cons_append]
  gi_wp2_with (
    gi_at_call 124
    refine (appendSeq_in F (n - 1) h38 hro (by omega) g lb hFg eg zs hN _ n₀ hn₀ hseq).mono ?_
    rintro e w' ⟨v, rfl, hrow, hb⟩)
  go_ret
  exact ⟨v, rfl, hrow, hb⟩
end Go.Proofs.Ytaooefnmdlajcaa

namespace Go.Proofs.Ytaooefnmdlajcaa
open Go.Proofs Go.Shelf
def sortA_ren : Go.Shelf.Ren := ⟨fun | 6 => 112 | 15 => 126 | 14 => 125 | 28 => 140 | 29 => 141 | 20 => 132 | 21 => 133 | 22 => 134 | 23 => 135 | 24 => 136 | 25 => 137 | 26 => 138 | 27 => 139 | 46 => 153 | 47 => 154 | 48 => 155 | 49 => 156 | 50 => 157 | 57 => 161 | n => n, fun | 22 => 22 | 24 => 32 | 25 => 100 | 3 => 3 | 39 => 143 | 0 => 0 | 53 => 156 | 55 => 158 | 4 => 4 | 46 => 150 | 45 => 149 | 50 => 28 | 5 => 5 | 9 => 9 | 66 => 164 | 70 => 168 | 76 => 172 | 77 => 173 | n => n, fun | n => n⟩
theorem sortA : Go.Proofs.SlLaysF0.n6 Try.prog sortA_ren := {
  mixed := by kernel_rfl,
  f6 := ⟨Try.f112.name, by decide, Try.func112.trans (congrArg some (by kernel_rfl))⟩,
  f14 := ⟨Try.f125.name, by decide, Try.func125.trans (congrArg some (by kernel_rfl))⟩,
  f15 := Try.func126.trans (congrArg some (by kernel_rfl)),
  f20 := ⟨Try.f132.name, by decide, Try.func132.trans (congrArg some (by kernel_rfl))⟩,
  f21 := ⟨Try.f133.name, by decide, Try.func133.trans (congrArg some (by kernel_rfl))⟩,
  f22 := ⟨Try.f134.name, by decide, Try.func134.trans (congrArg some (by kernel_rfl))⟩,
  f23 := ⟨Try.f135.name, by decide, Try.func135.trans (congrArg some (by kernel_rfl))⟩,
  f24 := ⟨Try.f136.name, by decide, Try.func136.trans (congrArg some (by kernel_rfl))⟩,
  f25 := ⟨Try.f137.name, by decide, Try.func137.trans (congrArg some (by kernel_rfl))⟩,
  f26 := ⟨Try.f138.name, by decide, Try.func138.trans (congrArg some (by kernel_rfl))⟩,
  f27 := ⟨Try.f139.name, by decide, Try.func139.trans (congrArg some (by kernel_rfl))⟩,
  f28 := Try.func140.trans (congrArg some (by kernel_rfl)),
  f29 := Try.func141.trans (congrArg some (by kernel_rfl)),
  f46 := ⟨Try.f153.name, by decide, Try.func153.trans (congrArg some (by kernel_rfl))⟩,
  f47 := Try.func154.trans (congrArg some (by kernel_rfl)),
  f48 := Try.func155.trans (congrArg some (by kernel_rfl)),
  f49 := ⟨Try.f156.name, by decide, Try.func156.trans (congrArg some (by kernel_rfl))⟩,
  f50 := ⟨Try.f157.name, by decide, Try.func157.trans (congrArg some (by kernel_rfl))⟩,
  f57 := ⟨Try.f161.name, by decide, Try.func161.trans (congrArg some (by kernel_rfl))⟩,
  t0 := Try.underlying0,
  a0 := Try.isAgg0,
  z0 := Try.sizeOf0,
  v0 := Try.zeroValue0,
  t3 := Try.underlying3,
  a3 := Try.isAgg3,
  z3 := Try.sizeOf3,
  v3 := Try.zeroValue3,
  t4 := Try.underlying4,
  a4 := Try.isAgg4,
  z4 := Try.sizeOf4,
  v4 := Try.zeroValue4,
  t5 := Try.underlying5,
  a5 := Try.isAgg5,
  z5 := Try.sizeOf5,
  v5 := Try.zeroValue5,
  t9 := Try.underlying9,
  a9 := Try.isAgg9,
  z9 := Try.sizeOf9,
  v9 := Try.zeroValue9,
  t22 := Try.underlying22,
  a22 := Try.isAgg22,
  z22 := Try.sizeOf22,
  v22 := Try.zeroValue22,
  t25 := Try.underlying100,
  a25 := Try.isAgg100,
  z25 := Try.sizeOf100,
  v25 := Try.zeroValue100,
  t39 := Try.underlying143,
  a39 := Try.isAgg143,
  z39 := Try.sizeOf143,
  v39 := Try.zeroValue143,
  t45 := Try.underlying149,
  a45 := Try.isAgg149,
  z45 := Try.sizeOf149,
  v45 := Try.zeroValue149,
  t46 := Try.underlying150,
  a46 := Try.isAgg150,
  z46 := Try.sizeOf150,
  v46 := Try.zeroValue150,
  t50 := Try.underlying28,
  a50 := Try.isAgg28,
  z50 := Try.sizeOf28,
  v50 := Try.zeroValue28,
  t53 := Try.underlying156,
  a53 := Try.isAgg156,
  z53 := Try.sizeOf156,
  v53 := Try.zeroValue156,
  t55 := Try.underlying158,
  a55 := Try.isAgg158,
  z55 := Try.sizeOf158,
  v55 := Try.zeroValue158,
  t66 := Try.underlying164,
  a66 := Try.isAgg164,
  z66 := Try.sizeOf164,
  v66 := Try.zeroValue164,
  t70 := Try.underlying168,
  a70 := Try.isAgg168,
  z70 := Try.sizeOf168,
  v70 := Try.zeroValue168,
  t76 := Try.underlying172,
  a76 := Try.isAgg172,
  z76 := Try.sizeOf172,
  v76 := Try.zeroValue172,
  t77 := Try.underlying173,
  a77 := Try.isAgg173,
  z77 := Try.sizeOf173,
  v77 := Try.zeroValue173 }
end Go.Proofs.Ytaooefnmdlajcaa

set_option linter.unusedVariables false
set_option linter.unusedSimpArgs false
namespace Go.Proofs.Ytaooefnmdlajcaa
open Go.Eng Go.Proofs
variable [Dr]
def cmpI (x : Int) (y : Int) : Int :=
  bif (x != x) then (bif (y != y) then 0
    else (-1))
  else (bif (y != y) then 1
    else (bif (decide (x < y)) then (-1)
      else (bif (decide (x > y)) then 1
        else 0)))
theorem cmpICf : CfOk Try.prog (runG Try.prog (conΔ []) 60 12) := runG_ok noNum mixed (conΔ_ok (fun c hc => by cases hc)) _
theorem cmpI_w0 (x : Int) (y : Int) : resOf (runG Try.prog (conΔ []) 60 12 80 [.int .i64 x, .int .i64 y] [] 0 [.go 0 true, .go 0 true]) = some (.ret (.int .i64 0), [(true, (x != x)), (true, (y != y))]) := by kernel_rfl
theorem cmpI_w1 (x : Int) (y : Int) : resOf (runG Try.prog (conΔ []) 60 12 80 [.int .i64 x, .int .i64 y] [] 0 [.go 0 true, .go 0 false]) = some (.ret (.int .i64 (-1)), [(true, (x != x)), (false, (y != y))]) := by kernel_rfl
theorem cmpI_w2 (x : Int) (y : Int) : resOf (runG Try.prog (conΔ []) 60 12 80 [.int .i64 x, .int .i64 y] [] 0 [.go 0 false, .go 0 true]) = some (.ret (.int .i64 1), [(false, (x != x)), (true, (y != y))]) := by kernel_rfl
theorem cmpI_w3 (x : Int) (y : Int) : resOf (runG Try.prog (conΔ []) 60 12 80 [.int .i64 x, .int .i64 y] [] 0 [.go 0 false, .go 0 false, .go 0 true]) = some (.ret (.int .i64 (-1)), [(false, (x != x)), (false, (y != y)), (true, (decide (x < y)))]) := by kernel_rfl
theorem cmpI_w4 (x : Int) (y : Int) : resOf (runG Try.prog (conΔ []) 60 12 80 [.int .i64 x, .int .i64 y] [] 0 [.go 0 false, .go 0 false, .go 0 false, .go 0 true]) = some (.ret (.int .i64 1), [(false, (x != x)), (false, (y != y)), (false, (decide (x < y))), (true, (decide (x > y)))]) := by kernel_rfl
theorem cmpI_w5 (x : Int) (y : Int) : resOf (runG Try.prog (conΔ []) 60 12 80 [.int .i64 x, .int .i64 y] [] 0 [.go 0 false, .go 0 false, .go 0 false, .go 0 false]) = some (.ret (.int .i64 0), [(false, (x != x)), (false, (y != y)), (false, (decide (x < y))), (false, (decide (x > y)))]) := by kernel_rfl
theorem cmpI_ok (x : Int) (y : Int)  (h : Heap) (n : Nat) : CallOk Try.prog 80 [.int .i64 x, .int .i64 y] h n (.ret (.int .i64 (cmpI x y))) h n := by
  rcases Bool.eq_false_or_eq_true (x != x) with h0 | h0
  ·
    rcases Bool.eq_false_or_eq_true (y != y) with h1 | h1
    ·
      have e : cmpI x y = 0 := by simp only [cmpI, h0, h1, cond]
      rw [e]
      exact way cmpICf (cmpI_w0 x y) (conds_cons h0.symm (conds_cons h1.symm conds_nil)) rfl rfl h n
    ·
      have e : cmpI x y = (-1) := by simp only [cmpI, h0, h1, cond]
      rw [e]
      exact way cmpICf (cmpI_w1 x y) (conds_cons h0.symm (conds_cons h1.symm conds_nil)) rfl rfl h n
  ·
    rcases Bool.eq_false_or_eq_true (y != y) with h1 | h1
    ·
      have e : cmpI x y = 1 := by simp only [cmpI, h0, h1, cond]
      rw [e]
      exact way cmpICf (cmpI_w2 x y) (conds_cons h0.symm (conds_cons h1.symm conds_nil)) rfl rfl h n
    ·
      rcases Bool.eq_false_or_eq_true (decide (x < y)) with h2 | h2
      ·
        have e : cmpI x y = (-1) := by simp only [cmpI, h0, h1, h2, cond]
        rw [e]
        exact way cmpICf (cmpI_w3 x y) (conds_cons h0.symm (conds_cons h1.symm (conds_cons h2.symm conds_nil))) rfl rfl h n
      ·
        rcases Bool.eq_false_or_eq_true (decide (x > y)) with h3 | h3
        ·
          have e : cmpI x y = 1 := by simp only [cmpI, h0, h1, h2, h3, cond]
          rw [e]
          exact way cmpICf (cmpI_w4 x y) (conds_cons h0.symm (conds_cons h1.symm (conds_cons h2.symm (conds_cons h3.symm conds_nil)))) rfl rfl h n
        ·
          have e : cmpI x y = 0 := by simp only [cmpI, h0, h1, h2, h3, cond]
          rw [e]
          exact way cmpICf (cmpI_w5 x y) (conds_cons h0.symm (conds_cons h1.symm (conds_cons h2.symm (conds_cons h3.symm conds_nil)))) rfl rfl h n
def concmpI : Con := (80, fun l => match l with
  | [.int .i64 s0, .int .i64 s1] => some (.int .i64 (cmpI s0 s1))
  | _ => none)
theorem concmpI_ok : ConOk Try.prog concmpI := by
  intro l v e h n
  simp only [concmpI] at e
  split at e
  · skip
    cases e
    exact cmpI_ok _ _ h n
  · cases e
def notMay (a : Win) : Bool :=
  bif (decide (Win.bed a ≥ (1 : Int))) then (bif (decide (Win.bed a ≤ (99 : Int))) then (bif (decide (Win.lo a ≥ (0 : Int))) then (bif (decide (Win.lo a < Win.hi a)) then ((!decide (Win.hi a ≤ (1000000000 : Int))))
        else true)
      else true)
    else true)
  else true
theorem notMayCf : CfOk Try.prog (runG Try.prog (conΔ []) 60 12) := runG_ok noNum mixed (conΔ_ok (fun c hc => by cases hc)) _
theorem notMay_w0 (a : Win) : resOf (runG Try.prog (conΔ []) 60 12 74 [.agg (Win.cells a)] [] 0 [.go 0 true, .go 0 true, .go 0 true, .go 0 true]) = some (.ret (.bool (!decide (Win.hi a ≤ (1000000000 : Int)))), [(true, (decide (Win.bed a ≥ (1 : Int)))), (true, (decide (Win.bed a ≤ (99 : Int)))), (true, (decide (Win.lo a ≥ (0 : Int)))), (true, (decide (Win.lo a < Win.hi a)))]) := by kernel_rfl
theorem notMay_w1 (a : Win) : resOf (runG Try.prog (conΔ []) 60 12 74 [.agg (Win.cells a)] [] 0 [.go 0 true, .go 0 true, .go 0 true, .go 0 false]) = some (.ret (.bool true), [(true, (decide (Win.bed a ≥ (1 : Int)))), (true, (decide (Win.bed a ≤ (99 : Int)))), (true, (decide (Win.lo a ≥ (0 : Int)))), (false, (decide (Win.lo a < Win.hi a)))]) := by kernel_rfl
theorem notMay_w2 (a : Win) : resOf (runG Try.prog (conΔ []) 60 12 74 [.agg (Win.cells a)] [] 0 [.go 0 true, .go 0 true, .go 0 false]) = some (.ret (.bool true), [(true, (decide (Win.bed a ≥ (1 : Int)))), (true, (decide (Win.bed a ≤ (99 : Int)))), (false, (decide (Win.lo a ≥ (0 : Int))))]) := by kernel_rfl
theorem notMay_w3 (a : Win) : resOf (runG Try.prog (conΔ []) 60 12 74 [.agg (Win.cells a)] [] 0 [.go 0 true, .go 0 false]) = some (.ret (.bool true), [(true, (decide (Win.bed a ≥ (1 : Int)))), (false, (decide (Win.bed a ≤ (99 : Int))))]) := by kernel_rfl
theorem notMay_w4 (a : Win) : resOf (runG Try.prog (conΔ []) 60 12 74 [.agg (Win.cells a)] [] 0 [.go 0 false]) = some (.ret (.bool true), [(false, (decide (Win.bed a ≥ (1 : Int))))]) := by kernel_rfl
theorem notMay_ok (a : Win)  (h : Heap) (n : Nat) : CallOk Try.prog 74 [.agg (Win.cells a)] h n (.ret (.bool (notMay a))) h n := by
  rcases Bool.eq_false_or_eq_true (decide (Win.bed a ≥ (1 : Int))) with h0 | h0
  ·
    rcases Bool.eq_false_or_eq_true (decide (Win.bed a ≤ (99 : Int))) with h1 | h1
    ·
      rcases Bool.eq_false_or_eq_true (decide (Win.lo a ≥ (0 : Int))) with h2 | h2
      ·
        rcases Bool.eq_false_or_eq_true (decide (Win.lo a < Win.hi a)) with h3 | h3
        ·
          have e : notMay a = (!decide (Win.hi a ≤ (1000000000 : Int))) := by simp only [notMay, h0, h1, h2, h3, cond]
          rw [e]
          exact way notMayCf (notMay_w0 a) (conds_cons h0.symm (conds_cons h1.symm (conds_cons h2.symm (conds_cons h3.symm conds_nil)))) rfl rfl h n
        ·
          have e : notMay a = true := by simp only [notMay, h0, h1, h2, h3, cond]
          rw [e]
          exact way notMayCf (notMay_w1 a) (conds_cons h0.symm (conds_cons h1.symm (conds_cons h2.symm (conds_cons h3.symm conds_nil)))) rfl rfl h n
      ·
        have e : notMay a = true := by simp only [notMay, h0, h1, h2, cond]
        rw [e]
        exact way notMayCf (notMay_w2 a) (conds_cons h0.symm (conds_cons h1.symm (conds_cons h2.symm conds_nil))) rfl rfl h n
    ·
      have e : notMay a = true := by simp only [notMay, h0, h1, cond]
      rw [e]
      exact way notMayCf (notMay_w3 a) (conds_cons h0.symm (conds_cons h1.symm conds_nil)) rfl rfl h n
  ·
    have e : notMay a = true := by simp only [notMay, h0, cond]
    rw [e]
    exact way notMayCf (notMay_w4 a) (conds_cons h0.symm conds_nil) rfl rfl h n
def connotMay : Con := (74, fun l => match l with
  | [x0] => (match Win.of x0 with | some s0 => some (.bool (notMay s0)) | none => none)
  | _ => none)
theorem connotMay_ok : ConOk Try.prog connotMay := by
  intro l v e h n
  simp only [connotMay] at e
  split at e
  · skip
    split at e
    · rename_i s0 es0
      cases e
      cases Win.of_eq es0
      exact notMay_ok _ h n
    · cases e
  · cases e
def hasB (a : Win) (b : Int) (t : Int) : Bool :=
  bif (Win.bed a == b) then (bif (decide (Win.lo a ≤ t)) then ((decide (t < Win.hi a)))
    else false)
  else false
theorem hasBCf : CfOk Try.prog (runG Try.prog (conΔ []) 60 12) := runG_ok noNum mixed (conΔ_ok (fun c hc => by cases hc)) _
theorem hasB_w0 (a : Win) (b : Int) (t : Int) : resOf (runG Try.prog (conΔ []) 60 12 85 [.agg (Win.cells a), .int .i64 b, .int .i64 t] [] 0 [.go 0 true, .go 0 true]) = some (.ret (.bool (decide (t < Win.hi a))), [(true, (Win.bed a == b)), (true, (decide (Win.lo a ≤ t)))]) := by kernel_rfl
theorem hasB_w1 (a : Win) (b : Int) (t : Int) : resOf (runG Try.prog (conΔ []) 60 12 85 [.agg (Win.cells a), .int .i64 b, .int .i64 t] [] 0 [.go 0 true, .go 0 false]) = some (.ret (.bool false), [(true, (Win.bed a == b)), (false, (decide (Win.lo a ≤ t)))]) := by kernel_rfl
theorem hasB_w2 (a : Win) (b : Int) (t : Int) : resOf (runG Try.prog (conΔ []) 60 12 85 [.agg (Win.cells a), .int .i64 b, .int .i64 t] [] 0 [.go 0 false]) = some (.ret (.bool false), [(false, (Win.bed a == b))]) := by kernel_rfl
theorem hasB_ok (a : Win) (b : Int) (t : Int)  (h : Heap) (n : Nat) : CallOk Try.prog 85 [.agg (Win.cells a), .int .i64 b, .int .i64 t] h n (.ret (.bool (hasB a b t))) h n := by
  rcases Bool.eq_false_or_eq_true (Win.bed a == b) with h0 | h0
  ·
    rcases Bool.eq_false_or_eq_true (decide (Win.lo a ≤ t)) with h1 | h1
    ·
      have e : hasB a b t = (decide (t < Win.hi a)) := by simp only [hasB, h0, h1, cond]
      rw [e]
      exact way hasBCf (hasB_w0 a b t) (conds_cons h0.symm (conds_cons h1.symm conds_nil)) rfl rfl h n
    ·
      have e : hasB a b t = false := by simp only [hasB, h0, h1, cond]
      rw [e]
      exact way hasBCf (hasB_w1 a b t) (conds_cons h0.symm (conds_cons h1.symm conds_nil)) rfl rfl h n
  ·
    have e : hasB a b t = false := by simp only [hasB, h0, cond]
    rw [e]
    exact way hasBCf (hasB_w2 a b t) (conds_cons h0.symm conds_nil) rfl rfl h n
def conhasB : Con := (85, fun l => match l with
  | [x0, .int .i64 s1, .int .i64 s2] => (match Win.of x0 with | some s0 => some (.bool (hasB s0 s1 s2)) | none => none)
  | _ => none)
theorem conhasB_ok : ConOk Try.prog conhasB := by
  intro l v e h n
  simp only [conhasB] at e
  split at e
  · skip
    split at e
    · rename_i s0 es0
      cases e
      cases Win.of_eq es0
      exact hasB_ok _ _ _ h n
    · cases e
  · cases e
end Go.Proofs.Ytaooefnmdlajcaa

set_option linter.unusedVariables false
set_option linter.unusedSimpArgs false
namespace Go.Proofs.Ytaooefnmdlajcaa
open Go.Eng Go.Proofs
variable [Dr]
def cmpW (a : Win) (b : Win) : Int :=
  bif (cmpI (Win.bed a) (Win.bed b) != (0 : Int)) then ((cmpI (Win.bed a) (Win.bed b)))
  else (bif (cmpI (Win.lo a) (Win.lo b) != (0 : Int)) then ((cmpI (Win.lo a) (Win.lo b)))
    else 0)
theorem cmpWCf : CfOk Try.prog (runG Try.prog (conΔ [concmpI]) 60 12) := runG_ok noNum mixed (conΔ_ok (List.forall_mem_cons.2 ⟨concmpI_ok, List.forall_mem_nil _⟩)) _
theorem cmpW_w0 (a : Win) (b : Win) : resOf (runG Try.prog (conΔ [concmpI]) 60 12 78 [.agg (Win.cells a), .agg (Win.cells b)] [] 0 [.go 1 true]) = some (.ret (.int .i64 (cmpI (Win.bed a) (Win.bed b))), [(true, true), (true, true), (true, (cmpI (Win.bed a) (Win.bed b) != (0 : Int)))]) := by kernel_rfl
theorem cmpW_w1 (a : Win) (b : Win) : resOf (runG Try.prog (conΔ [concmpI]) 60 12 78 [.agg (Win.cells a), .agg (Win.cells b)] [] 0 [.go 1 false, .go 1 true]) = some (.ret (.int .i64 (cmpI (Win.lo a) (Win.lo b))), [(true, true), (true, true), (false, (cmpI (Win.bed a) (Win.bed b) != (0 : Int))), (true, true), (true, true), (true, (cmpI (Win.lo a) (Win.lo b) != (0 : Int)))]) := by kernel_rfl
theorem cmpW_w2 (a : Win) (b : Win) : resOf (runG Try.prog (conΔ [concmpI]) 60 12 78 [.agg (Win.cells a), .agg (Win.cells b)] [] 0 [.go 1 false, .go 1 false]) = some (.ret (.int .i64 0), [(true, true), (true, true), (false, (cmpI (Win.bed a) (Win.bed b) != (0 : Int))), (true, true), (true, true), (false, (cmpI (Win.lo a) (Win.lo b) != (0 : Int)))]) := by kernel_rfl
theorem cmpW_ok (a : Win) (b : Win)  (h : Heap) (n : Nat) : CallOk Try.prog 78 [.agg (Win.cells a), .agg (Win.cells b)] h n (.ret (.int .i64 (cmpW a b))) h n := by
  rcases Bool.eq_false_or_eq_true (cmpI (Win.bed a) (Win.bed b) != (0 : Int)) with h0 | h0
  ·
    have e : cmpW a b = (cmpI (Win.bed a) (Win.bed b)) := by simp only [cmpW, h0, cond]
    rw [e]
    exact way cmpWCf (cmpW_w0 a b) (conds_cons rfl (conds_cons rfl (conds_cons h0.symm conds_nil))) rfl rfl h n
  ·
    rcases Bool.eq_false_or_eq_true (cmpI (Win.lo a) (Win.lo b) != (0 : Int)) with h1 | h1
    ·
      have e : cmpW a b = (cmpI (Win.lo a) (Win.lo b)) := by simp only [cmpW, h0, h1, cond]
      rw [e]
      exact way cmpWCf (cmpW_w1 a b) (conds_cons rfl (conds_cons rfl (conds_cons h0.symm (conds_cons rfl (conds_cons rfl (conds_cons h1.symm conds_nil)))))) rfl rfl h n
    ·
      have e : cmpW a b = 0 := by simp only [cmpW, h0, h1, cond]
      rw [e]
      exact way cmpWCf (cmpW_w2 a b) (conds_cons rfl (conds_cons rfl (conds_cons h0.symm (conds_cons rfl (conds_cons rfl (conds_cons h1.symm conds_nil)))))) rfl rfl h n
end Go.Proofs.Ytaooefnmdlajcaa

set_option linter.unusedVariables false
namespace Go.Proofs.Ytaooefnmdlajcaa
open Go.RowKit Go.Shelf Go.Proofs Go.Sort Go.Lib
theorem encA_rel (ρ : Nat → Option Go.Eng.Loc) (RO : Nat → Prop) (w : World) (x : Win) : Go.Eng.VRel ρ RO w (.agg x.cells) (.agg (encA x).toArray) := by
  refine .agg rfl (one_encA x) ?_
  have : Go.Eng.VRels ρ RO w x.cells (encA x) := @Go.Eng.VRels.cons ⟨True⟩ _ _ _ _ _ _ _ (.int _ _) (@Go.Eng.VRels.cons ⟨True⟩ _ _ _ _ _ _ _ (.int _ _) (@Go.Eng.VRels.cons ⟨True⟩ _ _ _ _ _ _ _ (.int _ _) (@Go.Eng.VRels.nil ⟨True⟩ _ _ _)))
  exact this.2
theorem cmpLays (blk off size : Nat) (w : World) : CmpLays Try.prog 78 #[] encA 3 cmpW blk off size w := by
  intro m os dk hs x y
  letI d : Go.Eng.Dr := ⟨True⟩
  have hc := Go.Eng.CallOk.calls_int (kd := .i64) (z := cmpW x y) (fun h n => cmpW_ok x y h n) (vs := [.agg (encA x).toArray, .agg (encA y).toArray]) (w := sortWorldK encA 3 w blk off m dk os) (RO := fun _ => False) (fun b h => h.elim) (.cons (encA_rel _ _ _ x) (.cons (encA_rel _ _ _ y) .nil))
  exact hc.mono fun e w' ⟨he, f⟩ => ⟨he, Go.Eng.frame_grow trivial f⟩
theorem ltA (x y : Win) : ltOf cmpW x y = decide (cmpW x y < 0) := rfl
theorem cmpI_eq (x y : Int) : cmpI x y = if x < y then -1 else if x > y then 1 else 0 := by
  unfold cmpI
  simp only [bne_self_eq_false, cond_false, Bool.cond_eq_ite, decide_eq_true_eq, Bool.false_eq_true, if_false]
theorem cmpW_eq (a b : Win) : cmpW a b = if a.bed < b.bed then -1 else if a.bed > b.bed then 1 else if a.lo < b.lo then -1 else if a.lo > b.lo then 1 else 0 := by
  unfold cmpW
  simp only [cmpI_eq, Bool.cond_eq_ite, bne_iff_ne, ne_eq]
  repeat' split
  all_goals first | rfl | omega
theorem cmpW_le (a b : Win) : cmpW a b ≤ 0 ↔ LeK a b := by
  rw [cmpW_eq]; unfold LeK
  repeat' split
  all_goals omega
theorem cmpW_swap (a b : Win) : cmpW a b = - cmpW b a := by
  rw [cmpW_eq, cmpW_eq]
  repeat' split
  all_goals omega
theorem swoA : SWO (ltOf cmpW) where
  irrefl x := by rw [ltA]; simp [cmpW_eq]
  trans x y z h1 h2 := by
    rw [ltA, cmpW_eq] at *; simp only [decide_eq_true_eq] at *
    repeat' split at h1
    all_goals repeat' split at h2
    all_goals repeat' split
    all_goals omega
  ntrans x y z h1 h2 := by
    rw [ltA, cmpW_eq] at *; simp only [decide_eq_false_iff_not] at *
    repeat' split at h1
    all_goals repeat' split at h2
    all_goals repeat' split
    all_goals omega
theorem encA_length (x : Win) : (encA x).length = 3 := rfl
theorem flat_length (l : List Win) : (l.flatMap encA).length = l.length * 3 := by
  induction l with
  | nil => rfl
  | cons x l ih => rw [List.flatMap_cons, List.length_append, encA_length, ih, List.length_cons]; omega
theorem flat_get (l : List Win) : ∀ t, t < l.length * 3 → (l.flatMap encA)[t]? = some ((encA (l.getD (t / 3) default)).getD (t % 3) (.bool false)) := by
  induction l with
  | nil => intro t h; simp at h
  | cons x l ih =>
    intro t h
    rw [List.flatMap_cons]
    by_cases q : t < 3
    · rw [List.getElem?_append_left (by rw [encA_length]; exact q), show t / 3 = 0 by omega, show t % 3 = t by omega]
      rw [List.getElem?_eq_getElem (by rw [encA_length]; exact q)]
      have h6 : t < (encA x).length := q
      simp [List.getD, h6]
    · rw [List.getElem?_append_right (by rw [encA_length]; omega), encA_length, ih (t - 3) (by simp at h; omega), show (t - 3) % 3 = t % 3 by omega, show t / 3 = (t - 3) / 3 + 1 by omega]
      simp
theorem flatK_get (d : Array Win) (t : Nat) (ht : t < d.size * 3) : (flatK encA 3 d)[t]! = (encA (d.toList.getD (t / 3) default)).getD (t % 3) (.bool false) := by
  rw [get_flatK encA 3 d t ht]
  have hl : t / 3 < d.size := by omega
  have h6 : t % 3 < (encA d[t / 3]).length := Nat.mod_lt _ (by omega)
  have e1 : d[t / 3]! = d[t / 3] := getElem!_pos d (t / 3) hl
  have e2 : d.toList.getD (t / 3) default = d[t / 3] := by simp [List.getD, hl]
  rw [e1, e2, getElem!_pos (encA d[t / 3]) (t % 3) h6]
  simp [List.getD, h6]
theorem put_take {d : Array Win} {cur : Array Value} (h : d.size * 3 ≤ cur.size) : (putCells id 0 (flatK encA 3 d) cur).toList.take (d.size * 3) = d.toList.flatMap encA := by
  apply List.ext_getElem?
  intro t
  by_cases q : t < d.size * 3
  · rw [List.getElem?_take_of_lt q, flat_get d.toList t (by simpa using q), ← flatK_get d t q]
    have hq : t < cur.size := by omega
    have hs : t < (flatK encA 3 d).size := by rw [size_flatK]; exact q
    simp [putCells, hq, hs]
    intro h'; omega
  · rw [List.getElem?_eq_none (by simp; omega), List.getElem?_eq_none (by rw [flat_length]; simp; omega)]
theorem holds_of_owns {w : World} {blk : Nat} {cur : Array Value} {l : List Win} (hb : w.heap[blk]? = some (.cells cur 32 (0, 0))) (ht : cur.toList.take (l.length * 3) = l.flatMap encA) (hs : l.length * 3 ≤ cur.size) : HoldsK encA 3 w blk 0 l.toArray := by
  intro t ht'
  have ht2 : t < l.length * 3 := by simpa using ht'
  refine ⟨?_, by simp [World.frozen?, hb]⟩
  have h1 : cur[t]? = some ((encA (l.getD (t / 3) default)).getD (t % 3) (.bool false)) := by
    rw [← flat_get l t ht2, ← ht, List.getElem?_take_of_lt ht2]
    simp
  have h2 := flatK_get l.toArray t (by simpa using ht2)
  simp only [World.cell?, hb, id]
  rw [h2, Nat.zero_add]
  exact h1
end Go.Proofs.Ytaooefnmdlajcaa

set_option linter.unusedVariables false
namespace Go.Proofs.Ytaooefnmdlajcaa
open Go.RowKit Go.Shelf Go.Proofs Go.Sort Go.Lib
attribute [local go_sem] Oper.semAt_some
def Ranked (l : List Win) : Prop := l.Pairwise fun x y => cmpW x y ≤ 0
theorem sortW_heap {w : World} {blk n : Nat} {d' : Array Win} {os : Array Obj} {cur : Array Value} (hb : w.heap[blk]? = some (.cells cur 32 (0, 0))) :
    (sortWorldK encA 3 w blk 0 n d' os).heap[blk]? = some (.cells (putCells id 0 (flatK encA 3 d') cur) 32 (0, 0)) ∧ Below blk w (sortWorldK encA 3 w blk 0 n d' os) := by
  have hlt : blk < w.heap.size := (Array.getElem?_eq_some_iff.1 hb).1
  constructor
  · simp only [sortWorldK, grow, putRowK, putRow, mapBlock, Sort.ahead]
    rw [Array.getElem?_append_left (by simpa using hlt), Array.getElem?_modify, if_pos rfl, hb]
    rfl
  · refine ⟨rfl, rfl, rfl, ?_, fun k hk => ?_⟩
    · simp [sortWorldK, grow, putRowK, putRow, mapBlock, Sort.ahead]
    · simp only [sortWorldK, grow, putRowK, putRow, mapBlock, Sort.ahead]
      rw [Array.getElem?_append_left (by simp; omega), Array.getElem?_modify, if_neg (by omega)]
theorem sortFunc_calls (base : Nat) (v : Value) (l : List Win) (hl : l.length ≤ 1000000) (w : World) (hbase : base ≤ w.heap.size) (ho : w.ownsRow base 32 3 v l.length (l.flatMap encA)) :
    Calls Try.prog 112 #[v, .func (.func 78) #[] #[]] w fun e w' => e = .returned (.tuple #[]) ∧ ∃ l', l'.Perm l ∧ Ranked l' ∧ w'.ownsRow base 32 3 v l'.length (l'.flatMap encA) ∧ Below base w w' := by
  rcases ho.2 with ⟨rfl, h0⟩ | ⟨g, cap, cur, rfl, hg, hgb, h1, h2, h3, h4⟩
  · have hn : l = [] := List.length_eq_zero_iff.1 h0
    subst hn
    have := AnyF.slices_SortFunc_none sortA none 0 (.func (.func 78) #[] #[]) w
    exact this.mono fun e w' ⟨he, hw⟩ => ⟨he, [], .refl _, .nil, hw ▸ ho, hw ▸ Below.refl _ _⟩
  · have hH := holds_of_owns hgb h4 (by rw [h3]; exact Nat.mul_le_mul_right _ h1)
    have eg : ∀ args w, (callFunc 78 args).run Try.prog w = .ok (.enter 78 args) w := enters_of Try.func78 (by kernel_rfl) rfl
    have hcon := AnyQ.slices_SortFunc sortA 3 Try.isAgg32 Try.sizeOf32 encA (fun _ => rfl) one_encA cmpW swoA 78 #[] g 0 cap l.toArray w eg (cmpLays g 0 _ w) hH (Array.getElem?_eq_some_iff.1 hgb).1 (by simp; omega)
    have hs0 : l.toArray.size = l.length := by simp
    rw [hs0] at hcon
    change Calls Try.prog 112 _ _ _ at hcon
    refine hcon.mono ?_
    rintro e w' ⟨rfl, d', n, os, hp, hs, rfl⟩
    obtain ⟨q1, q2⟩ := sortW_heap (n := n) (d' := d') (os := os) hgb
    have hsz : d'.size = l.length := by have := hp.1; simpa using this
    have hperm : d'.toList.Perm l := by
      have := hp.2.2
      rw [show d'.extract 0 l.length = d' by rw [← hsz]; simp] at this
      simpa using this
    have hlen : d'.toList.length = l.length := by simpa using hsz
    refine ⟨rfl, d'.toList, hperm, ?_, ⟨?_, .inr ⟨g, cap, _, by rw [hlen], hg, q1, by omega, h2, ?_, ?_⟩⟩, ?_⟩
    · refine List.pairwise_iff_getElem.2 fun i j hi hj hij => ?_
      have hj' : j < d'.size := by simpa using hj
      have hi' : i < d'.size := by simpa using hi
      have := hs i j (Nat.zero_le _) hij (by omega)
      rw [ltA, getElem!_pos d' i hi', getElem!_pos d' j hj'] at this
      have h5 := of_decide_eq_false this
      have h6 := cmpW_swap d'[i] d'[j]
      simp only [Array.getElem_toList]
      omega
    · exact flat_length _
    · simp [putCells, h3]
    · rw [hlen, ← hsz]; exact put_take (by rw [hsz, h3]; exact Nat.mul_le_mul_right _ h1)
    · exact ⟨q2.os, q2.tape, q2.output, q2.size, fun k hk => q2.block k (by omega)⟩
end Go.Proofs.Ytaooefnmdlajcaa

set_option linter.unusedVariables false
namespace Go.Proofs.Ytaooefnmdlajcaa
open Go.RowKit Go.Shelf Go.Proofs Go.Sort Go.Lib
attribute [local go_sem] Oper.semAt_some
theorem entersIt : ∀ args w, (callFunc 113 args).run Try.prog w = .ok (.enter 113 args) w := enters_of Try.func113 (by kernel_rfl) rfl
def SortsIn (F : Fence) (n : Nat) : Prop := ∀ (base : Nat) (v : Value) (l : List Win), l.length ≤ 1000000 → ∀ (w : World), base ≤ w.heap.size → w.ownsRow base 32 3 v l.length (l.flatMap encA) →
  CallsIn F n Try.prog 112 #[v, .func (.func 78) #[] #[]] w fun e w' => e = .returned (.tuple #[]) ∧ ∃ l', l'.Perm l ∧ Ranked l' ∧ w'.ownsRow base 32 3 v l'.length (l'.flatMap encA) ∧ Below base w w'
set_option maxRecDepth 100000 in
set_option maxHeartbeats 2000000 in
theorem sortedFunc_in (F : Fence) (g22 : F.fn 76) (g30 : F.fn 111) (g31 : F.fn 112) (g32 : F.fn 113) (g38 : F.fn 124) (gr : F.round = none) (HS : SortsIn F (10 - 1)) (Bs : Nat) (sv : Value) (zs : List Win) (hN : zs.length ≤ 1000000) (w : World) (n₀ : Nat) (hn₀ : n₀ ≤ w.heap.size) (hBs : Bs < w.heap.size) (hc : w.cell? ⟨Bs, 0, none⟩ = some sv) (hI : HoldsA n₀ w sv zs) :
    CallsIn F 10 Try.prog 76 #[.func (.func 113) #[] #[.pointer (some ⟨Bs, 0, none⟩)], .func (.func 78) #[] #[]] w fun e w' =>
      ∃ (v : Value) (l : List Win), e = .returned v ∧ l.Perm zs ∧ Ranked l ∧ w'.ownsRow w.heap.size 32 3 v l.length (l.flatMap encA) ∧ Below w.heap.size w w' := by
  have hseq := values_stops F (10 - 1 - 1 - 1) g32 gr (by omega) Bs n₀ sv zs (by omega) w hBs hn₀ hc hI
  refine callsIn_of_wp Try.func76 rfl g22 ?_ gr
  simp only [Try.ntmps76, List.size_toArray, List.length_cons, List.length_nil, Nat.reduceAdd, Nat.reduceSub, Array.replicate_succ, Array.replicate_zero, List.push_toArray, List.append_toArray, List.nil_append, List.cons_append]
  gi_wp2_with (first
    | (gi_at_call 111
       refine (collect_in F (10 - 1) g30 g38 gr (by omega) 113 _ g32 entersIt zs hN _ n₀ hn₀ hseq).mono ?_
       rintro e w1 ⟨v, rfl, hrow, hb⟩)
    | (gi_at_call 112
       refine (HS w.heap.size v zs hN w1 hb.size hrow).mono ?_
       rintro e w2 ⟨rfl, l, hp, hr, hrow2, hb2⟩))
  go_ret
  exact ⟨v, l, rfl, hp, hr, hrow2, hb.trans hb2⟩
theorem values_calls (a : Option Addr) (len cap : Nat) (w : World) :
    Calls Try.prog 77 #[.slice a len cap] w fun e w' => e = .returned (.func (.func 113) #[] #[.pointer (some ⟨w.heap.size, 0, none⟩)]) ∧ w' = w.alloc (.cells #[.slice a len cap] 22) :=
  callsIn_wide.1 (values_in Fence.wide 10 trivial rfl a len cap w)
theorem sorted_calls (Bs : Nat) (sv : Value) (zs : List Win) (hN : zs.length ≤ 1000000) (w : World) (n₀ : Nat) (hn₀ : n₀ ≤ w.heap.size) (hBs : Bs < w.heap.size) (hc : w.cell? ⟨Bs, 0, none⟩ = some sv) (hI : HoldsA n₀ w sv zs) :
    Calls Try.prog 76 #[.func (.func 113) #[] #[.pointer (some ⟨Bs, 0, none⟩)], .func (.func 78) #[] #[]] w fun e w' =>
      ∃ (v : Value) (l : List Win), e = .returned v ∧ l.Perm zs ∧ Ranked l ∧ w'.ownsRow w.heap.size 32 3 v l.length (l.flatMap encA) ∧ Below w.heap.size w w' :=
  callsIn_wide.1 (sortedFunc_in Fence.wide trivial trivial trivial trivial trivial rfl (fun base v l hl w hb ho => callsIn_wide.2 (sortFunc_calls base v l hl w hb ho)) Bs sv zs hN w n₀ hn₀ hBs hc hI)
end Go.Proofs.Ytaooefnmdlajcaa

set_option linter.unusedVariables false
set_option linter.unusedSectionVars false
namespace Go.Eng
variable [Dr]
open Go.RowKit
variable {P : Program} {N : Nat}
end Go.Eng

set_option linter.unusedVariables false
set_option linter.unusedSectionVars false
namespace Go.Eng
variable [Dr]
open Go.RowKit
variable {P : Program} {N : Nat}
def wpL (P : Program) : List Code → (Exit → Act → World → Prop) → Act → World → Prop
  | [], Q, a, w => Q .normal a w
  | c :: r, Q, a, w => c.wp P (Exit.then (wpL P r Q) Q) a w
theorem then_mono {K K' : Act → World → Prop} {Q Q' : Exit → Act → World → Prop} (hk : ∀ a w, K a w → K' a w) (hq : ∀ x a w, Q x a w → Q' x a w) : ∀ x a w, Exit.then K Q x a w → Exit.then K' Q' x a w := by
  intro x a w h
  cases x <;> first | exact hk _ _ h | exact hq _ _ _ h
def WLOk (P : Program) (N : Nat) (l : List Code) (env : Env) (h : Heap) (n : Nat) (x : AExit) (env' : Env) (h' : Heap) (n' : Nat) : Prop :=
  ∀ (w0 : World) (F : Nat → Prop) (ρ : Nat → Option Loc) (RO : Nat → Prop) (a : Act) (w : World), HRel w0 F h n ρ RO w → ARel N ρ RO w env a → wpL P l (PostW w0 F N RO w x env' h' n') a w
theorem wpL_mono {Q Q' : Exit → Act → World → Prop} (hq : ∀ x a w, Q x a w → Q' x a w) : ∀ {l : List Code} {a : Act} {w : World}, wpL P l Q a w → wpL P l Q' a w
  | [], a, w, h => hq _ _ _ h
  | c :: r, a, w, h => by
    have h : c.wp P (Exit.then (wpL P r Q) Q) a w := h
    exact wp_mono h (then_mono (fun _ _ => wpL_mono hq) hq)
theorem WLOk.append {l1 l2 : List Code} {env env1 env' : Env} {h h1 h' : Heap} {n n1 n' : Nat} {x : AExit} (o1 : WLOk P N l1 env h n .normal env1 h1 n1) (o2 : WLOk P N l2 env1 h1 n1 x env' h' n') : WLOk P N (l1 ++ l2) env h n x env' h' n' := by
  intro w0 F ρ RO a w H A
  have key : ∀ (l : List Code) (a : Act) (w1 : World), wpL P l (PostW w0 F N RO w .normal env1 h1 n1) a w1 → wpL P (l ++ l2) (PostW w0 F N RO w x env' h' n') a w1 := by
    intro l
    induction l with
    | nil =>
      intro a w1 q
      obtain ⟨ρ', RO', p1, p2, p3, p4⟩ := q
      exact wpL_mono (fun x a' w' q => q.trans p1) (o2 w0 F ρ' RO' a w1 p2 p4)
    | cons c r ih =>
      intro a w1 q
      have q : c.wp P (Exit.then (wpL P r (PostW w0 F N RO w .normal env1 h1 n1)) (PostW w0 F N RO w .normal env1 h1 n1)) a w1 := q
      refine wp_mono q fun e a' w' q => ?_
      cases e with
      | normal => exact ih _ _ q
      | _ =>
        obtain ⟨ρ', RO', p1, p2, p3, p4⟩ := q
        cases p3
  exact key l1 a w (o1 w0 F ρ RO a w H A)
theorem WLOk.stop {l1 l2 : List Code} {env env' : Env} {h h' : Heap} {n n' : Nat} {x : AExit} (o1 : WLOk P N l1 env h n x env' h' n') (hx : x ≠ .normal) : WLOk P N (l1 ++ l2) env h n x env' h' n' := by
  intro w0 F ρ RO a w H A
  have key : ∀ (l : List Code) (a : Act) (w1 : World), wpL P l (PostW w0 F N RO w x env' h' n') a w1 → wpL P (l ++ l2) (PostW w0 F N RO w x env' h' n') a w1 := by
    intro l
    induction l with
    | nil =>
      intro a w1 q
      obtain ⟨ρ', RO', p1, p2, p3, p4⟩ := q
      exact absurd (xrel_normal p3) hx
    | cons c r ih =>
      intro a w1 q
      have q : c.wp P (Exit.then (wpL P r (PostW w0 F N RO w x env' h' n')) (PostW w0 F N RO w x env' h' n')) a w1 := q
      refine wp_mono q fun e a' w' q => ?_
      cases e with
      | normal => exact ih _ _ q
      | _ => exact q
  exact key l1 a w (o1 w0 F ρ RO a w H A)
theorem WLOk.pre {l : List Code} {env env2 env' : Env} {h h2 h' : Heap} {n n2 n' : Nat} {x : AExit} (s : Sees N env h n env2 h2 n2) (o : WLOk P N l env2 h2 n2 x env' h' n') : WLOk P N l env h n x env' h' n' := by
  intro w0 F ρ RO a w H A
  obtain ⟨ρ', H', A'⟩ := s w0 F ρ RO a w H A
  exact o w0 F ρ' RO a w H' A'
theorem WLOk.post {l : List Code} {env env' env2 : Env} {h h' h2 : Heap} {n n' n2 : Nat} {x : AExit} (o : WLOk P N l env h n x env' h' n') (hx : plainX x = true) (s : Sees N env' h' n' env2 h2 n2) : WLOk P N l env h n x env2 h2 n2 := by
  intro w0 F ρ RO a w H A
  refine wpL_mono (fun x' a' w' q => ?_) (o w0 F ρ RO a w H A)
  obtain ⟨ρ', RO', p1, p2, p3, p4⟩ := q
  obtain ⟨ρ2, H2, A2⟩ := s _ _ _ _ _ _ p2 p4
  exact ⟨ρ2, RO', p1, H2, p3.plain hx, A2⟩
end Go.Eng

set_option linter.unusedVariables false
set_option linter.unusedSectionVars false
namespace Go.Eng
variable [Dr]
open Go.RowKit
variable {P : Program} {N : Nat}
def resAt (P : Program) (k : FuncId) (env : Env) (h : Heap) (n : Nat) : Option AV := match P.funcs[k]? with
  | some fn => match resA P env h n fn.results.toList with | some l => some (oneOf l) | none => none
  | none => none
theorem call_of_w {k : FuncId} {args : List AV} {env' : Env} {h' : Heap} {n' : Nat} {v : AV} {x : AExit} (hfn : ∃ fn, P.funcs[k]? = some fn ∧ fn.body.isSome = true) (hle : Nat.ble args.length (tmpsAt P k) = true) (hx : x = .ret ∨ x = .normal)
    (o : WOk P (tmpsAt P k) (codeAt P k) (params args 0) [] 0 x env' h' n') (hres : resAt P k env' h' n' = some v) : CallOk P k args [] 0 (.ret v) h' n' := by
  obtain ⟨fn, hfn, hb⟩ := hfn
  obtain ⟨c, hbody⟩ := Option.isSome_iff_exists.1 hb
  obtain ⟨hc, ht⟩ := codeAt_eq hfn hbody
  rw [← hc, ← ht] at o
  rw [← ht] at hle
  let run : Run := fun env h n ds => match n with
    | 0 => @ite _ (env = params args 0 ∧ h = []) (Classical.propDecidable _) (some ⟨⟨x, env'⟩, h', n', ds, []⟩) none
    | _ + 1 => none
  have hrun : RunW P fn.ntmps c run := by
    intro env h n ds r e hc
    cases n with
    | zero =>
      simp only [run] at e
      split at e
      · rename_i hq
        obtain ⟨rfl, rfl⟩ := hq
        cases e
        exact o
      · cases e
    | succ n => cases e
  have e1 : run (params args 0) [] 0 [] = some ⟨⟨x, env'⟩, h', n', [], []⟩ := by
    simp [run]
  refine call_of_run (run := fun env h n ds => match n with | 0 => run env h 0 ds | _ + 1 => none) (ds := []) (r := ⟨.ret v, h', n', [], []⟩) hfn hbody hrun.start (Nat.le_of_ble_eq_true hle) ?_ (fun c hc => by cases hc)
  show endOf P fn (run (params args 0) [] 0 []) = _
  rw [e1]
  unfold resAt at hres
  rw [hfn] at hres
  simp only at hres
  split at hres
  · rename_i l hl
    cases hres
    rcases hx with rfl | rfl <;> simp only [endOf, hl]
  · cases hres
noncomputable def bodyRun (P : Program) (Λ : Lam) (fuel : Nat) (cf : CallF) (k : FuncId) (args : List AV) (ds : List Dec) : Option (Came AOut) := runC3 P Λ (tmpsAt P k) cf fuel (codeAt P k) (params args 0) [] 0 ds
theorem wayT {Λ : Lam} {cf : CallF} {fuel : Nat} {k : FuncId} {args : List AV} {ds : List Dec} {T : Ren} {ts : List Nat} {x : AExit} {env' : Env} {h' h2 : Heap} {n' : Nat} {v : AV} {c : Conds} (hP : NoNum P) (hm : P.follows .mixedOrders = true) (hcf : CfOk P cf)
    (hl : LamW P (tmpsAt P k) (codeAt P k) Λ) (hfn : ∃ fn, P.funcs[k]? = some fn ∧ fn.body.isSome = true) (e : cutR T ts (bodyRun P Λ fuel cf k args ds) = some (x, env', h', c)) (hle : Nat.ble args.length (tmpsAt P k) = true) (hx : x = .ret ∨ x = .normal)
    (ht : tOk T n' = true) (hf : FlatHeap h') (hc : ∀ x ∈ c, x.1 = x.2) (hr : HRef h' h2) (hres : resAt P k env' h2 n' = some v) : CallOk P k args [] 0 (.ret v) h2 n' := by
  have hpx : plainX x = true := by rcases hx with rfl | rfl <;> rfl
  exact call_of_w hfn hle hx ((pieceF (runC3_okW hP hm hcf _ hl) e hpx ht hf hc).sees hpx hr) hres
theorem lams_nil {body : Code} : LamW P N body (lams []) := lamsW (List.forall_mem_nil _)
theorem HRef.one {id : Nat} {o o' : AObj} {h : Heap} (r : ORef o o') : HRef ((id, some o) :: h) [(id, some o')] := HRef.cons (by rw [lookH_cons, if_pos rfl]) r .nil
theorem HRef.refl (h : Heap) : HRef h h := fun id o e => ⟨o, e, ORef.refl o⟩
end Go.Eng

set_option linter.unusedVariables false
set_option linter.unusedSectionVars false
namespace Go.Proofs.Ytaooefnmdlajcaa
open Go.Eng Go.Proofs
instance drN : Dr := ⟨False⟩
def winOf (f : Nat → AV) : Win := ⟨toI (f 0), toI (f 1), toI (f 2)⟩
def rdA (m : Nat) (el : Nat → Nat → AV) : List Win := (List.range m).map fun i => winOf (el i)
noncomputable def isA (m : Nat) (el : Nat → Nat → AV) : Bool := @decide (∀ i j, i < m → j < 3 → el i j = .int .i64 (toI (el i j))) (Classical.propDecidable _)
theorem isA_iff {m : Nat} {el : Nat → Nat → AV} : isA m el = true ↔ ∀ i j, i < m → j < 3 → el i j = .int .i64 (toI (el i j)) := @decide_eq_true_iff _ (Classical.propDecidable _)
abbrev elA (l : List Win) : Nat → Nat → AV := elK Win.cells l
abbrev winsA (l : List Win) : AV := .dsl 3 l.length (elA l)
theorem rdA_length (m : Nat) (el : Nat → Nat → AV) : (rdA m el).length = m := by simp [rdA]
theorem lt3 {j : Nat} (h : j < 3) : j = 0 ∨ j = 1 ∨ j = 2 := by omega
theorem cells_int (x : Win) {j : Nat} (h : j < 3) : x.cells.getD j .nilp = .int .i64 (toI (x.cells.getD j .nilp)) := by
  rcases lt3 h with rfl | rfl | rfl <;> rfl
theorem isA_elA (m : Nat) (l : List Win) : isA m (elA l) = true := isA_iff.2 fun i j hi hj => cells_int _ hj
theorem rdA_elA (l : List Win) : rdA l.length (elA l) = l := by
  apply List.ext_getElem
  · simp [rdA]
  · intro i h1 h2
    simp [rdA, winOf, toI, h2]
theorem getD_rdA {m : Nat} {el : Nat → Nat → AV} (h : isA m el = true) (i j : Nat) (hi : i < m) (hj : j < 3) : el i j = elA (rdA m el) i j := by
  rw [isA_iff.1 h i j hi hj]
  have e : (rdA m el).getD i default = winOf (el i) := by simp [rdA, hi]
  show _ = ((rdA m el).getD i default).cells.getD j .nilp
  rw [e]
  rcases lt3 hj with rfl | rfl | rfl <;> rfl
theorem flatA_row (m : Nat) (l : List Win) : FlatRow m 3 (elA l) := fun i j hi hj => by
  show Flat ((l.getD i default).cells.getD j .nilp)
  rw [cells_int _ hj]; exact .int _ _
theorem ASees.wins {m : Nat} {el : Nat → Nat → AV} {l l' : List AV} (hi : isA m el = true) (t : ASees l l') : ASees (.dsl 3 m el :: l) (winsA (rdA m el) :: l') := by
  refine .cons (fun ρ RO w v hv => ?_) t
  unfold winsA
  rw [rdA_length]
  exact hv.dslC fun i k hi' hk => getD_rdA hi i k hi' hk
theorem int_of {ρ : Nat → Option Eng.Loc} {RO : Nat → Prop} {w : World} {u : Value} {z : Int} (h : VRel ρ RO w (.int .i64 z) u) : u = .int .i64 z := by cases h; rfl
theorem holdsA_of {ρ : Nat → Option Eng.Loc} {RO : Nat → Prop} {w : World} {l : List Win} {v : Value} (hro : ∀ b, RO b → b < w.heap.size) (h : VRel ρ RO w (winsA l) v) : ∃ a c, v = .slice a l.length c ∧ HoldsA w.heap.size w v l := by
  cases h with
  | @dsl sz n c elem A hn vs hA h1 hf hv =>
    refine ⟨A, c, rfl, ?_⟩
    by_cases h0 : l.length = 0
    · have : l = [] := List.length_eq_zero_iff.1 h0
      subst this
      exact .inl ⟨⟨A, c, rfl⟩, rfl⟩
    · obtain ⟨blk, o, rfl, hr, hcell⟩ := hA h0
      refine .inr ⟨blk, o, c, rfl, hro blk hr, fun i hi j hj => ?_⟩
      rw [Nat.add_assoc, hcell i j hi hj]
      have hvj := hv i j hi hj
      have e : elA l i j = (l.getD i default).cells.getD j .nilp := rfl
      rw [e] at hvj
      congr 1
      rcases lt3 hj with rfl | rfl | rfl <;> exact int_of hvj
theorem wrap_sub {x : Int} (h : -9223372036854775808 ≤ x ∧ x ≤ 9223372036854775807) : IntKind.i64.wrap x = x := by
  simp [IntKind.wrap, IntKind.bits, IntKind.signed]; omega
theorem wrap_nat (i : Nat) (h : i ≤ 1000000000) : IntKind.i64.wrap ((i : Int) + 1) = ((i + 1 : Nat) : Int) := by rw [wrap_sub (by omega)]; rfl
def valRes (v : AV) : LRes := ⟨fun _ => v, fun _ => [], 0⟩
noncomputable abbrev cf83f : CallF := runG Try.prog (conΔ [connotMay, conhasB]) 60 6
theorem cf83 : CfOk Try.prog cf83f := runG_ok noNum mixed (conΔ_ok (List.forall_mem_cons.2 ⟨connotMay_ok, List.forall_mem_cons.2 ⟨conhasB_ok, List.forall_mem_nil _⟩⟩)) _
noncomputable def bd83 : Code := loopOf ((blocksOf 0 (codeAt Try.prog 83)).headD .skip)
theorem lp83_eq : blocksOf 0 (codeAt Try.prog 83) = [.loop bd83] := by kernel_rfl
noncomputable def run83 : Run := runC2 Try.prog (tmpsAt Try.prog 83) cf83f 60 bd83
theorem run83_ok : RunW Try.prog (tmpsAt Try.prog 83) bd83 run83 := (runC2_ok noNum mixed cf83 _).toW
abbrev hasF (b t : Int) : AV := .fn (.func 84) [] [.dptr 1 fun _ => .int .i64 b, .dptr 1 fun _ => .int .i64 t]
abbrev mayF : AV := .fn (.func 74) [] []
abbrev env83 (l : List Win) (f : AV) (i : Int) : Env := [(0, some (winsA l)), (1, some f), (7, some (.int .i64 l.length)), (8, some (.int .i64 i))]
abbrev Conds83 (l : List Win) (b : Bool) (p : Win → Bool) (i : Int) : Conds := [(true, decide (i < (l.length : Int))), (decide (0 ≤ i ∧ i < (l.length : Int)), true), (b, p (l.getD i.toNat default))]
structure Pred83 (l : List Win) (f : AV) (p : Win → Bool) : Prop where
  hit : ∀ i : Int, cutR [] [4] (run83 (env83 l f i) [] 0 [.go 0 true, .go 0 true]) = some (.ret, [(4, some (.int .i64 i))], [], Conds83 l true p i)
  go : ∀ i : Int, cutR [] [0, 1, 7, 8] (run83 (env83 l f i) [] 0 [.go 0 true, .go 0 false]) = some (.normal, env83 l f (IntKind.i64.wrap (i + 1)), [], Conds83 l false p i)
  over : ∀ i : Int, cutR [] [] (run83 (env83 l f i) [] 0 [.go 0 false]) = some (.exit 0, [], [], [(false, decide (i < (l.length : Int)))])
  same : eqO (some (env83 l f 0)) (some (env83 l f 0)) = true
theorem has83 (l : List Win) (b t : Int) : Pred83 l (hasF b t) fun x => hasB x b t := ⟨fun i => by kernel_rfl, fun i => by kernel_rfl, fun i => by kernel_rfl, eqO_self _⟩
theorem may83 (l : List Win) : Pred83 l mayF notMay := ⟨fun i => by kernel_rfl, fun i => by kernel_rfl, fun i => by kernel_rfl, eqO_self _⟩
def idxS (p : Win → Bool) : List Win → Nat
  | [] => 0
  | x :: l => bif p x then 0 else idxS p l + 1
theorem idxS_le (p : Win → Bool) : ∀ l, idxS p l ≤ l.length
  | [] => Nat.le_refl _
  | x :: l => by
    have := idxS_le p l
    simp only [idxS]
    cases p x <;> simp; omega
theorem idxS_drop (p : Win → Bool) : ∀ (l : List Win) (k : Nat), k ≤ idxS p l → idxS p l = k + idxS p (l.drop k)
  | l, 0, _ => by simp
  | [], k + 1, h => by simp [idxS] at h
  | x :: l, k + 1, h => by
    simp only [idxS] at h ⊢
    cases hx : p x with
    | true => rw [hx] at h; simp at h
    | false =>
      rw [hx] at h
      have := idxS_drop p l k (by simpa using h)
      simp only [List.drop_succ_cons, cond_false]
      omega
theorem rounds83 {l : List Win} {f : AV} {p : Win → Bool} (P : Pred83 l f p) (hn : l.length ≤ 1000000) : ∀ (k i : Nat), l.length - i = k → i ≤ idxS p l →
    (idxS p l < l.length → WRok Try.prog (tmpsAt Try.prog 83) bd83 (env83 l f i) [] 0 .ret [(4, some (.int .i64 (idxS p l : Nat)))] [] 0) ∧
    (¬ idxS p l < l.length → WRok Try.prog (tmpsAt Try.prog 83) bd83 (env83 l f i) [] 0 (.exit 0) [] [] 0)
  | k, i, hk, hi => by
    have hle := idxS_le p l
    have hd := idxS_drop p l i hi
    by_cases hlt : i < l.length
    · have d1 : true = decide ((i : Int) < (l.length : Int)) := (decide_eq_true (by omega)).symm
      have d2 : decide (0 ≤ (i : Int) ∧ (i : Int) < (l.length : Int)) = true := decide_eq_true (by omega)
      have e : l.getD (i : Int).toNat default = l[i] := by simp [hlt]
      rw [List.drop_eq_getElem_cons hlt] at hd
      simp only [idxS] at hd
      cases hx : p l[i] with
      | true =>
        rw [hx] at hd
        have he : idxS p l = i := by simpa using hd
        rw [he]
        refine ⟨fun _ => .exit (pieceF (T := []) (n' := 0) run83_ok (P.hit i) rfl rfl True.intro (conds_cons d1 (conds_cons d2 (conds_cons (by rw [e]; exact hx.symm) conds_nil)))) (by simp), fun h => absurd hlt h⟩
      | false =>
        rw [hx] at hd
        simp only [cond_false] at hd
        have st := pieceF (T := []) (n' := 0) run83_ok (P.go i) rfl rfl True.intro (conds_cons d1 (conds_cons d2 (conds_cons (by rw [e]; exact hx.symm) conds_nil)))
        rw [wrap_nat i (by omega)] at st
        cases k with
        | zero => omega
        | succ k =>
          obtain ⟨r1, r2⟩ := rounds83 P hn k (i + 1) (by omega) (by omega)
          exact ⟨fun h => .step st (r1 h), fun h => .step st (r2 h)⟩
    · have : idxS p l = l.length := by omega
      exact ⟨fun h => by omega, fun _ => .exit (pieceF (T := []) (n' := 0) run83_ok (P.over i) rfl rfl True.intro (conds_cons (decide_eq_false (by omega)).symm conds_nil)) (by simp)⟩
noncomputable def lam83 (l : List Win) (f : AV) (p : Win → Bool) : Run := lamIf [] [0, 1, 7, 8] (env83 l f 0) [] (decide (idxS p l < l.length)) .ret [(4, some (.int .i64 (idxS p l : Nat)))] [] .normal [] [] 0 (decide (l.length ≤ 1000000))
theorem lam83_ok {l : List Win} {f : AV} {p : Win → Bool} (P : Pred83 l f p) : RunW Try.prog (tmpsAt Try.prog 83) (.block 0 (.loop bd83)) (lam83 l f p) := by
  refine lamIf_ok (n0 := 0) rfl True.intro (fun hg hb => ?_) (fun hg hb => ?_)
  · exact ((rounds83 P (of_decide_eq_true hg) _ 0 rfl (Nat.zero_le _)).1 (of_decide_eq_true hb)).loop.block (id := 0)
  · exact ((rounds83 P (of_decide_eq_true hg) _ 0 rfl (Nat.zero_le _)).2 (of_decide_eq_false hb)).loop.block (id := 0)
theorem lams83 {l : List Win} {f : AV} {p : Win → Bool} (P : Pred83 l f p) : LamW Try.prog (tmpsAt Try.prog 83) (codeAt Try.prog 83) (lams [(0, lam83 l f p)]) :=
  lamsW (List.forall_mem_cons.2 ⟨⟨_, lp83_eq, lam83_ok P⟩, List.forall_mem_nil _⟩)
theorem body83 : ∃ fn, Try.prog.funcs[83]? = some fn ∧ fn.body.isSome = true := ⟨_, Try.func83, by kernel_rfl⟩
noncomputable abbrev call83 (l : List Win) (f : AV) (p : Win → Bool) (ds : List Dec) : Option (Came AOut) := bodyRun Try.prog (lams [(0, lam83 l f p)]) 60 cf83f 83 [winsA l, f] ds
noncomputable abbrev Ret83 (l : List Win) (f : AV) (p : Win → Bool) (b : Bool) : Conds := [(b, decide (idxS p l < l.length)), (eqO (some (env83 l f 0)) (some (env83 l f 0)), true), (eqO (some ([] : Heap)) (some []), true), (decide (l.length ≤ 1000000), true)]
theorem w83a1 (l : List Win) (b t : Int) : cutR [] [4] (call83 l (hasF b t) (fun x => hasB x b t) [.go 0 true]) = some (.ret, [(4, some (.int .i64 (idxS (fun x => hasB x b t) l : Nat)))], [], Ret83 l (hasF b t) (fun x => hasB x b t) true) := by kernel_rfl
theorem w83b1 (l : List Win) (b t : Int) : cutR [] [4] (call83 l (hasF b t) (fun x => hasB x b t) [.go 0 false]) = some (.ret, [(4, some (.int .i64 (-1)))], [], Ret83 l (hasF b t) (fun x => hasB x b t) false) := by kernel_rfl
theorem w83a2 (l : List Win) : cutR [] [4] (call83 l mayF notMay [.go 0 true]) = some (.ret, [(4, some (.int .i64 (idxS notMay l : Nat)))], [], Ret83 l mayF notMay true) := by kernel_rfl
theorem w83b2 (l : List Win) : cutR [] [4] (call83 l mayF notMay [.go 0 false]) = some (.ret, [(4, some (.int .i64 (-1)))], [], Ret83 l mayF notMay false) := by kernel_rfl
def idxI (p : Win → Bool) (l : List Win) : Int := bif decide (idxS p l < l.length) then (idxS p l : Nat) else -1
theorem idx_ok {l : List Win} {f : AV} {p : Win → Bool} (P : Pred83 l f p) (wa : cutR [] [4] (call83 l f p [.go 0 true]) = some (.ret, [(4, some (.int .i64 (idxS p l : Nat)))], [], Ret83 l f p true))
    (wb : cutR [] [4] (call83 l f p [.go 0 false]) = some (.ret, [(4, some (.int .i64 (-1)))], [], Ret83 l f p false)) (hl : l.length ≤ 1000000) : CallOk Try.prog 83 [winsA l, f] [] 0 (.ret (.int .i64 (idxI p l))) [] 0 := by
  unfold idxI
  by_cases q : idxS p l < l.length
  · rw [decide_eq_true q]
    exact wayT (n' := 0) noNum mixed cf83 (lams83 P) body83 wa (by kernel_rfl) (.inl rfl) rfl True.intro (conds_cons (decide_eq_true q).symm (conds_cons P.same (conds_cons (eqO_self _) (conds_cons (decide_eq_true hl) conds_nil)))) (HRef.refl _) (by kernel_rfl)
  · rw [decide_eq_false q]
    exact wayT (n' := 0) noNum mixed cf83 (lams83 P) body83 wb (by kernel_rfl) (.inl rfl) rfl True.intro (conds_cons (decide_eq_false q).symm (conds_cons P.same (conds_cons (eqO_self _) (conds_cons (decide_eq_true hl) conds_nil)))) (HRef.refl _) (by kernel_rfl)
theorem VRel.fnC2 {ρ : Nat → Option Eng.Loc} {RO : Nat → Prop} {w : World} {f : Fn} {c c' d d' : Nat → AV} {v : Value} (hv : VRel ρ RO w (.fn f [] [.dptr 1 c, .dptr 1 d]) v) (h0 : c 0 = c' 0) (h1 : d 0 = d' 0) : VRel ρ RO w (.fn f [] [.dptr 1 c', .dptr 1 d']) v := by
  have one : ∀ {c c' : Nat → AV} {v : Value}, c 0 = c' 0 → VRel ρ RO w (.dptr 1 c) v → VRel ρ RO w (.dptr 1 c') v := by
    intro c c' v e h
    have e : ∀ k, k < 1 → c k = c' k := fun k hk => by
      obtain rfl : k = 0 := by omega
      exact e
    cases h with
    | dptr vs hr hc g1 hf hvv => exact .dptr vs hr hc g1 (fun k hk => by rw [← e k hk]; exact hf k hk) (fun k hk => by rw [← e k hk]; exact hvv k hk)
  cases hv with
  | fn e1 e2 q1 q2 =>
    refine .fn e1 e2 q1 fun i a v ha hv => ?_
    match i with
    | 0 => simp at ha; subst ha; exact one h0 (q2 0 _ v rfl hv)
    | 1 => simp at ha; subst ha; exact one h1 (q2 1 _ v rfl hv)
    | i + 2 => simp at ha
noncomputable def gIdx : List AV → Option (LRes × Conds) := fun l => match l with
  | [.dsl 3 m el, .fn (.func 84) [] [.dptr 1 c, .dptr 1 d]] => match c 0, d 0 with
    | .int .i64 b, .int .i64 t => some (valRes (.int .i64 (idxI (fun x => hasB x b t) (rdA m el))), [(isA m el, true), (decide (m ≤ 1000000), true)])
    | _, _ => none
  | [.dsl 3 m el, .fn (.func 74) [] []] => some (valRes (.int .i64 (idxI notMay (rdA m el))), [(isA m el, true), (decide (m ≤ 1000000), true)])
  | _ => none
theorem gIdx_ok : LOk Try.prog 83 gIdx := by
  intro args r c e hc
  unfold gIdx at e
  split at e
  · rename_i m el c1 c2
    split at e
    · rename_i b t e0 e1
      cases e
      have h1 := hc (isA m el, true) (by simp)
      have h2 := of_decide_eq_true (hc (decide (m ≤ 1000000), true) (by simp))
      exact ⟨(idx_ok (has83 (rdA m el) b t) (w83a1 _ b t) (w83b1 _ b t) (by rw [rdA_length]; exact h2)).sees (ASees.wins h1 (.cons (fun ρ RO w v hv => VRel.fnC2 hv e0 e1) .nil)), fun n => rfl, fun n => rfl, True.intro⟩
    · cases e
  · rename_i m el
    cases e
    have h1 := hc (isA m el, true) (by simp)
    have h2 := of_decide_eq_true (hc (decide (m ≤ 1000000), true) (by simp))
    exact ⟨(idx_ok (may83 (rdA m el)) (w83a2 _) (w83b2 _) (by rw [rdA_length]; exact h2)).sees (ASees.wins h1 (.cons (fun ρ RO w v hv => hv) .nil)), fun n => rfl, fun n => rfl, True.intro⟩
  · cases e
end Go.Proofs.Ytaooefnmdlajcaa

set_option linter.unusedVariables false
set_option linter.unusedSectionVars false
namespace Go.Eng
open Go.RowKit Go.Proofs.YtaooefnmdlajcaaW.PrintWords
variable [Dr]
theorem vrel_of_C {α : Type} [Inhabited α] {d : Kd α} {cells : α → List AV} {w : World} {A : Option Addr} {l : List α} {c : Nat} (hs : 1 ≤ d.sz) (h : d.C w A l.length l) (hc : l.length ≤ c)
    (hK : ∀ x cs, d.K w x cs → ∀ ρ, VRels ρ (fun b => b < w.heap.size) w (cells x) cs) (flat : ∀ x : α, ∀ a ∈ cells x, Flat a) (ρ : Nat → Option Eng.Loc) :
    VRel ρ (fun b => b < w.heap.size) w (.dsl d.sz l.length (elK cells l)) (.slice A l.length c) := by
  by_cases h0 : 0 < l.length
  · obtain ⟨ad, rfl, hcell⟩ := h.2.2 h0
    have each : ∀ i, ∃ cs : List Value, i < l.length → (cs.length = d.sz ∧ d.K w (l.getD i default) cs ∧ ∀ j u, cs[j]? = some u → w.cell? (ad.add (i * d.sz + j)) = some u) := by
      intro i
      by_cases hi : i < l.length
      · obtain ⟨cs, q1, q2, q3⟩ := hcell i l[i] (List.getElem?_eq_getElem hi)
        refine ⟨cs, fun _ => ⟨q1, ?_, q3⟩⟩
        have : l.getD i default = l[i] := by simp [hi]
        rw [this]; exact q2
      · exact ⟨[], fun h => absurd h hi⟩
    obtain ⟨C, hC⟩ := Classical.axiomOfChoice each
    have hget : ∀ i k, i < l.length → k < d.sz → (C i)[k]? = some ((C i).getD k undef) := by
      intro i k hi hk
      have hlt : k < (C i).length := by rw [(hC i hi).1]; exact hk
      simp [hlt]
    have hat : ∀ i k, i < l.length → k < d.sz → w.cell? (ad.add (i * d.sz + k)) = some ((C i).getD k undef) := fun i k hi hk => (hC i hi).2.2 k _ (hget i k hi hk)
    have h00 := hat 0 0 h0 (by omega)
    have hz : ad.add (0 * d.sz + 0) = ad := by simp [Addr.add]
    rw [hz] at h00
    have hsp := spot_none h00
    have hel : ∀ i k, i < l.length → k < d.sz → (cells (l.getD i default))[k]? = some (elK cells l i k) := by
      intro i k hi hk
      have hv := hK _ _ (hC i hi).2.1 ρ
      have hlt : k < (cells (l.getD i default)).length := by rw [hv.1, (hC i hi).1]; exact hk
      show (cells (l.getD i default))[k]? = some ((cells (l.getD i default)).getD k .nilp)
      generalize cells (l.getD i default) = L at hlt ⊢
      simp [hlt]
    refine .dsl hc (fun i k => (C i).getD k undef) (fun _ => ⟨ad.block, ad.off, by obtain ⟨b, o, s⟩ := ad; simp only at hsp; subst hsp; rfl, block_lt h00, fun i k hi hk => ?_⟩) (fun i k hi hk => ?_) (fun i k hi hk => ?_) (fun i k hi hk => ?_)
    · have := hat i k hi hk
      rw [addr_add hsp] at this
      exact this
    · exact d.K_one (hC i hi).2.1 _ (List.mem_of_getElem? (hget i k hi hk))
    · exact flat _ _ (List.mem_of_getElem? (hel i k hi hk))
    · exact (hK _ _ (hC i hi).2.1 ρ).2 k _ _ (hel i k hi hk) (hget i k hi hk)
  · have hn : l = [] := List.length_eq_zero_iff.1 (by omega)
    subst hn
    exact .dsl hc (fun _ _ => .bool false) (fun h => absurd rfl h) (fun i k hi => by simp at hi) (fun i k hi => by simp at hi) (fun i k hi => by simp at hi)
theorem reps_flat {α : Type} {R : α → List Value → Prop} {size : Nat} {enc : α → List Value} (hR : ∀ x, R x (enc x)) (hl : ∀ x, (enc x).length = size) : ∀ (l pre : List α) (cs : List Value), Reps R size pre cs → Reps R size (pre ++ l) (cs ++ l.flatMap enc)
  | [], pre, cs, h => by simpa using h
  | p :: l, pre, cs, h => by
    have := reps_flat hR hl l _ _ (h.snoc (hR p) (hl p))
    simpa using this
theorem R_of_flat {α : Type} {d : Kd α} {enc : α → List Value} {e base : Nat} {w : World} {v : Value} {l : List α} (ho : w.ownsRow base e d.sz v l.length (l.flatMap enc)) (hM : ∀ ok x, d.M w base ok x (enc x)) (hl : ∀ x, (enc x).length = d.sz) : d.R e w base (fun _ => True) v l :=
  ⟨fun _ _ => trivial, l.flatMap enc, ho, by simpa using reps_flat (R := d.M w base _) (hM _) hl l [] [] (Reps.none _ _)⟩
theorem owns_of_row {w0 : World} {h : Heap} {n : Nat} {ρ : Nat → Option Eng.Loc} {RO : Nat → Prop} {w : World} (H : HRel w0 (fun _ => False) h n ρ RO w) {id ty sz m : Nat} {el : Nat → Nat → AV} (hlk : lookH h id = some (.row ty sz m el)) {v : Value} (hv : VRel ρ RO w (.sl id 0 m m) v) :
    ∃ xs, w.ownsRow w0.heap.size ty sz v m xs ∧ ∀ i j, i < m → j < sz → ∃ u, xs[i * sz + j]? = some u ∧ u.oneCell' = true ∧ VRel ρ RO w (el i j) u := by
  obtain ⟨x, hx, hs⟩ := H.objs id _ hlk
  cases hv with
  | @sl id off len cap c L A hL h1 h2 hA h00 hss hmm =>
    rw [hx] at hL; cases hL
    rcases hs with ⟨_, _, _, e1, e2, e3, e4, e5⟩ | s
    · cases e1
      have hc : c = 0 := by
        rw [e2, e3] at hmm
        rcases Nat.eq_zero_or_pos c with h | h
        · exact h
        · have : 1 * 1 ≤ (0 + c) * sz := Nat.mul_le_mul (by omega) e4
          omega
      have hA' := h00 hc rfl
      rw [e5] at hA'
      refine ⟨[], ⟨by simp, .inl ⟨?_, rfl⟩⟩, fun i j hi => by omega⟩
      rw [hA', hc]; rfl
    · obtain ⟨r1, cs, r2, r3, r4⟩ := s.rel
      rw [s.base, r1, Nat.zero_add, Nat.zero_add] at hmm
      have hA' : A = some ⟨x.blk, 0, none⟩ := by
        by_cases hc : c = 0
        · have := h00 hc rfl
          rw [s.real, s.base] at this
          exact this
        · rw [(hA hc).1, s.base]; simp
      have hsz : (cs.toList.take (m * sz)).length = m * sz := by
        rw [List.length_take, Array.length_toList, r3, ← hmm]
        exact Nat.min_eq_left (Nat.mul_le_mul_right _ h2)
      refine ⟨cs.toList.take (m * sz), ⟨hsz, .inr ⟨x.blk, c, cs, by rw [hA'], s.own.resolve_right (fun h => h), r2, h2, by unfold maxLen; omega, by rw [r3, hmm], rfl⟩⟩, fun i j hi hj => ?_⟩
      obtain ⟨u, u1, u2, u3⟩ := r4 i j hi hj
      refine ⟨u, ?_, u2, u3⟩
      have hij : i * sz + j < m * sz := by
        have : (i + 1) * sz ≤ m * sz := Nat.mul_le_mul_right _ hi
        rw [Nat.add_mul] at this; omega
      rw [List.getElem?_take_of_lt hij, Array.getElem?_toList, ← u1, s.base, Nat.zero_add]
end Go.Eng

set_option linter.unusedVariables false
namespace Go.Proofs.Ytaooefnmdlajcaa
open Go.Eng Go.Proofs Go.RowKit
noncomputable abbrev cf44f : CallF := runG Try.prog (entΔ [lendEnt 83 gIdx]) 60 6
theorem cf44 : CfOk Try.prog cf44f := runG_ok noNum mixed (entΔ_ok (List.forall_mem_cons.2 ⟨lendEnt_ok gIdx_ok, List.forall_mem_nil _⟩)) _
theorem w44 (l : List Win) (b t : Int) : resOf (cf44f 44 [winsA l, .int .i64 b, .int .i64 t] [] 0 []) = some (.ret (.int .i64 (idxI (fun x => hasB x b t) (rdA l.length (elA l)))), [(isA l.length (elA l), true), (decide (l.length ≤ 1000000), true)]) := by kernel_rfl
theorem w37 (l : List Win) : resOf (cf44f 37 [winsA l] [] 0 []) = some (.ret (.bool (!decide (idxI notMay (rdA l.length (elA l)) ≥ 0))), [(isA l.length (elA l), true), (decide (l.length ≤ 1000000), true)]) := by kernel_rfl
abbrev rowA (m : Nat) (l : List Win) : Option AObj := some (.row 32 3 m (elA l))
noncomputable abbrev cf40f : CallF := runG Try.prog (entΔ []) 60 8
theorem cf40 : CfOk Try.prog cf40f := runG_ok noNum mixed (entΔ_ok (List.forall_mem_nil _)) _
abbrev twoA (a b : List Win) : AV := .dsl 1 2 fun i _ => bif Nat.beq i 0 then winsA a else winsA b
abbrev sumW (a b : List Win) : Int := IntKind.i64.wrap (IntKind.i64.wrap (0 + (a.length : Int)) + (b.length : Int))
abbrev sizW (a b : List Win) : Int := IntKind.i64.wrap (sumW a b - IntKind.i64.wrap (0 - 0))
abbrev zC : List AV := [.int .i64 0, .int .i64 0, .int .i64 0]
theorem conA (a b : List Win) : cutR [(2, 0)] [2] (bodyRun Try.prog (lams []) 60 cf40f 40 [twoA a b] [.go 1 false, .go 1 false, .go 1 false, .go 0 true]) =
    some (.ret, [(2, some (.sl 0 0 (0 - 0 + a.length + b.length) (0 - 0 + a.length + b.length)))],
      [(0, some (.row 32 3 (0 - 0 + a.length + b.length) fun i c => if i < 0 - 0 + a.length then (if 0 + i < 0 - 0 then zC.getD c .nilp else elA a (0 + i - (0 - 0)) c) else elA b (i - (0 - 0 + a.length)) c))],
      [(true, true), (false, decide (IntKind.i64.wrap (0 + (a.length : Int)) < 0)), (true, true), (false, decide (sumW a b < 0)), (false, decide (sumW a b < 0)), (true, decide (sizW a b > 0)), (true, true),
       (decide (0 ≤ sizW a b ∧ sizW a b * 24 ≤ 140737488355328 ∧ sizW a b ≤ 140737488355328), true), (true, true), (true, true), (true, true), (decide ((0 - 0 + a.length) * 24 ≤ 140737488355328), true), (true, true), (true, true), (true, true),
       (decide ((0 - 0 + a.length + b.length) * 24 ≤ 140737488355328), true), (decide (0 + (0 - 0 + a.length) ≤ 0 - 0 + a.length), true)]) := by kernel_rfl
theorem conB (a b : List Win) : cutR [(1, 0)] [2] (bodyRun Try.prog (lams []) 60 cf40f 40 [twoA a b] [.go 1 false, .go 1 false, .go 1 false, .go 0 false]) =
    some (.ret, [(2, some (.sl 0 0 (a.length + b.length) (a.length + b.length)))],
      [(0, some (.row 32 3 (a.length + b.length) fun i c => if i < a.length then elA a (0 + i) c else elA b (i - a.length) c))],
      [(true, true), (false, decide (IntKind.i64.wrap (0 + (a.length : Int)) < 0)), (true, true), (false, decide (sumW a b < 0)), (false, decide (sumW a b < 0)), (false, decide (sizW a b > 0)), (true, true), (true, true),
       (decide (a.length * 24 ≤ 140737488355328), true), (true, true), (true, true), (decide ((a.length + b.length) * 24 ≤ 140737488355328), true), (decide (0 + a.length ≤ a.length), true)]) := by kernel_rfl
theorem body40 : ∃ fn, Try.prog.funcs[40]? = some fn ∧ fn.body.isSome = true := ⟨_, Try.func40, by kernel_rfl⟩
theorem elA_app (a b : List Win) (i c : Nat) : elA (a ++ b) i c = if i < a.length then elA a i c else elA b (i - a.length) c := by
  have e : (a ++ b).getD i default = if i < a.length then a.getD i default else b.getD (i - a.length) default := by
    by_cases q : i < a.length
    · simp [q, List.getElem?_append_left q]
    · rw [if_neg q]; simp [List.getElem?_append_right (Nat.le_of_not_lt q)]
  show ((a ++ b).getD i default).cells.getD c .nilp = _
  rw [e]
  split <;> rfl
theorem concat_ok (a b : List Win) (hl : a.length + b.length ≤ 1000000) : CallOk Try.prog 40 [twoA a b] [] 0 (.ret (.sl 0 0 (a ++ b).length (a ++ b).length)) [(0, rowA (a ++ b).length (a ++ b))] 1 := by
  have e1 : IntKind.i64.wrap (0 + (a.length : Int)) = a.length := by rw [wrap_sub (by omega)]; omega
  have e2 : sumW a b = (a.length : Int) + b.length := by unfold sumW; rw [e1, wrap_sub (by omega)]
  have e3 : sizW a b = (a.length : Int) + b.length := by
    unfold sizW; rw [e2, show IntKind.i64.wrap (0 - 0) = 0 by decide, wrap_sub (by omega)]; omega
  have hlen : (a ++ b).length = a.length + b.length := by simp
  have flat : FlatRow (0 - 0 + a.length + b.length) 3 fun i c => if i < 0 - 0 + a.length then (if 0 + i < 0 - 0 then zC.getD c .nilp else elA a (0 + i - (0 - 0)) c) else elA b (i - (0 - 0 + a.length)) c := by
    intro i c hi hc
    dsimp only
    split
    · rw [if_neg (by omega)]; exact flatA_row a.length a _ c (by omega) hc
    · exact flatA_row b.length b _ c (by omega) hc
  by_cases h0 : a.length + b.length = 0
  · have flat2 : FlatRow (a.length + b.length) 3 fun i c => if i < a.length then elA a (0 + i) c else elA b (i - a.length) c := fun i c hi => by omega
    refine wayT (n' := 1) noNum mixed cf40 lams_nil body40 (conB a b) (by kernel_rfl) (.inl rfl) rfl ⟨flat2, True.intro⟩ (conds_cons rfl (conds_cons (by rw [e1]; simp) (conds_cons rfl (conds_cons (by rw [e2]; simp; omega) (conds_cons (by rw [e2]; simp; omega) (conds_cons (by rw [e3]; simp; omega) (conds_cons rfl (conds_cons rfl (conds_cons (by simp; omega) (conds_cons rfl (conds_cons rfl (conds_cons (by simp; omega) (conds_cons (by simp) conds_nil))))))))))))) (HRef.one ⟨(a ++ b).length, elA (a ++ b), rfl, by omega, fun i k hi hk => by omega⟩) ?_
    rw [hlen]; kernel_rfl
  · refine wayT (n' := 1) noNum mixed cf40 lams_nil body40 (conA a b) (by kernel_rfl) (.inl rfl) rfl ⟨flat, True.intro⟩ (conds_cons rfl (conds_cons (by rw [e1]; simp) (conds_cons rfl (conds_cons (by rw [e2]; simp; omega) (conds_cons (by rw [e2]; simp; omega) (conds_cons (by rw [e3]; simp; omega) (conds_cons rfl (conds_cons (by rw [e3]; simp; omega) (conds_cons rfl (conds_cons rfl (conds_cons rfl (conds_cons (by simp; omega) (conds_cons rfl (conds_cons rfl (conds_cons rfl (conds_cons (by simp; omega) (conds_cons (by simp) conds_nil))))))))))))))))) (HRef.one ⟨(a ++ b).length, elA (a ++ b), rfl, by omega, fun i k hi hk => ?_⟩) ?_
    · rw [elA_app a b i k]
      simp only [Nat.sub_self, Nat.zero_add, Nat.sub_zero, Nat.not_lt_zero, if_false]
    · rw [hlen, show 0 - 0 + a.length + b.length = a.length + b.length by omega]; kernel_rfl
theorem cells_flat {xs : List Value} {l : List Win} (hlen : xs.length = l.length * 3) (h : ∀ i j, i < l.length → j < 3 → xs[i * 3 + j]? = some ((encA (l.getD i default)).getD j (.bool false))) : xs = l.flatMap encA := by
  apply List.ext_getElem?
  intro t
  by_cases q : t < l.length * 3
  · rw [flat_get l t q, ← h (t / 3) (t % 3) (by omega) (Nat.mod_lt _ (by omega))]
    congr 1; omega
  · rw [List.getElem?_eq_none (by omega), List.getElem?_eq_none (by rw [flat_length]; omega)]
theorem owns_wins {w0 : World} {h : Heap} {n : Nat} {ρ : Nat → Option Eng.Loc} {RO : Nat → Prop} {w : World} (H : HRel w0 (fun _ => False) h n ρ RO w) {id : Nat} {l : List Win} (hlk : lookH h id = some (.row 32 3 l.length (elA l))) {v : Value} (hv : VRel ρ RO w (.sl id 0 l.length l.length) v) :
    w.ownsRow w0.heap.size 32 3 v l.length (l.flatMap encA) := by
  obtain ⟨xs, ho, hx⟩ := owns_of_row H hlk hv
  have : xs = l.flatMap encA := cells_flat ho.1 fun i j hi hj => by
    obtain ⟨u, u1, u2, u3⟩ := hx i j hi hj
    rw [u1]
    have e : elA l i j = (l.getD i default).cells.getD j .nilp := rfl
    rw [e] at u3
    congr 1
    rcases lt3 hj with rfl | rfl | rfl <;> exact int_of u3
  rw [← this]; exact ho
theorem concat_own (a b : List Win) (hl : a.length + b.length ≤ 1000000) (w : World) (v : Value) (hv : VRel (fun _ => none) (fun b => b < w.heap.size) w (twoA a b) v) :
    Calls Try.prog 40 #[v] w fun e w' => ∃ u, e = .returned u ∧ w'.ownsRow w.heap.size 32 3 u (a ++ b).length ((a ++ b).flatMap encA) ∧ Below w.heap.size w w' := by
  refine ((concat_ok a b hl).2 w (fun _ => False) (fun _ => none) (fun b => b < w.heap.size) w _ (HRel.start fun _ h => h) (VRels.cons hv .nil)).mono fun e w' he => ?_
  obtain ⟨ρ', RO', p1, p2, u, rfl, p3⟩ := he
  exact ⟨u, rfl, owns_wins p2 (by rw [lookH_cons, if_pos rfl]) p3, p2.frame.below⟩
theorem find_calls (l : List Win) (b t : Int) (hl : l.length ≤ 1000000) (w : World) (v : Value) (hv : VRel (fun _ => none) (fun b => b < w.heap.size) w (winsA l) v) :
    Calls Try.prog 44 #[v, .int .i64 b, .int .i64 t] w fun e w' => e = .returned (.int .i64 (idxI (fun x => hasB x b t) l)) ∧ Below w.heap.size w w' := by
  have e := w44 l b t
  rw [rdA_elA] at e
  exact (CallOk.calls_int (fun h n => way cf44 e (conds_cons (isA_elA _ _) (conds_cons (decide_eq_true hl) conds_nil)) rfl rfl h n) (RO := fun b => b < w.heap.size) (fun _ h => h) (VRels.cons hv (VRels.cons (.int _ _) (VRels.cons (.int _ _) .nil)))).mono fun e w' h => ⟨h.1, h.2.below⟩
theorem all_calls (l : List Win) (hl : l.length ≤ 1000000) (w : World) (v : Value) (hv : VRel (fun _ => none) (fun b => b < w.heap.size) w (winsA l) v) :
    Calls Try.prog 37 #[v] w fun e w' => e = .returned (.bool (!decide (idxI notMay l ≥ 0))) ∧ Below w.heap.size w w' := by
  have e := w37 l
  rw [rdA_elA] at e
  exact (CallOk.calls_bool (fun h n => way cf44 e (conds_cons (isA_elA _ _) (conds_cons (decide_eq_true hl) conds_nil)) rfl rfl h n) (RO := fun b => b < w.heap.size) (fun _ h => h) (VRels.cons hv .nil)).mono fun e w' h => ⟨h.1, h.2.below⟩
end Go.Proofs.Ytaooefnmdlajcaa

namespace Go.Proofs.Ytaooefnmdlajcaa.P
open Go.RowKit Go.Proofs.YtaooefnmdlajcaaW.PrintWords Go.Proofs.YtaooefnmdlajcaaW.PrintLast Go.Proofs.YtaooefnmdlajcaaW.PrintMore
attribute [local go_sem] max2_int min2_int max_two min_two max_three min_three max_four min_four
set_option linter.unusedVariables false
set_option linter.unusedSimpArgs false
def errW : Option Int → Value
  | none => .nilIface
  | some c => .iface 0 (.int .i64 c)
theorem errW_none : errW none = .nilIface := rfl
theorem errW_some (c : Int) : errW (some c) = .iface 0 (.int .i64 c) := rfl
theorem info32 : (Try.prog.info? 32).map (fun i => (i.zero, i.size, i.bytes)) = some (some (.agg #[(.int .i64 0), (.int .i64 0), (.int .i64 0)]), 3, 24) := by kernel_rfl
structure S32 where
  f0 : Int
  f1 : Int
  f2 : Int
def z32 : S32 := ⟨(0 : Int), (0 : Int), (0 : Int)⟩
def k32 : Kd S32 := Kd.iso (Kd.pair (Kd.int .i64) (Kd.pair (Kd.int .i64) (Kd.int .i64))) (fun x : S32 => (x.f0, x.f1, x.f2))
theorem k32_open {w : World} {x : S32} {cs : List Value} (h : k32.K w x cs) : cs = [.int .i64 x.f0, .int .i64 x.f1, .int .i64 x.f2] := by
  obtain ⟨_, _, rfl, rfl, ⟨_, _, rfl, rfl, rfl⟩⟩ := h
  exact rfl
theorem k32_openM {w : World} {base : Nat} {ok : Nat → Prop} {x : S32} {cs : List Value} (h : k32.M w base ok x cs) : cs = [.int .i64 x.f0, .int .i64 x.f1, .int .i64 x.f2] := by
  obtain ⟨_, _, rfl, rfl, ⟨_, _, rfl, rfl, rfl⟩⟩ := h
  exact rfl
theorem k32_mkM (w : World) (base : Nat) (ok : Nat → Prop) (x : S32)  : k32.M w base ok x [.int .i64 x.f0, .int .i64 x.f1, .int .i64 x.f2] := ⟨[.int .i64 x.f0], [.int .i64 x.f1, .int .i64 x.f2], rfl, rfl, ⟨[.int .i64 x.f1], [.int .i64 x.f2], rfl, rfl, rfl⟩⟩
def rd_T32 (xs : List S32) (i : Int) : S32 := xs.getD i.toNat z32
theorem at_T32 {w : World} {A : Option Addr} {n : Nat} {xs : List S32} (h : Kd.C k32 w A n xs) (i : Int) (h0 : 0 ≤ i) (h1 : i < n) : ∃ ad , A = some ad ∧ w.cell? (ad.add (i.toNat * 3)) = some (.int .i64 (rd_T32 xs i).f0) ∧ w.cell? ⟨(ad.add (i.toNat * 3)).block, (ad.add (i.toNat * 3)).off + 1, none⟩ = some (.int .i64 (rd_T32 xs i).f1) ∧ w.cell? ⟨(ad.add (i.toNat * 3)).block, (ad.add (i.toNat * 3)).off + 2, none⟩ = some (.int .i64 (rd_T32 xs i).f2) := by
  obtain ⟨ad, c, e, _, hK, hc0⟩ := Kd.C_get h z32 i h0 h1
  have hc : ∀ j u, c[j]? = some u → w.cell? (ad.add (i.toNat * 3 + j)) = some u := hc0
  obtain rfl := k32_open hK
  exact ⟨ad, e, hc 0 _ rfl, by rw [← add_field _ _ 1 (by omega)]; exact hc 1 _ rfl, by rw [← add_field _ _ 2 (by omega)]; exact hc 2 _ rfl⟩
end Go.Proofs.Ytaooefnmdlajcaa.P

namespace Go.Proofs.Ytaooefnmdlajcaa.P
open Go.RowKit Go.Proofs.YtaooefnmdlajcaaW.PrintWords Go.Proofs.YtaooefnmdlajcaaW.PrintLast Go.Proofs.YtaooefnmdlajcaaW.PrintMore
attribute [local go_sem] max2_int min2_int max_two min_two max_three min_three max_four min_four
set_option linter.unusedVariables false
set_option linter.unusedSimpArgs false
theorem eqA32 (d : Nat) (w : World) (x0 y0 : Int) (x1 y1 : Int) (x2 y2 : Int) :
    (Op.equalIn (d + 2) 32 (.agg #[.int .i64 x0, .int .i64 x1, .int .i64 x2]) (.agg #[.int .i64 y0, .int .i64 y1, .int .i64 y2])).run Try.prog w = .ok (x0 == y0 && (x1 == y1 && (x2 == y2))) w := by
  refine eqA_of Try.underlying32 (by kernel_rfl) ?_
  refine eqf_cons (by rfl) (by go_simp; rfl) (by go_simp; rfl) (by go_simp) ?_
  refine eqf_cons (by rfl) (by go_simp; rfl) (by go_simp; rfl) (by go_simp) ?_
  exact eqf_last (by rfl) (by go_simp; rfl) (by go_simp; rfl) (by go_simp)
end Go.Proofs.Ytaooefnmdlajcaa.P

namespace Go.Proofs.Ytaooefnmdlajcaa.P
open Go.RowKit Go.Proofs.YtaooefnmdlajcaaW.PrintWords Go.Proofs.YtaooefnmdlajcaaW.PrintLast Go.Proofs.YtaooefnmdlajcaaW.PrintMore
attribute [local go_sem] max2_int min2_int max_two min_two max_three min_three max_four min_four
set_option linter.unusedVariables false
set_option linter.unusedSimpArgs false
instance inhS32 : Inhabited S32 := ⟨z32⟩
def toW (x : S32) : Win := ⟨x.f0, x.f1, x.f2⟩
def ofW (x : Win) : S32 := ⟨x.bed, x.lo, x.hi⟩
theorem map_toW (L : List Win) : (L.map ofW).map toW = L := by rw [List.map_map]; exact List.map_id' L
theorem map_ofW (l : List S32) : (l.map toW).map ofW = l := by rw [List.map_map]; exact List.map_id' l
theorem getD_toW (l : List S32) (i : Nat) : (l.map toW).getD i default = toW (l.getD i default) := by
  by_cases h : i < l.length
  · simp [h]
  · simp [Nat.le_of_not_lt h]; rfl
theorem cells32 {w : World} {x : S32} {cs : List Value} (h : k32.K w x cs) (ρ : Nat → Option Go.Eng.Loc) (RO : Nat → Prop) : Go.Eng.VRels ρ RO w (toW x).cells cs := by
  obtain rfl := k32_open h
  exact .cons (.int _ _) (.cons (.int _ _) (.cons (.int _ _) .nil))
theorem flat32 (x : S32) : ∀ a ∈ (toW x).cells, Go.Eng.Flat a := by
  intro a ha
  simp only [Win.cells, List.mem_cons, List.not_mem_nil, or_false] at ha
  rcases ha with rfl | rfl | rfl <;> exact .int _ _
theorem wins_rel {w : World} {A : Option Addr} {c : Nat} {l : List S32} (h : Kd.C k32 w A l.length l) (hc : l.length ≤ c) : Go.Eng.VRel (fun _ => none) (fun b => b < w.heap.size) w (winsA (l.map toW)) (.slice A l.length c) := by
  have := Go.Eng.vrel_of_C (d := k32) (cells := fun x => (toW x).cells) (by decide) h hc (fun x cs hk ρ => cells32 hk ρ _) flat32 (fun _ => none)
  have e : (l.map toW).length = l.length := List.length_map _
  unfold winsA
  rw [e]
  refine this.dslC fun i k hi hk => ?_
  show (toW (l.getD i default)).cells.getD k .nilp = ((l.map toW).getD i default).cells.getD k .nilp
  rw [getD_toW]
theorem wins_own {w : World} {base : Nat} {v : Value} {l : List Win} (h : w.ownsRow base 32 3 v l.length (l.flatMap encA)) : Kd.R k32 32 w base (fun _ => True) v (l.map ofW) := by
  refine Go.Eng.R_of_flat (enc := fun x => encA (toW x)) ?_ (fun ok x => k32_mkM _ _ _ x) (fun x => rfl)
  have e : (l.map ofW).flatMap (fun x => encA (toW x)) = l.flatMap encA := by rw [List.flatMap_map]; rfl
  rw [e, List.length_map]
  exact h
theorem wins_holds {w : World} {A : Option Addr} {c : Nat} {l : List S32} (h : Kd.C k32 w A l.length l) (hc : l.length ≤ c) : HoldsA w.heap.size w (.slice A l.length c) (l.map toW) := by
  obtain ⟨a, c', e, hI⟩ := holdsA_of (fun _ h => h) (wins_rel h hc)
  exact hI
theorem two_rel {w : World} {a b : List Win} {v0 v1 : Value} {t : TypeId} (h0 : Go.Eng.VRel (fun _ => none) (fun b => b < w.heap.size) w (winsA a) v0) (h1 : Go.Eng.VRel (fun _ => none) (fun b => b < w.heap.size) w (winsA b) v1) :
    Go.Eng.VRel (fun _ => none) (fun b => b < (w.alloc (.cells #[v0, v1] t)).heap.size) (w.alloc (.cells #[v0, v1] t)) (twoA a b) (.slice (some ⟨w.heap.size, 0, none⟩) 2 2) := by
  have ext : Go.Eng.Ext (fun _ => none) (fun b => b < w.heap.size) w (fun _ => none) (fun b => b < (w.alloc (.cells #[v0, v1] t)).heap.size) (w.alloc (.cells #[v0, v1] t)) :=
    ⟨fun _ _ h => h, fun b hb => by simp; omega, fun b hb => Below.heap_alloc w _ b hb⟩
  have hb : (w.alloc (.cells #[v0, v1] t)).heap[w.heap.size]? = some (.cells #[v0, v1] t (0, 0)) := heap_alloc_new w _
  have one : ∀ {x : List Win} {v : Value}, Go.Eng.VRel (fun _ => none) (fun b => b < w.heap.size) w (winsA x) v → v.oneCell' = true := by
    intro x v h; cases h; rfl
  have flat : ∀ x : List Win, Go.Eng.Flat (winsA x) := fun x => .dsl fun i k hi hk => flatA_row _ x i k hi hk
  refine .dsl (Nat.le_refl _) (fun i _ => bif Nat.beq i 0 then v0 else v1) (fun _ => ⟨w.heap.size, 0, rfl, by simp, fun i k hi hk => ?_⟩) (fun i k hi hk => ?_) (fun i k hi hk => ?_) (fun i k hi hk => ?_)
  all_goals
    have hk0 : k = 0 := by omega
    subst hk0
    have hi2 : i = 0 ∨ i = 1 := by omega
  · rw [Go.Eng.cell_block hb]
    rcases hi2 with rfl | rfl <;> rfl
  · rcases hi2 with rfl | rfl
    · exact one h0
    · exact one h1
  · rcases hi2 with rfl | rfl
    · exact flat a
    · exact flat b
  · rcases hi2 with rfl | rfl
    · exact h0.mono ext
    · exact h1.mono ext
def mute_all.f (l0 : List (S32)) : Option (Bool) := if l0.length ≤ 1000000 then some ((!decide (idxI notMay (l0.map toW) ≥ 0))) else none
theorem mute_all.calls (A0 : Option Addr) (c0 : Nat) (l0 : List (S32)) (r : Bool) (w : World) (hr0 : Kd.C k32 w A0 l0.length l0) (hc0 : l0.length ≤ c0) (h : mute_all.f l0 = some r) :
    Calls Try.prog 37 #[.slice A0 l0.length c0] w fun e w' => e = .returned (.bool r) ∧ Below w.heap.size w w' := by
  by_cases hl : l0.length ≤ 1000000
  · unfold mute_all.f at h
    rw [if_pos hl] at h
    have e := Option.some.inj h
    have := all_calls (l0.map toW) (by simpa using hl) w _ (wins_rel hr0 hc0)
    rw [e] at this
    exact this
  · unfold mute_all.f at h
    rw [if_neg hl] at h
    cases h
end Go.Proofs.Ytaooefnmdlajcaa.P

