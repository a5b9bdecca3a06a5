/- Part 2 of the proof of MuteDoes. -/
import Derived.Test.YtaooefnmdlajcaaA1
import Derived.RangeFuncBox
import Derived.RangeFuncLeaves
import Derived.Shelf.Abstract
import Derived.WalkKit
import Derived.OwnWalkIn
import Derived.TacticsInMore
import Derived.LoopNIn
import Derived.LoopIn
import Derived.RangeFuncNested
import Derived.RangeFuncBound
import Derived.RangeFuncCalls
import Derived.Maps.AppendAt
import Derived.Maps.RangeWalk
import Derived.Shelf.SlSortCmp.WholeK
import Derived.Test.YtaooefnmdlajcaaProg
import Derived.Shelf.SlSortCmp.NoneTotal
set_option linter.unusedVariables false
set_option linter.unusedSimpArgs false
set_option linter.unusedSectionVars false
section
set_option linter.unusedVariables false
set_option linter.unusedSectionVars false
namespace Go.Proofs.Ytaooefnmdlajcaa
abbrev Win := GWindow
def HasW (w : Win) (b t : Int) : Prop := w.bed = b ∧ w.src ≤ t ∧ t < w.to
instance (w : Win) (b t : Int) : Decidable (HasW w b t) := inferInstanceAs (Decidable (_ ∧ _ ∧ _))
def Has (l : List Win) (b t : Int) : Prop := ∃ w ∈ l, HasW w b t
def Lt (a b : Win) : Prop := a.bed < b.bed ∨ a.bed = b.bed ∧ a.to < b.src
def Canon (l : List Win) : Prop := l.Pairwise Lt ∧ ∀ w ∈ l, w.src < w.to
theorem has_nil (b t : Int) : ¬ Has [] b t := by rintro ⟨w, h, _⟩; cases h
theorem has_cons {a : Win} {l : List Win} {b t : Int} : Has (a :: l) b t ↔ HasW a b t ∨ Has l b t := by simp [Has]
theorem has_append {l m : List Win} {b t : Int} : Has (l ++ m) b t ↔ Has l b t ∨ Has m b t := by
  simp only [Has, List.mem_append]
  constructor
  · rintro ⟨w, h | h, e⟩
    · exact .inl ⟨w, h, e⟩
    · exact .inr ⟨w, h, e⟩
  · rintro (⟨w, h, e⟩ | ⟨w, h, e⟩)
    · exact ⟨w, .inl h, e⟩
    · exact ⟨w, .inr h, e⟩
theorem has_one {a : Win} {b t : Int} : Has [a] b t ↔ HasW a b t := by simp [Has]
theorem Canon.nil : Canon [] := ⟨.nil, by simp⟩
theorem canon_cons {a : Win} {l : List Win} : Canon (a :: l) ↔ a.src < a.to ∧ (∀ w ∈ l, Lt a w) ∧ Canon l := by
  simp only [Canon, List.pairwise_cons, List.forall_mem_cons]
  constructor
  · rintro ⟨⟨h1, h2⟩, h3, h4⟩; exact ⟨h3, h1, h2, h4⟩
  · rintro ⟨h3, h1, h2, h4⟩; exact ⟨⟨h1, h2⟩, h3, h4⟩
theorem head_first {a : Win} {l : List Win} (h : Canon (a :: l)) {b t : Int} (ht : Has (a :: l) b t) : a.bed < b ∨ a.bed = b ∧ a.src ≤ t := by
  obtain ⟨h1, h2, h3⟩ := canon_cons.1 h
  obtain ⟨w, hw, e1, e2, e3⟩ := ht
  rcases List.mem_cons.1 hw with rfl | hw
  · exact .inr ⟨e1, e2⟩
  · rcases h2 w hw with h | ⟨h, h'⟩
    · left; omega
    · right; omega
theorem head_has {a : Win} {l : List Win} (h : Canon (a :: l)) : Has (a :: l) a.bed a.src :=
  ⟨a, by simp, rfl, Int.le_refl _, (canon_cons.1 h).1⟩
theorem rest_not {a : Win} {l : List Win} (h : Canon (a :: l)) {t : Int} (ht : t ≤ a.to) : ¬ Has l a.bed t := by
  obtain ⟨h1, h2, h3⟩ := canon_cons.1 h
  rintro ⟨w, hw, e1, e2, e3⟩
  rcases h2 w hw with h | ⟨h, h'⟩ <;> omega
theorem canon_rest {a : Win} {l : List Win} (h : Canon (a :: l)) {b t : Int} : Has l b t ↔ Has (a :: l) b t ∧ ¬ HasW a b t := by
  rw [has_cons]
  constructor
  · intro hl
    refine ⟨.inr hl, fun ⟨e1, e2, e3⟩ => ?_⟩
    subst e1
    exact rest_not h (by omega) hl
  · rintro ⟨h | h, h'⟩
    · exact absurd h h'
    · exact h
theorem canon_unique : ∀ {l l' : List Win}, Canon l → Canon l' → (∀ b t, Has l b t ↔ Has l' b t) → l = l'
  | [], [], _, _, _ => rfl
  | [], a :: l', _, h', e => absurd ((e _ _).2 (head_has h')) (has_nil _ _)
  | a :: l, [], h, _, e => absurd ((e _ _).1 (head_has h)) (has_nil _ _)
  | a :: l, a' :: l', h, h', e => by
    have f1 := head_first h ((e _ _).2 (head_has h'))
    have f2 := head_first h' ((e _ _).1 (head_has h))
    have hb : a.bed = a'.bed := by omega
    have hl : a.src = a'.src := by omega
    have n1 := (canon_cons.1 h).1
    have n2 := (canon_cons.1 h').1
    have hh : a.to = a'.to := by
      rcases Int.lt_trichotomy a.to a'.to with hlt | heq | hgt
      · exfalso
        have : Has (a' :: l') a.bed a.to := ⟨a', by simp, hb.symm, by omega, hlt⟩
        rcases has_cons.1 ((e _ _).2 this) with ⟨_, _, h3⟩ | h3
        · omega
        · exact rest_not h (Int.le_refl _) h3
      · exact heq
      · exfalso
        have : Has (a :: l) a'.bed a'.to := ⟨a, by simp, hb, by omega, hgt⟩
        rcases has_cons.1 ((e _ _).1 this) with ⟨_, _, h3⟩ | h3
        · omega
        · exact rest_not h' (Int.le_refl _) h3
    have ha : a = a' := by cases a; cases a'; simp_all
    subst ha
    rw [canon_unique (canon_cons.1 h).2.2 (canon_cons.1 h').2.2 fun b t => by rw [canon_rest h, canon_rest h', e]]
def jstep (out : List Win) (w : Win) : List Win :=
  match out.getLast? with
  | some o => if o.bed = w.bed ∧ w.src ≤ o.to then out.dropLast ++ [⟨o.bed, o.src, max o.to w.to⟩] else out ++ [w]
  | none => [w]
def LeK (a b : Win) : Prop := a.bed < b.bed ∨ a.bed = b.bed ∧ a.src ≤ b.src
theorem jstep_nil (w : Win) : jstep [] w = [w] := rfl
theorem jstep_snoc (l : List Win) (o w : Win) : jstep (l ++ [o]) w = if o.bed = w.bed ∧ w.src ≤ o.to then l ++ [⟨o.bed, o.src, max o.to w.to⟩] else l ++ [o] ++ [w] := by
  unfold jstep
  simp
theorem canon_snoc {l : List Win} {o : Win} : Canon (l ++ [o]) ↔ Canon l ∧ o.src < o.to ∧ ∀ w ∈ l, Lt w o := by
  simp only [Canon, List.pairwise_append, List.mem_append, List.mem_singleton]
  constructor
  · rintro ⟨⟨h1, h2, h3⟩, h4⟩
    exact ⟨⟨h1, fun w hw => h4 w (.inl hw)⟩, h4 o (.inr rfl), fun w hw => h3 w hw o rfl⟩
  · rintro ⟨⟨h1, h2⟩, h3, h4⟩
    refine ⟨⟨h1, by simp, fun a ha b hb => by subst hb; exact h4 a ha⟩, ?_⟩
    rintro w (h | rfl)
    · exact h2 w h
    · exact h3
theorem Lt.trans' {a b c : Win} (h : b.src < b.to) (h1 : Lt a b) (h2 : Lt b c) : Lt a c := by
  unfold Lt at *; omega
theorem snoc_cases {α : Type} : ∀ (l : List α), l = [] ∨ ∃ r o, l = r ++ [o]
  | [] => .inl rfl
  | a :: l => by
    rcases snoc_cases l with rfl | ⟨r, o, rfl⟩
    · exact .inr ⟨[], a, rfl⟩
    · exact .inr ⟨a :: r, o, rfl⟩
theorem jstep_ok {out : List Win} {w : Win} (h : Canon out) (hw : w.src < w.to) (hk : ∀ o ∈ out.getLast?, LeK o w) :
    Canon (jstep out w) ∧ (∀ b t, Has (jstep out w) b t ↔ Has out b t ∨ HasW w b t) ∧ ∃ o, (jstep out w).getLast? = some o ∧ LeK o w ∧ (o = w ∨ ∃ q ∈ out.getLast?, o.bed = q.bed ∧ o.src = q.src) := by
  rcases snoc_cases out with rfl | ⟨l, o, rfl⟩
  · rw [jstep_nil]
    refine ⟨canon_cons.2 ⟨hw, by simp, .nil⟩, fun b t => ?_, w, rfl, ?_, .inl rfl⟩
    · rw [has_one]
      exact ⟨.inr, fun h => h.resolve_left (has_nil _ _)⟩
    · exact .inr ⟨rfl, Int.le_refl _⟩
  · have ho : LeK o w := hk o (by simp)
    obtain ⟨c1, c2, c3⟩ := canon_snoc.1 h
    rw [jstep_snoc]
    split
    · rename_i hm
      refine ⟨canon_snoc.2 ⟨c1, ?_, fun x hx => ?_⟩, fun b t => ?_, ⟨o.bed, o.src, max o.to w.to⟩, by simp, ?_, .inr ⟨o, by simp, rfl, rfl⟩⟩
      · show o.src < max o.to w.to
        omega
      · have := c3 x hx
        unfold Lt at *
        exact this
      · rw [has_append, has_append, has_one, has_one, or_assoc]
        have : HasW ⟨o.bed, o.src, max o.to w.to⟩ b t ↔ HasW o b t ∨ HasW w b t := by
          unfold HasW
          unfold LeK at ho
          simp only
          omega
        rw [this]
      · unfold LeK at *
        exact ho
    · rename_i hm
      refine ⟨canon_snoc.2 ⟨h, hw, fun x hx => ?_⟩, fun b t => ?_, w, by simp, .inr ⟨rfl, Int.le_refl _⟩, .inl rfl⟩
      · have how : Lt o w := by
          unfold LeK at ho
          unfold Lt
          omega
        rcases List.mem_append.1 hx with hx | hx
        · exact (c3 x hx).trans' c2 how
        · obtain rfl := List.mem_singleton.1 hx
          exact how
      · rw [has_append, has_one]
theorem LeK.trans' {a b c : Win} (h1 : LeK a b) (h2 : LeK b c) : LeK a c := by
  unfold LeK at *; omega
theorem jfold_ok : ∀ (l out : List Win), Canon out → (∀ w ∈ l, w.src < w.to) → l.Pairwise LeK → (∀ o ∈ out.getLast?, ∀ w ∈ l, LeK o w) →
    Canon (l.foldl jstep out) ∧ ∀ b t, Has (l.foldl jstep out) b t ↔ Has out b t ∨ Has l b t
  | [], out, h, _, _, _ => ⟨h, fun b t => by simp [has_nil]⟩
  | w :: l, out, h, hw, hp, hk => by
    obtain ⟨p1, p2⟩ := List.pairwise_cons.1 hp
    obtain ⟨q1, q2, o, q3, q4, q5⟩ := jstep_ok h (hw w (by simp)) (fun o ho => hk o ho w (by simp))
    obtain ⟨r1, r2⟩ := jfold_ok l (jstep out w) q1 (fun x hx => hw x (by simp [hx])) p2 (fun x hx y hy => by
      rw [q3] at hx
      obtain rfl : o = x := by simpa using hx
      exact q4.trans' (p1 y hy))
    rw [List.foldl_cons]
    refine ⟨r1, fun b t => ?_⟩
    rw [r2, q2, has_cons, or_assoc]
theorem joined_ok {l : List Win} (hw : ∀ w ∈ l, w.src < w.to) (hp : l.Pairwise LeK) : Canon (l.foldl jstep []) ∧ ∀ b t, Has (l.foldl jstep []) b t ↔ Has l b t := by
  obtain ⟨h1, h2⟩ := jfold_ok l [] .nil hw hp (by simp)
  exact ⟨h1, fun b t => by rw [h2]; exact ⟨fun h => h.resolve_left (has_nil _ _), .inr⟩⟩
theorem has_perm {l m : List Win} (h : l.Perm m) (b t : Int) : Has l b t ↔ Has m b t := by
  unfold Has
  exact ⟨fun ⟨w, hw, e⟩ => ⟨w, h.mem_iff.1 hw, e⟩, fun ⟨w, hw, e⟩ => ⟨w, h.mem_iff.2 hw, e⟩⟩
instance (a b : Win) : Decidable (LeK a b) := inferInstanceAs (Decidable (_ ∨ _ ∧ _))
def insK (w : Win) : List Win → List Win
  | [] => [w]
  | a :: l => if LeK w a then w :: a :: l else a :: insK w l
def sortK : List Win → List Win
  | [] => []
  | w :: l => insK w (sortK l)
def joinW (l : List Win) : List Win := (sortK l).foldl jstep []
theorem insK_perm (w : Win) : ∀ l, (insK w l).Perm (w :: l)
  | [] => .refl _
  | a :: l => by
    unfold insK
    split
    · exact .refl _
    · exact ((insK_perm w l).cons a).trans (.swap w a l)
theorem sortK_perm : ∀ l, (sortK l).Perm l
  | [] => .refl _
  | w :: l => (insK_perm w (sortK l)).trans ((sortK_perm l).cons w)
theorem insK_sorted (w : Win) : ∀ l : List Win, l.Pairwise LeK → (insK w l).Pairwise LeK
  | [], _ => by simp [insK]
  | a :: l, h => by
    obtain ⟨h1, h2⟩ := List.pairwise_cons.1 h
    unfold insK
    split
    · rename_i q
      refine List.pairwise_cons.2 ⟨fun x hx => ?_, h⟩
      rcases List.mem_cons.1 hx with rfl | hx
      · exact q
      · exact q.trans' (h1 x hx)
    · rename_i q
      refine List.pairwise_cons.2 ⟨fun x hx => ?_, insK_sorted w l h2⟩
      rcases List.mem_cons.1 ((insK_perm w l).mem_iff.1 hx) with rfl | hx
      · unfold LeK at *; omega
      · exact h1 x hx
theorem sortK_sorted : ∀ l : List Win, (sortK l).Pairwise LeK
  | [] => .nil
  | w :: l => insK_sorted w _ (sortK_sorted l)
theorem joinW_ok {l : List Win} (hw : ∀ w ∈ l, w.src < w.to) : Canon (joinW l) ∧ ∀ b t, Has (joinW l) b t ↔ Has l b t := by
  obtain ⟨h1, h2⟩ := joined_ok (fun w h => hw w ((sortK_perm l).mem_iff.1 h)) (sortK_sorted l)
  exact ⟨h1, fun b t => (h2 b t).trans (has_perm (sortK_perm l) b t)⟩
theorem joined_any {l l' : List Win} (hw : ∀ w ∈ l, w.src < w.to) (hp : l'.Perm l) (hs : l'.Pairwise LeK) : l'.foldl jstep [] = joinW l := by
  obtain ⟨h1, h2⟩ := joined_ok (fun w h => hw w (hp.mem_iff.1 h)) hs
  obtain ⟨g1, g2⟩ := joinW_ok hw
  exact canon_unique h1 g1 fun b t => by rw [h2, g2, has_perm hp]
def withoutW (a b : Win) : List Win :=
  if a.bed ≠ b.bed ∨ b.to ≤ a.src ∨ a.to ≤ b.src then [a]
  else (if a.src < b.src then [⟨a.bed, a.src, b.src⟩] else []) ++ (if b.to < a.to then [⟨a.bed, b.to, a.to⟩] else [])
theorem without_has {a b : Win} (ha : a.src < a.to) (hb : b.src < b.to) (c t : Int) : Has (withoutW a b) c t ↔ HasW a c t ∧ ¬ HasW b c t := by
  unfold withoutW
  split
  · rw [has_one]; unfold HasW; omega
  · rw [has_append]
    split <;> split <;> simp only [has_one, has_nil, HasW, or_false, false_or, false_iff] <;> omega
theorem without_canon {a b : Win} (ha : a.src < a.to) (hb : b.src < b.to) : Canon (withoutW a b) ∧ ∀ w ∈ withoutW a b, w.bed = a.bed ∧ a.src ≤ w.src ∧ w.to ≤ a.to := by
  unfold withoutW
  split
  · exact ⟨canon_cons.2 ⟨ha, by simp, .nil⟩, by simp⟩
  · split <;> split
    · refine ⟨canon_cons.2 ⟨by assumption, ?_, canon_cons.2 ⟨by assumption, by simp, .nil⟩⟩, ?_⟩
      · simp [Lt]; omega
      · simp; omega
    · exact ⟨canon_cons.2 ⟨by assumption, by simp, .nil⟩, by simp; omega⟩
    · exact ⟨canon_cons.2 ⟨by assumption, by simp, .nil⟩, by simp; omega⟩
    · exact ⟨.nil, by simp⟩
def cut1 (l : List Win) (b : Win) : List Win := l.flatMap (withoutW · b)
theorem cut1_ok {b : Win} (hb : b.src < b.to) : ∀ {l : List Win}, Canon l → Canon (cut1 l b) ∧ ∀ c t, Has (cut1 l b) c t ↔ Has l c t ∧ ¬ HasW b c t
  | [], _ => ⟨.nil, fun c t => by simp [cut1, has_nil]⟩
  | a :: l, h => by
    obtain ⟨h1, h2, h3⟩ := canon_cons.1 h
    obtain ⟨i1, i2⟩ := cut1_ok hb h3
    obtain ⟨w1, w2⟩ := without_canon h1 hb
    have e : cut1 (a :: l) b = withoutW a b ++ cut1 l b := by simp [cut1]
    rw [e]
    refine ⟨⟨List.pairwise_append.2 ⟨w1.1, i1.1, fun x hx y hy => ?_⟩, fun w hw => ?_⟩, fun c t => ?_⟩
    · obtain ⟨z, hz, hy⟩ := List.mem_flatMap.1 hy
      obtain ⟨y1, y2, y3⟩ := (without_canon (h3.2 z hz) hb).2 y hy
      obtain ⟨x1, x2, x3⟩ := w2 x hx
      have := h2 z hz
      unfold Lt at *
      omega
    · rcases List.mem_append.1 hw with hw | hw
      · exact w1.2 w hw
      · exact i1.2 w hw
    · rw [has_append, i2, without_has h1 hb, has_cons, or_and_right]
theorem cuts_ok : ∀ {m l : List Win}, (∀ w ∈ m, w.src < w.to) → Canon l → Canon (m.foldl cut1 l) ∧ ∀ c t, Has (m.foldl cut1 l) c t ↔ Has l c t ∧ ¬ Has m c t
  | [], l, _, h => ⟨h, fun c t => by simp [has_nil]⟩
  | b :: m, l, hm, h => by
    obtain ⟨h1, h2⟩ := cut1_ok (hm b (by simp)) h
    obtain ⟨i1, i2⟩ := cuts_ok (m := m) (fun w hw => hm w (by simp [hw])) h1
    rw [List.foldl_cons]
    refine ⟨i1, fun c t => ?_⟩
    rw [i2, h2, has_cons, not_or, and_assoc]
def May (w : Win) : Prop := 1 ≤ w.bed ∧ w.bed ≤ 99 ∧ 0 ≤ w.src ∧ w.src < w.to ∧ w.to ≤ 1000000000
instance (w : Win) : Decidable (May w) := inferInstanceAs (Decidable (_ ∧ _ ∧ _ ∧ _ ∧ _))
def Good (l : List Win) : Prop := Canon l ∧ ∀ w ∈ l, May w
theorem May.lt {w : Win} (h : May w) : w.src < w.to := h.2.2.2.1
theorem has_may {l : List Win} (h : ∀ w ∈ l, May w) {b t : Int} (ht : Has l b t) : 1 ≤ b ∧ b ≤ 99 ∧ 0 ≤ t ∧ t < 1000000000 := by
  obtain ⟨w, hw, e1, e2, e3⟩ := ht
  have := h w hw
  unfold May at this
  omega
end Go.Proofs.Ytaooefnmdlajcaa

end
section
set_option linter.unusedVariables false
namespace Go.Proofs.Ytaooefnmdlajcaa
open Go Go.Eng Go.Proofs
def goodL (l : List Win) : Bool := decide (l.length ≤ 1000) && l.all fun w => decide (w.src < w.to)
def fJoin (l : List Win) : Option (List Win) := br (goodL l) (some (joinW l)) none
def dJoin (a : List AV) (H : Heap) : Option (List Win) := match a, H with
  | [b], [] => dslD 32 b
  | _, _ => none
noncomputable def gJoin : CallS := entT dJoin (fun l => fJoin l) (elAll _) (fun _ _ => .ret (.slf 0)) (fun _ r => [(0, some (.row 32 r))]) (fun _ _ => 1)
end Go.Proofs.Ytaooefnmdlajcaa

end
section
set_option linter.unusedVariables false
open Go Go.Eng Go.Proofs
namespace Go.Proofs.Ytaooefnmdlajcaa
set_option maxHeartbeats 0
set_option maxRecDepth 100000
noncomputable section
def plan : Plan := fun t => match t with
  | 42 => some [.any, .any, .any, .any, .any, .any, .rd 9, .rd 3, .any, .rd 89]
  | 43 => some [.any, .any, .any, .any, .any, .any, .rd 9, .rd 3, .any, .rd 89]
  | 44 => some [.any, .any, .any, .any, .any, .any, .any, .rd 9]
  | 45 => some [.any, .any, .any, .any, .any, .any, .any, .rd 9]
  | 77 => some [.any, .any, .any, .any, .any, .any, .rd 9, .rd 3, .any, .rd 89]
  | 78 => some [.any, .any, .any, .any, .any, .any, .rd 9, .rd 3, .any, .rd 89]
  | 79 => some [.any, .any, .any, .any, .any, .any, .rd 9, .rd 3, .any, .rd 89, .rd 45]
  | 80 => some [.any, .any, .any, .any, .any, .any, .rd 9, .rd 3, .any, .rd 89, .rd 45]
  | 88 => some [.any, .any, .any, .rd 9]
  | 89 => some [.any, .any, .any, .rd 9]
  | 129 => some [.any, .any, .any, .rd 9]
  | 130 => some [.any, .any, .any, .rd 9]
  | 137 => some [.any, .any, .any, .rd 9, .any]
  | 138 => some [.any, .any, .any, .rd 9, .any]
  | _ => none
def planR : Plan := fun t => match t with
  | 42 => some [.any, .any, .any, .any, .any, .any, .ro 9, .ro 3, .any, .ro 89]
  | 43 => some [.any, .any, .any, .any, .any, .any, .ro 9, .ro 3, .any, .ro 89]
  | 44 => some [.any, .any, .any, .any, .any, .any, .any, .ro 9]
  | 45 => some [.any, .any, .any, .any, .any, .any, .any, .ro 9]
  | 77 => some [.any, .any, .any, .any, .any, .any, .ro 9, .ro 3, .any, .ro 89]
  | 78 => some [.any, .any, .any, .any, .any, .any, .ro 9, .ro 3, .any, .ro 89]
  | 79 => some [.any, .any, .any, .any, .any, .any, .ro 9, .ro 3, .any, .ro 89, .ro 45]
  | 80 => some [.any, .any, .any, .any, .any, .any, .ro 9, .ro 3, .any, .ro 89, .ro 45]
  | 88 => some [.any, .any, .any, .ro 9]
  | 89 => some [.any, .any, .any, .ro 9]
  | 129 => some [.any, .any, .any, .ro 9]
  | 130 => some [.any, .any, .any, .ro 9]
  | 137 => some [.any, .any, .any, .ro 9, .any]
  | 138 => some [.any, .any, .any, .ro 9, .any]
  | _ => none
def Dl0 (k : Nat) : Delta := noΔ
def Lm0 (k : Nat) : FuncId → Nat → Option LamF := noΛ
theorem Dl0_ok (k : Nat) : DeltaOk Try.prog (Dl0 k) := noΔ_ok
theorem Lm0_ok (k : Nat) : LamsOk Try.prog (Lm0 k) := noΛ_ok
abbrev cf0 (k : Nat) : CallF := evF Try.prog (Dl0 k) (Lm0 k) 200 12
theorem cf0_ok (k : Nat) : CfOk Try.prog (cf0 k) := evF_ok noNum mixed (Dl0_ok k) (Lm0_ok k) 12
abbrev P78 := GWindow × GWindow
def A78 (p : P78) : List AV := [.agg [.int .i64 p.1.bed, .int .i64 p.1.src, .int .i64 p.1.to], .agg [.int .i64 p.2.bed, .int .i64 p.2.src, .int .i64 p.2.to]]
def d78 (a : List AV) (H : Heap) : Option P78 := match a, H with
  | [.agg [.int .i64 a0, .int .i64 a1, .int .i64 a2], .agg [.int .i64 a3, .int .i64 a4, .int .i64 a5]], [] => some ((⟨a0, a1, a2⟩ : GWindow), (⟨a3, a4, a5⟩ : GWindow))
  | _, _ => none
theorem d78_ok (a : List AV) (H : Heap) (p : P78) (h : d78 a H = some p) : a = A78 p ∧ H = [] := by
  unfold d78 at h
  split at h
  · skip
    cases h; exact ⟨rfl, rfl⟩
  · cases h
abbrev R78 := Int
def o78 (r : R78) : AEnd := .ret (.int .i64 r)
def u78 (r : R78) : Heap := []
def n78 (_ : R78) : Nat := 0
def r78 (o : AEnd) (u : Heap) (n : Nat) : Option R78 := match o, u, n with
  | .ret (.int .i64 a0), [], 0 => some (a0)
  | _, _, _ => none
theorem r78_ok (p : P78) (o : AEnd) (u : Heap) (n : Nat) (r : R78) (h : r78 o u n = some r) : o = o78 r ∧ u = u78 r ∧ n = n78 r := by
  unfold r78 at h
  split at h
  · skip
    cases h; exact ⟨rfl, rfl, rfl⟩
  · cases h
structure S79_0 where
  mk ::
  x3 : Int
  x7 : Int
  x8 : Int
  h0 : List Int
def VS79_0 (s : S79_0) : List AV := [.int .i64 s.x3, .slf 0, .int .i64 s.x7, .int .i64 s.x8]
def HS79_0 (s : S79_0) : Heap := [(0, some (.row 3 s.h0))]
def dS79_0 (vs : List AV) (H : Heap) : Option S79_0 := match vs, H with
  | [.int .i64 x3, .slf 0, .int .i64 x7, .int .i64 x8], [(0, bh0)] => (match (rowD 3 bh0 : Option (List Int)) with | some h0 => some (⟨x3, x7, x8, h0⟩ : S79_0) | none => none)
  | _, _ => none
theorem dS79_0_ok (vs : List AV) (H : Heap) (s : S79_0) (h : dS79_0 vs H = some s) : vs = VS79_0 s ∧ H = HS79_0 s := by
  unfold dS79_0 at h
  split at h
  · skip
    split at h
    · rename_i q
      have q := rowD_ok q
      subst q
      cases h; exact ⟨rfl, rfl⟩
    · cases h
  · cases h
def tS79_0 : AExit → List (Nat × Kd) := fun x => match x with
  | .normal => [(3, .any), (6, .rd 3), (7, .any), (8, .any)]
  | .exit i => (match i with | 0 => [(3, .any)] | _ => [])
  | .ret => [(2, .any)]
  | _ => []
structure E79_0 where
  mk ::
  x2 : Int
def VE79_0 (s : E79_0) : List AV := [.int .i64 s.x2]
def HE79_0 (s : E79_0) : Heap := []
def dE79_0 (x : AExit) (vs : List AV) (H : Heap) : Option E79_0 := match x, vs, H with
  | .ret, [.int .i64 x2], [] => some (⟨x2⟩ : E79_0)
  | _, _, _ => none
theorem dE79_0_ok (x : AExit) (vs : List AV) (H : Heap) (s : E79_0) (h : dE79_0 x vs H = some s) : x = .ret ∧ vs = VE79_0 s ∧ H = HE79_0 s := by
  unfold dE79_0 at h
  split at h
  · skip
    cases h; exact ⟨rfl, rfl, rfl⟩
  · cases h
structure E79_0b where
  mk ::
  x3 : Int
def VE79_0b (s : E79_0b) : List AV := [.int .i64 s.x3]
def HE79_0b (s : E79_0b) : Heap := []
def dE79_0b (x : AExit) (vs : List AV) (H : Heap) : Option E79_0b := match x, vs, H with
  | .exit 0, [.int .i64 x3], [] => some (⟨x3⟩ : E79_0b)
  | _, _, _ => none
theorem dE79_0b_ok (x : AExit) (vs : List AV) (H : Heap) (s : E79_0b) (h : dE79_0b x vs H = some s) : x = .exit 0 ∧ vs = VE79_0b s ∧ H = HE79_0b s := by
  unfold dE79_0b at h
  split at h
  · skip
    cases h; exact ⟨rfl, rfl, rfl⟩
  · cases h
abbrev EE79_0 := E79_0 ⊕ E79_0b
def xEE79_0 (e : EE79_0) : AExit := match e with | .inl _ => .ret | .inr _ => .exit 0
def VEE79_0 (e : EE79_0) : List AV := match e with | .inl s => VE79_0 s | .inr s => VE79_0b s
def HEE79_0 (e : EE79_0) : Heap := match e with | .inl s => HE79_0 s | .inr s => HE79_0b s
def dEE79_0 (x : AExit) (vs : List AV) (H : Heap) : Option EE79_0 := match dE79_0 x vs H with | some s => some (.inl s) | none => (match dE79_0b x vs H with | some s => some (.inr s) | none => none)
theorem dEE79_0_ok (x : AExit) (vs : List AV) (H : Heap) (s : EE79_0) (h : dEE79_0 x vs H = some s) : x = xEE79_0 s ∧ vs = VEE79_0 s ∧ H = HEE79_0 s := by
  unfold dEE79_0 at h
  split at h
  · rename_i q; cases h; exact dE79_0_ok _ _ _ _ q
  · split at h
    · rename_i q; cases h; exact dE79_0b_ok _ _ _ _ q
    · cases h
def pS79_0 (k : Nat) (s : S79_0) : Option (S79_0 ⊕ EE79_0) :=
  br (decide (S79_0.x8 s < S79_0.x7 s))
   (br (decide ((0 : Int) ≤ S79_0.x8 s ∧ S79_0.x8 s < (↑(List.length (S79_0.h0 s)) : Int)))
    (br (decide (Int.toNat (S79_0.x8 s) < List.length (S79_0.h0 s)))
     (br (List.getD (S79_0.h0 s) (Int.toNat (S79_0.x8 s)) (0 : Int) != S79_0.x3 s)
      (some (Sum.inr (Sum.inl (E79_0.mk (List.getD (S79_0.h0 s) (Int.toNat (S79_0.x8 s)) (0 : Int))))))
      (some (Sum.inl (S79_0.mk (S79_0.x3 s) (S79_0.x7 s) (IntKind.wrap IntKind.i64 (S79_0.x8 s + (1 : Int))) (S79_0.h0 s)))))
     (none))
    (none))
   (some (Sum.inr (Sum.inr (E79_0b.mk (S79_0.x3 s)))))
theorem pS79_0_run (k : Nat) (s : S79_0) : evC (S79_0 ⊕ EE79_0) Try.prog (ntmpsAt Try.prog 79) (cf0 k) ((Lm0 k) 79) 200 (loopAt Try.prog 79 0) (zipE [(3, .any), (6, .rd 3), (7, .any), (8, .any)] (VS79_0 s)) (HS79_0 s) (List.length (HS79_0 s)) (cutS plan 0 tS79_0 (rndT dS79_0 dEE79_0)) = pS79_0 k s := by kernel_rfl
def l79_0 (k : Nat) (s : S79_0) : Option EE79_0 := iterT (pS79_0 k) k s
def m79_0 (k : Nat) : LamS := lamT 0 dS79_0 (l79_0 k) (elSum (elAll _) (elAll _)) tS79_0 xEE79_0 VEE79_0 HEE79_0
theorem loop79_0 : isLoopAt Try.prog 79 0 = true := by kernel_rfl
theorem m79_0_ok (k : Nat) : LamSOk Try.prog (ntmpsAt Try.prog 79) 0 (.block 0 (.loop (loopAt Try.prog 79 0))) [(3, .any), (6, .rd 3), (7, .any), (8, .any)] (m79_0 k) := lamT_ok (plan := plan) (kb := 0) (body_run noNum mixed (cf0_ok k) (Lm0_ok k) loop79_0) rfl dS79_0_ok dEE79_0_ok (hel := (elSum_ok elAll_ok elAll_ok)) (pS79_0_run k) k
def Dl1 (k : Nat) : Delta := Dl0 k
def Lm1 (k : Nat) : FuncId → Nat → Option LamF := lCons 79 0 (lamBy plan [9, 10, 11, 5, 12, 13, 14, 15, 2, 16, 8] [(3, .any), (6, .rd 3), (7, .any), (8, .any)] 0 (m79_0 k)) (Lm0 k)
theorem Dl1_ok (k : Nat) : DeltaOk Try.prog (Dl1 k) := Dl0_ok k
theorem Lm1_ok (k : Nat) : LamsOk Try.prog (Lm1 k) := lCons_ok (Lm0_ok k) loop79_0 (lamBy_ok (m79_0_ok k) (by kernel_rfl))
abbrev cf1 (k : Nat) : CallF := evF Try.prog (Dl1 k) (Lm1 k) 200 12
theorem cf1_ok (k : Nat) : CfOk Try.prog (cf1 k) := evF_ok noNum mixed (Dl1_ok k) (Lm1_ok k) 12
def f78 (k : Nat) (x0 : GWindow) (x1 : GWindow) : Option R78 :=
  br (GWindow.bed x0 != GWindow.bed x0)
   (br (GWindow.bed x1 != GWindow.bed x1)
    (br (GWindow.src x0 != GWindow.src x0)
     (br (GWindow.src x1 != GWindow.src x1)
      (bindO (l79_0 k (S79_0.mk (0 : Int) (2 : Int) (0 : Int) [(0 : Int), (0 : Int)])) fun r3000 =>
       match r3000 with
       | .inl c2999 => some (E79_0.x2 c2999)
       | .inr c2999 => some (E79_0b.x3 c2999))
      (bindO (l79_0 k (S79_0.mk (0 : Int) (2 : Int) (0 : Int) [(0 : Int), (-1 : Int)])) fun r2996 =>
       match r2996 with
       | .inl c2995 => some (E79_0.x2 c2995)
       | .inr c2995 => some (E79_0b.x3 c2995)))
     (br (GWindow.src x1 != GWindow.src x1)
      (bindO (l79_0 k (S79_0.mk (0 : Int) (2 : Int) (0 : Int) [(0 : Int), (1 : Int)])) fun r2992 =>
       match r2992 with
       | .inl c2991 => some (E79_0.x2 c2991)
       | .inr c2991 => some (E79_0b.x3 c2991))
      (br (decide (GWindow.src x0 < GWindow.src x1))
       (bindO (l79_0 k (S79_0.mk (0 : Int) (2 : Int) (0 : Int) [(0 : Int), (-1 : Int)])) fun r2988 =>
        match r2988 with
        | .inl c2987 => some (E79_0.x2 c2987)
        | .inr c2987 => some (E79_0b.x3 c2987))
       (br (decide (GWindow.src x0 > GWindow.src x1))
        (bindO (l79_0 k (S79_0.mk (0 : Int) (2 : Int) (0 : Int) [(0 : Int), (1 : Int)])) fun r2984 =>
         match r2984 with
         | .inl c2983 => some (E79_0.x2 c2983)
         | .inr c2983 => some (E79_0b.x3 c2983))
        (bindO (l79_0 k (S79_0.mk (0 : Int) (2 : Int) (0 : Int) [(0 : Int), (0 : Int)])) fun r2980 =>
         match r2980 with
         | .inl c2979 => some (E79_0.x2 c2979)
         | .inr c2979 => some (E79_0b.x3 c2979))))))
    (br (GWindow.src x0 != GWindow.src x0)
     (br (GWindow.src x1 != GWindow.src x1)
      (bindO (l79_0 k (S79_0.mk (0 : Int) (2 : Int) (0 : Int) [(-1 : Int), (0 : Int)])) fun r2976 =>
       match r2976 with
       | .inl c2975 => some (E79_0.x2 c2975)
       | .inr c2975 => some (E79_0b.x3 c2975))
      (bindO (l79_0 k (S79_0.mk (0 : Int) (2 : Int) (0 : Int) [(-1 : Int), (-1 : Int)])) fun r2972 =>
       match r2972 with
       | .inl c2971 => some (E79_0.x2 c2971)
       | .inr c2971 => some (E79_0b.x3 c2971)))
     (br (GWindow.src x1 != GWindow.src x1)
      (bindO (l79_0 k (S79_0.mk (0 : Int) (2 : Int) (0 : Int) [(-1 : Int), (1 : Int)])) fun r2968 =>
       match r2968 with
       | .inl c2967 => some (E79_0.x2 c2967)
       | .inr c2967 => some (E79_0b.x3 c2967))
      (br (decide (GWindow.src x0 < GWindow.src x1))
       (bindO (l79_0 k (S79_0.mk (0 : Int) (2 : Int) (0 : Int) [(-1 : Int), (-1 : Int)])) fun r2964 =>
        match r2964 with
        | .inl c2963 => some (E79_0.x2 c2963)
        | .inr c2963 => some (E79_0b.x3 c2963))
       (br (decide (GWindow.src x0 > GWindow.src x1))
        (bindO (l79_0 k (S79_0.mk (0 : Int) (2 : Int) (0 : Int) [(-1 : Int), (1 : Int)])) fun r2960 =>
         match r2960 with
         | .inl c2959 => some (E79_0.x2 c2959)
         | .inr c2959 => some (E79_0b.x3 c2959))
        (bindO (l79_0 k (S79_0.mk (0 : Int) (2 : Int) (0 : Int) [(-1 : Int), (0 : Int)])) fun r2956 =>
         match r2956 with
         | .inl c2955 => some (E79_0.x2 c2955)
         | .inr c2955 => some (E79_0b.x3 c2955)))))))
   (br (GWindow.bed x1 != GWindow.bed x1)
    (br (GWindow.src x0 != GWindow.src x0)
     (br (GWindow.src x1 != GWindow.src x1)
      (bindO (l79_0 k (S79_0.mk (0 : Int) (2 : Int) (0 : Int) [(1 : Int), (0 : Int)])) fun r2952 =>
       match r2952 with
       | .inl c2951 => some (E79_0.x2 c2951)
       | .inr c2951 => some (E79_0b.x3 c2951))
      (bindO (l79_0 k (S79_0.mk (0 : Int) (2 : Int) (0 : Int) [(1 : Int), (-1 : Int)])) fun r2948 =>
       match r2948 with
       | .inl c2947 => some (E79_0.x2 c2947)
       | .inr c2947 => some (E79_0b.x3 c2947)))
     (br (GWindow.src x1 != GWindow.src x1)
      (bindO (l79_0 k (S79_0.mk (0 : Int) (2 : Int) (0 : Int) [(1 : Int), (1 : Int)])) fun r2944 =>
       match r2944 with
       | .inl c2943 => some (E79_0.x2 c2943)
       | .inr c2943 => some (E79_0b.x3 c2943))
      (br (decide (GWindow.src x0 < GWindow.src x1))
       (bindO (l79_0 k (S79_0.mk (0 : Int) (2 : Int) (0 : Int) [(1 : Int), (-1 : Int)])) fun r2940 =>
        match r2940 with
        | .inl c2939 => some (E79_0.x2 c2939)
        | .inr c2939 => some (E79_0b.x3 c2939))
       (br (decide (GWindow.src x0 > GWindow.src x1))
        (bindO (l79_0 k (S79_0.mk (0 : Int) (2 : Int) (0 : Int) [(1 : Int), (1 : Int)])) fun r2936 =>
         match r2936 with
         | .inl c2935 => some (E79_0.x2 c2935)
         | .inr c2935 => some (E79_0b.x3 c2935))
        (bindO (l79_0 k (S79_0.mk (0 : Int) (2 : Int) (0 : Int) [(1 : Int), (0 : Int)])) fun r2932 =>
         match r2932 with
         | .inl c2931 => some (E79_0.x2 c2931)
         | .inr c2931 => some (E79_0b.x3 c2931))))))
    (br (decide (GWindow.bed x0 < GWindow.bed x1))
     (br (GWindow.src x0 != GWindow.src x0)
      (br (GWindow.src x1 != GWindow.src x1)
       (bindO (l79_0 k (S79_0.mk (0 : Int) (2 : Int) (0 : Int) [(-1 : Int), (0 : Int)])) fun r2928 =>
        match r2928 with
        | .inl c2927 => some (E79_0.x2 c2927)
        | .inr c2927 => some (E79_0b.x3 c2927))
       (bindO (l79_0 k (S79_0.mk (0 : Int) (2 : Int) (0 : Int) [(-1 : Int), (-1 : Int)])) fun r2924 =>
        match r2924 with
        | .inl c2923 => some (E79_0.x2 c2923)
        | .inr c2923 => some (E79_0b.x3 c2923)))
      (br (GWindow.src x1 != GWindow.src x1)
       (bindO (l79_0 k (S79_0.mk (0 : Int) (2 : Int) (0 : Int) [(-1 : Int), (1 : Int)])) fun r2920 =>
        match r2920 with
        | .inl c2919 => some (E79_0.x2 c2919)
        | .inr c2919 => some (E79_0b.x3 c2919))
       (br (decide (GWindow.src x0 < GWindow.src x1))
        (bindO (l79_0 k (S79_0.mk (0 : Int) (2 : Int) (0 : Int) [(-1 : Int), (-1 : Int)])) fun r2916 =>
         match r2916 with
         | .inl c2915 => some (E79_0.x2 c2915)
         | .inr c2915 => some (E79_0b.x3 c2915))
        (br (decide (GWindow.src x0 > GWindow.src x1))
         (bindO (l79_0 k (S79_0.mk (0 : Int) (2 : Int) (0 : Int) [(-1 : Int), (1 : Int)])) fun r2912 =>
          match r2912 with
          | .inl c2911 => some (E79_0.x2 c2911)
          | .inr c2911 => some (E79_0b.x3 c2911))
         (bindO (l79_0 k (S79_0.mk (0 : Int) (2 : Int) (0 : Int) [(-1 : Int), (0 : Int)])) fun r2908 =>
          match r2908 with
          | .inl c2907 => some (E79_0.x2 c2907)
          | .inr c2907 => some (E79_0b.x3 c2907))))))
     (br (decide (GWindow.bed x0 > GWindow.bed x1))
      (br (GWindow.src x0 != GWindow.src x0)
       (br (GWindow.src x1 != GWindow.src x1)
        (bindO (l79_0 k (S79_0.mk (0 : Int) (2 : Int) (0 : Int) [(1 : Int), (0 : Int)])) fun r2904 =>
         match r2904 with
         | .inl c2903 => some (E79_0.x2 c2903)
         | .inr c2903 => some (E79_0b.x3 c2903))
        (bindO (l79_0 k (S79_0.mk (0 : Int) (2 : Int) (0 : Int) [(1 : Int), (-1 : Int)])) fun r2900 =>
         match r2900 with
         | .inl c2899 => some (E79_0.x2 c2899)
         | .inr c2899 => some (E79_0b.x3 c2899)))
       (br (GWindow.src x1 != GWindow.src x1)
        (bindO (l79_0 k (S79_0.mk (0 : Int) (2 : Int) (0 : Int) [(1 : Int), (1 : Int)])) fun r2896 =>
         match r2896 with
         | .inl c2895 => some (E79_0.x2 c2895)
         | .inr c2895 => some (E79_0b.x3 c2895))
        (br (decide (GWindow.src x0 < GWindow.src x1))
         (bindO (l79_0 k (S79_0.mk (0 : Int) (2 : Int) (0 : Int) [(1 : Int), (-1 : Int)])) fun r2892 =>
          match r2892 with
          | .inl c2891 => some (E79_0.x2 c2891)
          | .inr c2891 => some (E79_0b.x3 c2891))
         (br (decide (GWindow.src x0 > GWindow.src x1))
          (bindO (l79_0 k (S79_0.mk (0 : Int) (2 : Int) (0 : Int) [(1 : Int), (1 : Int)])) fun r2888 =>
           match r2888 with
           | .inl c2887 => some (E79_0.x2 c2887)
           | .inr c2887 => some (E79_0b.x3 c2887))
          (bindO (l79_0 k (S79_0.mk (0 : Int) (2 : Int) (0 : Int) [(1 : Int), (0 : Int)])) fun r2884 =>
           match r2884 with
           | .inl c2883 => some (E79_0.x2 c2883)
           | .inr c2883 => some (E79_0b.x3 c2883))))))
      (br (GWindow.src x0 != GWindow.src x0)
       (br (GWindow.src x1 != GWindow.src x1)
        (bindO (l79_0 k (S79_0.mk (0 : Int) (2 : Int) (0 : Int) [(0 : Int), (0 : Int)])) fun r2880 =>
         match r2880 with
         | .inl c2879 => some (E79_0.x2 c2879)
         | .inr c2879 => some (E79_0b.x3 c2879))
        (bindO (l79_0 k (S79_0.mk (0 : Int) (2 : Int) (0 : Int) [(0 : Int), (-1 : Int)])) fun r2876 =>
         match r2876 with
         | .inl c2875 => some (E79_0.x2 c2875)
         | .inr c2875 => some (E79_0b.x3 c2875)))
       (br (GWindow.src x1 != GWindow.src x1)
        (bindO (l79_0 k (S79_0.mk (0 : Int) (2 : Int) (0 : Int) [(0 : Int), (1 : Int)])) fun r2872 =>
         match r2872 with
         | .inl c2871 => some (E79_0.x2 c2871)
         | .inr c2871 => some (E79_0b.x3 c2871))
        (br (decide (GWindow.src x0 < GWindow.src x1))
         (bindO (l79_0 k (S79_0.mk (0 : Int) (2 : Int) (0 : Int) [(0 : Int), (-1 : Int)])) fun r2868 =>
          match r2868 with
          | .inl c2867 => some (E79_0.x2 c2867)
          | .inr c2867 => some (E79_0b.x3 c2867))
         (br (decide (GWindow.src x0 > GWindow.src x1))
          (bindO (l79_0 k (S79_0.mk (0 : Int) (2 : Int) (0 : Int) [(0 : Int), (1 : Int)])) fun r2864 =>
           match r2864 with
           | .inl c2863 => some (E79_0.x2 c2863)
           | .inr c2863 => some (E79_0b.x3 c2863))
          (bindO (l79_0 k (S79_0.mk (0 : Int) (2 : Int) (0 : Int) [(0 : Int), (0 : Int)])) fun r2860 =>
           match r2860 with
           | .inl c2859 => some (E79_0.x2 c2859)
           | .inr c2859 => some (E79_0b.x3 c2859)))))))))
theorem f78_run (k : Nat) (x0 : GWindow) (x1 : GWindow) : cf1 k R78 78 (A78 (x0, x1)) [] 0 (endR planR (.any) [] 0 r78) = f78 k x0 x1 := by kernel_rfl
def g78 (k : Nat) : CallS := entT d78 (fun p => f78 k p.1 p.2) (elAll _) (fun _ => o78) (fun _ => u78) (fun _ => n78)
theorem g78_ok (k : Nat) : CallSOk Try.prog 78 (g78 k) := entry_ok (Hp := fun _ => []) (oR := fun _ => o78) (uR := fun _ => u78) (nR := fun _ => n78) (cf1_ok k) d78_ok r78_ok (hel := elAll_ok) (fun p => f78_run k p.1 p.2)
def Dl2 (k : Nat) : Delta := dCons 78 (callAt plan [.any, .any] (g78 k)) (Dl1 k)
def Lm2 (k : Nat) : FuncId → Nat → Option LamF := Lm1 k
theorem Dl2_ok (k : Nat) : DeltaOk Try.prog (Dl2 k) := dCons_ok (Dl1_ok k) (g78_ok k)
theorem Lm2_ok (k : Nat) : LamsOk Try.prog (Lm2 k) := Lm1_ok k
abbrev cf2 (k : Nat) : CallF := evF Try.prog (Dl2 k) (Lm2 k) 200 12
theorem cf2_ok (k : Nat) : CfOk Try.prog (cf2 k) := evF_ok noNum mixed (Dl2_ok k) (Lm2_ok k) 12
noncomputable def fstC : Code → Code | .seq a _ => a | c => c
noncomputable def sndC : Code → Code | .seq _ b => b | c => c
noncomputable def cod39 : Code := match Try.f39.body with | some c => c | none => .skip
structure S39_0 where
  mk ::
  x11 : Int
  x12 : Int
  h0 : List GWindow
  h1 : List GWindow
def VS39_0 (s : S39_0) : List AV := [.slf 0, .slf 1, .int .i64 s.x11, .int .i64 s.x12]
def HS39_0 (s : S39_0) : Heap := [(0, some (.row 32 s.h0)), (1, some (.row 32 s.h1))]
def dS39_0 (vs : List AV) (H : Heap) : Option S39_0 := match vs, H with
  | [.slf 0, .slf 1, .int .i64 x11, .int .i64 x12], [(0, bh0), (1, bh1)] => (match (rowD 32 bh0 : Option (List GWindow)) with | some h0 => (match (rowD 32 bh1 : Option (List GWindow)) with | some h1 => some (⟨x11, x12, h0, h1⟩ : S39_0) | none => none) | none => none)
  | _, _ => none
theorem dS39_0_ok (vs : List AV) (H : Heap) (s : S39_0) (h : dS39_0 vs H = some s) : vs = VS39_0 s ∧ H = HS39_0 s := by
  unfold dS39_0 at h
  split at h
  · skip
    split at h
    · rename_i q
      have q := rowD_ok q
      subst q
      split at h
      · rename_i q
        have q := rowD_ok q
        subst q
        cases h; exact ⟨rfl, rfl⟩
      · cases h
    · cases h
  · cases h
def tS39_0 : AExit → List (Nat × Kd) := fun x => match x with
  | .normal => [(3, .own 32), (10, .rd 32), (11, .any), (12, .any)]
  | .exit i => (match i with | 0 => [(3, .own 32)] | _ => [])
  | .ret => [(2, .rd 32)]
  | _ => []
structure E39_0 where
  mk ::
  h0 : List GWindow
def VE39_0 (s : E39_0) : List AV := [.slf 0]
def HE39_0 (s : E39_0) : Heap := [(0, some (.row 32 s.h0))]
def dE39_0 (x : AExit) (vs : List AV) (H : Heap) : Option E39_0 := match x, vs, H with
  | .exit 0, [.slf 0], [(0, bh0)] => (match (rowD 32 bh0 : Option (List GWindow)) with | some h0 => some (⟨h0⟩ : E39_0) | none => none)
  | _, _, _ => none
theorem dE39_0_ok (x : AExit) (vs : List AV) (H : Heap) (s : E39_0) (h : dE39_0 x vs H = some s) : x = .exit 0 ∧ vs = VE39_0 s ∧ H = HE39_0 s := by
  unfold dE39_0 at h
  split at h
  · skip
    split at h
    · rename_i q
      have q := rowD_ok q
      subst q
      cases h; exact ⟨rfl, rfl, rfl⟩
    · cases h
  · cases h
def xE39_0 (_ : E39_0) : AExit := .exit 0
def pS39_0 (k : Nat) (s : S39_0) : Option (S39_0 ⊕ E39_0) :=
  br (decide (S39_0.x12 s < S39_0.x11 s))
   (br (decide ((0 : Int) ≤ S39_0.x12 s ∧ S39_0.x12 s < (↑(List.length (S39_0.h1 s)) : Int)))
    (br (decide (Int.toNat (S39_0.x12 s) < List.length (S39_0.h1 s)))
     (br (decide ((↑(List.length (S39_0.h0 s)) : Int) > (0 : Int)))
      (br (decide ((0 : Int) ≤ IntKind.wrap IntKind.i64 ((↑(List.length (S39_0.h0 s)) : Int) - (1 : Int)) ∧ IntKind.wrap IntKind.i64 ((↑(List.length (S39_0.h0 s)) : Int) - (1 : Int)) < (↑(List.length (S39_0.h0 s)) : Int)))
       (br (decide (Int.toNat (IntKind.wrap IntKind.i64 ((↑(List.length (S39_0.h0 s)) : Int) - (1 : Int))) < List.length (S39_0.h0 s)))
        (br (GWindow.bed (List.getD (S39_0.h0 s) (Int.toNat (IntKind.wrap IntKind.i64 ((↑(List.length (S39_0.h0 s)) : Int) - (1 : Int)))) default) == GWindow.bed (List.getD (S39_0.h1 s) (Int.toNat (S39_0.x12 s)) default))
         (br (decide ((0 : Int) ≤ IntKind.wrap IntKind.i64 ((↑(List.length (S39_0.h0 s)) : Int) - (1 : Int)) ∧ IntKind.wrap IntKind.i64 ((↑(List.length (S39_0.h0 s)) : Int) - (1 : Int)) < (↑(List.length (S39_0.h0 s)) : Int)))
          (br (decide (Int.toNat (IntKind.wrap IntKind.i64 ((↑(List.length (S39_0.h0 s)) : Int) - (1 : Int))) < List.length (S39_0.h0 s)))
           (br (decide (GWindow.src (List.getD (S39_0.h1 s) (Int.toNat (S39_0.x12 s)) default) ≤ GWindow.to (List.getD (S39_0.h0 s) (Int.toNat (IntKind.wrap IntKind.i64 ((↑(List.length (S39_0.h0 s)) : Int) - (1 : Int)))) default)))
            (br (decide ((0 : Int) ≤ IntKind.wrap IntKind.i64 ((↑(List.length (S39_0.h0 s)) : Int) - (1 : Int)) ∧ IntKind.wrap IntKind.i64 ((↑(List.length (S39_0.h0 s)) : Int) - (1 : Int)) < (↑(List.length (S39_0.h0 s)) : Int)))
             (br (decide (Int.toNat (IntKind.wrap IntKind.i64 ((↑(List.length (S39_0.h0 s)) : Int) - (1 : Int))) < List.length (S39_0.h0 s)))
              (br (decide ((0 : Int) ≤ IntKind.wrap IntKind.i64 ((↑(List.length (S39_0.h0 s)) : Int) - (1 : Int)) ∧ IntKind.wrap IntKind.i64 ((↑(List.length (S39_0.h0 s)) : Int) - (1 : Int)) < (↑(List.length (S39_0.h0 s)) : Int)))
               (br (true && decide (Int.toNat (IntKind.wrap IntKind.i64 ((↑(List.length (S39_0.h0 s)) : Int) - (1 : Int))) < List.length (S39_0.h0 s)))
                (some (Sum.inl (S39_0.mk (S39_0.x11 s) (IntKind.wrap IntKind.i64 (S39_0.x12 s + (1 : Int))) (List.set (S39_0.h0 s) (Int.toNat (IntKind.wrap IntKind.i64 ((↑(List.length (S39_0.h0 s)) : Int) - (1 : Int)))) (GWindow.mk (GWindow.bed (List.getD (S39_0.h0 s) (Int.toNat (IntKind.wrap IntKind.i64 ((↑(List.length (S39_0.h0 s)) : Int) - (1 : Int)))) default)) (GWindow.src (List.getD (S39_0.h0 s) (Int.toNat (IntKind.wrap IntKind.i64 ((↑(List.length (S39_0.h0 s)) : Int) - (1 : Int)))) default)) (Go.Eng.max2 (GWindow.to (List.getD (S39_0.h0 s) (Int.toNat (IntKind.wrap IntKind.i64 ((↑(List.length (S39_0.h0 s)) : Int) - (1 : Int)))) default)) (GWindow.to (List.getD (S39_0.h1 s) (Int.toNat (S39_0.x12 s)) default))))) (S39_0.h1 s))))
                (none))
               (none))
              (none))
             (none))
            (br (true && decide ((List.length (S39_0.h0 s) + List.length [List.getD (S39_0.h1 s) (Int.toNat (S39_0.x12 s)) default]) * (24 : Nat) ≤ (140737488355328 : Nat)))
             (some (Sum.inl (S39_0.mk (S39_0.x11 s) (IntKind.wrap IntKind.i64 (S39_0.x12 s + (1 : Int))) (S39_0.h0 s ++ [List.getD (S39_0.h1 s) (Int.toNat (S39_0.x12 s)) default]) (S39_0.h1 s))))
             (none)))
           (none))
          (none))
         (br (true && decide ((List.length (S39_0.h0 s) + List.length [List.getD (S39_0.h1 s) (Int.toNat (S39_0.x12 s)) default]) * (24 : Nat) ≤ (140737488355328 : Nat)))
          (some (Sum.inl (S39_0.mk (S39_0.x11 s) (IntKind.wrap IntKind.i64 (S39_0.x12 s + (1 : Int))) (S39_0.h0 s ++ [List.getD (S39_0.h1 s) (Int.toNat (S39_0.x12 s)) default]) (S39_0.h1 s))))
          (none)))
        (none))
       (none))
      (br (true && decide ((List.length (S39_0.h0 s) + List.length [List.getD (S39_0.h1 s) (Int.toNat (S39_0.x12 s)) default]) * (24 : Nat) ≤ (140737488355328 : Nat)))
       (some (Sum.inl (S39_0.mk (S39_0.x11 s) (IntKind.wrap IntKind.i64 (S39_0.x12 s + (1 : Int))) (S39_0.h0 s ++ [List.getD (S39_0.h1 s) (Int.toNat (S39_0.x12 s)) default]) (S39_0.h1 s))))
       (none)))
     (none))
    (none))
   (some (Sum.inr (E39_0.mk (S39_0.h0 s))))
theorem pS39_0_run (k : Nat) (s : S39_0) : evC (S39_0 ⊕ E39_0) Try.prog (ntmpsAt Try.prog 39) (cf2 k) ((Lm2 k) 39) 200 (loopAt Try.prog 39 0) (zipE [(3, .own 32), (10, .rd 32), (11, .any), (12, .any)] (VS39_0 s)) (HS39_0 s) (List.length (HS39_0 s)) (cutS plan 0 tS39_0 (rndT dS39_0 dE39_0)) = pS39_0 k s := by kernel_rfl
def l39_0 (k : Nat) (s : S39_0) : Option E39_0 := iterT (pS39_0 k) k s
def m39_0 (k : Nat) : LamS := lamT 0 dS39_0 (l39_0 k) (elAll _) tS39_0 xE39_0 VE39_0 HE39_0
theorem loop39_0 : isLoopAt Try.prog 39 0 = true := by kernel_rfl
theorem m39_0_ok (k : Nat) : LamSOk Try.prog (ntmpsAt Try.prog 39) 0 (.block 0 (.loop (loopAt Try.prog 39 0))) [(3, .own 32), (10, .rd 32), (11, .any), (12, .any)] (m39_0 k) := lamT_ok (plan := plan) (kb := 0) (body_run noNum mixed (cf2_ok k) (Lm2_ok k) loop39_0) rfl dS39_0_ok dE39_0_ok (hel := elAll_ok) (pS39_0_run k) k
def Dl3 (k : Nat) : Delta := Dl2 k
def Lm3 (k : Nat) : FuncId → Nat → Option LamF := lCons 39 0 (lamBy plan [13, 14, 15, 5, 16, 17, 6, 18, 19, 20, 21, 22, 23, 24, 25, 26, 27, 28, 29, 30, 31, 32, 33, 34, 35, 36, 37, 38, 39, 40, 41, 42, 43, 44, 45, 46, 47, 48, 49, 50, 51, 52, 53, 54, 55, 56, 57, 58, 59, 3, 60, 12] [(3, .own 32), (10, .rd 32), (11, .any), (12, .any)] 0 (m39_0 k)) (Lm2 k)
theorem Dl3_ok (k : Nat) : DeltaOk Try.prog (Dl3 k) := Dl2_ok k
theorem Lm3_ok (k : Nat) : LamsOk Try.prog (Lm3 k) := lCons_ok (Lm2_ok k) loop39_0 (lamBy_ok (m39_0_ok k) (by kernel_rfl))
abbrev cf3 (k : Nat) : CallF := evF Try.prog (Dl3 k) (Lm3 k) 200 12
theorem cf3_ok (k : Nat) : CfOk Try.prog (cf3 k) := evF_ok noNum mixed (Dl3_ok k) (Lm3_ok k) 12
def p39 (k : Nat) (l : List GWindow) : Option (List GWindow) :=
  bindO (l39_0 k (S39_0.mk (↑(List.length l) : Int) (0 : Int) [] l)) fun r3000 =>
   some (E39_0.h0 r3000)
theorem p39_run (k : Nat) (l : List GWindow) : evC (List (Den.den 32)) Try.prog (ntmpsAt Try.prog 39) (cf3 k) ((Lm3 k) 39) 200 (sndC (sndC cod39)) [(0, some (.slf 0))] [(0, some (.row 32 l))] 1 (fun x env h n => match x, canonS plan 0 [(2, .own 32)] env h n with | .ret, some ([.slf 0], [(0, b)], c) => br c (rowD 32 b) none | _, _ => none) = p39 k l := by kernel_rfl
end
end Go.Proofs.Ytaooefnmdlajcaa

end
section
namespace Go.Proofs.Ytaooefnmdlajcaa
open Go.RowKit Go.Shelf Go.Proofs
attribute [local go_sem] Oper.semAt_some
def encA (x : Win) : List Value := [.int .i64 x.bed, .int .i64 x.src, .int .i64 x.to]
def upto {α : Type} (f : Nat → α) (k : Nat) : List α := (List.range k).map f
theorem upto_succ {α : Type} (f : Nat → α) (k : Nat) : upto f (k + 1) = upto f k ++ [f k] := by simp [upto, List.range_succ]
theorem upto_length {α : Type} (f : Nat → α) (k : Nat) : (upto f k).length = k := by simp [upto]
def RowA (W : World) (b off len : Nat) (zs : List Win) : Prop := ∀ j, j < len → ∀ i, i < 3 → W.cell? ⟨b, off + j * 3 + i, none⟩ = some ((encA (zs.getD j default)).getD i (.bool false))
set_option maxRecDepth 100000 in
set_option maxHeartbeats 2000000 in
theorem values1_in (F : Fence) (n : Nat) (h7 : F.fn 113) (hro : F.round = none) (hn : 1 ≤ n) (l Bs n₀ b off len cap : Nat) (zs : List Win) (hreach : len * 24 ≤ 140737488351232) (hb : b < n₀) (J Jx : List Win → World → Prop)
    (hAb : ∀ s (W : World) (o : Obj), J s W → J s (W.alloc o))
    (hY : ∀ pre x W, J pre W → pre.length < len → YieldAt F (n - 1) Try.prog l #[.agg (encA x).toArray] W fun e W' =>
      (e = .returned (.bool true) ∧ J (pre ++ [x]) W' ∧ Below n₀ W W') ∨ (e = .returned (.bool false) ∧ Jx (pre ++ [x]) W'))
    (W : World) (hn₀ : n₀ ≤ W.heap.size) (hBs : W.cell? ⟨Bs, 0, none⟩ = some (.slice (some ⟨b, off, none⟩) len cap)) (hc : RowA W b off len zs) (h0 : J [] W) :
    CallsIn F n Try.prog 113 #[.func (.yield l) #[] #[], .pointer (some ⟨Bs, 0, none⟩)] W fun e W' => (∃ v, e = .returned v) ∧
      ((∃ ys, ys = upto (fun j => zs.getD j default) len ∧ J ys W') ∨ (∃ pre, (∃ k, k ≤ len ∧ pre = upto (fun j => zs.getD j default) k) ∧ Jx pre W')) := by
  refine callsIn_of_wp Try.func113 rfl h7 ?_ hro
  simp only [Try.ntmps113, List.size_toArray, List.length_cons, List.length_nil, Nat.reduceAdd, Nat.reduceSub, Array.replicate_succ, Array.replicate_zero, List.push_toArray, List.append_toArray, List.nil_append, List.cons_append]
  gi_wp2
  gi_loopw [7] (fun i wr => ∃ k : Nat, k ≤ len ∧ i = .int .i64 k ∧ J (upto (fun j => zs.getD j default) k) wr ∧ Below n₀ W wr)
    (fun i _ => len - (intOf i).toNat)
  case atStart => exact ⟨0, Nat.zero_le _, rfl, h0, Below.refl _ _⟩
  case round =>
    obtain ⟨k, hk, rfl, hJs, hnx⟩ := hrel
    by_cases hlt : k < len
    · obtain ⟨x, hx⟩ : ∃ x, zs.getD k default = x := ⟨_, rfl⟩
      have hn₀w : n₀ ≤ wr.heap.size := Nat.le_trans hn₀ hnx.size
      have c0 : wr.cell? ⟨b, off + k * 3, none⟩ = some (.int .i64 x.bed) := by
        have h := (hnx.cell (p := ⟨b, off + k * 3 + 0, none⟩) hb).trans (hc k hlt 0 (by omega))
        rw [hx] at h; exact h
      have c1 : wr.cell? ⟨b, off + k * 3 + 1, none⟩ = some (.int .i64 x.src) := by
        have h := (hnx.cell (p := ⟨b, off + k * 3 + 1, none⟩) hb).trans (hc k hlt 1 (by omega))
        rw [hx] at h; exact h
      have c2 : wr.cell? ⟨b, off + k * 3 + 2, none⟩ = some (.int .i64 x.to) := by
        have h := (hnx.cell (p := ⟨b, off + k * 3 + 2, none⟩) hb).trans (hc k hlt 2 (by omega))
        rw [hx] at h; exact h
      obtain ⟨fn, tmps, assign, body, hy, hR⟩ := hY _ x _ (hAb _ _ (.cells #[.int .i64 x.bed, .int .i64 x.src, .int .i64 x.to] 32) hJs) (by rw [upto_length]; exact hlt)
      simp only [encA] at hy
      have hnx2 : Below n₀ W (wr.alloc (.cells #[.int .i64 x.bed, .int .i64 x.src, .int .i64 x.to] 32)) := hnx.alloc hn₀w _
      gi_wp2
      refine hR.mono ?_
      rintro e W3 (⟨rfl, hJ3, hk3⟩ | ⟨rfl, hJx3⟩)
      ·
        gi_wp2
        go_roundw
        case rel => exact ⟨k + 1, by omega, by simp, by rw [upto_succ, hx]; exact hJ3, hnx2.trans hk3⟩
        case measure => simp [intOf]; omega
      · gi_wp2
        refine bodyPost_ret (results_none rfl _ _ _) rfl ?_
        exact ⟨⟨_, rfl⟩, .inr ⟨_, ⟨k + 1, by omega, by rw [upto_succ, hx]⟩, hJx3⟩⟩
    · obtain rfl : k = len := by omega
      gi_wp2
      go_end0
      exact ⟨⟨_, rfl⟩, .inl ⟨_, rfl, hJs⟩⟩
set_option maxRecDepth 100000 in
set_option maxHeartbeats 1000000 in
theorem values1_nil_in (F : Fence) (n : Nat) (h7 : F.fn 113) (hro : F.round = none) (l Bs : Nat) (J : List Win → World → Prop) (W : World) (A : Option Addr) (cap : Nat) (hBs : W.cell? ⟨Bs, 0, none⟩ = some (.slice A 0 cap)) (h0 : J [] W) :
    CallsIn F n Try.prog 113 #[.func (.yield l) #[] #[], .pointer (some ⟨Bs, 0, none⟩)] W fun e W' => (∃ v, e = .returned v) ∧ J [] W' := by
  refine callsIn_of_wp Try.func113 rfl h7 ?_ hro
  simp only [Try.ntmps113, List.size_toArray, List.length_cons, List.length_nil, Nat.reduceAdd, Nat.reduceSub, Array.replicate_succ, Array.replicate_zero, List.push_toArray, List.append_toArray, List.nil_append, List.cons_append]
  gi_wp2
  gi_loopw [7] (fun i wr => i = .int .i64 0 ∧ J [] wr) (fun _ _ => 0)
  case atStart => exact ⟨rfl, h0⟩
  case round =>
    obtain ⟨rfl, hJs⟩ := hrel
    gi_wp2
    go_end0
    exact ⟨⟨_, rfl⟩, hJs⟩
set_option maxHeartbeats 1000000 in
theorem values_in (F : Fence) (n : Nat) (h5 : F.fn 77) (hro : F.round = none) (a : Option Addr) (len cap : Nat) (w : World) :
    CallsIn F n Try.prog 77 #[.slice a len cap] w fun e w' => e = .returned (.func (.func 113) #[] #[.pointer (some ⟨w.heap.size, 0, none⟩)]) ∧ w' = w.alloc (.cells #[.slice a len cap] 22) := by
  refine callsIn_of_wp Try.func77 rfl h5 ?_ hro
  simp only [Try.ntmps77, List.size_toArray, List.length_cons, List.length_nil, Nat.reduceAdd, Nat.reduceSub, Array.replicate_succ, Array.replicate_zero, List.push_toArray, List.append_toArray, List.nil_append, List.cons_append]
  gi_wp2
  go_ret
  exact ⟨rfl, rfl⟩
def HoldsA (n₀ : Nat) (W : World) (sv : Value) (zs : List Win) : Prop :=
  ((∃ A cap, sv = .slice A 0 cap) ∧ zs = []) ∨ ∃ b off cap, sv = .slice (some ⟨b, off, none⟩) zs.length cap ∧ b < n₀ ∧ RowA W b off zs.length zs
theorem HoldsA.below {n₀ : Nat} {A B : World} (h : Below n₀ A B) {sv : Value} {zs : List Win} : HoldsA n₀ A sv zs → HoldsA n₀ B sv zs
  | .inl e => .inl e
  | .inr ⟨b, off, cap, e, hb, hc⟩ => .inr ⟨b, off, cap, e, hb, fun j hj i hi => (h.cell (p := ⟨b, off + j * 3 + i, none⟩) hb).trans (hc j hj i hi)⟩
theorem upto_all (zs : List Win) : upto (fun j => zs.getD j default) zs.length = zs := by
  apply List.ext_getElem
  · simp [upto]
  · intro i h1 h2
    simp [upto, h2]
theorem values_stops (F : Fence) (n : Nat) (h7 : F.fn 113) (hro : F.round = none) (hn : 1 ≤ n) (Bs n₀ : Nat) (sv : Value) (zs : List Win) (hreach : zs.length * 24 ≤ 140737488351232) (w : World) (hBs : Bs < w.heap.size) (hn₀ : n₀ ≤ w.heap.size)
    (hc : w.cell? ⟨Bs, 0, none⟩ = some sv) (hI : HoldsA n₀ w sv zs) :
    SeqStopsK F n Try.prog 113 #[.pointer (some ⟨Bs, 0, none⟩)] (fun x : Win => #[.agg (encA x).toArray]) (Below n₀) (fun ys => ys = zs) (fun _ => True) zs.length w := fun l J Jx W hW hJ _ hY h0 => by
  have hc' := (hW.cell (p := ⟨Bs, 0, none⟩) hBs).trans hc
  have hal : ∀ s (W : World) (o : Obj), J s W → J s (W.alloc o) := fun s W1 o hs => hJ s W1 _ none hs (World.grownBy_alloc W1 o none) (fun r e => by cases e)
  rcases hI.below (hW.mono hn₀) with ⟨⟨A, cap, rfl⟩, rfl⟩ | ⟨b, off, cap, rfl, hb, hcs⟩
  · exact (values1_nil_in F n h7 hro l Bs J W A cap hc' h0).mono fun e W' ⟨he, hj⟩ => ⟨he, .inl ⟨_, rfl, hj⟩⟩
  · refine (values1_in F n h7 hro hn l Bs n₀ b off zs.length cap zs hreach hb J Jx hal hY W (Nat.le_trans hn₀ hW.size) hc' hcs h0).mono ?_
    rintro e W' ⟨he, ⟨ys, rfl, hj⟩ | ⟨pre, _, hj⟩⟩
    · exact ⟨he, .inl ⟨_, upto_all zs, hj⟩⟩
    · exact ⟨he, .inr ⟨_, trivial, hj⟩⟩
end Go.Proofs.Ytaooefnmdlajcaa

end
section
namespace Go.Proofs.Ytaooefnmdlajcaa
open Go.RowKit Go.Shelf Go.Proofs
attribute [local go_sem] Oper.semAt_some
theorem info32 : (Try.prog.info? 32).map (fun i => (i.zero, i.size, i.bytes)) = some (some (.agg #[.int .i64 0, .int .i64 0, .int .i64 0]), 3, 24) := by kernel_rfl
def ApI (w0 : World) (B : Nat) (pre : List Win) (W : World) : Prop :=
  (∃ v, Boxed W B 22 v ∧ W.ownsRow w0.heap.size 32 3 v pre.length (pre.flatMap encA)) ∧ Below w0.heap.size w0 W
theorem ownsRow_ne {W : World} {base : Nat} {e : TypeId} {size : Nat} {v : Value} {k : Nat} {xs : List Value} (h : W.ownsRow base e size v k xs) {j : Nat} {o : Obj} (hj : W.heap[j]? = some o) (hno : ∀ cur, o ≠ .cells cur e (0, 0)) : some j ≠ v.ownBlock := by
  rcases h.2 with ⟨rfl, _⟩ | ⟨g, cap, cur, rfl, _, hgb, _⟩
  · simp [Value.ownBlock]
  · intro e'
    simp [Value.ownBlock] at e'
    subst e'
    rw [hj] at hgb; cases hgb; exact hno _ rfl
theorem ownsRow_cells {W : World} {base : Nat} {e : TypeId} {size : Nat} {v : Value} {k : Nat} {xs : List Value} (h : W.ownsRow base e size v k xs) {j : Nat} {o : Obj} (hj : W.heap[j]? = some o) (hno : o.isCells = false) : some j ≠ v.ownBlock := by
  rcases h.2 with ⟨rfl, _⟩ | ⟨g, cap, cur, rfl, _, hgb, _⟩
  · simp [Value.ownBlock]
  · intro e'
    simp [Value.ownBlock] at e'
    subst e'
    rw [hj] at hgb; cases hgb; cases hno
theorem ownsRow_ne2 {W : World} {base : Nat} {e : TypeId} {size : Nat} {v : Value} {k : Nat} {xs : List Value} (h : W.ownsRow base e size v k xs) {j : Nat} {l : Option (List Deferred)} (hj : W.heap[j]? = some (.deferred l)) : v.ownBlock = none ∨ v.ownBlock ≠ some j :=
  .inr fun q => ownsRow_ne h hj (fun cur e => by cases e) q.symm
theorem one_encA (x : Win) : ∀ u ∈ encA x, u.oneCell' = true := by
  intro u hu
  simp only [encA, List.mem_cons, List.not_mem_nil, or_false] at hu
  rcases hu with rfl | rfl | rfl <;> rfl
theorem cells_new (W : World) (l : List Value) (t : TypeId) : ∀ (j : Nat) (u : Value), l[j]? = some u → (W.alloc (.cells l.toArray t)).cell? ((⟨W.heap.size, 0, none⟩ : Addr).add j) = some u := by
  intro j u h
  have : (W.alloc (.cells l.toArray t)).heap[W.heap.size]? = some (.cells l.toArray t (0, 0)) := World.alloc_heap_new W _
  have e : ((⟨W.heap.size, 0, none⟩ : Addr).add j) = ⟨W.heap.size, j, none⟩ := by unfold Addr.add; simp; intro q; exact q.symm
  rw [e]
  unfold World.cell?
  dsimp only
  rw [this]
  simpa using h
theorem apI_grown {w0 : World} {B : Nat} {pre : List Win} {A A' : World} {row : Option Nat} (hB : w0.heap.size ≤ A.heap.size) (h : ApI w0 B pre A) (hg : A.grownBy A' row) (hr : ∀ r, row = some r → w0.heap.size ≤ r ∧ ∃ o : Obj, A.heap[r]? = some o ∧ o.isCells = false) : ApI w0 B pre A' := by
  obtain ⟨⟨v, hv, hrow⟩, hb⟩ := h
  refine ⟨⟨v, hv.kept hg (fun e' => ?_), hrow.kept hg ?_⟩, hb.grown hg hB fun k e => (hr k e).1⟩
  · obtain ⟨_, o, ho, hc⟩ := hr B e'.symm
    rw [show A.heap[B]? = _ from hv] at ho; cases ho; cases hc
  · cases hrw : row with
    | none => cases v.ownBlock <;> simp
    | some r =>
      obtain ⟨_, o, ho, hc⟩ := hr r hrw
      exact .inr fun e => ownsRow_cells hrow ho hc e.symm
set_option maxRecDepth 100000 in
set_option maxHeartbeats 4000000 in
theorem appendSeq_in (F : Fence) (n : Nat) (h38 : F.fn 124) (hro : F.round = none) (hn : 3 ≤ n) (g : Nat) (lb : Array Value) (hFg : F.fn g) (eg : ∀ args w, (callFunc g args).run Try.prog w = .ok (.enter g args) w)
    (zs : List Win) (hN : zs.length ≤ 1000000) (w : World) (n₀ : Nat) (hn₀ : n₀ ≤ w.heap.size) (hseq : SeqStopsK F (n - 1) Try.prog g lb (fun x : Win => #[.agg (encA x).toArray]) (Below n₀) (fun ys => ys = zs) (fun _ => True) zs.length w) :
    CallsIn F n Try.prog 124 #[.slice none 0 0, .func (.func g) #[] lb] w fun e w' => ∃ v : Value, e = .returned v ∧ w'.ownsRow w.heap.size 32 3 v zs.length (zs.flatMap encA) ∧ Below w.heap.size w w' := by
  have h1 : 1 ≤ n := by omega
  obtain ⟨i0, hi, hz0, hz1, hz2⟩ := info_parts info32
  refine callsIn_of_wp_marks Try.func124 rfl h38 ?_ hro
  simp only [Try.ntmps124, List.size_toArray, List.length_cons, List.length_nil, Nat.reduceAdd, Nat.reduceSub, Array.replicate_succ, Array.replicate_zero, List.push_toArray, List.append_toArray, List.nil_append, List.cons_append]
  gi_wp2
  have hb0 : Below w.heap.size w (w.alloc (.cells #[.slice none 0 0] 22)) := (Below.refl _ w).alloc (Nat.le_refl _) _
  refine wpIn_rangeFunc_ownH hro h1 (gf := g) (lb := lb) rfl hFg eg hseq belowK_t (belowK_b (by simp; omega)) hb0 (fun _ => rfl)
    (ApI w w.heap.size) (fun _ _ _ => False) ?own (fun _ _ _ _ _ hs _ _ => hs) ?start
    (fun x a' W => ∃ t, a' = { tmps := #[.slice none 0 0, .func (.func g) #[] lb, .pointer (some ⟨w.heap.size, 0, none⟩), undef, .slice none 0 0, .pointer (some ⟨t, 0, none⟩), .func (.func g) #[] lb, .agg (encA x).toArray, undef, undef, undef, undef, undef], defers := [] } ∧ W.heap[t]? = some (.cells (encA x).toArray 32 (0, 0)) ∧ w.heap.size < t)
    ?ax ?assign ?body ?done ?stop
  case own =>
    intro pre A B row hs hg hr
    refine apI_grown hs.2.size hs hg fun r e => ?_
    obtain ⟨h1, h2⟩ := hr r e
    exact ⟨by simp at h1; omega, h2⟩
  case start => exact ⟨⟨_, Boxed.new w 22 _, ⟨rfl, .inl ⟨rfl, rfl⟩⟩⟩, hb0⟩
  case ax =>
    rintro x a' _ A B row ⟨t, ha, ht, htw⟩ hg hr
    refine ⟨t, ha, (hg.block t (Array.getElem?_eq_some_iff.1 ht).1 (fun e => ?_)).trans ht, htw⟩
    obtain ⟨_, o, ho, hc⟩ := hr t e.symm
    rw [ht] at ho; cases ho; cases hc
  case assign =>
    intro l pre x W K hI hK
    simp only [encA]
    gi_wp2
    have hsz : w.heap.size < W.heap.size := hI.1.choose_spec.1.lt
    refine hK _ _ ((KeepsOthers.alloc _ _).from _) ((Below.refl _ _).alloc (by have := hI.2.size; omega) _) (apI_grown hI.2.size hI (World.grownBy_alloc W _ none) (fun r e => by cases e)) ⟨W.heap.size, rfl, World.alloc_heap_new W _, hsz⟩
  case body =>
    rintro l pre x a' W hl ⟨r, hr⟩ ⟨⟨v, hv, hrow⟩, hB⟩ ⟨t, rfl, ht, htw⟩ hlen
    have hBs : W.cell? ⟨w.heap.size, 0, none⟩ = some v := hv.cell
    have hBf := hv.frozen
    simp only [encA] at ht ⊢
    have c0 : W.cell? ⟨t, 0, none⟩ = some (.int .i64 x.bed) := by simp [World.cell?, ht]
    have c1 : W.cell? ⟨t, 1, none⟩ = some (.int .i64 x.src) := by simp [World.cell?, ht]
    have c2 : W.cell? ⟨t, 2, none⟩ = some (.int .i64 x.to) := by simp [World.cell?, ht]
    have hne0 : some w.heap.size ≠ v.ownBlock := ownsRow_ne hrow (show W.heap[w.heap.size]? = _ from hv) (fun cur e => by cases e)
    have hsz : w.heap.size < W.heap.size := hv.lt
    gi_wp2_with (
      gi_at_builtin
      refine wpListIn_append_own _ rfl _ _ 22 rfl w.heap.size 32 i0 _ 3 24 Try.underlying22 hi hz0 hz1 hz2 rfl (by decide) _ _ _ rfl (hrow.alloc _) ⟨W.heap.size, 0, none⟩ 1 1 (encA x) rfl rfl (cells_new _ _ _) (one_encA x) (by unfold maxLen; omega) (by omega) (by simp; omega) ?_
      intro v' w3 hown' hg3 hnil3
      obtain ⟨g', cap', cur', rfl, hbase', hgb', hr1, hr2, hr3, hr4⟩ : ∃ g' cap' cur', v' = .slice (some ⟨g', 0, none⟩) (pre.length + 1) cap' ∧ w.heap.size ≤ g' ∧ w3.heap[g']? = some (.cells cur' 32 (0, 0)) ∧ pre.length + 1 ≤ cap' ∧ cap' ≤ maxLen ∧ cur'.size = cap' * 3 ∧ cur'.toList.take ((pre.length + 1) * 3) = pre.flatMap encA ++ encA x := by
        rcases hown'.2 with ⟨_, h0⟩ | h'
        · exact absurd h0 (by omega)
        · exact h'
      have hv3 : Boxed w3 w.heap.size 22 v := (hv.alloc _).kept hg3 hne0
      have hc3 := hv3.cell
      have hf3 := hv3.frozen
      go_frame)
    have hg3' : (W.alloc (.cells (encA x).toArray 32)).grownBy w3 v.ownBlock := hg3
    have hneg : v.ownBlock = none ∨ v.ownBlock ≠ some w.heap.size := .inr fun e => hne0 e.symm
    have hcells : ∀ (j : Nat) (o : Obj), v.ownBlock = some j → (W.alloc (.cells (encA x).toArray 32)).heap[j]? = some o → o.isCells = true := by
      intro j o e ho
      rcases (hrow.alloc (.cells (encA x).toArray 32)).2 with ⟨rfl, _⟩ | ⟨g, cap, cur, rfl, _, hgb, _⟩
      · simp [Value.ownBlock] at e
      · have : g = j := by simpa [Value.ownBlock] using e
        subst this; rw [hgb] at ho; cases ho; rfl
    have hne3 : some w.heap.size ≠ some g' := by
      have := ownsRow_ne hown' (show w3.heap[w.heap.size]? = _ from hv3) (fun cur e => by cases e)
      simpa [Value.ownBlock] using this
    have hk : KeepsOthers W (w3.setCell ⟨w.heap.size, 0, none⟩ (.slice (some ⟨g', 0, none⟩) (pre.length + 1) cap')) := ((KeepsOthers.alloc W _).trans (KeepsOthers.of_grownBy hg3' hcells)).trans (KeepsOthers.setCell _ _ _)
    have hbel : ∀ m, m ≤ w.heap.size → Below m W (w3.setCell ⟨w.heap.size, 0, none⟩ (.slice (some ⟨g', 0, none⟩) (pre.length + 1) cap')) := fun m hm =>
      ((((Below.refl m W).alloc (by omega) (.cells (encA x).toArray 32)).grown hg3' (by simp; omega) (fun k e => Nat.le_trans hm (hrow.lt k e).1))).setCell (p := ⟨w.heap.size, 0, none⟩) hm _
    refine ⟨hk.from _, hbel _ hn₀, ⟨⟨_, hv3.set _, ?_⟩, hB.trans (hbel _ (Nat.le_refl _))⟩⟩
    have h4 := hown'.kept (grownBy_setCell' w3 w.heap.size (.slice (some ⟨g', 0, none⟩) (pre.length + 1) cap')) (.inr fun e => hne3 (by rw [← e]; rfl))
    rw [List.length_append, List.flatMap_append, List.flatMap_singleton]
    exact h4
  case done =>
    rintro D ys W hD rfl ⟨⟨v, hv, hrow⟩, hB⟩ hK
    have hBs : W.cell? ⟨w.heap.size, 0, none⟩ = some v := hv.cell
    gi_wp2
    refine ⟨by simp, .inl ⟨_, _, rfl, run_takeDeferred hK, ?_⟩⟩
    exact ⟨_, results_tmp rfl _ _ _, v, rfl, hrow.kept (grownBy_putObj' W D _) (ownsRow_ne2 hrow hK), hB.trans (belowK_b (w := w) (Nat.le_refl _) W D _ _ (by simp at hD; omega) hK rfl rfl)⟩
  case stop =>
    rintro D c pre W _ _ h _
    exact h.elim
set_option maxHeartbeats 1000000 in
theorem collect_in (F : Fence) (n : Nat) (h30 : F.fn 111) (h38 : F.fn 124) (hro : F.round = none) (hn : 4 ≤ n) (g : Nat) (lb : Array Value) (hFg : F.fn g) (eg : ∀ args w, (callFunc g args).run Try.prog w = .ok (.enter g args) w)
    (zs : List Win) (hN : zs.length ≤ 1000000) (w : World) (n₀ : Nat) (hn₀ : n₀ ≤ w.heap.size) (hseq : SeqStopsK F (n - 1 - 1) Try.prog g lb (fun x : Win => #[.agg (encA x).toArray]) (Below n₀) (fun ys => ys = zs) (fun _ => True) zs.length w) :
    CallsIn F n Try.prog 111 #[.func (.func g) #[] lb] w fun e w' => ∃ v : Value, e = .returned v ∧ w'.ownsRow w.heap.size 32 3 v zs.length (zs.flatMap encA) ∧ Below w.heap.size w w' := by
  have h1 : 1 ≤ n := by omega
  refine callsIn_of_wp Try.func111 rfl h30 ?_ hro
  simp only [Try.ntmps111, List.size_toArray, List.length_cons, List.length_nil, Nat.reduceAdd, Nat.reduceSub, Array.replicate_succ, Array.replicate_zero, List.push_toArray, List.append_toArray, List.nil_append, List.cons_append]
  gi_wp2_with (
    gi_at_call 124
    refine (appendSeq_in F (n - 1) h38 hro (by omega) g lb hFg eg zs hN _ n₀ hn₀ hseq).mono ?_
    rintro e w' ⟨v, rfl, hrow, hb⟩)
  go_ret
  exact ⟨v, rfl, hrow, hb⟩
end Go.Proofs.Ytaooefnmdlajcaa

end
section
namespace Go.Proofs.Ytaooefnmdlajcaa
open Go.Proofs Go.Shelf
def sortA_ren : Go.Shelf.Ren := ⟨fun | 6 => 112 | 15 => 126 | 14 => 125 | 28 => 140 | 29 => 141 | 20 => 132 | 21 => 133 | 22 => 134 | 23 => 135 | 24 => 136 | 25 => 137 | 26 => 138 | 27 => 139 | 46 => 153 | 47 => 154 | 48 => 155 | 49 => 156 | 50 => 157 | 57 => 161 | n => n, fun | 22 => 22 | 24 => 32 | 25 => 100 | 3 => 3 | 39 => 143 | 0 => 0 | 53 => 156 | 55 => 158 | 4 => 4 | 46 => 150 | 45 => 149 | 50 => 28 | 5 => 5 | 9 => 9 | 66 => 164 | 70 => 168 | 76 => 172 | 77 => 173 | n => n, fun | n => n⟩
theorem sortA : Go.Proofs.SlLaysF0.n6 Try.prog sortA_ren := {
  mixed := by kernel_rfl,
  f6 := ⟨Try.f112.name, by decide, Try.func112.trans (congrArg some (by kernel_rfl))⟩,
  f14 := ⟨Try.f125.name, by decide, Try.func125.trans (congrArg some (by kernel_rfl))⟩,
  f15 := Try.func126.trans (congrArg some (by kernel_rfl)),
  f20 := ⟨Try.f132.name, by decide, Try.func132.trans (congrArg some (by kernel_rfl))⟩,
  f21 := ⟨Try.f133.name, by decide, Try.func133.trans (congrArg some (by kernel_rfl))⟩,
  f22 := ⟨Try.f134.name, by decide, Try.func134.trans (congrArg some (by kernel_rfl))⟩,
  f23 := ⟨Try.f135.name, by decide, Try.func135.trans (congrArg some (by kernel_rfl))⟩,
  f24 := ⟨Try.f136.name, by decide, Try.func136.trans (congrArg some (by kernel_rfl))⟩,
  f25 := ⟨Try.f137.name, by decide, Try.func137.trans (congrArg some (by kernel_rfl))⟩,
  f26 := ⟨Try.f138.name, by decide, Try.func138.trans (congrArg some (by kernel_rfl))⟩,
  f27 := ⟨Try.f139.name, by decide, Try.func139.trans (congrArg some (by kernel_rfl))⟩,
  f28 := Try.func140.trans (congrArg some (by kernel_rfl)),
  f29 := Try.func141.trans (congrArg some (by kernel_rfl)),
  f46 := ⟨Try.f153.name, by decide, Try.func153.trans (congrArg some (by kernel_rfl))⟩,
  f47 := Try.func154.trans (congrArg some (by kernel_rfl)),
  f48 := Try.func155.trans (congrArg some (by kernel_rfl)),
  f49 := ⟨Try.f156.name, by decide, Try.func156.trans (congrArg some (by kernel_rfl))⟩,
  f50 := ⟨Try.f157.name, by decide, Try.func157.trans (congrArg some (by kernel_rfl))⟩,
  f57 := ⟨Try.f161.name, by decide, Try.func161.trans (congrArg some (by kernel_rfl))⟩,
  t0 := Try.underlying0,
  a0 := Try.isAgg0,
  z0 := Try.sizeOf0,
  v0 := Try.zeroValue0,
  t3 := Try.underlying3,
  a3 := Try.isAgg3,
  z3 := Try.sizeOf3,
  v3 := Try.zeroValue3,
  t4 := Try.underlying4,
  a4 := Try.isAgg4,
  z4 := Try.sizeOf4,
  v4 := Try.zeroValue4,
  t5 := Try.underlying5,
  a5 := Try.isAgg5,
  z5 := Try.sizeOf5,
  v5 := Try.zeroValue5,
  t9 := Try.underlying9,
  a9 := Try.isAgg9,
  z9 := Try.sizeOf9,
  v9 := Try.zeroValue9,
  t22 := Try.underlying22,
  a22 := Try.isAgg22,
  z22 := Try.sizeOf22,
  v22 := Try.zeroValue22,
  t25 := Try.underlying100,
  a25 := Try.isAgg100,
  z25 := Try.sizeOf100,
  v25 := Try.zeroValue100,
  t39 := Try.underlying143,
  a39 := Try.isAgg143,
  z39 := Try.sizeOf143,
  v39 := Try.zeroValue143,
  t45 := Try.underlying149,
  a45 := Try.isAgg149,
  z45 := Try.sizeOf149,
  v45 := Try.zeroValue149,
  t46 := Try.underlying150,
  a46 := Try.isAgg150,
  z46 := Try.sizeOf150,
  v46 := Try.zeroValue150,
  t50 := Try.underlying28,
  a50 := Try.isAgg28,
  z50 := Try.sizeOf28,
  v50 := Try.zeroValue28,
  t53 := Try.underlying156,
  a53 := Try.isAgg156,
  z53 := Try.sizeOf156,
  v53 := Try.zeroValue156,
  t55 := Try.underlying158,
  a55 := Try.isAgg158,
  z55 := Try.sizeOf158,
  v55 := Try.zeroValue158,
  t66 := Try.underlying164,
  a66 := Try.isAgg164,
  z66 := Try.sizeOf164,
  v66 := Try.zeroValue164,
  t70 := Try.underlying168,
  a70 := Try.isAgg168,
  z70 := Try.sizeOf168,
  v70 := Try.zeroValue168,
  t76 := Try.underlying172,
  a76 := Try.isAgg172,
  z76 := Try.sizeOf172,
  v76 := Try.zeroValue172,
  t77 := Try.underlying173,
  a77 := Try.isAgg173,
  z77 := Try.sizeOf173,
  v77 := Try.zeroValue173 }
end Go.Proofs.Ytaooefnmdlajcaa

end
section
namespace Go.Proofs.Ytaooefnmdlajcaa
open Go.Eng Go.Proofs
@[reducible] def Ud : Univ := Univ.of D enc
end Go.Proofs.Ytaooefnmdlajcaa

end
section
set_option linter.unusedVariables false
open Go Go.Eng Go.Proofs
namespace Go.Proofs.Ytaooefnmdlajcaa.D78
attribute [local instance] Ud
set_option maxHeartbeats 0
set_option maxRecDepth 100000
noncomputable section
def plan : Plan := fun t => match t with
  | 42 => some [.any, .any, .any, .any, .any, .any, .rd 9, .rd 3, .any, .rd 89]
  | 43 => some [.any, .any, .any, .any, .any, .any, .rd 9, .rd 3, .any, .rd 89]
  | 44 => some [.any, .any, .any, .any, .any, .any, .any, .rd 9]
  | 45 => some [.any, .any, .any, .any, .any, .any, .any, .rd 9]
  | 77 => some [.any, .any, .any, .any, .any, .any, .rd 9, .rd 3, .any, .rd 89]
  | 78 => some [.any, .any, .any, .any, .any, .any, .rd 9, .rd 3, .any, .rd 89]
  | 79 => some [.any, .any, .any, .any, .any, .any, .rd 9, .rd 3, .any, .rd 89, .rd 45]
  | 80 => some [.any, .any, .any, .any, .any, .any, .rd 9, .rd 3, .any, .rd 89, .rd 45]
  | 88 => some [.any, .any, .any, .rd 9]
  | 89 => some [.any, .any, .any, .rd 9]
  | 129 => some [.any, .any, .any, .rd 9]
  | 130 => some [.any, .any, .any, .rd 9]
  | 137 => some [.any, .any, .any, .rd 9, .any]
  | 138 => some [.any, .any, .any, .rd 9, .any]
  | _ => none
def planR : Plan := fun t => match t with
  | 42 => some [.any, .any, .any, .any, .any, .any, .ro 9, .ro 3, .any, .ro 89]
  | 43 => some [.any, .any, .any, .any, .any, .any, .ro 9, .ro 3, .any, .ro 89]
  | 44 => some [.any, .any, .any, .any, .any, .any, .any, .ro 9]
  | 45 => some [.any, .any, .any, .any, .any, .any, .any, .ro 9]
  | 77 => some [.any, .any, .any, .any, .any, .any, .ro 9, .ro 3, .any, .ro 89]
  | 78 => some [.any, .any, .any, .any, .any, .any, .ro 9, .ro 3, .any, .ro 89]
  | 79 => some [.any, .any, .any, .any, .any, .any, .ro 9, .ro 3, .any, .ro 89, .ro 45]
  | 80 => some [.any, .any, .any, .any, .any, .any, .ro 9, .ro 3, .any, .ro 89, .ro 45]
  | 88 => some [.any, .any, .any, .ro 9]
  | 89 => some [.any, .any, .any, .ro 9]
  | 129 => some [.any, .any, .any, .ro 9]
  | 130 => some [.any, .any, .any, .ro 9]
  | 137 => some [.any, .any, .any, .ro 9, .any]
  | 138 => some [.any, .any, .any, .ro 9, .any]
  | _ => none
def Dl0 (k : Nat) : Delta := noΔ
def Lm0 (k : Nat) : FuncId → Nat → Option LamF := noΛ
theorem Dl0_ok (k : Nat) : DeltaOk Try.prog (Dl0 k) := noΔ_ok
theorem Lm0_ok (k : Nat) : LamsOk Try.prog (Lm0 k) := noΛ_ok
abbrev cf0 (k : Nat) : CallF := evF Try.prog (Dl0 k) (Lm0 k) 200 12
theorem cf0_ok (k : Nat) : CfOk Try.prog (cf0 k) := evF_ok noNum mixed (Dl0_ok k) (Lm0_ok k) 12
abbrev P78 := GWindow × GWindow
def A78 (p : P78) : List AV := [.agg [.int .i64 p.1.bed, .int .i64 p.1.src, .int .i64 p.1.to], .agg [.int .i64 p.2.bed, .int .i64 p.2.src, .int .i64 p.2.to]]
def d78 (a : List AV) (H : Heap) : Option P78 := match a, H with
  | [.agg [.int .i64 a0, .int .i64 a1, .int .i64 a2], .agg [.int .i64 a3, .int .i64 a4, .int .i64 a5]], [] => some ((⟨a0, a1, a2⟩ : GWindow), (⟨a3, a4, a5⟩ : GWindow))
  | _, _ => none
theorem d78_ok (a : List AV) (H : Heap) (p : P78) (h : d78 a H = some p) : a = A78 p ∧ H = [] := by
  unfold d78 at h
  split at h
  · skip
    cases h; exact ⟨rfl, rfl⟩
  · cases h
abbrev R78 := Int
def o78 (r : R78) : AEnd := .ret (.int .i64 r)
def u78 (r : R78) : Heap := []
def n78 (_ : R78) : Nat := 0
def r78 (o : AEnd) (u : Heap) (n : Nat) : Option R78 := match o, u, n with
  | .ret (.int .i64 a0), [], 0 => some (a0)
  | _, _, _ => none
theorem r78_ok (p : P78) (o : AEnd) (u : Heap) (n : Nat) (r : R78) (h : r78 o u n = some r) : o = o78 r ∧ u = u78 r ∧ n = n78 r := by
  unfold r78 at h
  split at h
  · skip
    cases h; exact ⟨rfl, rfl, rfl⟩
  · cases h
structure S79_0 where
  mk ::
  x3 : Int
  x7 : Int
  x8 : Int
  h0 : List Int
def VS79_0 (s : S79_0) : List AV := [.int .i64 s.x3, .slf 0, .int .i64 s.x7, .int .i64 s.x8]
def HS79_0 (s : S79_0) : Heap := [(0, some (.row 3 s.h0))]
def dS79_0 (vs : List AV) (H : Heap) : Option S79_0 := match vs, H with
  | [.int .i64 x3, .slf 0, .int .i64 x7, .int .i64 x8], [(0, bh0)] => (match (rowD 3 bh0 : Option (List Int)) with | some h0 => some (⟨x3, x7, x8, h0⟩ : S79_0) | none => none)
  | _, _ => none
theorem dS79_0_ok (vs : List AV) (H : Heap) (s : S79_0) (h : dS79_0 vs H = some s) : vs = VS79_0 s ∧ H = HS79_0 s := by
  unfold dS79_0 at h
  split at h
  · skip
    split at h
    · rename_i q
      have q := rowD_ok q
      subst q
      cases h; exact ⟨rfl, rfl⟩
    · cases h
  · cases h
def tS79_0 : AExit → List (Nat × Kd) := fun x => match x with
  | .normal => [(3, .any), (6, .rd 3), (7, .any), (8, .any)]
  | .exit i => (match i with | 0 => [(3, .any)] | _ => [])
  | .ret => [(2, .any)]
  | _ => []
structure E79_0 where
  mk ::
  x2 : Int
def VE79_0 (s : E79_0) : List AV := [.int .i64 s.x2]
def HE79_0 (s : E79_0) : Heap := []
def dE79_0 (x : AExit) (vs : List AV) (H : Heap) : Option E79_0 := match x, vs, H with
  | .ret, [.int .i64 x2], [] => some (⟨x2⟩ : E79_0)
  | _, _, _ => none
theorem dE79_0_ok (x : AExit) (vs : List AV) (H : Heap) (s : E79_0) (h : dE79_0 x vs H = some s) : x = .ret ∧ vs = VE79_0 s ∧ H = HE79_0 s := by
  unfold dE79_0 at h
  split at h
  · skip
    cases h; exact ⟨rfl, rfl, rfl⟩
  · cases h
structure E79_0b where
  mk ::
  x3 : Int
def VE79_0b (s : E79_0b) : List AV := [.int .i64 s.x3]
def HE79_0b (s : E79_0b) : Heap := []
def dE79_0b (x : AExit) (vs : List AV) (H : Heap) : Option E79_0b := match x, vs, H with
  | .exit 0, [.int .i64 x3], [] => some (⟨x3⟩ : E79_0b)
  | _, _, _ => none
theorem dE79_0b_ok (x : AExit) (vs : List AV) (H : Heap) (s : E79_0b) (h : dE79_0b x vs H = some s) : x = .exit 0 ∧ vs = VE79_0b s ∧ H = HE79_0b s := by
  unfold dE79_0b at h
  split at h
  · skip
    cases h; exact ⟨rfl, rfl, rfl⟩
  · cases h
abbrev EE79_0 := E79_0 ⊕ E79_0b
def xEE79_0 (e : EE79_0) : AExit := match e with | .inl _ => .ret | .inr _ => .exit 0
def VEE79_0 (e : EE79_0) : List AV := match e with | .inl s => VE79_0 s | .inr s => VE79_0b s
def HEE79_0 (e : EE79_0) : Heap := match e with | .inl s => HE79_0 s | .inr s => HE79_0b s
def dEE79_0 (x : AExit) (vs : List AV) (H : Heap) : Option EE79_0 := match dE79_0 x vs H with | some s => some (.inl s) | none => (match dE79_0b x vs H with | some s => some (.inr s) | none => none)
theorem dEE79_0_ok (x : AExit) (vs : List AV) (H : Heap) (s : EE79_0) (h : dEE79_0 x vs H = some s) : x = xEE79_0 s ∧ vs = VEE79_0 s ∧ H = HEE79_0 s := by
  unfold dEE79_0 at h
  split at h
  · rename_i q; cases h; exact dE79_0_ok _ _ _ _ q
  · split at h
    · rename_i q; cases h; exact dE79_0b_ok _ _ _ _ q
    · cases h
def pS79_0 (k : Nat) (s : S79_0) : Option (S79_0 ⊕ EE79_0) :=
  br (decide (S79_0.x8 s < S79_0.x7 s))
   (br (decide ((0 : Int) ≤ S79_0.x8 s ∧ S79_0.x8 s < (↑(List.length (S79_0.h0 s)) : Int)))
    (br (decide (Int.toNat (S79_0.x8 s) < List.length (S79_0.h0 s)))
     (br (List.getD (S79_0.h0 s) (Int.toNat (S79_0.x8 s)) (0 : Int) != S79_0.x3 s)
      (some (Sum.inr (Sum.inl (E79_0.mk (List.getD (S79_0.h0 s) (Int.toNat (S79_0.x8 s)) (0 : Int))))))
      (some (Sum.inl (S79_0.mk (S79_0.x3 s) (S79_0.x7 s) (IntKind.wrap IntKind.i64 (S79_0.x8 s + (1 : Int))) (S79_0.h0 s)))))
     (none))
    (none))
   (some (Sum.inr (Sum.inr (E79_0b.mk (S79_0.x3 s)))))
theorem pS79_0_run (k : Nat) (s : S79_0) : evC (S79_0 ⊕ EE79_0) Try.prog (ntmpsAt Try.prog 79) (cf0 k) ((Lm0 k) 79) 200 (loopAt Try.prog 79 0) (zipE [(3, .any), (6, .rd 3), (7, .any), (8, .any)] (VS79_0 s)) (HS79_0 s) (List.length (HS79_0 s)) (cutS plan 0 tS79_0 (rndT dS79_0 dEE79_0)) = pS79_0 k s := by kernel_rfl
def l79_0 (k : Nat) (s : S79_0) : Option EE79_0 := iterT (pS79_0 k) k s
def m79_0 (k : Nat) : LamS := lamT 0 dS79_0 (l79_0 k) (elSum (elAll _) (elAll _)) tS79_0 xEE79_0 VEE79_0 HEE79_0
theorem loop79_0 : isLoopAt Try.prog 79 0 = true := by kernel_rfl
theorem m79_0_ok (k : Nat) : LamSOk Try.prog (ntmpsAt Try.prog 79) 0 (.block 0 (.loop (loopAt Try.prog 79 0))) [(3, .any), (6, .rd 3), (7, .any), (8, .any)] (m79_0 k) := lamT_ok (plan := plan) (kb := 0) (body_run noNum mixed (cf0_ok k) (Lm0_ok k) loop79_0) rfl dS79_0_ok dEE79_0_ok (hel := (elSum_ok elAll_ok elAll_ok)) (pS79_0_run k) k
def Dl1 (k : Nat) : Delta := Dl0 k
def Lm1 (k : Nat) : FuncId → Nat → Option LamF := lCons 79 0 (lamBy plan [9, 10, 11, 5, 12, 13, 14, 15, 2, 16, 8] [(3, .any), (6, .rd 3), (7, .any), (8, .any)] 0 (m79_0 k)) (Lm0 k)
theorem Dl1_ok (k : Nat) : DeltaOk Try.prog (Dl1 k) := Dl0_ok k
theorem Lm1_ok (k : Nat) : LamsOk Try.prog (Lm1 k) := lCons_ok (Lm0_ok k) loop79_0 (lamBy_ok (m79_0_ok k) (by kernel_rfl))
abbrev cf1 (k : Nat) : CallF := evF Try.prog (Dl1 k) (Lm1 k) 200 12
theorem cf1_ok (k : Nat) : CfOk Try.prog (cf1 k) := evF_ok noNum mixed (Dl1_ok k) (Lm1_ok k) 12
def f78 (k : Nat) (x0 : GWindow) (x1 : GWindow) : Option R78 :=
  br (GWindow.bed x0 != GWindow.bed x0)
   (br (GWindow.bed x1 != GWindow.bed x1)
    (br (GWindow.src x0 != GWindow.src x0)
     (br (GWindow.src x1 != GWindow.src x1)
      (bindO (l79_0 k (S79_0.mk (0 : Int) (2 : Int) (0 : Int) [(0 : Int), (0 : Int)])) fun r3000 =>
       match r3000 with
       | .inl c2999 => some (E79_0.x2 c2999)
       | .inr c2999 => some (E79_0b.x3 c2999))
      (bindO (l79_0 k (S79_0.mk (0 : Int) (2 : Int) (0 : Int) [(0 : Int), (-1 : Int)])) fun r2996 =>
       match r2996 with
       | .inl c2995 => some (E79_0.x2 c2995)
       | .inr c2995 => some (E79_0b.x3 c2995)))
     (br (GWindow.src x1 != GWindow.src x1)
      (bindO (l79_0 k (S79_0.mk (0 : Int) (2 : Int) (0 : Int) [(0 : Int), (1 : Int)])) fun r2992 =>
       match r2992 with
       | .inl c2991 => some (E79_0.x2 c2991)
       | .inr c2991 => some (E79_0b.x3 c2991))
      (br (decide (GWindow.src x0 < GWindow.src x1))
       (bindO (l79_0 k (S79_0.mk (0 : Int) (2 : Int) (0 : Int) [(0 : Int), (-1 : Int)])) fun r2988 =>
        match r2988 with
        | .inl c2987 => some (E79_0.x2 c2987)
        | .inr c2987 => some (E79_0b.x3 c2987))
       (br (decide (GWindow.src x0 > GWindow.src x1))
        (bindO (l79_0 k (S79_0.mk (0 : Int) (2 : Int) (0 : Int) [(0 : Int), (1 : Int)])) fun r2984 =>
         match r2984 with
         | .inl c2983 => some (E79_0.x2 c2983)
         | .inr c2983 => some (E79_0b.x3 c2983))
        (bindO (l79_0 k (S79_0.mk (0 : Int) (2 : Int) (0 : Int) [(0 : Int), (0 : Int)])) fun r2980 =>
         match r2980 with
         | .inl c2979 => some (E79_0.x2 c2979)
         | .inr c2979 => some (E79_0b.x3 c2979))))))
    (br (GWindow.src x0 != GWindow.src x0)
     (br (GWindow.src x1 != GWindow.src x1)
      (bindO (l79_0 k (S79_0.mk (0 : Int) (2 : Int) (0 : Int) [(-1 : Int), (0 : Int)])) fun r2976 =>
       match r2976 with
       | .inl c2975 => some (E79_0.x2 c2975)
       | .inr c2975 => some (E79_0b.x3 c2975))
      (bindO (l79_0 k (S79_0.mk (0 : Int) (2 : Int) (0 : Int) [(-1 : Int), (-1 : Int)])) fun r2972 =>
       match r2972 with
       | .inl c2971 => some (E79_0.x2 c2971)
       | .inr c2971 => some (E79_0b.x3 c2971)))
     (br (GWindow.src x1 != GWindow.src x1)
      (bindO (l79_0 k (S79_0.mk (0 : Int) (2 : Int) (0 : Int) [(-1 : Int), (1 : Int)])) fun r2968 =>
       match r2968 with
       | .inl c2967 => some (E79_0.x2 c2967)
       | .inr c2967 => some (E79_0b.x3 c2967))
      (br (decide (GWindow.src x0 < GWindow.src x1))
       (bindO (l79_0 k (S79_0.mk (0 : Int) (2 : Int) (0 : Int) [(-1 : Int), (-1 : Int)])) fun r2964 =>
        match r2964 with
        | .inl c2963 => some (E79_0.x2 c2963)
        | .inr c2963 => some (E79_0b.x3 c2963))
       (br (decide (GWindow.src x0 > GWindow.src x1))
        (bindO (l79_0 k (S79_0.mk (0 : Int) (2 : Int) (0 : Int) [(-1 : Int), (1 : Int)])) fun r2960 =>
         match r2960 with
         | .inl c2959 => some (E79_0.x2 c2959)
         | .inr c2959 => some (E79_0b.x3 c2959))
        (bindO (l79_0 k (S79_0.mk (0 : Int) (2 : Int) (0 : Int) [(-1 : Int), (0 : Int)])) fun r2956 =>
         match r2956 with
         | .inl c2955 => some (E79_0.x2 c2955)
         | .inr c2955 => some (E79_0b.x3 c2955)))))))
   (br (GWindow.bed x1 != GWindow.bed x1)
    (br (GWindow.src x0 != GWindow.src x0)
     (br (GWindow.src x1 != GWindow.src x1)
      (bindO (l79_0 k (S79_0.mk (0 : Int) (2 : Int) (0 : Int) [(1 : Int), (0 : Int)])) fun r2952 =>
       match r2952 with
       | .inl c2951 => some (E79_0.x2 c2951)
       | .inr c2951 => some (E79_0b.x3 c2951))
      (bindO (l79_0 k (S79_0.mk (0 : Int) (2 : Int) (0 : Int) [(1 : Int), (-1 : Int)])) fun r2948 =>
       match r2948 with
       | .inl c2947 => some (E79_0.x2 c2947)
       | .inr c2947 => some (E79_0b.x3 c2947)))
     (br (GWindow.src x1 != GWindow.src x1)
      (bindO (l79_0 k (S79_0.mk (0 : Int) (2 : Int) (0 : Int) [(1 : Int), (1 : Int)])) fun r2944 =>
       match r2944 with
       | .inl c2943 => some (E79_0.x2 c2943)
       | .inr c2943 => some (E79_0b.x3 c2943))
      (br (decide (GWindow.src x0 < GWindow.src x1))
       (bindO (l79_0 k (S79_0.mk (0 : Int) (2 : Int) (0 : Int) [(1 : Int), (-1 : Int)])) fun r2940 =>
        match r2940 with
        | .inl c2939 => some (E79_0.x2 c2939)
        | .inr c2939 => some (E79_0b.x3 c2939))
       (br (decide (GWindow.src x0 > GWindow.src x1))
        (bindO (l79_0 k (S79_0.mk (0 : Int) (2 : Int) (0 : Int) [(1 : Int), (1 : Int)])) fun r2936 =>
         match r2936 with
         | .inl c2935 => some (E79_0.x2 c2935)
         | .inr c2935 => some (E79_0b.x3 c2935))
        (bindO (l79_0 k (S79_0.mk (0 : Int) (2 : Int) (0 : Int) [(1 : Int), (0 : Int)])) fun r2932 =>
         match r2932 with
         | .inl c2931 => some (E79_0.x2 c2931)
         | .inr c2931 => some (E79_0b.x3 c2931))))))
    (br (decide (GWindow.bed x0 < GWindow.bed x1))
     (br (GWindow.src x0 != GWindow.src x0)
      (br (GWindow.src x1 != GWindow.src x1)
       (bindO (l79_0 k (S79_0.mk (0 : Int) (2 : Int) (0 : Int) [(-1 : Int), (0 : Int)])) fun r2928 =>
        match r2928 with
        | .inl c2927 => some (E79_0.x2 c2927)
        | .inr c2927 => some (E79_0b.x3 c2927))
       (bindO (l79_0 k (S79_0.mk (0 : Int) (2 : Int) (0 : Int) [(-1 : Int), (-1 : Int)])) fun r2924 =>
        match r2924 with
        | .inl c2923 => some (E79_0.x2 c2923)
        | .inr c2923 => some (E79_0b.x3 c2923)))
      (br (GWindow.src x1 != GWindow.src x1)
       (bindO (l79_0 k (S79_0.mk (0 : Int) (2 : Int) (0 : Int) [(-1 : Int), (1 : Int)])) fun r2920 =>
        match r2920 with
        | .inl c2919 => some (E79_0.x2 c2919)
        | .inr c2919 => some (E79_0b.x3 c2919))
       (br (decide (GWindow.src x0 < GWindow.src x1))
        (bindO (l79_0 k (S79_0.mk (0 : Int) (2 : Int) (0 : Int) [(-1 : Int), (-1 : Int)])) fun r2916 =>
         match r2916 with
         | .inl c2915 => some (E79_0.x2 c2915)
         | .inr c2915 => some (E79_0b.x3 c2915))
        (br (decide (GWindow.src x0 > GWindow.src x1))
         (bindO (l79_0 k (S79_0.mk (0 : Int) (2 : Int) (0 : Int) [(-1 : Int), (1 : Int)])) fun r2912 =>
          match r2912 with
          | .inl c2911 => some (E79_0.x2 c2911)
          | .inr c2911 => some (E79_0b.x3 c2911))
         (bindO (l79_0 k (S79_0.mk (0 : Int) (2 : Int) (0 : Int) [(-1 : Int), (0 : Int)])) fun r2908 =>
          match r2908 with
          | .inl c2907 => some (E79_0.x2 c2907)
          | .inr c2907 => some (E79_0b.x3 c2907))))))
     (br (decide (GWindow.bed x0 > GWindow.bed x1))
      (br (GWindow.src x0 != GWindow.src x0)
       (br (GWindow.src x1 != GWindow.src x1)
        (bindO (l79_0 k (S79_0.mk (0 : Int) (2 : Int) (0 : Int) [(1 : Int), (0 : Int)])) fun r2904 =>
         match r2904 with
         | .inl c2903 => some (E79_0.x2 c2903)
         | .inr c2903 => some (E79_0b.x3 c2903))
        (bindO (l79_0 k (S79_0.mk (0 : Int) (2 : Int) (0 : Int) [(1 : Int), (-1 : Int)])) fun r2900 =>
         match r2900 with
         | .inl c2899 => some (E79_0.x2 c2899)
         | .inr c2899 => some (E79_0b.x3 c2899)))
       (br (GWindow.src x1 != GWindow.src x1)
        (bindO (l79_0 k (S79_0.mk (0 : Int) (2 : Int) (0 : Int) [(1 : Int), (1 : Int)])) fun r2896 =>
         match r2896 with
         | .inl c2895 => some (E79_0.x2 c2895)
         | .inr c2895 => some (E79_0b.x3 c2895))
        (br (decide (GWindow.src x0 < GWindow.src x1))
         (bindO (l79_0 k (S79_0.mk (0 : Int) (2 : Int) (0 : Int) [(1 : Int), (-1 : Int)])) fun r2892 =>
          match r2892 with
          | .inl c2891 => some (E79_0.x2 c2891)
          | .inr c2891 => some (E79_0b.x3 c2891))
         (br (decide (GWindow.src x0 > GWindow.src x1))
          (bindO (l79_0 k (S79_0.mk (0 : Int) (2 : Int) (0 : Int) [(1 : Int), (1 : Int)])) fun r2888 =>
           match r2888 with
           | .inl c2887 => some (E79_0.x2 c2887)
           | .inr c2887 => some (E79_0b.x3 c2887))
          (bindO (l79_0 k (S79_0.mk (0 : Int) (2 : Int) (0 : Int) [(1 : Int), (0 : Int)])) fun r2884 =>
           match r2884 with
           | .inl c2883 => some (E79_0.x2 c2883)
           | .inr c2883 => some (E79_0b.x3 c2883))))))
      (br (GWindow.src x0 != GWindow.src x0)
       (br (GWindow.src x1 != GWindow.src x1)
        (bindO (l79_0 k (S79_0.mk (0 : Int) (2 : Int) (0 : Int) [(0 : Int), (0 : Int)])) fun r2880 =>
         match r2880 with
         | .inl c2879 => some (E79_0.x2 c2879)
         | .inr c2879 => some (E79_0b.x3 c2879))
        (bindO (l79_0 k (S79_0.mk (0 : Int) (2 : Int) (0 : Int) [(0 : Int), (-1 : Int)])) fun r2876 =>
         match r2876 with
         | .inl c2875 => some (E79_0.x2 c2875)
         | .inr c2875 => some (E79_0b.x3 c2875)))
       (br (GWindow.src x1 != GWindow.src x1)
        (bindO (l79_0 k (S79_0.mk (0 : Int) (2 : Int) (0 : Int) [(0 : Int), (1 : Int)])) fun r2872 =>
         match r2872 with
         | .inl c2871 => some (E79_0.x2 c2871)
         | .inr c2871 => some (E79_0b.x3 c2871))
        (br (decide (GWindow.src x0 < GWindow.src x1))
         (bindO (l79_0 k (S79_0.mk (0 : Int) (2 : Int) (0 : Int) [(0 : Int), (-1 : Int)])) fun r2868 =>
          match r2868 with
          | .inl c2867 => some (E79_0.x2 c2867)
          | .inr c2867 => some (E79_0b.x3 c2867))
         (br (decide (GWindow.src x0 > GWindow.src x1))
          (bindO (l79_0 k (S79_0.mk (0 : Int) (2 : Int) (0 : Int) [(0 : Int), (1 : Int)])) fun r2864 =>
           match r2864 with
           | .inl c2863 => some (E79_0.x2 c2863)
           | .inr c2863 => some (E79_0b.x3 c2863))
          (bindO (l79_0 k (S79_0.mk (0 : Int) (2 : Int) (0 : Int) [(0 : Int), (0 : Int)])) fun r2860 =>
           match r2860 with
           | .inl c2859 => some (E79_0.x2 c2859)
           | .inr c2859 => some (E79_0b.x3 c2859)))))))))
theorem f78_run (k : Nat) (x0 : GWindow) (x1 : GWindow) : cf1 k R78 78 (A78 (x0, x1)) [] 0 (endR planR (.any) [] 0 r78) = f78 k x0 x1 := by kernel_rfl
def g78 (k : Nat) : CallS := entT d78 (fun p => f78 k p.1 p.2) (elAll _) (fun _ => o78) (fun _ => u78) (fun _ => n78)
theorem g78_ok (k : Nat) : CallSOk Try.prog 78 (g78 k) := entry_ok (Hp := fun _ => []) (oR := fun _ => o78) (uR := fun _ => u78) (nR := fun _ => n78) (cf1_ok k) d78_ok r78_ok (hel := elAll_ok) (fun p => f78_run k p.1 p.2)
def Dl2 (k : Nat) : Delta := dCons 78 (callAt plan [.any, .any] (g78 k)) (Dl1 k)
def Lm2 (k : Nat) : FuncId → Nat → Option LamF := Lm1 k
theorem Dl2_ok (k : Nat) : DeltaOk Try.prog (Dl2 k) := dCons_ok (Dl1_ok k) (g78_ok k)
theorem Lm2_ok (k : Nat) : LamsOk Try.prog (Lm2 k) := Lm1_ok k
abbrev cf2 (k : Nat) : CallF := evF Try.prog (Dl2 k) (Lm2 k) 200 12
theorem cf2_ok (k : Nat) : CfOk Try.prog (cf2 k) := evF_ok noNum mixed (Dl2_ok k) (Lm2_ok k) 12
end
end Go.Proofs.Ytaooefnmdlajcaa.D78

end
section
set_option linter.unusedVariables false
namespace Go.Proofs.Ytaooefnmdlajcaa
open Go.RowKit Go.Shelf Go.Proofs Go.Sort Go.Lib
section
attribute [local instance] Ud
theorem frame_grow {w w' : World} {G : Nat → Prop} (f : Go.Eng.Frame w ⟨fun _ => False, G⟩ w') : ∃ q os, w' = grow (w.drewN q) os := by
  refine ⟨w'.drawn - w.drawn, w'.heap.extract w.heap.size, ?_⟩
  have hh : w.heap ++ w'.heap.extract w.heap.size = w'.heap := by
    apply Array.ext
    · have := f.size; simp; omega
    · intro i h1 h2
      rw [Array.getElem_append]
      split
      · rename_i hi
        have := f.block i hi (fun h => h)
        rw [Array.getElem?_eq_getElem hi, Array.getElem?_eq_getElem h2] at this
        exact (Option.some.inj this).symm
      · rename_i hi
        simp only [Array.getElem_extract]
        congr 1; omega
  have hd : w.drawn + (w'.drawn - w.drawn) = w'.drawn := by have := f.drawn trivial; omega
  obtain ⟨h1, h2, h3, h4, h5⟩ := w
  obtain ⟨g1, g2, g3, g4, g5⟩ := w'
  have a1 := f.os; have a2 := f.tape; have a3 := f.output
  simp only at hh hd a1 a2 a3
  subst a1; subst a2; subst a3
  simp only [grow, World.drewN, hh, hd]
def cmpW (a b : Win) : Int := if a.bed < b.bed then -1 else if a.bed > b.bed then 1 else if a.src < b.src then -1 else if a.src > b.src then 1 else 0
theorem cmpW_eq (a b : Win) : cmpW a b = if a.bed < b.bed then -1 else if a.bed > b.bed then 1 else if a.src < b.src then -1 else if a.src > b.src then 1 else 0 := rfl
theorem f78_ok (a b : Win) : D78.f78 4 a b = some (cmpW a b) := by
  have z : ∀ x : Int, (x != x) = false := fun x => by simp
  unfold D78.f78 cmpW
  simp only [z, Go.Eng.br_false]
  by_cases h1 : a.bed < b.bed
  · simp only [h1, decide_true, Go.Eng.br_true, if_true]
    by_cases h3 : a.src < b.src
    · simp only [h3, decide_true, Go.Eng.br_true]; rfl
    · by_cases h4 : a.src > b.src
      · simp only [h3, h4, decide_true, decide_false, Go.Eng.br_true, Go.Eng.br_false]; rfl
      · simp only [h3, h4, decide_false, Go.Eng.br_false]; rfl
  · by_cases h2 : a.bed > b.bed
    · simp only [h1, h2, decide_true, decide_false, Go.Eng.br_true, Go.Eng.br_false, if_true, if_false]
      by_cases h3 : a.src < b.src
      · simp only [h3, decide_true, Go.Eng.br_true]; rfl
      · by_cases h4 : a.src > b.src
        · simp only [h3, h4, decide_true, decide_false, Go.Eng.br_true, Go.Eng.br_false]; rfl
        · simp only [h3, h4, decide_false, Go.Eng.br_false]; rfl
    · simp only [h1, h2, decide_false, Go.Eng.br_false, if_false]
      by_cases h3 : a.src < b.src
      · simp only [h3, decide_true, Go.Eng.br_true, if_true]; rfl
      · by_cases h4 : a.src > b.src
        · simp only [h3, h4, decide_true, decide_false, Go.Eng.br_true, Go.Eng.br_false, if_true, if_false]; rfl
        · simp only [h3, h4, decide_false, Go.Eng.br_false, if_false]; rfl
theorem cmpLays (blk off size : Nat) (w : World) : CmpLays Try.prog 78 #[] encA 3 cmpW blk off size w := by
  intro m os dk hs x y
  have hc : Go.Eng.CallOk Try.prog 78 (D78.A78 (x, y)) [] 0 (.ret (.int .i64 (cmpW x y))) _ _ := Go.Eng.entry_call Go.Eng.elAll_ok (D78.g78_ok 4) (show D78.d78 (D78.A78 (x, y)) [] = some (x, y) by kernel_rfl) (f78_ok x y)
  have rel : ∀ (ρ : Nat → Option Go.Eng.Loc) (RO : Nat → Prop) (W : World) (x : Win), Go.Eng.VRel ρ RO W (.agg [.int .i64 x.bed, .int .i64 x.src, .int .i64 x.to]) (.agg (encA x).toArray) := fun ρ RO W x =>
    .agg (vs := encA x) rfl (one_encA x) (fun i a v h1 h2 => by
      match i with
      | 0 => cases h1; cases h2; exact .int _ _
      | 1 => cases h1; cases h2; exact .int _ _
      | 2 => cases h1; cases h2; exact .int _ _
      | i + 3 => simp at h1)
  refine (hc.2 _ _ _ _ _ [.agg (encA x).toArray, .agg (encA y).toArray] (Go.Eng.HRel.start (sortWorldK encA 3 w blk off m dk os) trivial) (.cons (rel _ _ _ x) (.cons (rel _ _ _ y) .nil))).mono fun e w' he => ?_
  obtain ⟨ρ', RO', _, H, v, rfl, q⟩ := he
  cases q
  exact ⟨rfl, frame_grow H.frame⟩
end
theorem ltA (x y : Win) : ltOf cmpW x y = decide (cmpW x y < 0) := rfl
theorem cmpW_le (a b : Win) : cmpW a b ≤ 0 ↔ LeK a b := by
  rw [cmpW_eq]; unfold LeK
  repeat' split
  all_goals omega
theorem cmpW_swap (a b : Win) : cmpW a b = - cmpW b a := by
  rw [cmpW_eq, cmpW_eq]
  repeat' split
  all_goals omega
theorem swoA : SWO (ltOf cmpW) where
  irrefl x := by rw [ltA]; simp [cmpW_eq]
  trans x y z h1 h2 := by
    rw [ltA, cmpW_eq] at *; simp only [decide_eq_true_eq] at *
    repeat' split at h1
    all_goals repeat' split at h2
    all_goals repeat' split
    all_goals omega
  ntrans x y z h1 h2 := by
    rw [ltA, cmpW_eq] at *; simp only [decide_eq_false_iff_not] at *
    repeat' split at h1
    all_goals repeat' split at h2
    all_goals repeat' split
    all_goals omega
theorem encA_length (x : Win) : (encA x).length = 3 := rfl
theorem flat_length (l : List Win) : (l.flatMap encA).length = l.length * 3 := by
  induction l with
  | nil => rfl
  | cons x l ih => rw [List.flatMap_cons, List.length_append, encA_length, ih, List.length_cons]; omega
theorem flat_get (l : List Win) : ∀ t, t < l.length * 3 → (l.flatMap encA)[t]? = some ((encA (l.getD (t / 3) default)).getD (t % 3) (.bool false)) := by
  induction l with
  | nil => intro t h; simp at h
  | cons x l ih =>
    intro t h
    rw [List.flatMap_cons]
    by_cases q : t < 3
    · rw [List.getElem?_append_left (by rw [encA_length]; exact q), show t / 3 = 0 by omega, show t % 3 = t by omega]
      rw [List.getElem?_eq_getElem (by rw [encA_length]; exact q)]
      have h6 : t < (encA x).length := q
      simp [List.getD, h6]
    · rw [List.getElem?_append_right (by rw [encA_length]; omega), encA_length, ih (t - 3) (by simp at h; omega), show (t - 3) % 3 = t % 3 by omega, show t / 3 = (t - 3) / 3 + 1 by omega]
      simp
theorem flatK_get (d : Array Win) (t : Nat) (ht : t < d.size * 3) : (flatK encA 3 d)[t]! = (encA (d.toList.getD (t / 3) default)).getD (t % 3) (.bool false) := by
  rw [get_flatK encA 3 d t ht]
  have hl : t / 3 < d.size := by omega
  have h6 : t % 3 < (encA d[t / 3]).length := Nat.mod_lt _ (by omega)
  have e1 : d[t / 3]! = d[t / 3] := getElem!_pos d (t / 3) hl
  have e2 : d.toList.getD (t / 3) default = d[t / 3] := by simp [List.getD, hl]
  rw [e1, e2, getElem!_pos (encA d[t / 3]) (t % 3) h6]
  simp [List.getD, h6]
theorem put_take {d : Array Win} {cur : Array Value} (h : d.size * 3 ≤ cur.size) : (putCells id 0 (flatK encA 3 d) cur).toList.take (d.size * 3) = d.toList.flatMap encA := by
  apply List.ext_getElem?
  intro t
  by_cases q : t < d.size * 3
  · rw [List.getElem?_take_of_lt q, flat_get d.toList t (by simpa using q), ← flatK_get d t q]
    have hq : t < cur.size := by omega
    have hs : t < (flatK encA 3 d).size := by rw [size_flatK]; exact q
    simp [putCells, hq, hs]
    intro h'; omega
  · rw [List.getElem?_eq_none (by simp; omega), List.getElem?_eq_none (by rw [flat_length]; simp; omega)]
theorem holds_of_owns {w : World} {blk : Nat} {cur : Array Value} {l : List Win} (hb : w.heap[blk]? = some (.cells cur 32 (0, 0))) (ht : cur.toList.take (l.length * 3) = l.flatMap encA) (hs : l.length * 3 ≤ cur.size) : HoldsK encA 3 w blk 0 l.toArray := by
  intro t ht'
  have ht2 : t < l.length * 3 := by simpa using ht'
  refine ⟨?_, by simp [World.frozen?, hb]⟩
  have h1 : cur[t]? = some ((encA (l.getD (t / 3) default)).getD (t % 3) (.bool false)) := by
    rw [← flat_get l t ht2, ← ht, List.getElem?_take_of_lt ht2]
    simp
  have h2 := flatK_get l.toArray t (by simpa using ht2)
  simp only [World.cell?, hb, id]
  rw [h2, Nat.zero_add]
  exact h1
end Go.Proofs.Ytaooefnmdlajcaa

end
section
set_option linter.unusedVariables false
namespace Go.Proofs.Ytaooefnmdlajcaa
open Go Go.Eng Go.Proofs Go.RowKit
theorem own_row32 {w0 w w' : World} {F : Fr} {h : Heap} {n : Nat} {ρ : Nat → Option Go.Eng.Loc} {RO : Nat → Prop} (H : HRel w0 F h n ρ RO w) {v : Value} {l : List Win} (ho : w'.ownsRow w.heap.size 32 3 v l.length (l.flatMap encA)) (hb : Below w.heap.size w w') (hd : Univ.dr → w.drawn ≤ w'.drawn) :
    ∃ ρ', Ext ρ RO w ρ' RO w' ∧ HRel w0 F ((n, some (.row 32 l)) :: h) (n + 1) ρ' RO w' ∧ VRel ρ' RO w' (.slf n) v := by
  have hsame : ∀ k, k < w.heap.size → w'.heap[k]? = w.heap[k]? := fun k hk => hb.block k hk
  have hf : Go.Eng.Frame w0 F w' := ⟨hb.os.trans H.frame.os, hb.tape.trans H.frame.tape, hb.output.trans H.frame.output, Nat.le_trans H.frame.size hb.size,
    fun k hk hF => (hsame k (Nat.lt_of_lt_of_le hk H.frame.size)).trans (H.frame.block k hk hF), fun d => Nat.le_trans (H.frame.drawn d) (hd d), H.frame.glb⟩
  obtain ⟨hlen, ho⟩ := ho
  rcases ho with ⟨rfl, h0⟩ | ⟨g, cap, cur, rfl, hg, hcur, hcap, hmax, hsz, htake⟩
  · have hl : l = [] := List.length_eq_zero_iff.1 h0
    subst hl
    obtain ⟨ext, fin⟩ := H.add (w' := w') (.row 32 []) ⟨0, 0, Univ.sz 32, 0, 0, false⟩ hf hsame hb.size rfl
    exact ⟨_, ext, fin (.inl ⟨_, rfl, rfl, ⟨rfl, rfl⟩, rfl⟩), .slf (L := ⟨0, 0, Univ.sz 32, 0, 0, false⟩) (if_pos rfl) (Nat.le_refl _) (fun h => absurd rfl h) (fun _ h => by cases h) (by omega) (by simp)⟩
  · obtain ⟨ext, fin⟩ := H.add (w' := w') (.row 32 l) ⟨g, 0, Univ.sz 32, cur.size, l.length, true⟩ hf hsame hb.size rfl
    have hs3 : Univ.sz 32 = 3 := rfl
    have hmx : maxLen = 9223372036854775807 := by unfold maxLen; decide
    refine ⟨_, ext, fin (.inr ⟨hg, ⟨⟨rfl, rfl⟩, cur, hcur, rfl, fun i k hi hk => ?_⟩, (Array.getElem?_eq_some_iff.1 hcur).1, .inl (Nat.le_trans H.frame.size hg), fun hr => ?_, rfl⟩),
      .slf (L := ⟨g, 0, Univ.sz 32, cur.size, l.length, true⟩) (if_pos rfl) hcap (fun _ => rfl) (fun _ _ => rfl) (by rw [hmx] at hmax; exact hmax) (by rw [hs3, hsz]; simp)⟩
    · rw [hs3] at hk ⊢
      have hi : i < List.length (α := Win) l := hi
      have h1 := flat_get l (i * 3 + k) (by omega)
      rw [← htake, List.getElem?_take_of_lt (by omega), show (i * 3 + k) / 3 = i by omega, show (i * 3 + k) % 3 = k by omega] at h1
      have hk3 : k = 0 ∨ k = 1 ∨ k = 2 := by omega
      refine ⟨(encA (l.getD i default)).getD k (.bool false), by rw [Nat.zero_add]; simpa using h1, ?_, ?_⟩
      · rcases hk3 with rfl | rfl | rfl <;> rfl
      · rcases hk3 with rfl | rfl | rfl <;> exact .int _ _
    · exact absurd (H.ro _ hr).1 (Nat.not_lt.2 hg)
end Go.Proofs.Ytaooefnmdlajcaa

end
section
set_option linter.unusedVariables false
set_option linter.unusedSimpArgs false
namespace Go.Proofs.Ytaooefnmdlajcaa
open Go Go.Eng
theorem bindO_some {α R : Type} (x : α) (f : α → Option R) : bindO (some x) f = f x := rfl
theorem br_if {R : Type} (b : Bool) (x y : Option R) : br b x y = if b = true then x else y := by cases b <;> rfl
theorem wrap_ok {n : Int} (h0 : 0 ≤ n) (h1 : n ≤ 9223372036854775807) : IntKind.wrap .i64 n = n := by
  unfold IntKind.wrap
  have hb : IntKind.bits .i64 = 64 := rfl
  have hs : IntKind.signed .i64 = true := rfl
  simp only [hb, hs]
  have : n % (2 ^ 64 : Int) = n := Int.emod_eq_of_lt h0 (by omega)
  rw [this]
  simp
  intro h; omega
theorem iter_to {S E : Type} {stp : S → Option (S ⊕ E)} (st : Nat → S) (m : Nat) {e : E} (h : ∀ i, i < m → stp (st i) = some (.inl (st (i + 1)))) (he : stp (st m) = some (.inr e)) :
    ∀ j, m < j → iterT stp j (st 0) = some e := by
  have key : ∀ (d i j : Nat), i + d = m → d < j → iterT stp j (st i) = some e := by
    intro d
    induction d with
    | zero =>
      intro i j hi hj
      obtain ⟨j, rfl⟩ : ∃ j', j = j' + 1 := ⟨j - 1, by omega⟩
      have : i = m := by omega
      subst this
      simp only [iterT, he]
    | succ d ih =>
      intro i j hi hj
      obtain ⟨j, rfl⟩ : ∃ j', j = j' + 1 := ⟨j - 1, by omega⟩
      simp only [iterT, h i (by omega)]
      exact ih (i + 1) j (by omega) (by omega)
  exact fun j hj => key m 0 j (by omega) hj
theorem iter_cases {S E : Type} {stp : S → Option (S ⊕ E)} (st : Nat → S) (n : Nat) (good : Nat → Prop) {Qb Qe : E → Prop} (h1 : ∀ i, i < n → (∀ j, j ≤ i → good j) → stp (st i) = some (.inl (st (i + 1))))
    (h2 : ∀ i, i < n → (∀ j, j < i → good j) → ¬ good i → ∃ e, stp (st i) = some (.inr e) ∧ Qb e) (h3 : (∀ i, i < n → good i) → ∃ e, stp (st n) = some (.inr e) ∧ Qe e) :
    ∀ j, n < j → ∃ e, iterT stp j (st 0) = some e ∧ (((∃ i, i < n ∧ ¬ good i) ∧ Qb e) ∨ ((∀ i, i < n → good i) ∧ Qe e)) := by
  intro j hj
  by_cases hall : ∀ i, i < n → good i
  · obtain ⟨e, e1, e2⟩ := h3 hall
    exact ⟨e, iter_to st n (fun i hi => h1 i hi (fun j hj => hall j (by omega))) e1 j hj, .inr ⟨hall, e2⟩⟩
  · have hex : ∃ i, i < n ∧ ¬ good i := by
      apply Classical.byContradiction
      intro q
      exact hall fun i hi => Classical.byContradiction fun g => q ⟨i, hi, g⟩
    have hmin : ∃ m, m < n ∧ ¬ good m ∧ ∀ i, i < m → good i := by
      obtain ⟨i, hi, hg⟩ := hex
      have : ∀ d, ∀ i, i ≤ d → i < n → ¬ good i → ∃ m, m < n ∧ ¬ good m ∧ ∀ i, i < m → good i := by
        intro d
        induction d with
        | zero => intro i hi hn hg; exact ⟨i, hn, hg, fun k hk => by omega⟩
        | succ d ih =>
          intro i hi hn hg
          by_cases hb : ∃ k, k < i ∧ ¬ good k
          · obtain ⟨k, hk, hg'⟩ := hb
            exact ih k (by omega) (by omega) hg'
          · exact ⟨i, hn, hg, fun k hk => Classical.byContradiction fun g => hb ⟨k, hk, g⟩⟩
      exact this i i (Nat.le_refl _) hi hg
    obtain ⟨m, hm, hg, hlt⟩ := hmin
    obtain ⟨e, e1, e2⟩ := h2 m hm hlt hg
    exact ⟨e, iter_to st m (fun i hi => h1 i (by omega) (fun j hj => hlt j (by omega))) e1 j (by omega), .inl ⟨hex, e2⟩⟩
theorem lt_len {α : Type} {l : List α} {i : Nat} (h : i < l.length) : decide ((i : Int) < (l.length : Int)) = true := by simp; exact h
theorem in_len {α : Type} {l : List α} {i : Nat} (h : i < l.length) : decide ((0 : Int) ≤ (i : Int) ∧ (i : Int) < (l.length : Int)) = true := by simp; exact h
theorem next_ok {i : Nat} (h : i < 1000000) : IntKind.wrap .i64 ((i : Int) + 1) = ((i + 1 : Nat) : Int) := by rw [wrap_ok (by omega) (by omega)]; simp
theorem br_t {R : Type} {b : Bool} (h : b = true) (x y : Option R) : br b x y = x := by rw [h, br_true]
theorem br_f {R : Type} {b : Bool} (h : b = false) (x y : Option R) : br b x y = y := by rw [h, br_false]
theorem getD_mem {α : Type} [Inhabited α] {l : List α} {i : Nat} (h : i < l.length) : l.getD i default ∈ l := by
  rw [List.getD_eq_getElem?_getD, List.getElem?_eq_getElem h]
  exact List.getElem_mem h
theorem mem_getD {α : Type} [Inhabited α] {l : List α} {x : α} (h : x ∈ l) : ∃ i, i < l.length ∧ x = l.getD i default := by
  obtain ⟨i, hi, rfl⟩ := List.mem_iff_getElem.1 h
  exact ⟨i, hi, by rw [List.getD_eq_getElem?_getD, List.getElem?_eq_getElem hi]; rfl⟩
theorem take_next {α : Type} [Inhabited α] {l : List α} {i : Nat} (h : i < l.length) : l.take (i + 1) = l.take i ++ [l.getD i default] := by
  rw [List.take_add_one, List.getD_eq_getElem?_getD, List.getElem?_eq_getElem h]
  rfl
end Go.Proofs.Ytaooefnmdlajcaa

end
section
set_option linter.unusedVariables false
set_option linter.unusedSimpArgs false
namespace Go.Proofs.Ytaooefnmdlajcaa
open Go Go.Eng
theorem jstep_len (out : List Win) (w : Win) : (jstep out w).length ≤ out.length + 1 := by
  rcases snoc_cases out with rfl | ⟨r, o, rfl⟩
  · rw [jstep_nil]; simp
  · rw [jstep_snoc]; split <;> simp
theorem jfold_len : ∀ (segs out : List Win), (segs.foldl jstep out).length ≤ out.length + segs.length
  | [], out => by simp
  | w :: segs, out => by
    have := jstep_len out w
    have := jfold_len segs (jstep out w)
    simp only [List.foldl_cons, List.length_cons]
    omega
theorem getD_last {α : Type} [Inhabited α] (r : List α) (o d : α) : (r ++ [o]).getD r.length d = o := by simp [List.getD_eq_getElem?_getD]
theorem p39_ok {k : Nat} {l : List Win} (hk : l.length < k) (hl : l.length ≤ 1000) : p39 k l = some (l.foldl jstep []) := by
  have he := iter_to (stp := pS39_0 k) (fun i => S39_0.mk (l.length : Int) (i : Int) ((l.take i).foldl jstep []) l) l.length (e := E39_0.mk (l.foldl jstep []))
    (by
      intro i hi
      have hn : (l.take (i + 1)).foldl jstep [] = jstep ((l.take i).foldl jstep []) (l.getD i default) := by
        rw [take_next hi, List.foldl_append]
        rfl
      have hlen := jfold_len (l.take i) []
      rw [List.length_take, List.length_nil] at hlen
      rw [hn]
      generalize (l.take i).foldl jstep [] = out at hlen ⊢
      generalize hw : l.getD i default = w
      unfold pS39_0
      simp only [Int.toNat_natCast, hw]
      rw [br_t (lt_len hi), br_t (in_len hi), br_t (decide_eq_true hi), next_ok (by omega)]
      rcases snoc_cases out with rfl | ⟨r, o, rfl⟩
      · rw [br_f (decide_eq_false (by simp)), br_t (by rw [Bool.true_and]; exact decide_eq_true (by simp)), jstep_nil]
        rfl
      · have hL : (r ++ [o]).length = r.length + 1 := by simp
        have hwr : IntKind.wrap IntKind.i64 (((r ++ [o]).length : Int) - 1) = (r.length : Int) := by rw [hL, wrap_ok (by omega) (by omega)]; omega
        rw [hL] at hlen
        simp only [hwr, Int.toNat_natCast, getD_last]
        rw [jstep_snoc]
        have c1 : decide ((0 : Int) ≤ (r.length : Int) ∧ (r.length : Int) < ((r ++ [o]).length : Int)) = true := decide_eq_true (by rw [hL]; omega)
        have c2 : decide (r.length < (r ++ [o]).length) = true := decide_eq_true (by rw [hL]; omega)
        have c3 : (true && decide (((r ++ [o]).length + List.length [w]) * (24 : Nat) ≤ (140737488355328 : Nat))) = true := by rw [Bool.true_and]; exact decide_eq_true (by simp; omega)
        have c4 : (true && decide (r.length < (r ++ [o]).length)) = true := by rw [c2]; rfl
        rw [br_t (decide_eq_true (by rw [hL]; omega)), br_t c1, br_t c2]
        by_cases hb : o.bed = w.bed
        · rw [br_t (beq_iff_eq.2 hb), br_t c1, br_t c2]
          by_cases hs : w.src ≤ o.to
          · rw [br_t (decide_eq_true hs), br_t c1, br_t c2, br_t c1, br_t c4, if_pos ⟨hb, hs⟩]
            congr 3
            simp [max2_eq]
          · rw [br_f (decide_eq_false hs), br_t c3, if_neg (fun q => hs q.2)]
        · rw [br_f (by simp [hb]), br_t c3, if_neg (fun q => hb q.1)])
    (by
      unfold pS39_0
      simp only
      rw [br_f (by simp), List.take_length]) k hk
  have e0 : (((0 : Nat) : Int)) = 0 := rfl
  simp only [e0, List.take_zero, List.foldl_nil] at he
  unfold p39 l39_0
  rw [he, bindO_some]
end Go.Proofs.Ytaooefnmdlajcaa

end
section
set_option linter.unusedVariables false
namespace Go.Proofs.Ytaooefnmdlajcaa
open Go Go.Eng Go.Proofs Go.RowKit
noncomputable def pA39 : Code := fstC cod39
noncomputable def pB39 : Code := fstC (sndC cod39)
noncomputable def pR39 : Code := sndC (sndC cod39)
noncomputable def ops39 : Code → Array Oper | .region _ ops _ => ops | _ => #[]
noncomputable def op39 (i : Nat) : Oper := (ops39 pB39).toList.getD i default
theorem body39 : Try.f39.body = some (.seq pA39 (.seq pB39 pR39)) := by kernel_rfl
theorem pB39_eq : pB39 = .region 1 #[op39 0, op39 1, op39 2, op39 3] false := by kernel_rfl
theorem o39_0 : (op39 0).op = .move (.tmp 0) ∧ (op39 0).dst = some 7 ∧ (op39 0).guard = none := by refine ⟨?_, ?_, ?_⟩ <;> kernel_rfl
theorem o39_1 : (op39 1).op = .call { callee := .value (.func 77), args := #[.tmp 7], argTypes := #[22] } ∧ (op39 1).dst = some 8 ∧ (op39 1).guard = none := by refine ⟨?_, ?_, ?_⟩ <;> kernel_rfl
theorem o39_2 : (op39 2).op = .call { callee := .value (.func 76), args := #[.tmp 8, .func 78], argTypes := #[96, 100] } ∧ (op39 2).dst = some 9 ∧ (op39 2).guard = none := by refine ⟨?_, ?_, ?_⟩ <;> kernel_rfl
theorem o39_3 : (op39 3).op = .assign (.tmp 9) ∧ (op39 3).dst = some 0 ∧ (op39 3).guard = none := by refine ⟨?_, ?_, ?_⟩ <;> kernel_rfl
theorem enter77 : ∀ args w, (callFunc 77 args).run Try.prog w = .ok (.enter 77 args) w := enters_of Try.func77 (by kernel_rfl) rfl
theorem enter76 : ∀ args w, (callFunc 76 args).run Try.prog w = .ok (.enter 76 args) w := enters_of Try.func76 (by kernel_rfl) rfl
end Go.Proofs.Ytaooefnmdlajcaa

end
section
set_option linter.unusedVariables false
namespace Go.Proofs.Ytaooefnmdlajcaa
open Go Go.Eng Go.Proofs Go.RowKit
noncomputable abbrev PR : Program := Try.prog
abbrev Out := AExit × Env × Heap × Nat
noncomputable def kO : KX Out := fun x env h n => some (x, env, h, n)
noncomputable def noL : Nat → Option LamF := fun _ => none
theorem piece {cf : CallF} (hcf : CfOk PR cf) {N : Nat} {c : Code} {env env' : Env} {h h' : Heap} {n n' : Nat} {x : AExit} (e : evC Out PR N cf noL 200 c env h n kO = some (x, env', h', n')) : COk PR N c env h n x env' h' n' := by
  obtain ⟨x1, env1, u, n1, q1, q2⟩ := evC_ok noNum mixed hcf c (fun _ _ _ _ e => by cases e) Out env h n kO _ e
  cases q2
  exact q1
theorem wanted0 {o : Oper} {y : Nat → Option Bool} (h : o.guard = none) : Region.wanted o y = true := by unfold Region.wanted; simp [h]
theorem op_value {ops : Array Oper} {Q : Exit → Act → World → Prop} {o : Oper} {rest : List Oper} {a : Act} {w w' : World} {v : Value} (hg : o.guard = none) (hr : (execOp a.eval o).run PR w = .ok (.value v) w') (h : wpList PR ops Q rest (a.put o.dst v) w') : wpList PR ops Q (o :: rest) a w := by
  unfold wpList
  rw [if_pos (wanted0 hg)]
  left
  unfold Oper.wp
  rw [hr, Oper.upon_value]
  exact h
theorem op_calls {ops : Array Oper} {Q : Exit → Act → World → Prop} {o : Oper} {rest : List Oper} {a : Act} {w : World} {f : FuncId} {args : Array Value} (hg : o.guard = none) (hr : (execOp a.eval o).run PR w = .ok (.enter f args) w) (h : Calls PR f args w fun e w' => ∃ v, e = .returned v ∧ wpList PR ops Q rest (a.put o.dst v) w') : wpList PR ops Q (o :: rest) a w := by
  unfold wpList
  rw [if_pos (wanted0 hg)]
  left
  unfold Oper.wp
  rw [hr]
  show Calls PR f args w _
  exact h.mono fun e w' ⟨v, he, hw⟩ => by subst he; exact hw
theorem put_get {a : Act} {t t' : Nat} {v : Value} (h : t < a.tmps.size) : (a.put (some t) v).tmps.getD t' undef = if t = t' then v else a.tmps.getD t' undef := by
  simp only [Act.put, Array.getD_eq_getD_getElem?, Array.getElem?_setIfInBounds]
  by_cases e : t = t'
  · subst e; simp [h]
  · simp [e]
theorem put_size {a : Act} {t : Nat} {v : Value} : (a.put (some t) v).tmps.size = a.tmps.size := by simp [Act.put]
theorem holds_dsl {w0 w : World} {F : Fr} {h : Heap} {n : Nat} {ρ : Nat → Option Go.Eng.Loc} {RO : Nat → Prop} (H : HRel w0 F h n ρ RO w) {l : List Win} {sv : Value} (hv : VRel ρ RO w (.dsl 32 l) sv) : HoldsA w.heap.size w sv l ∧ ∃ a len cap, sv = .slice a len cap := by
  cases hv with
  | @dsl e n c l A hl hn vs hA h1 hv hz =>
  refine ⟨?_, _, _, _, rfl⟩
  by_cases h0 : n = 0
  · subst h0
    have hl : 0 = List.length (α := Win) l := hl
    exact .inl ⟨⟨A, c, rfl⟩, List.length_eq_zero_iff.1 hl.symm⟩
  · obtain ⟨blk, o, rfl, hro, hcell⟩ := hA h0
    subst hl
    refine .inr ⟨blk, o, c, rfl, (H.ro blk hro).1, fun j hj i hi => ?_⟩
    have hs3 : Univ.sz 32 = 3 := rfl
    have e1 := hcell j i hj (by rw [hs3]; exact hi)
    have e2 := hv j i hj (by rw [hs3]; exact hi)
    rw [hs3] at e1
    rw [show o + j * 3 + i = o + (j * 3 + i) by omega, e1]
    have hi3 : i = 0 ∨ i = 1 ∨ i = 2 := by omega
    generalize vs j i = u at e2
    rcases hi3 with rfl | rfl | rfl
    · have e3 : elT 32 l j 0 = .int .i64 (List.getD (α := Win) l j default).bed := rfl
      rw [e3] at e2; cases e2; rfl
    · have e3 : elT 32 l j 1 = .int .i64 (List.getD (α := Win) l j default).src := rfl
      rw [e3] at e2; cases e2; rfl
    · have e3 : elT 32 l j 2 = .int .i64 (List.getD (α := Win) l j default).to := rfl
      rw [e3] at e2; cases e2; rfl
theorem run39A (l : List Win) : evC Out PR (ntmpsAt PR 39) (cf2 4) noL 200 pA39 (params [.dsl 32 l] 0) [] 0 kO = some (.normal, [(2, some .nils), (0, some (.dsl 32 l))], [], 0) := by kernel_rfl
end Go.Proofs.Ytaooefnmdlajcaa

end
section
set_option linter.unusedVariables false
namespace Go.Proofs.Ytaooefnmdlajcaa
open Go Go.Eng Go.Proofs Go.RowKit
theorem ntmps39 : ntmpsAt PR 39 = Try.f39.ntmps := by kernel_rfl
theorem rest39_lam (k : Nat) : LamOk PR (ntmpsAt PR 39) pR39 (Lm3 k 39) := fun id c f hc e => by
  rw [ntmps39]
  refine Lm3_ok k 39 _ _ Try.func39 body39 id c f ?_ e
  simp only [blocksOf, List.mem_append]
  exact .inr (.inr hc)
theorem rest39 {k : Nat} {l r : List Win} (hr : p39 k l = some r) : WOk PR (ntmpsAt PR 39) 0 pR39 [(0, some (.slf 0))] [(0, some (.row 32 l))] 1 .ret [(2, some (.slf 0))] [(0, some (.row 32 r))] 1 := by
  obtain ⟨x1, env1, u, n1, q1, q2⟩ := evC_ok noNum mixed (cf3_ok k) pR39 (rest39_lam k) _ _ _ _ _ _ ((p39_run k l).trans hr)
  split at q2
  · rename_i b c hcan
    obtain ⟨hc, q2⟩ := (br_some q2).resolve_right (fun q => by cases q.2)
    have hb := rowD_ok q2
    subst hb
    exact q1.toW (kb := 0) |>.canon (plan := plan) (ts := [(2, .own 32)]) rfl hcan hc
  · cases q2
end Go.Proofs.Ytaooefnmdlajcaa

end
section
set_option linter.unusedVariables false
namespace Go.Proofs.Ytaooefnmdlajcaa
open Go Go.Eng Go.Proofs Go.RowKit
theorem ex0 {a : Act} {w : World} {v : Value} (h : a.tmps.getD 0 undef = v) : (execOp a.eval (op39 0)).run PR w = .ok (.value v) w := by
  simp only [execOp, o39_0.1, Act.eval, h, Sem.run_pure]
theorem ex1 {a : Act} {w : World} {v : Value} (h : a.tmps.getD 7 undef = v) : (execOp a.eval (op39 1)).run PR w = .ok (.enter 77 #[v]) w := by
  have := enter77 #[v] w
  simp only [execOp, o39_1.1]
  simp [resolve, invoke, Deferred.ofValue, Act.eval, h, this, Sem.run_bind, Sem.run_pure]
theorem ex2 {a : Act} {w : World} {v : Value} (h : a.tmps.getD 8 undef = v) : (execOp a.eval (op39 2)).run PR w = .ok (.enter 76 #[v, .func (.func 78) #[] #[]]) w := by
  have := enter76 #[v, .func (.func 78) #[] #[]] w
  simp only [execOp, o39_2.1]
  simp [resolve, invoke, Deferred.ofValue, Act.eval, h, this, Sem.run_bind, Sem.run_pure]
theorem ex3 {a : Act} {w : World} {v : Value} (h : a.tmps.getD 9 undef = v) : (execOp a.eval (op39 3)).run PR w = .ok (.value v) w := by
  simp only [execOp, o39_3.1, Act.eval, h, Sem.run_pure]
end Go.Proofs.Ytaooefnmdlajcaa

end
section
set_option linter.unusedVariables false
namespace Go.Proofs.Ytaooefnmdlajcaa
open Go Go.Eng Go.Proofs Go.RowKit
theorem good_of_l {l : List Win} (h : goodL l = true) : l.length ≤ 1000 ∧ ∀ w ∈ l, w.src < w.to := by
  unfold goodL at h
  simp only [Bool.and_eq_true, decide_eq_true_eq, List.all_eq_true] at h
  exact h
theorem gJoin_core
    (HV : ∀ (a : Option Addr) (len cap : Nat) (w : World), Calls PR 77 #[.slice a len cap] w fun e w' => e = .returned (.func (.func 113) #[] #[.pointer (some ⟨w.heap.size, 0, none⟩)]) ∧ w' = w.alloc (.cells #[.slice a len cap] 22))
    (HS : ∀ (Bs : Nat) (sv : Value) (zs : List Win) (hN : zs.length ≤ 1000000) (w : World) (n₀ : Nat) (hn₀ : n₀ ≤ w.heap.size) (hBs : Bs < w.heap.size) (hc : w.cell? ⟨Bs, 0, none⟩ = some sv) (hI : HoldsA n₀ w sv zs),
      Calls PR 76 #[.func (.func 113) #[] #[.pointer (some ⟨Bs, 0, none⟩)], .func (.func 78) #[] #[]] w fun e w' => ∃ (v : Value) (l : List Win), e = .returned v ∧ l.Perm zs ∧ l.Pairwise LeK ∧ w'.ownsRow w.heap.size 32 3 v l.length (l.flatMap encA) ∧ Below w.heap.size w w' ∧ (Univ.dr → w.drawn ≤ w'.drawn)) :
    CallSOk PR 39 gJoin := by
  intro R ac Hc m K r hm hlen e
  unfold gJoin entT at e
  split at e
  · rename_i l hd
    unfold dJoin at hd
    split at hd
    · rename_i b
      have hq := dslD_ok hd
      subst hq
      have hm0 : m = 0 := by rw [← hlen]; rfl
      subst hm0
      replace e : bindO (fJoin l) (fun z => K (.ret (.slf 0)) [(0, some (.row 32 z))] 1) = some r := e
      cases hf : fJoin l with
      | none => rw [hf] at e; cases e
      | some z =>
        rw [hf] at e
        unfold fJoin at hf
        obtain ⟨hg, hz⟩ := (br_some hf).resolve_right (fun q => by cases q.2)
        cases hz
        obtain ⟨hgl, hgw⟩ := good_of_l hg
        refine ⟨_, _, _, ⟨⟨_, Try.func39, rfl⟩, fun w0 F ρ RO w vs H hvs => ?_⟩, e⟩
        refine calls_of_wp Try.func39 body39 ?_
        have A0 := params_arel (N := Try.f39.ntmps) hvs (show 1 ≤ Try.f39.ntmps from of_decide_eq_true (by kernel_rfl))
        refine wp_seq (wp_mono (piece (cf2_ok 4) (run39A l) w0 F [] ρ RO _ w H (by rw [ntmps39]; exact A0)) fun x a1 w1 q => ?_)
        obtain ⟨⟨ρ1, RO1, z1, z2, z3, z4⟩, _⟩ := q
        cases z3
        have hv1 := z4.env 0 _ rfl
        generalize h0 : a1.tmps.getD 0 undef = sv at hv1
        obtain ⟨hI, A, len, cap, rfl⟩ := holds_dsl z2 hv1
        refine wp_seq ?_
        rw [pB39_eq]
        refine wp_region_list ?_
        show wpList PR _ _ [op39 0, op39 1, op39 2, op39 3] a1 w1
        have s1 := z4.size
        refine op_value o39_0.2.2 (ex0 h0) ?_
        rw [o39_0.2.1]
        have h7 : (a1.put (some 7) (.slice A len cap)).tmps.getD 7 undef = .slice A len cap := by rw [put_get (by rw [s1, ntmps39]; exact of_decide_eq_true (by kernel_rfl)), if_pos rfl]
        refine op_calls o39_1.2.2 (ex1 h7) ?_
        refine (HV A len cap w1).mono fun e w2 he => ?_
        obtain ⟨rfl, rfl⟩ := he
        refine ⟨_, rfl, ?_⟩
        rw [o39_1.2.1]
        generalize ha2 : (a1.put (some 7) (Value.slice A len cap)).put (some 8) (.func (.func 113) #[] #[.pointer (some ⟨w1.heap.size, 0, none⟩)]) = a2
        have s2 : a2.tmps.size = ntmpsAt PR 39 := by rw [← ha2, put_size, put_size]; exact s1
        have h8 : a2.tmps.getD 8 undef = .func (.func 113) #[] #[.pointer (some ⟨w1.heap.size, 0, none⟩)] := by rw [← ha2, put_get (by rw [put_size, s1, ntmps39]; exact of_decide_eq_true (by kernel_rfl)), if_pos rfl]
        refine op_calls o39_2.2.2 (ex2 h8) ?_
        let w2 : World := w1.alloc (.cells #[.slice A len cap] 22)
        have hold : ∀ k, k < w1.heap.size → w2.heap[k]? = w1.heap[k]? := fun k hk => by
          show (w1.heap.push _)[k]? = _
          rw [Array.getElem?_push, if_neg (by omega)]
        have hsz : w2.heap.size = w1.heap.size + 1 := by show (w1.heap.push _).size = _; simp
        have hb1 : Below w1.heap.size w1 w2 := ⟨rfl, rfl, rfl, by omega, hold⟩
        have hc2 : w2.cell? ⟨w1.heap.size, 0, none⟩ = some (.slice A len cap) := by
          have := cells_new w1 [.slice A len cap] 22 0 _ rfl
          exact this
        refine (HS w1.heap.size (.slice A len cap) l (by omega) w2 w1.heap.size (by omega) (by omega) hc2 (hI.below hb1)).mono fun e w3 he => ?_
        obtain ⟨sv', l', rfl, hperm, hsort, hown, hb, hdr⟩ := he
        refine ⟨_, rfl, ?_⟩
        rw [o39_2.2.1]
        obtain ⟨ext2, H2⟩ := z2.grown (w' := w2) ⟨rfl, rfl, rfl, by omega, hold, fun _ => Nat.le_refl _⟩
        obtain ⟨ρ3, ext3, H3, hv3⟩ := own_row32 H2 hown hb hdr
        have h9 : (a2.put (some 9) sv').tmps.getD 9 undef = sv' := by rw [put_get (by rw [s2, ntmps39]; exact of_decide_eq_true (by kernel_rfl)), if_pos rfl]
        refine op_value o39_3.2.2 (ex3 h9) ?_
        rw [o39_3.2.1]
        show pR39.wp PR _ _ w3
        have hlen' := hperm.length_eq
        have hres := p39_ok (k := 1001) (l := l') (by omega) (by omega)
        rw [joined_any hgw hperm hsort] at hres
        have A4 : ARel (ntmpsAt PR 39) [] ρ3 RO1 w3 [(0, some (.slf 0))] ((a2.put (some 9) sv').put (some 0) sv') := by
          refine ⟨by rw [put_size, put_size]; exact s2, by rw [← ha2]; exact z4.defers, fun t v hl => ?_⟩
          rw [lookE_cons] at hl
          split at hl
          · rename_i q
            subst q
            cases hl
            rw [put_get (by rw [put_size, s2, ntmps39]; exact of_decide_eq_true (by kernel_rfl)), if_pos rfl]
            exact hv3
          · cases hl
        refine wp_mono (rest39 hres w0 F [] ρ3 RO1 _ w3 H3 A4) fun x a5 w5 q => ?_
        obtain ⟨⟨ρ7, RO7, x1, _, x2, x3, x4⟩, _⟩ := q
        cases x3
        have ext := z1.trans (ext2.trans ext3)
        refine ⟨x4.defers, _, results_tmp rfl _ _ _, ρ7, RO7, ⟨fun id y hy => ?_, fun b hb => x1.ro _ (ext.ro _ hb), fun b hb => (x1.same _ (ext.ro _ hb)).trans (ext.same _ hb)⟩, x2, _, rfl, x4.env 2 _ rfl⟩
        rw [H.fresh _ (Nat.zero_le _)] at hy
        cases hy
    · rename_i hx
      exfalso
      rcases ac with _ | ⟨b, _ | ⟨c, t⟩⟩ <;> rcases Hc with _ | ⟨x, y⟩ <;> first | exact hx _ rfl rfl | (cases hd) | (simp at hd)
  · cases e
end Go.Proofs.Ytaooefnmdlajcaa

end
section
set_option linter.unusedVariables false
namespace Go.Proofs.Ytaooefnmdlajcaa
open Go.RowKit Go.Shelf Go.Proofs Go.Sort Go.Lib
attribute [local go_sem] Oper.semAt_some
def Ranked (l : List Win) : Prop := l.Pairwise fun x y => cmpW x y ≤ 0
theorem sortW_heap {w : World} {blk n : Nat} {d' : Array Win} {os : Array Obj} {cur : Array Value} (hb : w.heap[blk]? = some (.cells cur 32 (0, 0))) :
    (sortWorldK encA 3 w blk 0 n d' os).heap[blk]? = some (.cells (putCells id 0 (flatK encA 3 d') cur) 32 (0, 0)) ∧ Below blk w (sortWorldK encA 3 w blk 0 n d' os) := by
  have hlt : blk < w.heap.size := (Array.getElem?_eq_some_iff.1 hb).1
  constructor
  · simp only [sortWorldK, grow, putRowK, putRow, mapBlock, Sort.ahead]
    rw [Array.getElem?_append_left (by simpa using hlt), Array.getElem?_modify, if_pos rfl, hb]
    rfl
  · refine ⟨rfl, rfl, rfl, ?_, fun k hk => ?_⟩
    · simp [sortWorldK, grow, putRowK, putRow, mapBlock, Sort.ahead]
    · simp only [sortWorldK, grow, putRowK, putRow, mapBlock, Sort.ahead]
      rw [Array.getElem?_append_left (by simp; omega), Array.getElem?_modify, if_neg (by omega)]
theorem sortFunc_calls (base : Nat) (v : Value) (l : List Win) (hl : l.length ≤ 1000000) (w : World) (hbase : base ≤ w.heap.size) (ho : w.ownsRow base 32 3 v l.length (l.flatMap encA)) :
    Calls Try.prog 112 #[v, .func (.func 78) #[] #[]] w fun e w' => e = .returned (.tuple #[]) ∧ ∃ l', l'.Perm l ∧ Ranked l' ∧ w'.ownsRow base 32 3 v l'.length (l'.flatMap encA) ∧ Below base w w' := by
  rcases ho.2 with ⟨rfl, h0⟩ | ⟨g, cap, cur, rfl, hg, hgb, h1, h2, h3, h4⟩
  · have hn : l = [] := List.length_eq_zero_iff.1 h0
    subst hn
    have := AnyF.slices_SortFunc_none sortA none 0 (.func (.func 78) #[] #[]) w
    exact this.mono fun e w' ⟨he, hw⟩ => ⟨he, [], .refl _, .nil, hw ▸ ho, hw ▸ Below.refl _ _⟩
  · have hH := holds_of_owns hgb h4 (by rw [h3]; exact Nat.mul_le_mul_right _ h1)
    have eg : ∀ args w, (callFunc 78 args).run Try.prog w = .ok (.enter 78 args) w := enters_of Try.func78 (by kernel_rfl) rfl
    have hcon := AnyQ.slices_SortFunc sortA 3 Try.isAgg32 Try.sizeOf32 encA (fun _ => rfl) one_encA cmpW swoA 78 #[] g 0 cap l.toArray w eg (cmpLays g 0 _ w) hH (Array.getElem?_eq_some_iff.1 hgb).1 (by simp; omega)
    have hs0 : l.toArray.size = l.length := by simp
    rw [hs0] at hcon
    change Calls Try.prog 112 _ _ _ at hcon
    refine hcon.mono ?_
    rintro e w' ⟨rfl, d', n, os, hp, hs, rfl⟩
    obtain ⟨q1, q2⟩ := sortW_heap (n := n) (d' := d') (os := os) hgb
    have hsz : d'.size = l.length := by have := hp.1; simpa using this
    have hperm : d'.toList.Perm l := by
      have := hp.2.2
      rw [show d'.extract 0 l.length = d' by rw [← hsz]; simp] at this
      simpa using this
    have hlen : d'.toList.length = l.length := by simpa using hsz
    refine ⟨rfl, d'.toList, hperm, ?_, ⟨?_, .inr ⟨g, cap, _, by rw [hlen], hg, q1, by omega, h2, ?_, ?_⟩⟩, ?_⟩
    · refine List.pairwise_iff_getElem.2 fun i j hi hj hij => ?_
      have hj' : j < d'.size := by simpa using hj
      have hi' : i < d'.size := by simpa using hi
      have := hs i j (Nat.zero_le _) hij (by omega)
      rw [ltA, getElem!_pos d' i hi', getElem!_pos d' j hj'] at this
      have h5 := of_decide_eq_false this
      have h6 := cmpW_swap d'[i] d'[j]
      simp only [Array.getElem_toList]
      omega
    · exact flat_length _
    · simp [putCells, h3]
    · rw [hlen, ← hsz]; exact put_take (by rw [hsz, h3]; exact Nat.mul_le_mul_right _ h1)
    · exact ⟨q2.os, q2.tape, q2.output, q2.size, fun k hk => q2.block k (by omega)⟩
end Go.Proofs.Ytaooefnmdlajcaa

end
section
set_option linter.unusedVariables false
namespace Go.Proofs.Ytaooefnmdlajcaa
open Go.RowKit Go.Shelf Go.Proofs Go.Sort Go.Lib
attribute [local go_sem] Oper.semAt_some
theorem entersIt : ∀ args w, (callFunc 113 args).run Try.prog w = .ok (.enter 113 args) w := enters_of Try.func113 (by kernel_rfl) rfl
def SortsIn (F : Fence) (n : Nat) : Prop := ∀ (base : Nat) (v : Value) (l : List Win), l.length ≤ 1000000 → ∀ (w : World), base ≤ w.heap.size → w.ownsRow base 32 3 v l.length (l.flatMap encA) →
  CallsIn F n Try.prog 112 #[v, .func (.func 78) #[] #[]] w fun e w' => e = .returned (.tuple #[]) ∧ ∃ l', l'.Perm l ∧ Ranked l' ∧ w'.ownsRow base 32 3 v l'.length (l'.flatMap encA) ∧ Below base w w'
set_option maxRecDepth 100000 in
set_option maxHeartbeats 2000000 in
theorem sortedFunc_in (F : Fence) (g22 : F.fn 76) (g30 : F.fn 111) (g31 : F.fn 112) (g32 : F.fn 113) (g38 : F.fn 124) (gr : F.round = none) (HS : SortsIn F (10 - 1)) (Bs : Nat) (sv : Value) (zs : List Win) (hN : zs.length ≤ 1000000) (w : World) (n₀ : Nat) (hn₀ : n₀ ≤ w.heap.size) (hBs : Bs < w.heap.size) (hc : w.cell? ⟨Bs, 0, none⟩ = some sv) (hI : HoldsA n₀ w sv zs) :
    CallsIn F 10 Try.prog 76 #[.func (.func 113) #[] #[.pointer (some ⟨Bs, 0, none⟩)], .func (.func 78) #[] #[]] w fun e w' =>
      ∃ (v : Value) (l : List Win), e = .returned v ∧ l.Perm zs ∧ Ranked l ∧ w'.ownsRow w.heap.size 32 3 v l.length (l.flatMap encA) ∧ Below w.heap.size w w' := by
  have hseq := values_stops F (10 - 1 - 1 - 1) g32 gr (by omega) Bs n₀ sv zs (by omega) w hBs hn₀ hc hI
  refine callsIn_of_wp Try.func76 rfl g22 ?_ gr
  simp only [Try.ntmps76, List.size_toArray, List.length_cons, List.length_nil, Nat.reduceAdd, Nat.reduceSub, Array.replicate_succ, Array.replicate_zero, List.push_toArray, List.append_toArray, List.nil_append, List.cons_append]
  gi_wp2_with (first
    | (gi_at_call 111
       refine (collect_in F (10 - 1) g30 g38 gr (by omega) 113 _ g32 entersIt zs hN _ n₀ hn₀ hseq).mono ?_
       rintro e w1 ⟨v, rfl, hrow, hb⟩)
    | (gi_at_call 112
       refine (HS w.heap.size v zs hN w1 hb.size hrow).mono ?_
       rintro e w2 ⟨rfl, l, hp, hr, hrow2, hb2⟩))
  go_ret
  exact ⟨v, l, rfl, hp, hr, hrow2, hb.trans hb2⟩
theorem values_calls (a : Option Addr) (len cap : Nat) (w : World) :
    Calls Try.prog 77 #[.slice a len cap] w fun e w' => e = .returned (.func (.func 113) #[] #[.pointer (some ⟨w.heap.size, 0, none⟩)]) ∧ w' = w.alloc (.cells #[.slice a len cap] 22) :=
  callsIn_wide.1 (values_in Fence.wide 10 trivial rfl a len cap w)
theorem sorted_calls (Bs : Nat) (sv : Value) (zs : List Win) (hN : zs.length ≤ 1000000) (w : World) (n₀ : Nat) (hn₀ : n₀ ≤ w.heap.size) (hBs : Bs < w.heap.size) (hc : w.cell? ⟨Bs, 0, none⟩ = some sv) (hI : HoldsA n₀ w sv zs) :
    Calls Try.prog 76 #[.func (.func 113) #[] #[.pointer (some ⟨Bs, 0, none⟩)], .func (.func 78) #[] #[]] w fun e w' =>
      ∃ (v : Value) (l : List Win), e = .returned v ∧ l.Perm zs ∧ Ranked l ∧ w'.ownsRow w.heap.size 32 3 v l.length (l.flatMap encA) ∧ Below w.heap.size w w' :=
  callsIn_wide.1 (sortedFunc_in Fence.wide trivial trivial trivial trivial trivial rfl (fun base v l hl w hb ho => callsIn_wide.2 (sortFunc_calls base v l hl w hb ho)) Bs sv zs hN w n₀ hn₀ hBs hc hI)
end Go.Proofs.Ytaooefnmdlajcaa

end
section
set_option linter.unusedVariables false
namespace Go.Proofs.Ytaooefnmdlajcaa
open Go Go.Eng Go.Proofs Go.RowKit
theorem gJoin_ok : CallSOk PR 39 gJoin :=
  gJoin_core values_calls fun Bs sv zs hN w n₀ hn₀ hBs hc hI => (sorted_calls Bs sv zs hN w n₀ hn₀ hBs hc hI).mono fun e w' he => by
    obtain ⟨v, l, rfl, hp, hr, ho, hb⟩ := he
    exact ⟨v, l, rfl, hp, hr.imp fun h => (cmpW_le _ _).1 h, ho, hb, fun h => h.elim⟩
end Go.Proofs.Ytaooefnmdlajcaa

end
