/- Contracts of all kinds in one table. -/
import Derived.Test.YtopeokonlaljlaaEng19
set_option linter.unusedVariables false
set_option linter.unusedSimpArgs false
set_option linter.unusedSectionVars false
namespace Go.Eng
variable [Dr]
open Go.RowKit

variable {P : Program} {N : Nat}

noncomputable def flatB (m sz : Nat) (el : Nat → Nat → AV) : Bool := @decide (FlatRow m sz el) (Classical.propDecidable _)
theorem flatB_iff {m sz : Nat} {el : Nat → Nat → AV} : flatB m sz el = true ↔ FlatRow m sz el := @decide_eq_true_iff _ (Classical.propDecidable _)

/-- An argument, as the function that only looks at it sees it. -/
noncomputable def openA (h : Heap) (v : AV) : Option (AV × Conds) := match v with
  | .sl id off len cap => match rowOf h (.sl id off len cap) with
    | some (sz, m, el, b) => match Nat.ble 1 sz with
      | true => some (.dsl sz m el, [(b, true), (flatB m sz el, true)])
      | false => none
    | none => none
  | v => match flatV v with | true => some (v, []) | false => none
noncomputable def openAs (h : Heap) : List AV → Option (List AV × Conds)
  | [] => some ([], [])
  | v :: r => match openA h v, openAs h r with
    | some (a, c), some (l, d) => some (a :: l, c ++ d)
    | _, _ => none

section
variable {w0 w : World} {F : Nat → Prop} {h : Heap} {n : Nat} {ρ : Nat → Option Loc} {RO : Nat → Prop}
theorem openA_ok (H : HRel w0 F h n ρ RO w) {a b : AV} {c : Conds} {v : Value} (e : openA h a = some (b, c)) (hc : ∀ x ∈ c, x.1 = x.2) (hv : VRel ρ RO w a v) : VRel (fun _ => none) (fun b => b < w.heap.size) w b v := by
  unfold openA at e
  split at e
  · rename_i id off len cap
    split at e
    · rename_i sz m el b1 hr
      split at e
      · rename_i hs
        cases e
        have hb : b1 = true := hc (b1, true) (by simp)
        have hf := flatB_iff.1 (hc (flatB m sz el, true) (by simp))
        subst hb
        obtain ⟨A, c, vs, rfl, h1, h2, h3, h4⟩ := rowOf_ok H hv hr
        have hs1 : 1 ≤ sz := Nat.le_of_ble_eq_true hs
        refine .dsl h1 vs (fun h0 => ?_) h3 hf fun i k hi hk => Flat.move H.ro (fun _ _ => rfl) (h4 i k hi hk) (hf i k hi hk)
        obtain ⟨blk, o, q1, q2⟩ := h2 (by omega)
        refine ⟨blk, o, q1, ?_, q2⟩
        have := q2 0 0 (by omega) (by omega)
        have h5 : blk < w.heap.size := by
          cases hh : w.heap[blk]? with
          | none => simp [World.cell?, hh] at this
          | some ob => exact (Array.getElem?_eq_some_iff.1 hh).1
        exact h5
      · cases e
    · cases e
  · split at e
    · rename_i hf
      cases e
      exact Flat.move H.ro (fun _ _ => rfl) hv (flatV_flat hf hv)
    · cases e
theorem openAs_ok (H : HRel w0 F h n ρ RO w) : ∀ {l l' : List AV} {c : Conds} {vs : List Value}, openAs h l = some (l', c) → (∀ x ∈ c, x.1 = x.2) → VRels ρ RO w l vs → VRels (fun _ => none) (fun b => b < w.heap.size) w l' vs
  | [], l', c, vs, e, hc, hv => by cases e; rw [hv.inv_nil]; exact .nil
  | a :: r, l', c, vs, e, hc, hv => by
    simp only [openAs] at e
    split at e
    · rename_i a1 c1 l1 d1 ha hl
      cases e
      obtain ⟨v, t, rfl, h1, h2⟩ := hv.inv_cons
      exact .cons (openA_ok H ha (fun x hx => hc x (by simp [hx])) h1) (openAs_ok H hl (fun x hx => hc x (by simp [hx])) h2)
    · cases e
end

/-- A contract: for these arguments and this store: what the call comes to, the store behind it, and on what ground. -/
structure Ent where
  k : FuncId
  f : List AV → Heap → Nat → Option (AEnd × Heap × Nat × Conds)
def EntOk (P : Program) (e : Ent) : Prop := ∀ args h n out h' n' c, e.f args h n = some (out, h', n', c) → (∀ x ∈ c, x.1 = x.2) → CallOk P e.k args h n out h' n'
def entLook : List Ent → FuncId → Option (List AV → Heap → Nat → Option (AEnd × Heap × Nat × Conds))
  | [], _ => none
  | e :: r, j => match Nat.beq e.k j with | true => some e.f | false => entLook r j
def entΔ (es : List Ent) : Delta := fun k l h n => match entLook es k with | some f => f l h n | none => none
theorem entLook_mem {es : List Ent} {k : FuncId} {f : List AV → Heap → Nat → Option (AEnd × Heap × Nat × Conds)} (e : entLook es k = some f) : ∃ x ∈ es, x.k = k ∧ x.f = f := by
  induction es with
  | nil => cases e
  | cons c r ih =>
    simp only [entLook] at e
    split at e
    · rename_i hb
      cases e
      exact ⟨c, by simp, Nat.eq_of_beq_eq_true hb, rfl⟩
    · obtain ⟨x, h1, h2⟩ := ih e
      exact ⟨x, by simp [h1], h2⟩
theorem entΔ_ok {es : List Ent} (h : ∀ e ∈ es, EntOk P e) : DeltaOk P (entΔ es) := by
  intro k args h' n e h1 n1 c hd hc
  unfold entΔ at hd
  split at hd
  · rename_i f hl
    obtain ⟨x, m, rfl, rfl⟩ := entLook_mem hl
    exact h x m args h' n e h1 n1 c hd hc
  · cases hd

/-- Of a function that lays nothing that it hands out. -/
def conEnt (c : Con) : Ent := ⟨c.1, fun l h n => match c.2 l with | some v => some (.ret v, h, n, []) | none => none⟩
theorem conEnt_ok {c : Con} (h : ConOk P c) : EntOk P (conEnt c) := by
  intro args h' n out h1 n1 cs e hc
  simp only [conEnt] at e
  split at e
  · rename_i v hv
    cases e
    exact h args v hv h' n
  · cases e

/-- What a function hands out: its value and its objects, numbered from n on; how many numbers. -/
structure LRes where
  val : Nat → AV
  objs : Nat → Heap
  m : Nat
def LResOk (r : LRes) : Prop := (∀ n, shV n (r.val 0) = some (r.val n)) ∧ (∀ n, shH n (r.objs 0) = some (r.objs n)) ∧ BareH (r.objs 0)
def LOk (P : Program) (k : FuncId) (g : List AV → Option (LRes × Conds)) : Prop :=
  ∀ args r c, g args = some (r, c) → (∀ x ∈ c, x.1 = x.2) → CallOk P k args [] 0 (.ret (r.val 0)) (r.objs 0) r.m ∧ LResOk r
noncomputable def lendEnt (k : FuncId) (g : List AV → Option (LRes × Conds)) : Ent := ⟨k, fun l h n => match openAs h l with
  | some (l', c0) => match g l' with
    | some (r, c) => some (.ret (r.val n), r.objs n ++ h, n + r.m, c0 ++ c)
    | none => none
  | none => none⟩
theorem lendEnt_ok {k : FuncId} {g : List AV → Option (LRes × Conds)} (hg : LOk P k g) : EntOk P (lendEnt k g) := by
  intro args h n out h1 n1 cs e hc
  simp only [lendEnt] at e
  split at e
  · rename_i l' c0 ho
    split at e
    · rename_i r c hr
      cases e
      obtain ⟨q1, q2, q3, q4⟩ := hg l' r c hr (fun x hx => hc x (by simp [hx]))
      exact lend_call q1 h n (fun w0 F ρ RO w vs H hvs => openAs_ok H ho (fun x hx => hc x (by simp [hx])) hvs) (q2 n) (q3 n) q4
    · cases e
  · cases e

/-! ### Rows read by what they hold -/
def toI : AV → Int
  | .int _ n => n
  | _ => 0
/-- The ints of a row. -/
def rdI (m : Nat) (el : Nat → Nat → AV) : List Int := (List.range m).map fun i => toI (el i 0)
noncomputable def isI (m : Nat) (el : Nat → Nat → AV) : Bool := @decide (∀ i, i < m → el i 0 = .int .i64 (toI (el i 0))) (Classical.propDecidable _)
theorem isI_iff {m : Nat} {el : Nat → Nat → AV} : isI m el = true ↔ ∀ i, i < m → el i 0 = .int .i64 (toI (el i 0)) := @decide_eq_true_iff _ (Classical.propDecidable _)
/-- A row of ints. -/
abbrev elI (l : List Int) : Nat → Nat → AV := fun i _ => .int .i64 (l.getD i 0)
abbrev intsA (l : List Int) : AV := .dsl 1 l.length (elI l)
theorem rdI_length (m : Nat) (el : Nat → Nat → AV) : (rdI m el).length = m := by simp [rdI]
theorem rdI_elI (l : List Int) : rdI l.length (elI l) = l := by
  apply List.ext_getElem
  · simp [rdI]
  · intro i h1 h2
    simp [rdI, toI, h2]
theorem isI_elI (m : Nat) (l : List Int) : isI m (elI l) = true := isI_iff.2 fun i hi => rfl
theorem flatB_elI (m : Nat) (l : List Int) : flatB m 1 (elI l) = true := flatB_iff.2 fun i k hi hk => .int _ _
theorem getD_rdI {m : Nat} {el : Nat → Nat → AV} (h : isI m el = true) (i : Nat) (hi : i < m) : el i 0 = .int .i64 ((rdI m el).getD i 0) := by
  rw [isI_iff.1 h i hi]
  simp [rdI, hi, toI]

theorem VRel.dslC {ρ : Nat → Option Loc} {RO : Nat → Prop} {w : World} {sz n : Nat} {e e' : Nat → Nat → AV} {v : Value} (hv : VRel ρ RO w (.dsl sz n e) v) (he : ∀ i k, i < n → k < sz → e i k = e' i k) : VRel ρ RO w (.dsl sz n e') v := by
  cases hv with
  | dsl hn vs hA h1 hf hv =>
    exact .dsl hn vs hA h1 (fun i k hi hk => by rw [← he i k hi hk]; exact hf i k hi hk) (fun i k hi hk => by rw [← he i k hi hk]; exact hv i k hi hk)

/-- Arguments may be told in other words. -/
def ASees (l l' : List AV) : Prop := ∀ (ρ : Nat → Option Loc) (RO : Nat → Prop) (w : World) (vs : List Value), VRels ρ RO w l vs → VRels ρ RO w l' vs
theorem ASees.nil : ASees [] [] := fun _ _ _ _ h => h
theorem ASees.cons {a b : AV} {l l' : List AV} (h : ∀ (ρ : Nat → Option Loc) (RO : Nat → Prop) (w : World) (v : Value), VRel ρ RO w a v → VRel ρ RO w b v) (t : ASees l l') : ASees (a :: l) (b :: l') := by
  intro ρ RO w vs hv
  obtain ⟨v, r, rfl, h1, h2⟩ := hv.inv_cons
  exact .cons (h _ _ _ _ h1) (t _ _ _ _ h2)
theorem ASees.same {a : AV} {l l' : List AV} (t : ASees l l') : ASees (a :: l) (a :: l') := .cons (fun _ _ _ _ h => h) t
theorem ASees.ints {m : Nat} {el : Nat → Nat → AV} {l l' : List AV} (hi : isI m el = true) (t : ASees l l') : ASees (.dsl 1 m el :: l) (intsA (rdI m el) :: l') := by
  refine .cons (fun ρ RO w v hv => ?_) t
  unfold intsA
  rw [rdI_length]
  refine hv.dslC fun i k hi' hk => ?_
  have : k = 0 := by omega
  subst this
  exact getD_rdI hi i hi'
theorem CallOk.sees {k : FuncId} {args args' : List AV} {h h' : Heap} {n n' : Nat} {out : AEnd} (H : CallOk P k args' h n out h' n') (s : ASees args args') : CallOk P k args h n out h' n' :=
  ⟨H.1, fun w0 F ρ RO w vs H1 hvs => H.2 w0 F ρ RO w vs H1 (s _ _ _ _ hvs)⟩
end Go.Eng
