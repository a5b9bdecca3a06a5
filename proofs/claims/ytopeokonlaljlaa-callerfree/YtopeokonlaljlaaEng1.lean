/- The abstract machine's values, objects and their relation to the model's memory. -/
import Derived.WalkKit
import Derived.Below
import Derived.Deep.MidRow
import Derived.Great.BuildSlice
set_option linter.unusedVariables false
set_option linter.unusedSectionVars false
namespace Go.Eng
/-- Is it told of a world that no fewer answers were drawn than before? -/
class Dr where
  p : Prop
open Go.RowKit
variable [Dr]

/-- What the evaluator knows of a value: addresses are by object numbers of its own; 'dsl', 'dptr': memory that nobody writes any more, told by what it holds. -/
inductive AV where
  | bool (b : Bool)
  | int (k : IntKind) (n : Int)
  | str (s : ByteArray)
  | ptr (id idx off : Nat)
  | dptr (sz : Nat) (cell : Nat → AV)
  | nilp
  | sl (id off len cap : Nat)
  | dsl (sz n : Nat) (elem : Nat → Nat → AV)
  | nils
  | map (id : Nat)
  | nilm
  | fn (f : Fn) (first cap : List AV)
  | nilfn
  | iface (t : TypeId) (v : AV)
  | nili
  | agg (cs : List AV)
  | tup (vs : List AV)

instance : Inhabited AV := ⟨.nilp⟩

/-- A value without addresses of the evaluator's objects. -/
inductive Flat : AV → Prop where
  | bool (b : Bool) : Flat (.bool b)
  | int (k : IntKind) (n : Int) : Flat (.int k n)
  | str (s : ByteArray) : Flat (.str s)
  | nilp : Flat .nilp
  | nils : Flat .nils
  | nilm : Flat .nilm
  | nilfn : Flat .nilfn
  | nili : Flat .nili
  | iface {t : TypeId} {v : AV} (h : Flat v) : Flat (.iface t v)
  | agg {l : List AV} (h : ∀ a ∈ l, Flat a) : Flat (.agg l)
  | tup {l : List AV} (h : ∀ a ∈ l, Flat a) : Flat (.tup l)
  | dsl {sz n : Nat} {elem : Nat → Nat → AV} (h : ∀ i k, i < n → k < sz → Flat (elem i k)) : Flat (.dsl sz n elem)
  | dptr {sz : Nat} {cell : Nat → AV} (h : ∀ k, k < sz → Flat (cell k)) : Flat (.dptr sz cell)
  | fn {f : Fn} {l1 l2 : List AV} (h1 : ∀ a ∈ l1, Flat a) (h2 : ∀ a ∈ l2, Flat a) : Flat (.fn f l1 l2)

/-- Where an object lies: its block, where in it it begins, the cells of one element, the cells of the block. -/
structure Loc where
  blk : Nat
  base : Nat
  sz : Nat
  m : Nat

inductive VRel (ρ : Nat → Option Loc) (RO : Nat → Prop) (w : World) : AV → Value → Prop where
  | bool (b : Bool) : VRel ρ RO w (.bool b) (.bool b)
  | int (k : IntKind) (n : Int) : VRel ρ RO w (.int k n) (.int k n)
  | str (s : ByteArray) : VRel ρ RO w (.str s) (.string s)
  | ptr {id idx off : Nat} {L : Loc} (h : ρ id = some L) : VRel ρ RO w (.ptr id idx off) (.pointer (some ⟨L.blk, L.base + (idx * L.sz + off), none⟩))
  | dptr {sz : Nat} {cell : Nat → AV} {blk o : Nat} (vs : Nat → Value) (hr : RO blk)
      (hc : ∀ k, k < sz → w.cell? ⟨blk, o + k, none⟩ = some (vs k)) (h1 : ∀ k, k < sz → (vs k).oneCell' = true) (hf : ∀ k, k < sz → Flat (cell k)) (hv : ∀ k, k < sz → VRel ρ RO w (cell k) (vs k)) :
      VRel ρ RO w (.dptr sz cell) (.pointer (some ⟨blk, o, none⟩))
  | nilp : VRel ρ RO w .nilp (.pointer none)
  | sl {id off len cap c : Nat} {L : Loc} {A : Option Addr} (h : ρ id = some L) (hl : len ≤ cap) (hc : cap ≤ c)
      (hA : c ≠ 0 → A = some ⟨L.blk, L.base + off * L.sz, none⟩ ∧ L.base + (off + c) * L.sz ≤ L.m) : VRel ρ RO w (.sl id off len cap) (.slice A len c)
  | dsl {sz n c : Nat} {elem : Nat → Nat → AV} {A : Option Addr} (hn : n ≤ c) (vs : Nat → Nat → Value)
      (hA : n ≠ 0 → ∃ blk o, A = some ⟨blk, o, none⟩ ∧ RO blk ∧ ∀ i k, i < n → k < sz → w.cell? ⟨blk, o + (i * sz + k), none⟩ = some (vs i k))
      (h1 : ∀ i k, i < n → k < sz → (vs i k).oneCell' = true) (hf : ∀ i k, i < n → k < sz → Flat (elem i k)) (hv : ∀ i k, i < n → k < sz → VRel ρ RO w (elem i k) (vs i k)) : VRel ρ RO w (.dsl sz n elem) (.slice A n c)
  | nils : VRel ρ RO w .nils (.slice none 0 0)
  | map {id : Nat} {L : Loc} (h : ρ id = some L) : VRel ρ RO w (.map id) (.map (some L.blk))
  | nilm : VRel ρ RO w .nilm (.map none)
  | fn {f : Fn} {l1 l2 : List AV} {v1 v2 : List Value} (e1 : l1.length = v1.length) (e2 : l2.length = v2.length)
      (h1 : ∀ (i : Nat) (a : AV) (v : Value), l1[i]? = some a → v1[i]? = some v → VRel ρ RO w a v) (h2 : ∀ (i : Nat) (a : AV) (v : Value), l2[i]? = some a → v2[i]? = some v → VRel ρ RO w a v) :
      VRel ρ RO w (.fn f l1 l2) (.func f v1.toArray v2.toArray)
  | nilfn : VRel ρ RO w .nilfn .nilFunc
  | iface {t : TypeId} {a : AV} {v : Value} (h : VRel ρ RO w a v) : VRel ρ RO w (.iface t a) (.iface t v)
  | nili : VRel ρ RO w .nili .nilIface
  | agg {l : List AV} {vs : List Value} (e : l.length = vs.length) (h1 : ∀ x ∈ vs, x.oneCell' = true) (h : ∀ (i : Nat) (a : AV) (v : Value), l[i]? = some a → vs[i]? = some v → VRel ρ RO w a v) :
      VRel ρ RO w (.agg l) (.agg vs.toArray)
  | tup {l : List AV} {vs : List Value} (e : l.length = vs.length) (h : ∀ (i : Nat) (a : AV) (v : Value), l[i]? = some a → vs[i]? = some v → VRel ρ RO w a v) :
      VRel ρ RO w (.tup l) (.tuple vs.toArray)

/-- Lists of values, one by one. -/
def VRels (ρ : Nat → Option Loc) (RO : Nat → Prop) (w : World) (l : List AV) (vs : List Value) : Prop :=
  l.length = vs.length ∧ ∀ (i : Nat) (a : AV) (v : Value), l[i]? = some a → vs[i]? = some v → VRel ρ RO w a v

/-- What is known of values lives on: more objects, more memory at rest, which is as it was. -/
structure Ext (ρ : Nat → Option Loc) (RO : Nat → Prop) (w : World) (ρ' : Nat → Option Loc) (RO' : Nat → Prop) (w' : World) : Prop where
  ids : ∀ id x, ρ id = some x → ρ' id = some x
  ro : ∀ b, RO b → RO' b
  same : ∀ b, RO b → w'.heap[b]? = w.heap[b]?

theorem Ext.refl (ρ : Nat → Option Loc) (RO : Nat → Prop) (w : World) : Ext ρ RO w ρ RO w := ⟨fun _ _ h => h, fun _ h => h, fun _ _ => rfl⟩
theorem Ext.trans {ρ ρ' ρ'' : Nat → Option Loc} {RO RO' RO'' : Nat → Prop} {w w' w'' : World} (h : Ext ρ RO w ρ' RO' w') (h' : Ext ρ' RO' w' ρ'' RO'' w'') : Ext ρ RO w ρ'' RO'' w'' :=
  ⟨fun id x e => h'.ids id x (h.ids id x e), fun b e => h'.ro b (h.ro b e), fun b e => (h'.same b (h.ro b e)).trans (h.same b e)⟩

theorem cell_same {w w' : World} {b : Nat} (h : w'.heap[b]? = w.heap[b]?) (o : Nat) : w'.cell? ⟨b, o, none⟩ = w.cell? ⟨b, o, none⟩ := by
  unfold World.cell?; simp only [h]

/-- What has no such addresses is so, wherever the objects lie. -/
theorem Flat.move {ρ ρ' : Nat → Option Loc} {RO RO' : Nat → Prop} {w w' : World} (hro : ∀ b, RO b → RO' b) (hsame : ∀ b, RO b → w'.heap[b]? = w.heap[b]?) {a : AV} {v : Value} (h : VRel ρ RO w a v) (hf : Flat a) : VRel ρ' RO' w' a v := by
  induction h with
  | bool b => exact .bool b
  | int k n => exact .int k n
  | str s => exact .str s
  | ptr h => cases hf
  | dptr vs hr hc h1 hfl _ ih => exact .dptr vs (hro _ hr) (fun k hk => (cell_same (hsame _ hr) _).trans (hc k hk)) h1 hfl (fun k hk => ih k hk (hfl k hk))
  | nilp => exact .nilp
  | sl h hl hc hA => cases hf
  | dsl hn vs hA h1 hfl _ ih =>
    refine .dsl hn vs (fun h => ?_) h1 hfl (fun i k hi hk => ih i k hi hk (hfl i k hi hk))
    obtain ⟨blk, o, q1, q2, q3⟩ := hA h
    exact ⟨blk, o, q1, hro _ q2, fun i k hi hk => (cell_same (hsame _ q2) _).trans (q3 i k hi hk)⟩
  | nils => exact .nils
  | map h => cases hf
  | nilm => exact .nilm
  | fn e1 e2 _ _ ih1 ih2 =>
    cases hf with
    | fn h1 h2 => exact .fn e1 e2 (fun i a v q1 q2 => ih1 i a v q1 q2 (h1 a (List.mem_of_getElem? q1))) (fun i a v q1 q2 => ih2 i a v q1 q2 (h2 a (List.mem_of_getElem? q1)))
  | nilfn => exact .nilfn
  | iface _ ih =>
    cases hf with
    | iface h => exact .iface (ih h)
  | nili => exact .nili
  | agg he h1 _ ih =>
    cases hf with
    | agg h => exact .agg he h1 (fun i a v q1 q2 => ih i a v q1 q2 (h a (List.mem_of_getElem? q1)))
  | tup he _ ih =>
    cases hf with
    | tup h => exact .tup he (fun i a v q1 q2 => ih i a v q1 q2 (h a (List.mem_of_getElem? q1)))

theorem VRel.mono {ρ ρ' : Nat → Option Loc} {RO RO' : Nat → Prop} {w w' : World} (e : Ext ρ RO w ρ' RO' w') {a : AV} {v : Value} (h : VRel ρ RO w a v) : VRel ρ' RO' w' a v := by
  induction h with
  | bool b => exact .bool b
  | int k n => exact .int k n
  | str s => exact .str s
  | ptr h => exact .ptr (e.ids _ _ h)
  | dptr vs hr hc h1 hf _ ih => exact .dptr vs (e.ro _ hr) (fun k hk => (cell_same (e.same _ hr) _).trans (hc k hk)) h1 hf ih
  | nilp => exact .nilp
  | sl h hl hc hA => exact .sl (e.ids _ _ h) hl hc hA
  | dsl hn vs hA h1 hf _ ih =>
    refine .dsl hn vs (fun h => ?_) h1 hf ih
    obtain ⟨blk, o, h1, h2, h3⟩ := hA h
    exact ⟨blk, o, h1, e.ro _ h2, fun i k hi hk => (cell_same (e.same _ h2) _).trans (h3 i k hi hk)⟩
  | nils => exact .nils
  | map h => exact .map (e.ids _ _ h)
  | nilm => exact .nilm
  | fn e1 e2 _ _ ih1 ih2 => exact .fn e1 e2 ih1 ih2
  | nilfn => exact .nilfn
  | iface _ ih => exact .iface ih
  | nili => exact .nili
  | agg he h1 _ ih => exact .agg he h1 ih
  | tup he _ ih => exact .tup he ih

theorem VRels.mono {ρ ρ' : Nat → Option Loc} {RO RO' : Nat → Prop} {w w' : World} (e : Ext ρ RO w ρ' RO' w') {l : List AV} {vs : List Value} (h : VRels ρ RO w l vs) : VRels ρ' RO' w' l vs :=
  ⟨h.1, fun i a v h1 h2 => (h.2 i a v h1 h2).mono e⟩

theorem VRels.nil {ρ : Nat → Option Loc} {RO : Nat → Prop} {w : World} : VRels ρ RO w [] [] := ⟨rfl, fun i a v h => by simp at h⟩
theorem VRels.cons {ρ : Nat → Option Loc} {RO : Nat → Prop} {w : World} {a : AV} {v : Value} {l : List AV} {vs : List Value} (h : VRel ρ RO w a v) (t : VRels ρ RO w l vs) : VRels ρ RO w (a :: l) (v :: vs) :=
  ⟨by simp [t.1], fun i x y h1 h2 => by
    cases i with
    | zero => simp at h1 h2; subst h1; subst h2; exact h
    | succ i => simp at h1 h2; exact t.2 i x y h1 h2⟩
theorem VRels.inv_cons {ρ : Nat → Option Loc} {RO : Nat → Prop} {w : World} {a : AV} {l : List AV} {vs : List Value} (h : VRels ρ RO w (a :: l) vs) : ∃ v t, vs = v :: t ∧ VRel ρ RO w a v ∧ VRels ρ RO w l t := by
  obtain ⟨h1, h2⟩ := h
  cases vs with
  | nil => simp at h1
  | cons v t => exact ⟨v, t, rfl, h2 0 a v rfl rfl, by simpa using h1, fun i x y e1 e2 => h2 (i + 1) x y (by simpa using e1) (by simpa using e2)⟩
theorem VRels.inv_nil {ρ : Nat → Option Loc} {RO : Nat → Prop} {w : World} {vs : List Value} (h : VRels ρ RO w [] vs) : vs = [] := by
  cases vs with
  | nil => rfl
  | cons v t => have := h.1; simp at this

theorem VRels.get {ρ : Nat → Option Loc} {RO : Nat → Prop} {w : World} {l : List AV} {vs : List Value} (h : VRels ρ RO w l vs) {i : Nat} {a : AV} (e : l[i]? = some a) : ∃ v, vs[i]? = some v ∧ VRel ρ RO w a v := by
  have hi : i < vs.length := by rw [← h.1]; exact (List.getElem?_eq_some_iff.1 e).1
  exact ⟨vs[i], List.getElem?_eq_getElem hi, h.2 i a _ e (List.getElem?_eq_getElem hi)⟩

theorem VRels.append {ρ : Nat → Option Loc} {RO : Nat → Prop} {w : World} {l l' : List AV} {vs vs' : List Value} (h : VRels ρ RO w l vs) (h' : VRels ρ RO w l' vs') : VRels ρ RO w (l ++ l') (vs ++ vs') := by
  refine ⟨by simp [h.1, h'.1], fun i a v e1 e2 => ?_⟩
  by_cases hi : i < l.length
  · rw [List.getElem?_append_left hi] at e1
    rw [List.getElem?_append_left (h.1 ▸ hi)] at e2
    exact h.2 i a v e1 e2
  · rw [List.getElem?_append_right (by omega)] at e1
    rw [List.getElem?_append_right (by rw [← h.1]; omega)] at e2
    rw [← h.1] at e2
    exact h'.2 _ a v e1 e2

theorem VRels.take_drop {ρ : Nat → Option Loc} {RO : Nat → Prop} {w : World} {l : List AV} {vs : List Value} (h : VRels ρ RO w l vs) (o n : Nat) : VRels ρ RO w ((l.drop o).take n) ((vs.drop o).take n) := by
  refine ⟨by simp [h.1], fun i a v e1 e2 => ?_⟩
  have hi : i < n := by
    have := (List.getElem?_eq_some_iff.1 e1).1
    simp at this; omega
  rw [List.getElem?_take_of_lt hi, List.getElem?_drop] at e1 e2
  exact h.2 _ a v e1 e2

theorem VRels.set {ρ : Nat → Option Loc} {RO : Nat → Prop} {w : World} {l : List AV} {vs : List Value} (h : VRels ρ RO w l vs) (i : Nat) {a : AV} {v : Value} (hv : VRel ρ RO w a v) : VRels ρ RO w (l.set i a) (vs.set i v) := by
  refine ⟨by simp [h.1], fun j x y e1 e2 => ?_⟩
  rw [List.getElem?_set] at e1 e2
  by_cases hij : i = j
  · subst hij
    simp only [if_true] at e1 e2
    by_cases hlt : i < l.length
    · rw [if_pos hlt] at e1
      rw [if_pos (h.1 ▸ hlt)] at e2
      cases e1; cases e2; exact hv
    · rw [if_neg hlt] at e1; cases e1
  · rw [if_neg hij] at e1 e2
    exact h.2 j x y e1 e2

/-! ### Objects -/
inductive AObj where
  | box (ty : TypeId) (cells : List AV)
  | row (ty : TypeId) (sz n : Nat) (elem : Nat → Nat → AV)
  | map (es : List (AV × AV))

def ORel (ρ : Nat → Option Loc) (RO : Nat → Prop) (w : World) (x : Loc) : AObj → Prop
  | .box ty cells => x.base = 0 ∧ x.sz = cells.length ∧ x.m = cells.length ∧ ∃ cs, w.heap[x.blk]? = some (.cells (List.toArray cs) ty (0, 0)) ∧ (∀ v ∈ cs, v.oneCell' = true) ∧ VRels ρ RO w cells cs
  | .row ty sz n elem => x.sz = sz ∧ ∃ cs : Array Value, w.heap[x.blk]? = some (.cells cs ty (0, 0)) ∧ cs.size = x.m ∧ ∀ i k, i < n → k < sz → ∃ v, cs[x.base + (i * sz + k)]? = some v ∧ v.oneCell' = true ∧ VRel ρ RO w (elem i k) v
  | .map es => ∃ (ms : List MapEntry) (clock : Nat), w.heap[x.blk]? = some (.map ms.toArray clock) ∧ es.length = ms.length ∧
      ∀ (i : Nat) (e : AV × AV) (m : MapEntry), es[i]? = some e → ms[i]? = some m → VRel ρ RO w e.1 m.key ∧ VRel ρ RO w e.2 m.val

theorem ORel.mono {ρ ρ' : Nat → Option Loc} {RO RO' : Nat → Prop} {w w' : World} (e : Ext ρ RO w ρ' RO' w') {x : Loc} (hx : w'.heap[x.blk]? = w.heap[x.blk]?) {o : AObj} (h : ORel ρ RO w x o) : ORel ρ' RO' w' x o := by
  cases o with
  | box ty cells =>
    obtain ⟨h0, h1, h2, cs, h3, h4, h5⟩ := h
    exact ⟨h0, h1, h2, cs, hx.trans h3, h4, h5.mono e⟩
  | row ty sz n elem =>
    obtain ⟨h1, cs, h3, h4, h5⟩ := h
    refine ⟨h1, cs, hx.trans h3, h4, fun i k hi hk => ?_⟩
    obtain ⟨v, e1, e3, e2⟩ := h5 i k hi hk
    exact ⟨v, e1, e3, e2.mono e⟩
  | map es =>
    obtain ⟨ms, clock, h3, h4, h5⟩ := h
    exact ⟨ms, clock, hx.trans h3, h4, fun i a m e1 e2 => ⟨(h5 i a m e1 e2).1.mono e, (h5 i a m e1 e2).2.mono e⟩⟩

/-! ### Stores of names and objects: newest first -/
def look {α : Type} : List (Nat × α) → Nat → Option α
  | [], _ => none
  | (k, v) :: r, t => match Nat.beq k t with | true => some v | false => look r t

theorem look_cons {α : Type} (k : Nat) (v : α) (r : List (Nat × α)) (t : Nat) : look ((k, v) :: r) t = if k = t then some v else look r t := by
  by_cases h : k = t
  · subst h; simp [look]
  · have hb : Nat.beq k t = false := by
      cases hb : Nat.beq k t with
      | false => rfl
      | true => exact absurd (Nat.eq_of_beq_eq_true hb) h
    simp [look, hb, h]

/-- Objects: some are forgotten. -/
abbrev Heap := List (Nat × Option AObj)
def lookH (h : Heap) (id : Nat) : Option AObj := match look h id with | some (some o) => some o | _ => none
theorem lookH_cons (k : Nat) (o : Option AObj) (h : Heap) (id : Nat) : lookH ((k, o) :: h) id = if k = id then o else lookH h id := by
  unfold lookH
  rw [look_cons]
  by_cases e : k = id
  · simp only [e, if_true]; cases o <;> rfl
  · simp only [e, if_false]

/-- Nothing that was there when w0 was has turned, but in the blocks F. -/
structure Frame (w0 : World) (F : Nat → Prop) (w : World) : Prop where
  os : w.os = w0.os
  tape : w.tape = w0.tape
  output : w.output = w0.output
  size : w0.heap.size ≤ w.heap.size
  block : ∀ k, k < w0.heap.size → ¬ F k → w.heap[k]? = w0.heap[k]?
  drawn : Dr.p → w0.drawn ≤ w.drawn

theorem Frame.refl (w : World) (F : Nat → Prop) : Frame w F w := ⟨rfl, rfl, rfl, Nat.le_refl _, fun _ _ _ => rfl, fun _ => Nat.le_refl _⟩
theorem Frame.below {w0 w : World} (h : Frame w0 (fun _ => False) w) : Below w0.heap.size w0 w := ⟨h.os, h.tape, h.output, h.size, fun k hk => h.block k hk (fun x => x)⟩

/-- A row without elements that lies nowhere: whoever has it can't reach a cell. -/
def Ghost (x : Loc) (o : AObj) : Prop := ∃ ty sz elem, o = .row ty sz 0 elem ∧ x.m = 0 ∧ x.sz = sz ∧ 1 ≤ sz

structure Solid (w0 : World) (F : Nat → Prop) (ρ : Nat → Option Loc) (RO : Nat → Prop) (w : World) (x : Loc) (o : AObj) : Prop where
  rel : ORel ρ RO w x o
  lt : x.blk < w.heap.size
  own : w0.heap.size ≤ x.blk ∨ F x.blk
  free : ¬ RO x.blk

structure HRel (w0 : World) (F : Nat → Prop) (h : Heap) (next : Nat) (ρ : Nat → Option Loc) (RO : Nat → Prop) (w : World) : Prop where
  frame : Frame w0 F w
  objs : ∀ id o, lookH h id = some o → ∃ x, ρ id = some x ∧ (Ghost x o ∨ Solid w0 F ρ RO w x o)
  dis : ∀ id id' o o' x x', id ≠ id' → lookH h id = some o → lookH h id' = some o' → ρ id = some x → ρ id' = some x' → Ghost x o ∨ Ghost x' o' ∨ x.blk ≠ x'.blk
  fresh : ∀ id, next ≤ id → ρ id = none
  ro : ∀ b, RO b → b < w.heap.size

theorem Solid.mono {w0 w w' : World} {F : Nat → Prop} {ρ ρ' : Nat → Option Loc} {RO : Nat → Prop} {x : Loc} {o : AObj} (s : Solid w0 F ρ RO w x o) (e : Ext ρ RO w ρ' RO w') (hx : w'.heap[x.blk]? = w.heap[x.blk]?) (hs : w.heap.size ≤ w'.heap.size) :
    Solid w0 F ρ' RO w' x o := ⟨s.rel.mono e hx, Nat.lt_of_lt_of_le s.lt hs, s.own, s.free⟩

/-- A new object, real or not, in a world that has only grown. -/
theorem HRel.add {w0 : World} {F : Nat → Prop} {h : Heap} {next : Nat} {ρ : Nat → Option Loc} {RO : Nat → Prop} {w w' : World} (H : HRel w0 F h next ρ RO w) (o : AObj) (L : Loc)
    (hf : Frame w0 F w') (hsame : ∀ k, k < w.heap.size → w'.heap[k]? = w.heap[k]?) (hsize : w.heap.size ≤ w'.heap.size) :
    let ρ' : Nat → Option Loc := fun id => if id = next then some L else ρ id
    Ext ρ RO w ρ' RO w' ∧ ((Ghost L o ∨ (w.heap.size ≤ L.blk ∧ Solid w0 F ρ' RO w' L o)) → HRel w0 F ((next, some o) :: h) (next + 1) ρ' RO w') := by
  intro ρ'
  have hn : ∀ id x, ρ id = some x → id ≠ next := by
    intro id x hx e
    rw [e, H.fresh next (Nat.le_refl _)] at hx
    cases hx
  have ext : Ext ρ RO w ρ' RO w' :=
    ⟨fun id x hx => by
      show (if id = next then _ else ρ id) = _
      rw [if_neg (hn id x hx)]
      exact hx, fun _ hb => hb, fun b hb => hsame b (H.ro b hb)⟩
  have hnew : ρ' next = some L := if_pos rfl
  have hold : ∀ id o x, next ≠ id → lookH h id = some o → ρ' id = some x → ρ id = some x := by
    intro id o x hne hl hx
    obtain ⟨y, h1, _⟩ := H.objs id o hl
    have := ext.ids _ _ h1; rw [hx] at this; cases this; exact h1
  refine ⟨ext, fun ho => ?_⟩
  constructor
  · exact hf
  · intro id o' hl
    rw [lookH_cons] at hl
    by_cases e : next = id
    · subst e
      simp only [if_true] at hl; cases hl
      exact ⟨_, hnew, ho.imp id (·.2)⟩
    · rw [if_neg e] at hl
      obtain ⟨x, h1, h2⟩ := H.objs id o' hl
      exact ⟨x, ext.ids _ _ h1, h2.imp (fun g => g) (fun s => s.mono ext (hsame _ s.lt) hsize)⟩
  · intro id id' o1 o2 x x' hne h1 h2 e1 e2
    rw [lookH_cons] at h1 h2
    by_cases e : next = id
    · subst e
      rw [if_neg hne] at h2
      simp only [if_true] at h1; cases h1
      rw [hnew] at e1; cases e1
      rcases ho with ho | ⟨ho, _⟩
      · exact .inl ho
      · obtain ⟨y, g1, g2⟩ := H.objs id' o2 h2
        have := ext.ids _ _ g1; rw [e2] at this; cases this
        rcases g2 with g2 | g2
        · exact .inr (.inl g2)
        · have := g2.lt
          exact .inr (.inr (by omega))
    · by_cases e' : next = id'
      · subst e'
        rw [if_neg e] at h1
        simp only [if_true] at h2; cases h2
        rw [hnew] at e2; cases e2
        rcases ho with ho | ⟨ho, _⟩
        · exact .inr (.inl ho)
        · obtain ⟨y, g1, g2⟩ := H.objs id o1 h1
          have := ext.ids _ _ g1; rw [e1] at this; cases this
          rcases g2 with g2 | g2
          · exact .inl g2
          · have := g2.lt
            exact .inr (.inr (by omega))
      · rw [if_neg e] at h1; rw [if_neg e'] at h2
        exact H.dis id id' o1 o2 _ _ hne h1 h2 (hold _ _ _ e h1 e1) (hold _ _ _ e' h2 e2)
  · intro id hid
    show (if id = next then _ else ρ id) = none
    rw [if_neg (by omega)]
    exact H.fresh id (by omega)
  · intro b hb
    have := H.ro b hb
    omega

theorem HRel.alloc {w0 : World} {F : Nat → Prop} {h : Heap} {next : Nat} {ρ : Nat → Option Loc} {RO : Nat → Prop} {w : World} (H : HRel w0 F h next ρ RO w) (ob : Obj) (o : AObj) (sz m : Nat) :
    let ρ' : Nat → Option Loc := fun id => if id = next then some ⟨w.heap.size, 0, sz, m⟩ else ρ id
    Ext ρ RO w ρ' RO (w.alloc ob) ∧ (ORel ρ' RO (w.alloc ob) ⟨w.heap.size, 0, sz, m⟩ o → HRel w0 F ((next, some o) :: h) (next + 1) ρ' RO (w.alloc ob)) := by
  have hsame : ∀ k, k < w.heap.size → (w.alloc ob).heap[k]? = w.heap[k]? := fun k hk => by simp only [World.alloc, Array.getElem?_push]; rw [if_neg (by omega)]
  obtain ⟨ext, fin⟩ := H.add (w' := w.alloc ob) o ⟨w.heap.size, 0, sz, m⟩
    ⟨H.frame.os, H.frame.tape, H.frame.output, by have := H.frame.size; simp; omega, fun k hk hF => (hsame k (by have := H.frame.size; omega)).trans (H.frame.block k hk hF), H.frame.drawn⟩ hsame (by simp)
  exact ⟨ext, fun ho => fin (.inr ⟨Nat.le_refl _, ho, by simp, .inl H.frame.size, fun hr => absurd (H.ro _ hr) (by simp)⟩)⟩

/-- An object turns, all else is as it was; it may get a new number, and another place in its block. -/
theorem HRel.renew {w0 : World} {F : Nat → Prop} {h : Heap} {next : Nat} {ρ : Nat → Option Loc} {RO : Nat → Prop} {w w' : World} (H : HRel w0 F h next ρ RO w) {id : Nat} {o : AObj} (hl : lookH h id = some o) {x : Loc} (hx : ρ id = some x) (hg : ¬ Ghost x o)
    (hos : w'.os = w.os) (htape : w'.tape = w.tape) (hout : w'.output = w.output) (hdr : w'.drawn = w.drawn) (hsize : w'.heap.size = w.heap.size) (hsame : ∀ k, k ≠ x.blk → w'.heap[k]? = w.heap[k]?) (L : Loc) (hL : L.blk = x.blk) :
    let ρ' : Nat → Option Loc := fun id => if id = next then some L else ρ id
    Ext ρ RO w ρ' RO w' ∧ ∀ o' : AObj, ORel ρ' RO w' L o' → HRel w0 F ((next, some o') :: (id, none) :: h) (next + 1) ρ' RO w' := by
  intro ρ'
  obtain ⟨y, h1, h2⟩ := H.objs id o hl
  rw [hx] at h1; cases h1
  have h2 := h2.resolve_left hg
  have hn : ∀ id x, ρ id = some x → id ≠ next := by
    intro id x hx e
    rw [e, H.fresh next (Nat.le_refl _)] at hx
    cases hx
  have ext : Ext ρ RO w ρ' RO w' :=
    ⟨fun id x hx => by
      show (if id = next then _ else ρ id) = _
      rw [if_neg (hn id x hx)]
      exact hx, fun _ hb => hb, fun b hb => hsame b (fun e => h2.free (e ▸ hb))⟩
  have hnew : ρ' next = some L := if_pos rfl
  have back : ∀ k ok, lookH ((id, none) :: h) k = some ok → k ≠ id ∧ lookH h k = some ok := by
    intro k ok hk
    rw [lookH_cons] at hk
    by_cases e : id = k
    · rw [if_pos e] at hk; cases hk
    · rw [if_neg e] at hk; exact ⟨fun e' => e e'.symm, hk⟩
  have hold : ∀ id o x, lookH h id = some o → ρ' id = some x → ρ id = some x := by
    intro id o x hl hx
    obtain ⟨y, h1, _⟩ := H.objs id o hl
    have := ext.ids _ _ h1; rw [hx] at this; cases this; exact h1
  refine ⟨ext, fun o' ho => ?_⟩
  have hsol : Solid w0 F ρ' RO w' L o' := ⟨ho, by rw [hL, hsize]; exact h2.lt, by rw [hL]; exact h2.own, by rw [hL]; exact h2.free⟩
  have away : ∀ k ok z, k ≠ id → lookH h k = some ok → ρ k = some z → Ghost z ok ∨ z.blk ≠ x.blk := by
    intro k ok z hk hlk hz
    rcases H.dis k id ok o z x hk hlk hl hz hx with q | q | q
    · exact .inl q
    · exact absurd q hg
    · exact .inr q
  constructor
  · refine ⟨hos.trans H.frame.os, htape.trans H.frame.tape, hout.trans H.frame.output, by rw [hsize]; exact H.frame.size, fun k hk hF => ?_, fun d => by rw [hdr]; exact H.frame.drawn d⟩
    by_cases e : k = x.blk
    · subst e; rcases h2.own with h4 | h4
      · omega
      · exact absurd h4 hF
    · exact (hsame k e).trans (H.frame.block k hk hF)
  · intro id' o1 hl'
    rw [lookH_cons] at hl'
    by_cases e : next = id'
    · subst e; simp only [if_true] at hl'; cases hl'
      exact ⟨L, hnew, .inr hsol⟩
    · rw [if_neg e] at hl'
      obtain ⟨hne, hl'⟩ := back _ _ hl'
      obtain ⟨z, g1, g2⟩ := H.objs id' o1 hl'
      refine ⟨z, ext.ids _ _ g1, ?_⟩
      rcases g2 with g2 | g2
      · exact .inl g2
      · rcases away id' o1 z hne hl' g1 with q | q
        · exact .inl q
        · exact .inr (g2.mono ext (hsame _ q) (by omega))
  · intro i j o1 o2 z z' hne g1 g2 e1 e2
    rw [lookH_cons] at g1 g2
    by_cases e : next = i
    · subst e
      rw [if_neg hne] at g2
      rw [hnew] at e1; cases e1
      obtain ⟨hne2, g2⟩ := back _ _ g2
      rcases away j o2 z' hne2 g2 (hold _ _ _ g2 e2) with q | q
      · exact .inr (.inl q)
      · exact .inr (.inr (by rw [hL]; exact fun e => q e.symm))
    · rw [if_neg e] at g1
      obtain ⟨hne1, g1⟩ := back _ _ g1
      by_cases e' : next = j
      · subst e'
        rw [hnew] at e2; cases e2
        rcases away i o1 z hne1 g1 (hold _ _ _ g1 e1) with q | q
        · exact .inl q
        · exact .inr (.inr (by rw [hL]; exact q))
      · rw [if_neg e'] at g2
        obtain ⟨hne2, g2⟩ := back _ _ g2
        exact H.dis i j o1 o2 z z' hne g1 g2 (hold _ _ _ g1 e1) (hold _ _ _ g2 e2)
  · intro k hk
    show (if k = next then _ else ρ k) = none
    rw [if_neg (by omega)]
    exact H.fresh k (by omega)
  · intro b hb; rw [hsize]; exact H.ro b hb

/-- An object turns; all else is as it was. -/
theorem HRel.turn {w0 : World} {F : Nat → Prop} {h : Heap} {next : Nat} {ρ : Nat → Option Loc} {RO : Nat → Prop} {w w' : World} (H : HRel w0 F h next ρ RO w) {id : Nat} {o : AObj} (hl : lookH h id = some o) {x : Loc} (hx : ρ id = some x) (hg : ¬ Ghost x o)
    (hos : w'.os = w.os) (htape : w'.tape = w.tape) (hout : w'.output = w.output) (hdr : w'.drawn = w.drawn) (hsize : w'.heap.size = w.heap.size) (hsame : ∀ k, k ≠ x.blk → w'.heap[k]? = w.heap[k]?) :
    Ext ρ RO w ρ RO w' ∧ ∀ o' : AObj, ORel ρ RO w' x o' → HRel w0 F ((id, some o') :: h) next ρ RO w' := by
  obtain ⟨y, h1, h2⟩ := H.objs id o hl
  rw [hx] at h1; cases h1
  have h2 := h2.resolve_left hg
  have ext : Ext ρ RO w ρ RO w' := ⟨fun _ _ e => e, fun _ e => e, fun b hb => hsame b (fun e => h2.free (e ▸ hb))⟩
  refine ⟨ext, fun o' ho => ?_⟩
  constructor
  · refine ⟨hos.trans H.frame.os, htape.trans H.frame.tape, hout.trans H.frame.output, by rw [hsize]; exact H.frame.size, fun k hk hF => ?_, fun d => by rw [hdr]; exact H.frame.drawn d⟩
    by_cases e : k = x.blk
    · subst e; rcases h2.own with h4 | h4
      · omega
      · exact absurd h4 hF
    · exact (hsame k e).trans (H.frame.block k hk hF)
  · intro id' o1 hl'
    rw [lookH_cons] at hl'
    by_cases e : id = id'
    · subst e; simp only [if_true] at hl'; cases hl'
      exact ⟨x, hx, .inr ⟨ho, by rw [hsize]; exact h2.lt, h2.own, h2.free⟩⟩
    · rw [if_neg e] at hl'
      obtain ⟨z, g1, g2⟩ := H.objs id' o1 hl'
      refine ⟨z, g1, ?_⟩
      rcases g2 with g2 | g2
      · exact .inl g2
      · rcases H.dis id id' o o1 x z e hl hl' hx g1 with q | q | q
        · exact absurd q hg
        · exact .inl q
        · exact .inr (g2.mono ext (hsame _ (fun e => q e.symm)) (by omega))
  · intro i j o1 o2 z z' hne g1 g2 e1 e2
    rw [lookH_cons] at g1 g2
    by_cases e : id = i
    · subst e
      rw [if_neg hne] at g2
      rw [hx] at e1; cases e1
      rcases H.dis id j o o2 x z' hne hl g2 hx e2 with q | q | q
      · exact absurd q hg
      · exact .inr (.inl q)
      · exact .inr (.inr q)
    · rw [if_neg e] at g1
      by_cases e' : id = j
      · subst e'
        rw [hx] at e2; cases e2
        rcases H.dis i id o1 o z x hne g1 hl e1 hx with q | q | q
        · exact .inl q
        · exact absurd q hg
        · exact .inr (.inr q)
      · rw [if_neg e'] at g2
        exact H.dis i j o1 o2 z z' hne g1 g2 e1 e2
  · exact H.fresh
  · intro b hb; rw [hsize]; exact H.ro b hb

/-- What is forgotten is forgotten. -/
theorem HRel.forget {w0 : World} {F : Nat → Prop} {h h' : Heap} {next : Nat} {ρ : Nat → Option Loc} {RO : Nat → Prop} {w : World} (H : HRel w0 F h next ρ RO w) (hs : ∀ id o, lookH h' id = some o → lookH h id = some o) : HRel w0 F h' next ρ RO w :=
  ⟨H.frame, fun id o e => H.objs id o (hs id o e), fun id id' o o' x x' hne e e' => H.dis id id' o o' x x' hne (hs _ _ e) (hs _ _ e'), H.fresh, H.ro⟩

theorem HRel.more {w0 : World} {F : Nat → Prop} {h : Heap} {next n : Nat} {ρ : Nat → Option Loc} {RO : Nat → Prop} {w : World} (H : HRel w0 F h next ρ RO w) (hn : next ≤ n) : HRel w0 F h n ρ RO w :=
  ⟨H.frame, H.objs, H.dis, fun id hid => H.fresh id (by omega), H.ro⟩

/-- The count of drawn answers goes on. -/
theorem HRel.drew {w0 : World} {F : Nat → Prop} {h : Heap} {next : Nat} {ρ : Nat → Option Loc} {RO : Nat → Prop} {w : World} (H : HRel w0 F h next ρ RO w) : Ext ρ RO w ρ RO w.drew ∧ HRel w0 F h next ρ RO w.drew := by
  have ext : Ext ρ RO w ρ RO w.drew := ⟨fun _ _ e => e, fun _ e => e, fun _ _ => rfl⟩
  exact ⟨ext, ⟨⟨H.frame.os, H.frame.tape, H.frame.output, H.frame.size, H.frame.block, fun d => Nat.le_trans (H.frame.drawn d) (Nat.le_succ _)⟩, fun id o e => by
    obtain ⟨x, h1, h2⟩ := H.objs id o e
    exact ⟨x, h1, h2.imp (fun g => g) (fun s => s.mono ext rfl (Nat.le_refl _))⟩, H.dis, H.fresh, H.ro⟩⟩

theorem not_ghost_box {x : Loc} {ty : TypeId} {cells : List AV} : ¬ Ghost x (.box ty cells) := by rintro ⟨_, _, _, h, _⟩; cases h
theorem not_ghost_map {x : Loc} {es : List (AV × AV)} : ¬ Ghost x (.map es) := by rintro ⟨_, _, _, h, _⟩; cases h
theorem not_ghost_row {x : Loc} {ty : TypeId} {sz n : Nat} {elem : Nat → Nat → AV} (hn : 0 < n) : ¬ Ghost x (.row ty sz n elem) := by rintro ⟨_, _, _, h, _⟩; cases h; omega

theorem HRel.box {w0 : World} {F : Nat → Prop} {h : Heap} {next : Nat} {ρ : Nat → Option Loc} {RO : Nat → Prop} {w : World} (H : HRel w0 F h next ρ RO w) {id : Nat} {ty : TypeId} {cells : List AV} (hl : lookH h id = some (.box ty cells)) {x : Loc} (hx : ρ id = some x) : ORel ρ RO w x (.box ty cells) := by
  obtain ⟨y, h1, h2⟩ := H.objs id _ hl
  rw [hx] at h1; cases h1
  exact (h2.resolve_left not_ghost_box).rel
theorem HRel.row {w0 : World} {F : Nat → Prop} {h : Heap} {next : Nat} {ρ : Nat → Option Loc} {RO : Nat → Prop} {w : World} (H : HRel w0 F h next ρ RO w) {id : Nat} {ty : TypeId} {sz n : Nat} {elem : Nat → Nat → AV} (hl : lookH h id = some (.row ty sz n elem)) {x : Loc} (hx : ρ id = some x) :
    x.sz = sz ∧ (0 < n → ORel ρ RO w x (.row ty sz n elem)) := by
  obtain ⟨y, h1, h2⟩ := H.objs id _ hl
  rw [hx] at h1; cases h1
  rcases h2 with h2 | h2
  · obtain ⟨_, _, _, e, _, e2, _⟩ := h2
    cases e
    exact ⟨e2, fun h => by omega⟩
  · exact ⟨h2.rel.1, fun _ => h2.rel⟩
theorem HRel.mapO {w0 : World} {F : Nat → Prop} {h : Heap} {next : Nat} {ρ : Nat → Option Loc} {RO : Nat → Prop} {w : World} (H : HRel w0 F h next ρ RO w) {id : Nat} {es : List (AV × AV)} (hl : lookH h id = some (.map es)) {x : Loc} (hx : ρ id = some x) : ORel ρ RO w x (.map es) := by
  obtain ⟨y, h1, h2⟩ := H.objs id _ hl
  rw [hx] at h1; cases h1
  exact (h2.resolve_left not_ghost_map).rel

end Go.Eng
