/- Part 0 of the proof of MuteOrder. -/
import Derived.WalkKit
import Derived.Below
import Derived.Deep.MidRow
import Derived.Great.BuildSlice
import Derived.Orders
import Derived.Laws.StructEq
import Derived.Lib.SliceRun
import Derived.Laws.BytesArg
import Derived.MapKept
import Derived.ChangeMaps4
import Derived.LoopN
set_option linter.unusedVariables false
set_option linter.unusedSimpArgs false
set_option linter.unusedSectionVars false
section
set_option linter.unusedVariables false
set_option linter.unusedSectionVars false
namespace Go.Eng
open Go.RowKit
class Den where
  den : Nat → Type
  inh : ∀ e, Inhabited (den e)
section
variable [Den]
instance {e : Nat} : Inhabited (Den.den e) := Den.inh e
inductive AV where
  | bool (b : Bool)
  | int (k : IntKind) (n : Int)
  | str (s : ByteArray)
  | ptr (id idx off : Nat)
  | dptr (e : Nat) (x : Den.den e) (off : Nat)
  | nilp
  | sl (id off len cap : Nat)
  | dsl (e : Nat) (l : List (Den.den e))
  | slf (id : Nat)
  | dsn (e : Nat) (l : List (Den.den e))
  | nils
  | zs
  | map (id : Nat)
  | nilm
  | fn (f : Fn) (first cap : List AV)
  | nilfn
  | iface (t : TypeId) (v : AV)
  | nili
  | agg (cs : List AV)
  | tup (vs : List AV)
  | raw (v : Value)
instance : Inhabited AV := ⟨.nilp⟩
inductive Flat : AV → Prop where
  | bool (b : Bool) : Flat (.bool b)
  | int (k : IntKind) (n : Int) : Flat (.int k n)
  | str (s : ByteArray) : Flat (.str s)
  | nilp : Flat .nilp
  | nils : Flat .nils
  | zs : Flat .zs
  | nilm : Flat .nilm
  | nilfn : Flat .nilfn
  | nili : Flat .nili
  | raw (v : Value) : Flat (.raw v)
  | iface {t : TypeId} {v : AV} (h : Flat v) : Flat (.iface t v)
  | agg {l : List AV} (h : ∀ a ∈ l, Flat a) : Flat (.agg l)
  | tup {l : List AV} (h : ∀ a ∈ l, Flat a) : Flat (.tup l)
  | dsl {e : Nat} {l : List (Den.den e)} : Flat (.dsl e l)
  | dsn {e : Nat} {l : List (Den.den e)} : Flat (.dsn e l)
  | dptr {e : Nat} {x : Den.den e} {off : Nat} : Flat (.dptr e x off)
  | fn {f : Fn} {l1 l2 : List AV} (h1 : ∀ a ∈ l1, Flat a) (h2 : ∀ a ∈ l2, Flat a) : Flat (.fn f l1 l2)
def flatCell : AV → Bool
  | .bool _ | .int _ _ | .str _ | .nilp | .nils | .zs | .nilm | .nilfn | .nili | .dsl _ _ | .dptr _ _ _ => true
  | _ => false
theorem flatCell_flat {a : AV} (h : flatCell a = true) : Flat a := by
  cases a <;> first | (simp [flatCell] at h; done) | constructor
end
def bareC {D : Den} : @AV D → Bool
  | .bool _ | .int _ _ | .str _ | .nilp | .nils | .zs | .nilm | .nilfn | .nili | .ptr _ _ _ | .sl _ _ _ _ | .slf _ | .map _ => true
  | _ => false
class Univ extends Den where
  sz : Nat → Nat
  cells : (e : Nat) → den e → List (@AV toDen)
  build : (e : Nat) → List (@AV toDen) → Option (den e)
  bare : Nat → Bool
  dr : Prop := True
  gk : List Nat := []
  gp : World → Prop := fun _ => True
  gp_lt : ∀ w, gp w → ∀ g, g ∈ gk → g < w.heap.size := by (intro w h g hg; cases hg)
  gp_same : ∀ w w', gp w → (∀ g, g ∈ gk → w'.heap[g]? = w.heap[g]?) → gp w' := by (intros; trivial)
  bare_ok : ∀ e x a, bare e = true → a ∈ cells e x → @bareC toDen a = true
  sz_pos : ∀ e, 1 ≤ sz e
  cells_len : ∀ e x, (cells e x).length = sz e
  cells_flat : ∀ e x a, a ∈ cells e x → @flatCell toDen a = true
  build_ok : ∀ e l x, build e l = some x → l.length = sz e ∧ ∀ (i : Nat) (a b : @AV toDen), l[i]? = some a → (cells e x)[i]? = some b → a = b ∨ ((a = @AV.nils toDen ∨ a = @AV.zs toDen) ∧ ∃ e', b = @AV.dsl toDen e' [])
variable [U : Univ]
def elT (e : Nat) (l : List (Den.den e)) (i k : Nat) : AV := (Univ.cells e (l.getD i default)).getD k .nilp
theorem elT_flat (e : Nat) (l : List (Den.den e)) (i k : Nat) : Flat (elT e l i k) := by
  unfold elT
  by_cases h : k < (Univ.cells e (l.getD i default)).length
  · rw [List.getD_eq_getElem?_getD, List.getElem?_eq_getElem h]
    exact flatCell_flat (Univ.cells_flat _ _ _ (List.getElem_mem h))
  · rw [List.getD_eq_getElem?_getD, List.getElem?_eq_none (by omega)]; exact .nilp
structure Loc where
  blk : Nat
  base : Nat
  sz : Nat
  m : Nat
  n : Nat
  real : Bool
inductive VRel (ρ : Nat → Option Loc) (RO : Nat → Prop) (w : World) : AV → Value → Prop where
  | bool (b : Bool) : VRel ρ RO w (.bool b) (.bool b)
  | int (k : IntKind) (n : Int) : VRel ρ RO w (.int k n) (.int k n)
  | str (s : ByteArray) : VRel ρ RO w (.str s) (.string s)
  | ptr {id idx off : Nat} {L : Loc} (h : ρ id = some L) : VRel ρ RO w (.ptr id idx off) (.pointer (some ⟨L.blk, L.base + (idx * L.sz + off), none⟩))
  | dptr {e off : Nat} {x : Den.den e} {blk o : Nat} (vs : Nat → Value) (hr : RO blk)
      (hc : ∀ k, k < Univ.sz e → w.cell? ⟨blk, o + k, none⟩ = some (vs k)) (h1 : ∀ k, k < Univ.sz e → (vs k).oneCell' = true) (hv : ∀ k, k < Univ.sz e → VRel ρ RO w (elT e [x] 0 k) (vs k)) :
      VRel ρ RO w (.dptr e x off) (.pointer (some ⟨blk, o + off, none⟩))
  | nilp : VRel ρ RO w .nilp (.pointer none)
  | sl {id off len cap c : Nat} {L : Loc} {A : Option Addr} (h : ρ id = some L) (hl : len ≤ cap) (hc : cap ≤ c)
      (hA : c ≠ 0 → A = some ⟨L.blk, L.base + off * L.sz, none⟩ ∧ L.base + (off + c) * L.sz = L.m) (h0 : c = 0 → off = 0 → L.real = true → A = some ⟨L.blk, L.base, none⟩) (hs : c ≤ 9223372036854775807) (hm : L.base + (off + c) * L.sz = L.m) : VRel ρ RO w (.sl id off len cap) (.slice A len c)
  | dsl {e n c : Nat} {l : List (Den.den e)} {A : Option Addr} (hl : n = l.length) (hn : n ≤ c) (vs : Nat → Nat → Value)
      (hA : n ≠ 0 → ∃ blk o, A = some ⟨blk, o, none⟩ ∧ RO blk ∧ ∀ i k, i < n → k < Univ.sz e → w.cell? ⟨blk, o + (i * Univ.sz e + k), none⟩ = some (vs i k))
      (h1 : ∀ i k, i < n → k < Univ.sz e → (vs i k).oneCell' = true) (hv : ∀ i k, i < n → k < Univ.sz e → VRel ρ RO w (elT e l i k) (vs i k)) (hz : A = none → c = 0) : VRel ρ RO w (.dsl e l) (.slice A n c)
  | dsn {e n c : Nat} {l : List (Den.den e)} {A : Addr} (hl : n = l.length) (hn : n ≤ c) (vs : Nat → Nat → Value)
      (hA : n ≠ 0 → ∃ blk o, A = ⟨blk, o, none⟩ ∧ RO blk ∧ ∀ i k, i < n → k < Univ.sz e → w.cell? ⟨blk, o + (i * Univ.sz e + k), none⟩ = some (vs i k))
      (h1 : ∀ i k, i < n → k < Univ.sz e → (vs i k).oneCell' = true) (hv : ∀ i k, i < n → k < Univ.sz e → VRel ρ RO w (elT e l i k) (vs i k)) : VRel ρ RO w (.dsn e l) (.slice (some A) n c)
  | slf {id c : Nat} {L : Loc} {A : Option Addr} (h : ρ id = some L) (hc : L.n ≤ c) (hA : c ≠ 0 → A = some ⟨L.blk, L.base, none⟩) (h0 : c = 0 → L.real = true → A = some ⟨L.blk, L.base, none⟩) (hs : c ≤ 9223372036854775807) (hm : L.base + c * L.sz = L.m) : VRel ρ RO w (.slf id) (.slice A L.n c)
  | nils : VRel ρ RO w .nils (.slice none 0 0)
  | zs (A : Option Addr) : VRel ρ RO w .zs (.slice A 0 0)
  | map {id : Nat} {L : Loc} (h : ρ id = some L) : VRel ρ RO w (.map id) (.map (some L.blk))
  | nilm : VRel ρ RO w .nilm (.map none)
  | fn {f : Fn} {l1 l2 : List AV} {v1 v2 : List Value} (e1 : l1.length = v1.length) (e2 : l2.length = v2.length)
      (h1 : ∀ (i : Nat) (a : AV) (v : Value), l1[i]? = some a → v1[i]? = some v → VRel ρ RO w a v) (h2 : ∀ (i : Nat) (a : AV) (v : Value), l2[i]? = some a → v2[i]? = some v → VRel ρ RO w a v) :
      VRel ρ RO w (.fn f l1 l2) (.func f v1.toArray v2.toArray)
  | nilfn : VRel ρ RO w .nilfn .nilFunc
  | iface {t : TypeId} {a : AV} {v : Value} (h : VRel ρ RO w a v) : VRel ρ RO w (.iface t a) (.iface t v)
  | nili : VRel ρ RO w .nili .nilIface
  | raw (v : Value) : VRel ρ RO w (.raw v) v
  | agg {l : List AV} {vs : List Value} (e : l.length = vs.length) (h1 : ∀ x ∈ vs, x.oneCell' = true) (h : ∀ (i : Nat) (a : AV) (v : Value), l[i]? = some a → vs[i]? = some v → VRel ρ RO w a v) :
      VRel ρ RO w (.agg l) (.agg vs.toArray)
  | tup {l : List AV} {vs : List Value} (e : l.length = vs.length) (h : ∀ (i : Nat) (a : AV) (v : Value), l[i]? = some a → vs[i]? = some v → VRel ρ RO w a v) :
      VRel ρ RO w (.tup l) (.tuple vs.toArray)
def VRels (ρ : Nat → Option Loc) (RO : Nat → Prop) (w : World) (l : List AV) (vs : List Value) : Prop :=
  l.length = vs.length ∧ ∀ (i : Nat) (a : AV) (v : Value), l[i]? = some a → vs[i]? = some v → VRel ρ RO w a v
structure Ext (ρ : Nat → Option Loc) (RO : Nat → Prop) (w : World) (ρ' : Nat → Option Loc) (RO' : Nat → Prop) (w' : World) : Prop where
  ids : ∀ id x, ρ id = some x → ρ' id = some x
  ro : ∀ b, RO b → RO' b
  same : ∀ b, RO b → w'.heap[b]? = w.heap[b]?
theorem Ext.refl (ρ : Nat → Option Loc) (RO : Nat → Prop) (w : World) : Ext ρ RO w ρ RO w := ⟨fun _ _ h => h, fun _ h => h, fun _ _ => rfl⟩
theorem Ext.trans {ρ ρ' ρ'' : Nat → Option Loc} {RO RO' RO'' : Nat → Prop} {w w' w'' : World} (h : Ext ρ RO w ρ' RO' w') (h' : Ext ρ' RO' w' ρ'' RO'' w'') : Ext ρ RO w ρ'' RO'' w'' :=
  ⟨fun id x e => h'.ids id x (h.ids id x e), fun b e => h'.ro b (h.ro b e), fun b e => (h'.same b (h.ro b e)).trans (h.same b e)⟩
theorem cell_same {w w' : World} {b : Nat} (h : w'.heap[b]? = w.heap[b]?) (o : Nat) : w'.cell? ⟨b, o, none⟩ = w.cell? ⟨b, o, none⟩ := by
  unfold World.cell?; simp only [h]
theorem Flat.move {ρ ρ' : Nat → Option Loc} {RO RO' : Nat → Prop} {w w' : World} (hro : ∀ b, RO b → RO' b) (hsame : ∀ b, RO b → w'.heap[b]? = w.heap[b]?) {a : AV} {v : Value} (h : VRel ρ RO w a v) (hf : Flat a) : VRel ρ' RO' w' a v := by
  induction h with
  | bool b => exact .bool b
  | int k n => exact .int k n
  | str s => exact .str s
  | ptr h => cases hf
  | dptr vs hr hc h1 _ ih => exact .dptr vs (hro _ hr) (fun k hk => (cell_same (hsame _ hr) _).trans (hc k hk)) h1 (fun k hk => ih k hk (elT_flat _ _ _ _))
  | nilp => exact .nilp
  | sl h hl hc hA h0 hs hm => cases hf
  | slf h hc hA h0 hs hm => cases hf
  | dsl hl hn vs hA h1 _ hz ih =>
    refine .dsl hl hn vs (fun h => ?_) h1 (fun i k hi hk => ih i k hi hk (elT_flat _ _ _ _)) hz
    obtain ⟨blk, o, q1, q2, q3⟩ := hA h
    exact ⟨blk, o, q1, hro _ q2, fun i k hi hk => (cell_same (hsame _ q2) _).trans (q3 i k hi hk)⟩
  | dsn hl hn vs hA h1 _ ih =>
    refine .dsn hl hn vs (fun h => ?_) h1 (fun i k hi hk => ih i k hi hk (elT_flat _ _ _ _))
    obtain ⟨blk, o, q1, q2, q3⟩ := hA h
    exact ⟨blk, o, q1, hro _ q2, fun i k hi hk => (cell_same (hsame _ q2) _).trans (q3 i k hi hk)⟩
  | nils => exact .nils
  | zs A => exact .zs A
  | map h => cases hf
  | nilm => exact .nilm
  | fn e1 e2 _ _ ih1 ih2 =>
    cases hf with
    | fn h1 h2 => exact .fn e1 e2 (fun i a v q1 q2 => ih1 i a v q1 q2 (h1 a (List.mem_of_getElem? q1))) (fun i a v q1 q2 => ih2 i a v q1 q2 (h2 a (List.mem_of_getElem? q1)))
  | nilfn => exact .nilfn
  | iface _ ih =>
    cases hf with
    | iface h => exact .iface (ih h)
  | nili => exact .nili
  | raw v => exact .raw v
  | agg he h1 _ ih =>
    cases hf with
    | agg h => exact .agg he h1 (fun i a v q1 q2 => ih i a v q1 q2 (h a (List.mem_of_getElem? q1)))
  | tup he _ ih =>
    cases hf with
    | tup h => exact .tup he (fun i a v q1 q2 => ih i a v q1 q2 (h a (List.mem_of_getElem? q1)))
theorem VRel.mono {ρ ρ' : Nat → Option Loc} {RO RO' : Nat → Prop} {w w' : World} (e : Ext ρ RO w ρ' RO' w') {a : AV} {v : Value} (h : VRel ρ RO w a v) : VRel ρ' RO' w' a v := by
  induction h with
  | bool b => exact .bool b
  | int k n => exact .int k n
  | str s => exact .str s
  | ptr h => exact .ptr (e.ids _ _ h)
  | dptr vs hr hc h1 _ ih => exact .dptr vs (e.ro _ hr) (fun k hk => (cell_same (e.same _ hr) _).trans (hc k hk)) h1 ih
  | nilp => exact .nilp
  | sl h hl hc hA h0 hs hm => exact .sl (e.ids _ _ h) hl hc hA h0 hs hm
  | slf h hc hA h0 hs hm => exact .slf (e.ids _ _ h) hc hA h0 hs hm
  | dsl hl hn vs hA h1 _ hz ih =>
    refine .dsl hl hn vs (fun h => ?_) h1 ih hz
    obtain ⟨blk, o, h1, h2, h3⟩ := hA h
    exact ⟨blk, o, h1, e.ro _ h2, fun i k hi hk => (cell_same (e.same _ h2) _).trans (h3 i k hi hk)⟩
  | dsn hl hn vs hA h1 _ ih =>
    refine .dsn hl hn vs (fun h => ?_) h1 ih
    obtain ⟨blk, o, h1, h2, h3⟩ := hA h
    exact ⟨blk, o, h1, e.ro _ h2, fun i k hi hk => (cell_same (e.same _ h2) _).trans (h3 i k hi hk)⟩
  | nils => exact .nils
  | zs A => exact .zs A
  | map h => exact .map (e.ids _ _ h)
  | nilm => exact .nilm
  | fn e1 e2 _ _ ih1 ih2 => exact .fn e1 e2 ih1 ih2
  | nilfn => exact .nilfn
  | iface _ ih => exact .iface ih
  | nili => exact .nili
  | raw v => exact .raw v
  | agg he h1 _ ih => exact .agg he h1 ih
  | tup he _ ih => exact .tup he ih
theorem VRels.mono {ρ ρ' : Nat → Option Loc} {RO RO' : Nat → Prop} {w w' : World} (e : Ext ρ RO w ρ' RO' w') {l : List AV} {vs : List Value} (h : VRels ρ RO w l vs) : VRels ρ' RO' w' l vs :=
  ⟨h.1, fun i a v h1 h2 => (h.2 i a v h1 h2).mono e⟩
theorem VRels.nil {ρ : Nat → Option Loc} {RO : Nat → Prop} {w : World} : VRels ρ RO w [] [] := ⟨rfl, fun i a v h => by simp at h⟩
theorem VRels.cons {ρ : Nat → Option Loc} {RO : Nat → Prop} {w : World} {a : AV} {v : Value} {l : List AV} {vs : List Value} (h : VRel ρ RO w a v) (t : VRels ρ RO w l vs) : VRels ρ RO w (a :: l) (v :: vs) :=
  ⟨by simp [t.1], fun i x y h1 h2 => by
    cases i with
    | zero => simp at h1 h2; subst h1; subst h2; exact h
    | succ i => simp at h1 h2; exact t.2 i x y h1 h2⟩
theorem VRels.inv_cons {ρ : Nat → Option Loc} {RO : Nat → Prop} {w : World} {a : AV} {l : List AV} {vs : List Value} (h : VRels ρ RO w (a :: l) vs) : ∃ v t, vs = v :: t ∧ VRel ρ RO w a v ∧ VRels ρ RO w l t := by
  obtain ⟨h1, h2⟩ := h
  cases vs with
  | nil => simp at h1
  | cons v t => exact ⟨v, t, rfl, h2 0 a v rfl rfl, by simpa using h1, fun i x y e1 e2 => h2 (i + 1) x y (by simpa using e1) (by simpa using e2)⟩
theorem VRels.inv_nil {ρ : Nat → Option Loc} {RO : Nat → Prop} {w : World} {vs : List Value} (h : VRels ρ RO w [] vs) : vs = [] := by
  cases vs with
  | nil => rfl
  | cons v t => have := h.1; simp at this
theorem VRels.get {ρ : Nat → Option Loc} {RO : Nat → Prop} {w : World} {l : List AV} {vs : List Value} (h : VRels ρ RO w l vs) {i : Nat} {a : AV} (e : l[i]? = some a) : ∃ v, vs[i]? = some v ∧ VRel ρ RO w a v := by
  have hi : i < vs.length := by rw [← h.1]; exact (List.getElem?_eq_some_iff.1 e).1
  exact ⟨vs[i], List.getElem?_eq_getElem hi, h.2 i a _ e (List.getElem?_eq_getElem hi)⟩
theorem VRels.append {ρ : Nat → Option Loc} {RO : Nat → Prop} {w : World} {l l' : List AV} {vs vs' : List Value} (h : VRels ρ RO w l vs) (h' : VRels ρ RO w l' vs') : VRels ρ RO w (l ++ l') (vs ++ vs') := by
  refine ⟨by simp [h.1, h'.1], fun i a v e1 e2 => ?_⟩
  by_cases hi : i < l.length
  · rw [List.getElem?_append_left hi] at e1
    rw [List.getElem?_append_left (h.1 ▸ hi)] at e2
    exact h.2 i a v e1 e2
  · rw [List.getElem?_append_right (by omega)] at e1
    rw [List.getElem?_append_right (by rw [← h.1]; omega)] at e2
    rw [← h.1] at e2
    exact h'.2 _ a v e1 e2
theorem VRels.take_drop {ρ : Nat → Option Loc} {RO : Nat → Prop} {w : World} {l : List AV} {vs : List Value} (h : VRels ρ RO w l vs) (o n : Nat) : VRels ρ RO w ((l.drop o).take n) ((vs.drop o).take n) := by
  refine ⟨by simp [h.1], fun i a v e1 e2 => ?_⟩
  have hi : i < n := by
    have := (List.getElem?_eq_some_iff.1 e1).1
    simp at this; omega
  rw [List.getElem?_take_of_lt hi, List.getElem?_drop] at e1 e2
  exact h.2 _ a v e1 e2
theorem VRels.set {ρ : Nat → Option Loc} {RO : Nat → Prop} {w : World} {l : List AV} {vs : List Value} (h : VRels ρ RO w l vs) (i : Nat) {a : AV} {v : Value} (hv : VRel ρ RO w a v) : VRels ρ RO w (l.set i a) (vs.set i v) := by
  refine ⟨by simp [h.1], fun j x y e1 e2 => ?_⟩
  rw [List.getElem?_set] at e1 e2
  by_cases hij : i = j
  · subst hij
    simp only [if_true] at e1 e2
    by_cases hlt : i < l.length
    · rw [if_pos hlt] at e1
      rw [if_pos (h.1 ▸ hlt)] at e2
      cases e1; cases e2; exact hv
    · rw [if_neg hlt] at e1; cases e1
  · rw [if_neg hij] at e1 e2
    exact h.2 j x y e1 e2
inductive AObj where
  | box (ty : TypeId) (cells : List AV)
  | row (e : Nat) (l : List (Den.den e))
  | map (es : List (AV × AV))
  | frow (e : Nat) (l : List (Den.den e))
def ORel (ρ : Nat → Option Loc) (RO : Nat → Prop) (w : World) (x : Loc) : AObj → Prop
  | .box ty cells => x.base = 0 ∧ x.sz = cells.length ∧ x.m = cells.length ∧ ∃ cs, w.heap[x.blk]? = some (.cells (List.toArray cs) ty (0, 0)) ∧ (∀ v ∈ cs, v.oneCell' = true) ∧ VRels ρ RO w cells cs
  | .row e l => (x.sz = Univ.sz e ∧ x.n = l.length) ∧ ∃ cs : Array Value, w.heap[x.blk]? = some (.cells cs e (0, 0)) ∧ cs.size = x.m ∧ ∀ i k, i < l.length → k < Univ.sz e → ∃ v, cs[x.base + (i * Univ.sz e + k)]? = some v ∧ v.oneCell' = true ∧ VRel ρ RO w (elT e l i k) v
  | .map es => ∃ (ms : List MapEntry) (clock : Nat), w.heap[x.blk]? = some (.map ms.toArray clock) ∧ es.length = ms.length ∧ (∀ m ∈ ms, m.born < clock) ∧ (ms.map (·.born)).Nodup ∧
      ∀ (i : Nat) (e : AV × AV) (m : MapEntry), es[i]? = some e → ms[i]? = some m → VRel ρ RO w e.1 m.key ∧ VRel ρ RO w e.2 m.val
  | .frow _ _ => False
theorem ORel.mono {ρ ρ' : Nat → Option Loc} {RO RO' : Nat → Prop} {w w' : World} (e : Ext ρ RO w ρ' RO' w') {x : Loc} (hx : w'.heap[x.blk]? = w.heap[x.blk]?) {o : AObj} (h : ORel ρ RO w x o) : ORel ρ' RO' w' x o := by
  cases o with
  | box ty cells =>
    obtain ⟨h0, h1, h2, cs, h3, h4, h5⟩ := h
    exact ⟨h0, h1, h2, cs, hx.trans h3, h4, h5.mono e⟩
  | row e1 l =>
    obtain ⟨h1, cs, h3, h4, h5⟩ := h
    refine ⟨h1, cs, hx.trans h3, h4, fun i k hi hk => ?_⟩
    obtain ⟨v, e1, e3, e2⟩ := h5 i k hi hk
    exact ⟨v, e1, e3, e2.mono e⟩
  | map es =>
    obtain ⟨ms, clock, h3, h4, hb, hn, h5⟩ := h
    exact ⟨ms, clock, hx.trans h3, h4, hb, hn, fun i a m e1 e2 => ⟨(h5 i a m e1 e2).1.mono e, (h5 i a m e1 e2).2.mono e⟩⟩
  | frow e1 l => exact h.elim
def look {α : Type} : List (Nat × α) → Nat → Option α
  | [], _ => none
  | (k, v) :: r, t => match Nat.beq k t with | true => some v | false => look r t
theorem look_cons {α : Type} (k : Nat) (v : α) (r : List (Nat × α)) (t : Nat) : look ((k, v) :: r) t = if k = t then some v else look r t := by
  by_cases h : k = t
  · subst h; simp [look]
  · have hb : Nat.beq k t = false := by
      cases hb : Nat.beq k t with
      | false => rfl
      | true => exact absurd (Nat.eq_of_beq_eq_true hb) h
    simp [look, hb, h]
abbrev Heap := List (Nat × Option AObj)
structure Row where
  e : Nat
  l : List (Den.den e)
def liveO : Option AObj → Option AObj
  | some (.frow _ _) => none
  | o => o
def frowO : Option AObj → Option Row
  | some (.frow e l) => some ⟨e, l⟩
  | _ => none
theorem liveO_some {o o' : AObj} (h : liveO (some o) = some o') : o = o' := by
  cases o <;> first | (cases h; rfl) | (cases h)
theorem frowO_live {o o' : AObj} (h : liveO (some o) = some o') : frowO (some o) = none := by
  cases o <;> first | rfl | (cases h)
def lookH (h : Heap) (id : Nat) : Option AObj := match look h id with | some o => liveO o | none => none
def lookF (h : Heap) (id : Nat) : Option Row := match look h id with | some o => frowO o | none => none
theorem lookH_cons (k : Nat) (o : Option AObj) (h : Heap) (id : Nat) : lookH ((k, o) :: h) id = if k = id then liveO o else lookH h id := by
  unfold lookH
  rw [look_cons]
  by_cases e : k = id <;> simp only [e, if_true, if_false]
theorem lookF_cons (k : Nat) (o : Option AObj) (h : Heap) (id : Nat) : lookF ((k, o) :: h) id = if k = id then frowO o else lookF h id := by
  unfold lookF
  rw [look_cons]
  by_cases e : k = id <;> simp only [e, if_true, if_false]
structure Fr where
  F : Nat → Prop
  G : Nat → Prop
instance : CoeFun Fr (fun _ => Nat → Prop) := ⟨Fr.F⟩
structure Frame (w0 : World) (F : Fr) (w : World) : Prop where
  os : w.os = w0.os
  tape : w.tape = w0.tape
  output : w.output = w0.output
  size : w0.heap.size ≤ w.heap.size
  block : ∀ k, k < w0.heap.size → ¬ F k → w.heap[k]? = w0.heap[k]?
  drawn : Univ.dr → w0.drawn ≤ w.drawn
  glb : Univ.gp w0 ∧ ∀ g, g ∈ Univ.gk → ¬ F g
theorem Frame.refl (w : World) (F : Fr) (hg : Univ.gp w ∧ ∀ g, g ∈ Univ.gk → ¬ F g) : Frame w F w := ⟨rfl, rfl, rfl, Nat.le_refl _, fun _ _ _ => rfl, fun _ => Nat.le_refl _, hg⟩
theorem Frame.glb' {w0 w : World} {F : Fr} (f : Frame w0 F w) : Univ.gp w :=
  Univ.gp_same w0 w f.glb.1 fun g hg => f.block g (Univ.gp_lt w0 f.glb.1 g hg) (f.glb.2 g hg)
theorem Frame.glbOf {w0 w : World} {F : Fr} (f : Frame w0 F w) {F' : Fr} (h : ∀ b, F' b → w0.heap.size ≤ b ∨ F b) : Univ.gp w ∧ ∀ g, g ∈ Univ.gk → ¬ F' g := by
  refine ⟨f.glb', fun g hg q => ?_⟩
  have := Univ.gp_lt w0 f.glb.1 g hg
  exact (h g q).elim (fun q => by omega) (f.glb.2 g hg)
theorem Frame.below {w0 w : World} {G : Nat → Prop} (h : Frame w0 ⟨fun _ => False, G⟩ w) : Below w0.heap.size w0 w := ⟨h.os, h.tape, h.output, h.size, fun k hk => h.block k hk (fun x => x)⟩
def Ghost (x : Loc) (o : AObj) : Prop := ∃ e, o = .row e [] ∧ x.m = 0 ∧ (x.sz = Univ.sz e ∧ x.n = 0) ∧ x.real = false
structure Solid (w0 : World) (F : Fr) (ρ : Nat → Option Loc) (RO : Nat → Prop) (w : World) (x : Loc) (o : AObj) : Prop where
  rel : ORel ρ RO w x o
  lt : x.blk < w.heap.size
  own : w0.heap.size ≤ x.blk ∨ F x.blk
  free : ¬ RO x.blk
  real : x.real = true
structure Froz (ρ : Nat → Option Loc) (RO : Nat → Prop) (w : World) (x : Loc) (r : Row) : Prop where
  sz : x.sz = Univ.sz r.e
  n : x.n = r.l.length
  rel : r.l ≠ [] → RO x.blk ∧ ∃ cs : Array Value, w.heap[x.blk]? = some (.cells cs r.e (0, 0)) ∧ cs.size = x.m ∧ ∀ i k, i < r.l.length → k < Univ.sz r.e → ∃ v, cs[x.base + (i * Univ.sz r.e + k)]? = some v ∧ v.oneCell' = true ∧ VRel ρ RO w (elT r.e r.l i k) v
theorem Froz.mono {ρ ρ' : Nat → Option Loc} {RO RO' : Nat → Prop} {w w' : World} (e : Ext ρ RO w ρ' RO' w') {x : Loc} {r : Row} (h : Froz ρ RO w x r) : Froz ρ' RO' w' x r :=
  ⟨h.sz, h.n, fun hne => by
    obtain ⟨h1, cs, h2, h3, h4⟩ := h.rel hne
    refine ⟨e.ro _ h1, cs, (e.same _ h1).trans h2, h3, fun i k hi hk => ?_⟩
    obtain ⟨v, v1, v2, v3⟩ := h4 i k hi hk
    exact ⟨v, v1, v2, v3.mono e⟩⟩
structure HRel (w0 : World) (F : Fr) (h : Heap) (next : Nat) (ρ : Nat → Option Loc) (RO : Nat → Prop) (w : World) : Prop where
  frame : Frame w0 F w
  objs : ∀ id o, lookH h id = some o → ∃ x, ρ id = some x ∧ (Ghost x o ∨ Solid w0 F ρ RO w x o)
  dis : ∀ id id' o o' x x', id ≠ id' → lookH h id = some o → lookH h id' = some o' → ρ id = some x → ρ id' = some x' → Ghost x o ∨ Ghost x' o' ∨ x.blk ≠ x'.blk
  fresh : ∀ id, next ≤ id → ρ id = none
  ro : ∀ b, RO b → b < w.heap.size ∧ (F.G b ∨ w0.heap.size ≤ b ∨ F b)
  frz : ∀ id r, lookF h id = some r → ∃ x, ρ id = some x ∧ Froz ρ RO w x r
theorem Solid.mono {w0 w w' : World} {F : Fr} {ρ ρ' : Nat → Option Loc} {RO : Nat → Prop} {x : Loc} {o : AObj} (s : Solid w0 F ρ RO w x o) (e : Ext ρ RO w ρ' RO w') (hx : w'.heap[x.blk]? = w.heap[x.blk]?) (hs : w.heap.size ≤ w'.heap.size) :
    Solid w0 F ρ' RO w' x o := ⟨s.rel.mono e hx, Nat.lt_of_lt_of_le s.lt hs, s.own, s.free, s.real⟩
theorem HRel.add {w0 : World} {F : Fr} {h : Heap} {next : Nat} {ρ : Nat → Option Loc} {RO : Nat → Prop} {w w' : World} (H : HRel w0 F h next ρ RO w) (o : AObj) (L : Loc)
    (hf : Frame w0 F w') (hsame : ∀ k, k < w.heap.size → w'.heap[k]? = w.heap[k]?) (hsize : w.heap.size ≤ w'.heap.size) (hlive : liveO (some o) = some o) :
    let ρ' : Nat → Option Loc := fun id => if id = next then some L else ρ id
    Ext ρ RO w ρ' RO w' ∧ ((Ghost L o ∨ (w.heap.size ≤ L.blk ∧ Solid w0 F ρ' RO w' L o)) → HRel w0 F ((next, some o) :: h) (next + 1) ρ' RO w') := by
  intro ρ'
  have hn : ∀ id x, ρ id = some x → id ≠ next := by
    intro id x hx e
    rw [e, H.fresh next (Nat.le_refl _)] at hx
    cases hx
  have ext : Ext ρ RO w ρ' RO w' :=
    ⟨fun id x hx => by
      show (if id = next then _ else ρ id) = _
      rw [if_neg (hn id x hx)]
      exact hx, fun _ hb => hb, fun b hb => hsame b (H.ro b hb).1⟩
  have hnew : ρ' next = some L := if_pos rfl
  have hold : ∀ id o x, next ≠ id → lookH h id = some o → ρ' id = some x → ρ id = some x := by
    intro id o x hne hl hx
    obtain ⟨y, h1, _⟩ := H.objs id o hl
    have := ext.ids _ _ h1; rw [hx] at this; cases this; exact h1
  refine ⟨ext, fun ho => ?_⟩
  constructor
  · exact hf
  · intro id o' hl
    rw [lookH_cons] at hl
    by_cases e : next = id
    · subst e
      simp only [if_true, hlive] at hl; cases hl
      exact ⟨_, hnew, ho.imp id (·.2)⟩
    · rw [if_neg e] at hl
      obtain ⟨x, h1, h2⟩ := H.objs id o' hl
      exact ⟨x, ext.ids _ _ h1, h2.imp (fun g => g) (fun s => s.mono ext (hsame _ s.lt) hsize)⟩
  · intro id id' o1 o2 x x' hne h1 h2 e1 e2
    rw [lookH_cons] at h1 h2
    by_cases e : next = id
    · subst e
      rw [if_neg hne] at h2
      simp only [if_true, hlive] at h1; cases h1
      rw [hnew] at e1; cases e1
      rcases ho with ho | ⟨ho, _⟩
      · exact .inl ho
      · obtain ⟨y, g1, g2⟩ := H.objs id' o2 h2
        have := ext.ids _ _ g1; rw [e2] at this; cases this
        rcases g2 with g2 | g2
        · exact .inr (.inl g2)
        · have := g2.lt
          exact .inr (.inr (by omega))
    · by_cases e' : next = id'
      · subst e'
        rw [if_neg e] at h1
        simp only [if_true, hlive] at h2; cases h2
        rw [hnew] at e2; cases e2
        rcases ho with ho | ⟨ho, _⟩
        · exact .inr (.inl ho)
        · obtain ⟨y, g1, g2⟩ := H.objs id o1 h1
          have := ext.ids _ _ g1; rw [e1] at this; cases this
          rcases g2 with g2 | g2
          · exact .inl g2
          · have := g2.lt
            exact .inr (.inr (by omega))
      · rw [if_neg e] at h1; rw [if_neg e'] at h2
        exact H.dis id id' o1 o2 _ _ hne h1 h2 (hold _ _ _ e h1 e1) (hold _ _ _ e' h2 e2)
  · intro id hid
    show (if id = next then _ else ρ id) = none
    rw [if_neg (by omega)]
    exact H.fresh id (by omega)
  · intro b hb
    have := H.ro b hb
    exact ⟨by omega, this.2⟩
  · intro id r hl
    rw [lookF_cons] at hl
    by_cases e : next = id
    · rw [if_pos e, frowO_live hlive] at hl; cases hl
    · rw [if_neg e] at hl
      obtain ⟨x, h1, h2⟩ := H.frz id r hl
      exact ⟨x, ext.ids _ _ h1, h2.mono ext⟩
theorem HRel.alloc {w0 : World} {F : Fr} {h : Heap} {next : Nat} {ρ : Nat → Option Loc} {RO : Nat → Prop} {w : World} (H : HRel w0 F h next ρ RO w) (ob : Obj) (o : AObj) (sz m n : Nat) (hlive : liveO (some o) = some o := by rfl) :
    let ρ' : Nat → Option Loc := fun id => if id = next then some ⟨w.heap.size, 0, sz, m, n, true⟩ else ρ id
    Ext ρ RO w ρ' RO (w.alloc ob) ∧ (ORel ρ' RO (w.alloc ob) ⟨w.heap.size, 0, sz, m, n, true⟩ o → HRel w0 F ((next, some o) :: h) (next + 1) ρ' RO (w.alloc ob)) := by
  have hsame : ∀ k, k < w.heap.size → (w.alloc ob).heap[k]? = w.heap[k]? := fun k hk => by simp only [World.alloc, Array.getElem?_push]; rw [if_neg (by omega)]
  obtain ⟨ext, fin⟩ := H.add (w' := w.alloc ob) o ⟨w.heap.size, 0, sz, m, n, true⟩
    ⟨H.frame.os, H.frame.tape, H.frame.output, by have := H.frame.size; simp; omega, fun k hk hF => (hsame k (by have := H.frame.size; omega)).trans (H.frame.block k hk hF), H.frame.drawn, H.frame.glb⟩ hsame (by simp) hlive
  exact ⟨ext, fun ho => fin (.inr ⟨Nat.le_refl _, ho, by simp, .inl H.frame.size, fun hr => absurd (H.ro _ hr).1 (by simp), rfl⟩)⟩
theorem HRel.renew {w0 : World} {F : Fr} {h : Heap} {next : Nat} {ρ : Nat → Option Loc} {RO : Nat → Prop} {w w' : World} (H : HRel w0 F h next ρ RO w) {id : Nat} {o : AObj} (hl : lookH h id = some o) {x : Loc} (hx : ρ id = some x) (hg : ¬ Ghost x o)
    (hos : w'.os = w.os) (htape : w'.tape = w.tape) (hout : w'.output = w.output) (hsize : w'.heap.size = w.heap.size) (hdrn : w.drawn ≤ w'.drawn) (hsame : ∀ k, k ≠ x.blk → w'.heap[k]? = w.heap[k]?) (L : Loc) (hL : L.blk = x.blk) (hr : L.real = true) :
    let ρ' : Nat → Option Loc := fun id => if id = next then some L else ρ id
    Ext ρ RO w ρ' RO w' ∧ ∀ o' : AObj, liveO (some o') = some o' → ORel ρ' RO w' L o' → HRel w0 F ((next, some o') :: (id, none) :: h) (next + 1) ρ' RO w' := by
  intro ρ'
  obtain ⟨y, h1, h2⟩ := H.objs id o hl
  rw [hx] at h1; cases h1
  have h2 := h2.resolve_left hg
  have hn : ∀ id x, ρ id = some x → id ≠ next := by
    intro id x hx e
    rw [e, H.fresh next (Nat.le_refl _)] at hx
    cases hx
  have ext : Ext ρ RO w ρ' RO w' :=
    ⟨fun id x hx => by
      show (if id = next then _ else ρ id) = _
      rw [if_neg (hn id x hx)]
      exact hx, fun _ hb => hb, fun b hb => hsame b (fun e => h2.free (e ▸ hb))⟩
  have hnew : ρ' next = some L := if_pos rfl
  have back : ∀ k ok, lookH ((id, none) :: h) k = some ok → k ≠ id ∧ lookH h k = some ok := by
    intro k ok hk
    rw [lookH_cons] at hk
    by_cases e : id = k
    · rw [if_pos e] at hk; cases hk
    · rw [if_neg e] at hk; exact ⟨fun e' => e e'.symm, hk⟩
  have hold : ∀ id o x, lookH h id = some o → ρ' id = some x → ρ id = some x := by
    intro id o x hl hx
    obtain ⟨y, h1, _⟩ := H.objs id o hl
    have := ext.ids _ _ h1; rw [hx] at this; cases this; exact h1
  refine ⟨ext, fun o' hlive ho => ?_⟩
  have hsol : Solid w0 F ρ' RO w' L o' := ⟨ho, by rw [hL, hsize]; exact h2.lt, by rw [hL]; exact h2.own, by rw [hL]; exact h2.free, hr⟩
  have away : ∀ k ok z, k ≠ id → lookH h k = some ok → ρ k = some z → Ghost z ok ∨ z.blk ≠ x.blk := by
    intro k ok z hk hlk hz
    rcases H.dis k id ok o z x hk hlk hl hz hx with q | q | q
    · exact .inl q
    · exact absurd q hg
    · exact .inr q
  constructor
  · refine ⟨hos.trans H.frame.os, htape.trans H.frame.tape, hout.trans H.frame.output, by rw [hsize]; exact H.frame.size, fun k hk hF => ?_, fun d => Nat.le_trans (H.frame.drawn d) hdrn, H.frame.glb⟩
    by_cases e : k = x.blk
    · subst e; rcases h2.own with h4 | h4
      · omega
      · exact absurd h4 hF
    · exact (hsame k e).trans (H.frame.block k hk hF)
  · intro id' o1 hl'
    rw [lookH_cons] at hl'
    by_cases e : next = id'
    · subst e; simp only [if_true, hlive] at hl'; cases hl'
      exact ⟨L, hnew, .inr hsol⟩
    · rw [if_neg e] at hl'
      obtain ⟨hne, hl'⟩ := back _ _ hl'
      obtain ⟨z, g1, g2⟩ := H.objs id' o1 hl'
      refine ⟨z, ext.ids _ _ g1, ?_⟩
      rcases g2 with g2 | g2
      · exact .inl g2
      · rcases away id' o1 z hne hl' g1 with q | q
        · exact .inl q
        · exact .inr (g2.mono ext (hsame _ q) (by omega))
  · intro i j o1 o2 z z' hne g1 g2 e1 e2
    rw [lookH_cons] at g1 g2
    by_cases e : next = i
    · subst e
      rw [if_neg hne] at g2
      rw [hnew] at e1; cases e1
      obtain ⟨hne2, g2⟩ := back _ _ g2
      rcases away j o2 z' hne2 g2 (hold _ _ _ g2 e2) with q | q
      · exact .inr (.inl q)
      · exact .inr (.inr (by rw [hL]; exact fun e => q e.symm))
    · rw [if_neg e] at g1
      obtain ⟨hne1, g1⟩ := back _ _ g1
      by_cases e' : next = j
      · subst e'
        rw [hnew] at e2; cases e2
        rcases away i o1 z hne1 g1 (hold _ _ _ g1 e1) with q | q
        · exact .inl q
        · exact .inr (.inr (by rw [hL]; exact q))
      · rw [if_neg e'] at g2
        obtain ⟨hne2, g2⟩ := back _ _ g2
        exact H.dis i j o1 o2 z z' hne g1 g2 (hold _ _ _ g1 e1) (hold _ _ _ g2 e2)
  · intro k hk
    show (if k = next then _ else ρ k) = none
    rw [if_neg (by omega)]
    exact H.fresh k (by omega)
  · intro b hb; rw [hsize]; exact H.ro b hb
  · intro k r hk
    rw [lookF_cons] at hk
    by_cases e : next = k
    · rw [if_pos e, frowO_live hlive] at hk; cases hk
    · rw [if_neg e, lookF_cons] at hk
      by_cases e' : id = k
      · rw [if_pos e'] at hk; cases hk
      · rw [if_neg e'] at hk
        obtain ⟨z, q1, q2⟩ := H.frz k r hk
        exact ⟨z, ext.ids _ _ q1, q2.mono ext⟩
theorem HRel.turn {w0 : World} {F : Fr} {h : Heap} {next : Nat} {ρ : Nat → Option Loc} {RO : Nat → Prop} {w w' : World} (H : HRel w0 F h next ρ RO w) {id : Nat} {o : AObj} (hl : lookH h id = some o) {x : Loc} (hx : ρ id = some x) (hg : ¬ Ghost x o)
    (hos : w'.os = w.os) (htape : w'.tape = w.tape) (hout : w'.output = w.output) (hsize : w'.heap.size = w.heap.size) (hdrn : w.drawn ≤ w'.drawn) (hsame : ∀ k, k ≠ x.blk → w'.heap[k]? = w.heap[k]?) :
    Ext ρ RO w ρ RO w' ∧ ∀ o' : AObj, liveO (some o') = some o' → ORel ρ RO w' x o' → HRel w0 F ((id, some o') :: h) next ρ RO w' := by
  obtain ⟨y, h1, h2⟩ := H.objs id o hl
  rw [hx] at h1; cases h1
  have h2 := h2.resolve_left hg
  have ext : Ext ρ RO w ρ RO w' := ⟨fun _ _ e => e, fun _ e => e, fun b hb => hsame b (fun e => h2.free (e ▸ hb))⟩
  refine ⟨ext, fun o' hlive ho => ?_⟩
  constructor
  · refine ⟨hos.trans H.frame.os, htape.trans H.frame.tape, hout.trans H.frame.output, by rw [hsize]; exact H.frame.size, fun k hk hF => ?_, fun d => Nat.le_trans (H.frame.drawn d) hdrn, H.frame.glb⟩
    by_cases e : k = x.blk
    · subst e; rcases h2.own with h4 | h4
      · omega
      · exact absurd h4 hF
    · exact (hsame k e).trans (H.frame.block k hk hF)
  · intro id' o1 hl'
    rw [lookH_cons] at hl'
    by_cases e : id = id'
    · subst e; simp only [if_true, hlive] at hl'; cases hl'
      exact ⟨x, hx, .inr ⟨ho, by rw [hsize]; exact h2.lt, h2.own, h2.free, h2.real⟩⟩
    · rw [if_neg e] at hl'
      obtain ⟨z, g1, g2⟩ := H.objs id' o1 hl'
      refine ⟨z, g1, ?_⟩
      rcases g2 with g2 | g2
      · exact .inl g2
      · rcases H.dis id id' o o1 x z e hl hl' hx g1 with q | q | q
        · exact absurd q hg
        · exact .inl q
        · exact .inr (g2.mono ext (hsame _ (fun e => q e.symm)) (by omega))
  · intro i j o1 o2 z z' hne g1 g2 e1 e2
    rw [lookH_cons] at g1 g2
    by_cases e : id = i
    · subst e
      rw [if_neg hne] at g2
      rw [hx] at e1; cases e1
      rcases H.dis id j o o2 x z' hne hl g2 hx e2 with q | q | q
      · exact absurd q hg
      · exact .inr (.inl q)
      · exact .inr (.inr q)
    · rw [if_neg e] at g1
      by_cases e' : id = j
      · subst e'
        rw [hx] at e2; cases e2
        rcases H.dis i id o1 o z x hne g1 hl e1 hx with q | q | q
        · exact .inl q
        · exact absurd q hg
        · exact .inr (.inr q)
      · rw [if_neg e'] at g2
        exact H.dis i j o1 o2 z z' hne g1 g2 e1 e2
  · exact H.fresh
  · intro b hb; rw [hsize]; exact H.ro b hb
  · intro k r hk
    rw [lookF_cons] at hk
    by_cases e : id = k
    · rw [if_pos e, frowO_live hlive] at hk; cases hk
    · rw [if_neg e] at hk
      obtain ⟨z, q1, q2⟩ := H.frz k r hk
      exact ⟨z, q1, q2.mono ext⟩
theorem HRel.forget {w0 : World} {F : Fr} {h h' : Heap} {next : Nat} {ρ : Nat → Option Loc} {RO : Nat → Prop} {w : World} (H : HRel w0 F h next ρ RO w) (hs : ∀ id o, lookH h' id = some o → lookH h id = some o) (hf : ∀ id r, lookF h' id = some r → lookF h id = some r) : HRel w0 F h' next ρ RO w :=
  ⟨H.frame, fun id o e => H.objs id o (hs id o e), fun id id' o o' x x' hne e e' => H.dis id id' o o' x x' hne (hs _ _ e) (hs _ _ e'), H.fresh, H.ro, fun id r e => H.frz id r (hf id r e)⟩
theorem HRel.drew {w0 : World} {F : Fr} {h : Heap} {next : Nat} {ρ : Nat → Option Loc} {RO : Nat → Prop} {w : World} (H : HRel w0 F h next ρ RO w) : Ext ρ RO w ρ RO w.drew ∧ HRel w0 F h next ρ RO w.drew := by
  have ext : Ext ρ RO w ρ RO w.drew := ⟨fun _ _ e => e, fun _ e => e, fun _ _ => rfl⟩
  exact ⟨ext, ⟨⟨H.frame.os, H.frame.tape, H.frame.output, H.frame.size, H.frame.block, fun d => Nat.le_trans (H.frame.drawn d) (Nat.le_succ _), H.frame.glb⟩, fun id o e => by
    obtain ⟨x, h1, h2⟩ := H.objs id o e
    exact ⟨x, h1, h2.imp (fun g => g) (fun s => s.mono ext rfl (Nat.le_refl _))⟩, H.dis, H.fresh, H.ro, fun id r e => by
    obtain ⟨x, h1, h2⟩ := H.frz id r e
    exact ⟨x, h1, h2.mono ext⟩⟩⟩
theorem not_ghost_box {x : Loc} {ty : TypeId} {cells : List AV} : ¬ Ghost x (.box ty cells) := by rintro ⟨_, h, _⟩; cases h
theorem not_ghost_map {x : Loc} {es : List (AV × AV)} : ¬ Ghost x (.map es) := by rintro ⟨_, h, _⟩; cases h
theorem not_ghost_row {x : Loc} {e : Nat} {l : List (Den.den e)} (hn : 0 < l.length) : ¬ Ghost x (.row e l) := by rintro ⟨_, h, _⟩; cases h; simp at hn
theorem HRel.box {w0 : World} {F : Fr} {h : Heap} {next : Nat} {ρ : Nat → Option Loc} {RO : Nat → Prop} {w : World} (H : HRel w0 F h next ρ RO w) {id : Nat} {ty : TypeId} {cells : List AV} (hl : lookH h id = some (.box ty cells)) {x : Loc} (hx : ρ id = some x) : ORel ρ RO w x (.box ty cells) := by
  obtain ⟨y, h1, h2⟩ := H.objs id _ hl
  rw [hx] at h1; cases h1
  exact (h2.resolve_left not_ghost_box).rel
theorem HRel.row {w0 : World} {F : Fr} {h : Heap} {next : Nat} {ρ : Nat → Option Loc} {RO : Nat → Prop} {w : World} (H : HRel w0 F h next ρ RO w) {id e : Nat} {l : List (Den.den e)} (hl : lookH h id = some (.row e l)) {x : Loc} (hx : ρ id = some x) :
    (x.sz = Univ.sz e ∧ x.n = l.length) ∧ (0 < l.length → ORel ρ RO w x (.row e l)) := by
  obtain ⟨y, h1, h2⟩ := H.objs id _ hl
  rw [hx] at h1; cases h1
  rcases h2 with h2 | h2
  · obtain ⟨_, e1, _, e2, _⟩ := h2
    cases e1
    exact ⟨e2, fun h => by simp at h⟩
  · exact ⟨h2.rel.1, fun _ => h2.rel⟩
theorem HRel.mapO {w0 : World} {F : Fr} {h : Heap} {next : Nat} {ρ : Nat → Option Loc} {RO : Nat → Prop} {w : World} (H : HRel w0 F h next ρ RO w) {id : Nat} {es : List (AV × AV)} (hl : lookH h id = some (.map es)) {x : Loc} (hx : ρ id = some x) : ORel ρ RO w x (.map es) := by
  obtain ⟨y, h1, h2⟩ := H.objs id _ hl
  rw [hx] at h1; cases h1
  exact (h2.resolve_left not_ghost_map).rel
theorem HRel.unslf {w0 : World} {F : Fr} {h : Heap} {next : Nat} {ρ : Nat → Option Loc} {RO : Nat → Prop} {w : World} (H : HRel w0 F h next ρ RO w) {id e : Nat} {l : List (Den.den e)} (hl : lookH h id = some (.row e l)) {v : Value} (hv : VRel ρ RO w (.slf id) v) :
    VRel ρ RO w (.sl id 0 l.length l.length) v := by
  cases hv with
  | @slf _ c L A hL hc hA h0 hs hm =>
    have hn := (H.row hl hL).1.2
    rw [hn] at hc ⊢
    exact .sl hL (Nat.le_refl _) hc (fun h => ⟨by rw [hA h]; simp, by rw [Nat.zero_add]; exact hm⟩) (fun h _ hr => h0 h hr) hs (by rw [Nat.zero_add]; exact hm)
theorem HRel.freeze {w0 : World} {F : Fr} {h : Heap} {next : Nat} {ρ : Nat → Option Loc} {RO : Nat → Prop} {w : World} (H : HRel w0 F h next ρ RO w) {id e : Nat} {l : List (Den.den e)} (hl : lookH h id = some (.row e l)) :
    ∃ RO', Ext ρ RO w ρ RO' w ∧ HRel w0 F ((id, some (.frow e l)) :: h) next ρ RO' w ∧
      ∀ off len cap v, off + len ≤ l.length → VRel ρ RO w (.sl id off len cap) v → VRel ρ RO' w (.dsl e ((l.drop off).take len)) v := by
  obtain ⟨x, hx, hs⟩ := H.objs id _ hl
  have back : ∀ k ok, lookH ((id, some (.frow e l)) :: h) k = some ok → k ≠ id ∧ lookH h k = some ok := by
    intro k ok hk
    rw [lookH_cons] at hk
    by_cases e : id = k
    · rw [if_pos e] at hk; cases hk
    · rw [if_neg e] at hk; exact ⟨fun e' => e e'.symm, hk⟩
  rcases hs with hg | hs
  · obtain ⟨e', he', hm, hsz, hr⟩ := hg
    cases he'
    refine ⟨RO, .refl _ _ _, ⟨H.frame, fun k o hk => H.objs k o (back k o hk).2, fun i j o o' z z' hne e1 e2 => H.dis i j o o' z z' hne (back _ _ e1).2 (back _ _ e2).2, H.fresh, H.ro, fun k r hk => ?_⟩, fun off len cap v hb hv => ?_⟩
    · rw [lookF_cons] at hk
      by_cases e : id = k
      · rw [if_pos e] at hk; cases hk
        subst e
        exact ⟨x, hx, hsz.1, hsz.2, fun hne => absurd rfl hne⟩
      · rw [if_neg e] at hk; exact H.frz k r hk
    cases hv with
    | @sl _ _ _ _ c L A hL hlc hcc hA h0 hs hm' =>
      have : len = 0 := by simp at hb; omega
      subst this
      exact .dsl (by simp) (Nat.zero_le _) (fun _ _ => .nilFunc) (fun h => absurd rfl h) (fun i k hi => by omega) (fun i k hi => by omega) (fun h => by
        by_cases h0 : c = 0
        · exact h0
        · rw [(hA h0).1] at h; cases h)
  · have ext : Ext ρ RO w ρ (fun b => RO b ∨ b = x.blk) w := ⟨fun _ _ e => e, fun _ e => .inl e, fun _ _ => rfl⟩
    refine ⟨fun b => RO b ∨ b = x.blk, ext, ⟨H.frame, fun k o hk => ?_, fun i j o o' z z' hne e1 e2 => H.dis i j o o' z z' hne (back _ _ e1).2 (back _ _ e2).2, H.fresh, fun b hb => ?_, fun b r hb => ?_⟩, fun off len cap v hb hv => ?_⟩
    · obtain ⟨hne, hk⟩ := back _ _ hk
      obtain ⟨z, h1, h2⟩ := H.objs k o hk
      refine ⟨z, h1, ?_⟩
      rcases h2 with h2 | h2
      · exact .inl h2
      · rcases H.dis k id o _ z x hne hk hl h1 hx with q | q | q
        · exact .inl q
        · obtain ⟨_, _, _, _, hr⟩ := q
          rw [hs.real] at hr; cases hr
        · exact .inr ⟨h2.rel.mono ext rfl, h2.lt, h2.own, fun hr => hr.elim h2.free q, h2.real⟩
    · rcases hb with hb | rfl
      · exact H.ro b hb
      · exact ⟨hs.lt, .inr hs.own⟩
    · rw [lookF_cons] at hb
      by_cases e1 : id = b
      · rw [if_pos e1] at hb; cases hb
        subst e1
        obtain ⟨r1, cs, r2, r3, r4⟩ := hs.rel
        refine ⟨x, hx, r1.1, r1.2, fun _ => ⟨.inr rfl, cs, r2, r3, fun i k hi hk => ?_⟩⟩
        obtain ⟨v, q1, q2, q3⟩ := r4 i k hi hk
        exact ⟨v, q1, q2, q3.mono ext⟩
      · rw [if_neg e1] at hb
        obtain ⟨z, q1, q2⟩ := H.frz b r hb
        exact ⟨z, q1, q2.mono ext⟩
    · cases hv with
      | @sl _ _ _ _ c L A hL hlc hcc hA h0 hsz hm' =>
        rw [hx] at hL; cases hL
        obtain ⟨r1, cs, r2, r3, r4⟩ := hs.rel
        have hlen : ((l.drop off).take len).length = len := by simp; omega
        have key : ∀ i k, i < len → k < Univ.sz e → ∃ v, cs[x.base + ((off + i) * Univ.sz e + k)]? = some v ∧ v.oneCell' = true ∧ VRel ρ RO w (elT e ((l.drop off).take len) i k) v := by
          intro i k hi hk
          obtain ⟨v, q1, q2, q3⟩ := r4 (off + i) k (by omega) hk
          refine ⟨v, q1, q2, ?_⟩
          have : elT e ((l.drop off).take len) i k = elT e l (off + i) k := by
            unfold elT
            congr 2
            simp [List.getD_eq_getElem?_getD, List.getElem?_take, hi]
          rw [this]; exact q3
        refine .dsl hlen.symm (by omega) (fun i k => cs.getD (x.base + ((off + i) * Univ.sz e + k)) .nilFunc) (fun hne => ?_) (fun i k hi hk => ?_) (fun i k hi hk => ?_) (fun h => by
          by_cases h0 : c = 0
          · exact h0
          · rw [(hA h0).1] at h; cases h)
        · refine ⟨x.blk, x.base + off * x.sz, (hA (by omega)).1, .inr rfl, fun i k hi hk => ?_⟩
          obtain ⟨v, q1, q2, q3⟩ := key i k hi hk
          have : x.base + off * x.sz + (i * Univ.sz e + k) = x.base + ((off + i) * Univ.sz e + k) := by rw [r1.1, Nat.add_mul]; omega
          rw [this]
          simp only [World.cell?, r2]
          simp [Array.getD_eq_getD_getElem?, q1]
        · obtain ⟨v, q1, q2, q3⟩ := key i k hi hk
          simp only [Array.getD_eq_getD_getElem?, q1]; exact q2
        · obtain ⟨v, q1, q2, q3⟩ := key i k hi hk
          simp only [Array.getD_eq_getD_getElem?, q1]; exact q3.mono ext
theorem HRel.thaw {w0 : World} {F : Fr} {h : Heap} {next : Nat} {ρ : Nat → Option Loc} {RO : Nat → Prop} {w : World} (H : HRel w0 F h next ρ RO w) {id : Nat} {r : Row} (hl : lookF h id = some r) {v : Value} (hv : VRel ρ RO w (.slf id) v) : VRel ρ RO w (.dsl r.e r.l) v := by
  obtain ⟨x, hx, hf⟩ := H.frz id r hl
  cases hv with
  | @slf _ c L A hL hc hA h0 hs hm =>
    rw [hx] at hL; cases hL
    have hn := hf.n
    rw [hn] at hc ⊢
    have hz : A = none → c = 0 := fun h => by
      by_cases h0 : c = 0
      · exact h0
      · rw [hA h0] at h; cases h
    by_cases hne : r.l = []
    · have h0 : r.l.length = 0 := by rw [hne]; rfl
      exact .dsl rfl hc (fun _ _ => .nilFunc) (fun h => absurd h0 h) (fun i k hi => by omega) (fun i k hi => by omega) hz
    · obtain ⟨r1, cs, r2, r3, r4⟩ := hf.rel hne
      refine .dsl rfl hc (fun i k => cs.getD (x.base + (i * Univ.sz r.e + k)) .nilFunc) (fun hl0 => ?_) (fun i k hi hk => ?_) (fun i k hi hk => ?_) hz
      · refine ⟨x.blk, x.base, hA (by omega), r1, fun i k hi hk => ?_⟩
        obtain ⟨u, q1, q2, q3⟩ := r4 i k hi hk
        simp only [World.cell?, r2]
        simp [Array.getD_eq_getD_getElem?, q1]
      · obtain ⟨u, q1, q2, q3⟩ := r4 i k hi hk
        simp only [Array.getD_eq_getD_getElem?, q1]; exact q2
      · obtain ⟨u, q1, q2, q3⟩ := r4 i k hi hk
        simp only [Array.getD_eq_getD_getElem?, q1]; exact q3
theorem VRel.nil_or {ρ : Nat → Option Loc} {RO : Nat → Prop} {w : World} {e : Nat} {l : List (Den.den e)} {v : Value} (h : VRel ρ RO w (.dsl e l) v) : (l = [] ∧ v = .slice none 0 0) ∨ VRel ρ RO w (.dsn e l) v := by
  cases h with
  | @dsl _ n c _ A hl hn vs hA h1 hv hz =>
    cases A with
    | none =>
      have : n = 0 := by
        rcases Nat.eq_zero_or_pos n with h0 | h0
        · exact h0
        · obtain ⟨blk, o, q, _⟩ := hA (by omega)
          cases q
      subst this
      exact .inl ⟨List.length_eq_zero_iff.1 hl.symm, by rw [hz rfl]⟩
    | some A => exact .inr (.dsn hl hn vs (fun h0 => by obtain ⟨blk, o, q, q2⟩ := hA h0; cases q; exact ⟨blk, o, rfl, q2⟩) h1 hv)
theorem VRel.of_dsn {ρ : Nat → Option Loc} {RO : Nat → Prop} {w : World} {e : Nat} {l : List (Den.den e)} {v : Value} (h : VRel ρ RO w (.dsn e l) v) : VRel ρ RO w (.dsl e l) v := by
  cases h with
  | dsn hl hn vs hA h1 hv => exact .dsl hl hn vs (fun h0 => by obtain ⟨blk, o, rfl, q2⟩ := hA h0; exact ⟨blk, o, rfl, q2⟩) h1 hv (fun h => by cases h)
end Go.Eng

end
section
set_option linter.unusedVariables false
set_option linter.unusedSectionVars false
namespace Go.Eng
variable [U : Univ]
abbrev Env := List (Nat × Option AV)
def lookE (env : Env) (t : Nat) : Option AV := match look env t with | some (some v) => some v | _ => none
def constCell : Value → Option AV
  | .bool b => some (.bool b)
  | .int k n => some (.int k n)
  | .string s => some (.str s)
  | .pointer none => some .nilp
  | .slice none 0 0 => some .nils
  | .map none => some .nilm
  | .nilFunc => some .nilfn
  | .nilIface => some .nili
  | _ => none
def constCells : List Value → Option (List AV)
  | [] => some []
  | v :: r => match constCell v, constCells r with
    | some a, some l => some (a :: l)
    | _, _ => none
def constA : Value → Option AV
  | .agg cs => match constCells cs.toList with | some l => some (.agg l) | none => none
  | v => constCell v
def evA (env : Env) : Operand → Option AV
  | .tmp t => lookE env t
  | .const v => constA v
  | .func f => some (.fn (.func f) [] [])
  | .global _ => none
def evAs (env : Env) : List Operand → Option (List AV)
  | [] => some []
  | x :: r => match evA env x, evAs env r with
    | some a, some l => some (a :: l)
    | _, _ => none
def cellsA : AV → List AV
  | .agg cs => cs
  | .raw v => v.cells.toList.map .raw
  | v => [v]
def plainA : AV → Bool
  | .tup _ | .raw _ => false
  | _ => true
def szT (P : Program) (t : TypeId) : Option Nat := match P.info? t with | some i => some i.size | none => none
def aggT (P : Program) (t : TypeId) : Option Bool := match P.underlying t with | some (.struct _) | some (.array _ _) => some true | some _ => some false | none => none
def zeroT (P : Program) (t : TypeId) : Option AV := match P.info? t with | some i => (match i.zero with | some z => constA z | none => none) | none => none
def partA (P : Program) (t : TypeId) (cs : List AV) (off : Nat) : Option AV :=
  match szT P t with
  | none => none
  | some n => match aggT P t with
    | some true => match Nat.ble (off + n) cs.length with | true => some (.agg ((cs.drop off).take n)) | false => none
    | some false => cs[off]?
    | none => none
def sets {α : Type} : List α → Nat → List α → List α
  | cs, _, [] => cs
  | cs, o, v :: r => sets (cs.set o v) (o + 1) r
def fillA (place : Nat → Option (Nat × Nat)) : List AV → List (Nat × AV) → Option (List AV)
  | cells, [] => some cells
  | cells, (i, v) :: rest =>
    match place i with
    | none => none
    | some (off, size) =>
      match Nat.beq (cellsA v).length size && Nat.ble (off + size) cells.length && plainA v with
      | true => fillA place (sets cells off (cellsA v)) rest
      | false => none
def evParts (env : Env) : List (Nat × Operand) → Option (List (Nat × AV))
  | [] => some []
  | (i, x) :: r => match evA env x, evParts env r with
    | some a, some l => some ((i, a) :: l)
    | _, _ => none
def placesT (P : Program) : List Field → Option (List (Nat × Nat))
  | [] => some []
  | f :: r => match szT P f.type, placesT P r with
    | some n, some l => some ((f.offset, n) :: l)
    | _, _ => none
def buildA (P : Program) (t : TypeId) (parts : List (Nat × AV)) : Option AV :=
  match zeroT P t, P.underlying t with
  | some z, some (.array _ e) => match szT P e with
    | some n => match fillA (fun i => some (i * n, n)) (cellsA z) parts with | some l => some (.agg l) | none => none
    | none => none
  | some z, some (.struct fs) => match placesT P fs.toList with
    | some ps => match fillA (fun i => ps[i]?) (cellsA z) parts with | some l => some (.agg l) | none => none
    | none => none
  | _, _ => none
def rep (z : List AV) : Nat → List AV
  | 0 => []
  | n + 1 => z ++ rep z n
def eqF (P : Program) (eq : TypeId → AV → AV → Option Bool) (xs ys : List AV) : List Field → Option Bool
  | [] => some true
  | f :: r =>
    match decide (f.name = "_") with
    | true => none
    | false => match partA P f.type xs f.offset, partA P f.type ys f.offset with
      | some a, some b => match eq f.type a b with
        | some q => match r with
          | [] => some q
          | g :: r' => match eqF P eq xs ys (g :: r') with | some s => some (q && s) | none => none
        | none => none
      | _, _ => none
def eqA (P : Program) : Nat → TypeId → AV → AV → Option Bool
  | 0, _, _, _ => none
  | d + 1, t, x, y =>
    match P.underlying t, x, y with
    | some .bool, .bool a, .bool b => some (a == b)
    | some (.int _), .int k a, .int k' b => match decide (k = k') with | true => some (a == b) | false => none
    | some .string, .str a, .str b => some (a.toList == b.toList)
    | some (.struct fs), .agg xs, .agg ys =>
      match P.stoodInHeld t with
      | true => none
      | false => eqF P (eqA P d) xs ys fs.toList
    | _, _, _ => none
def intA (op : BinOp) (k : IntKind) (a b : Int) : Option (AV × Bool) :=
  match op with
  | .add => some (.int k (k.wrap (a + b)), true)
  | .sub => some (.int k (k.wrap (a - b)), true)
  | .mul => some (.int k (k.wrap (a * b)), true)
  | .quo => some (.int k (k.wrap (a.tdiv b)), !(b == 0))
  | .rem => some (.int k (a.tmod b), !(b == 0))
  | .and => some (.int k (k.wrap (BitVec.ofInt k.bits a &&& BitVec.ofInt k.bits b).toNat), true)
  | .or => some (.int k (k.wrap (BitVec.ofInt k.bits a ||| BitVec.ofInt k.bits b).toNat), true)
  | .xor => some (.int k (k.wrap (BitVec.ofInt k.bits a ^^^ BitVec.ofInt k.bits b).toNat), true)
  | .andNot => some (.int k (k.wrap (BitVec.ofInt k.bits a &&& ~~~ BitVec.ofInt k.bits b).toNat), true)
  | .eql => some (.bool (a == b), true)
  | .neq => some (.bool (a != b), true)
  | .lss => some (.bool (decide (a < b)), true)
  | .leq => some (.bool (decide (a ≤ b)), true)
  | .gtr => some (.bool (decide (a > b)), true)
  | .geq => some (.bool (decide (a ≥ b)), true)
  | _ => none
def strA (op : BinOp) (a b : ByteArray) : Option (AV × Bool) :=
  match op with
  | .add => some (.str (a ++ b), decide (a.size + b.size ≤ 9223372036854775807))
  | .eql => some (.bool (a.toList == b.toList), true)
  | .neq => some (.bool (!(a.toList == b.toList)), true)
  | .lss => some (.bool (Op.bytesLess a.toList b.toList), true)
  | .leq => some (.bool (Op.bytesLess a.toList b.toList || a.toList == b.toList), true)
  | .gtr => some (.bool (!(Op.bytesLess a.toList b.toList || a.toList == b.toList)), true)
  | .geq => some (.bool (!(Op.bytesLess a.toList b.toList)), true)
  | _ => none
def cstO : Operand → Bool
  | .const _ => true
  | _ => false
def binA (P : Program) (op : BinOp) (t : TypeId) (cst : Bool) (x y : AV) : Option (AV × Bool) :=
  match op, x, y with
  | .shl, .int k a, .int _ b => some (.int k (k.wrap (a * 2 ^ (min b.toNat k.bits))), !(decide (b < 0)))
  | .shr, .int k a, .int _ b => some (.int k (a.fdiv (2 ^ (min b.toNat k.bits))), !(decide (b < 0)))
  | op, .int k a, .int k' b => match decide (k = k') with | true => intA op k a b | false => none
  | op, .str a, .str b => strA op a b
  | .eql, .bool a, .bool b => match P.underlying t with | some .bool => some (.bool (a == b), true) | _ => none
  | .neq, .bool a, .bool b => match P.underlying t with | some .bool => some (.bool (!(a == b)), true) | _ => none
  | .eql, .agg xs, .agg ys => match P.eqGuardType P.depth t, eqA P 40 t (.agg xs) (.agg ys) with | false, some q => some (.bool q, true) | _, _ => none
  | .neq, .agg xs, .agg ys => match P.eqGuardType P.depth t, eqA P 40 t (.agg xs) (.agg ys) with | false, some q => some (.bool (!q), true) | _, _ => none
  | .eql, .dsn _ _, .nils => match P.underlying t with | some (.slice _) => some (.bool false, true) | _ => none
  | .neq, .dsn _ _, .nils => match P.underlying t with | some (.slice _) => some (.bool true, true) | _ => none
  | .eql, .nils, .nils => match P.underlying t with | some (.slice _) => some (.bool true, true) | _ => none
  | .neq, .nils, .nils => match P.underlying t with | some (.slice _) => some (.bool false, true) | _ => none
  | .eql, .nilp, .nilp => match P.underlying t with | some (.pointer _) => some (.bool true, true) | _ => none
  | .neq, .nilp, .nilp => match P.underlying t with | some (.pointer _) => some (.bool false, true) | _ => none
  | .eql, .ptr _ _ _, .nilp => match P.underlying t with | some (.pointer _) => some (.bool false, true) | _ => none
  | .neq, .ptr _ _ _, .nilp => match P.underlying t with | some (.pointer _) => some (.bool true, true) | _ => none
  | .eql, .iface _ _, .nili => match P.underlying t with | some (.interface _) => some (.bool false, true) | _ => none
  | .neq, .iface _ _, .nili => match P.underlying t with | some (.interface _) => some (.bool true, true) | _ => none
  | .eql, .nili, .nili => match P.underlying t, cst with | some (.interface _), true => some (.bool true, true) | _, _ => none
  | .neq, .nili, .nili => match P.underlying t, cst with | some (.interface _), true => some (.bool false, true) | _, _ => none
  | _, _, _ => none
def unA (op : UnOp) (x : AV) : Option AV :=
  match op, x with
  | .not, .bool b => some (.bool (!b))
  | .neg, .int k n => some (.int k (k.wrap (0 - n)))
  | _, _ => none
def fieldT (P : Program) (s : TypeId) (f : Nat) : Option Field := match P.underlying s with | some (.struct fs) => fs[f]? | _ => none
def elemT (P : Program) (t : TypeId) : Option TypeId := match P.underlying t with | some (.slice e) => some e | _ => none
def rowOf (h : Heap) : AV → Option (Row × Bool)
  | .slf id => match lookH h id with | some (.row e l) => some (⟨e, l⟩, true) | _ => none
  | .sl id off len _ => match lookH h id with | some (.row e l) => some (⟨e, (l.drop off).take len⟩, decide (off + len ≤ l.length)) | _ => none
  | .dsl e l => some (⟨e, l⟩, true)
  | .dsn e l => some (⟨e, l⟩, true)
  | _ => none
def thawV (h : Heap) (v : AV) : AV := match v with
  | .slf id => match lookF h id with | some r => .dsl r.e r.l | none => .slf id
  | v => v
def unF (h : Heap) (v : AV) : AV := match v with
  | .slf id => match lookH h id with | some (.row _ l) => .sl id 0 l.length l.length | _ => .slf id
  | v => v
def intOfA : AV → Option Int
  | .int _ n => some n
  | _ => none
def boundA (env : Env) (d : Int) : Option Operand → Option Int
  | none => some d
  | some x => match evA env x with | some v => intOfA v | none => none
structure Got where
  val : Option AV
  heap : Heap
  next : Nat
  cond : Bool
def Got.pure (h : Heap) (n : Nat) (r : Option AV) : Option Got := match r with | some v => some ⟨some v, h, n, true⟩ | none => none
def Got.pureC (h : Heap) (n : Nat) (r : Option (AV × Bool)) : Option Got := match r with | some (v, c) => some ⟨some v, h, n, c⟩ | none => none
def boxA (h : Heap) (n : Nat) (t : TypeId) (v : AV) : Option Got := match plainA v with | true => some ⟨some (.ptr n 0 0), (n, some (.box t (cellsA v))) :: h, n + 1, true⟩ | false => none
def frzC (h : Heap) (a : AV) : Option (AV × Heap × Bool) := match thawV h a with
  | .slf id => match lookH h id with | some (.row e l) => some (.dsl e l, (id, some (.frow e l)) :: h, true) | _ => none
  | .sl id off len _ => match lookH h id with | some (.row e l) => some (.dsl e ((l.drop off).take len), (id, some (.frow e l)) :: h, decide (off + len ≤ l.length)) | _ => none
  | a => match flatCell a with | true => some (a, h, true) | false => none
def frzL : Heap → List AV → Option (List AV × Heap × Bool)
  | h, [] => some ([], h, true)
  | h, a :: r => match frzC h a with
    | some (b, h1, c1) => match frzL h1 r with
      | some (l, h2, c2) => some (b :: l, h2, c1 && c2)
      | none => none
    | none => none
def lodA (P : Program) (h : Heap) (n : Nat) (t : TypeId) (a : AV) : Option Got :=
  match a with
  | .ptr id idx off => match lookH h id with
    | some (.box _ cells) => match idx with
      | 0 => Got.pure h n (partA P t cells off)
      | _ => none
    | some (.row e l) => match partA P t (Univ.cells e (l.getD idx default)) off with
      | some v => some ⟨some v, h, n, decide (idx < l.length)⟩
      | none => none
    | _ => none
  | .dptr e x off => Got.pure h n (partA P t (Univ.cells e x) off)
  | _ => none
def stoA (P : Program) (h : Heap) (n : Nat) (t : TypeId) (a v : AV) : Option Got :=
  match szT P t, plainA v with
  | some s, true => match Nat.beq (cellsA v).length s with
    | true => match a with
      | .ptr id idx off => match lookH h id with
        | some (.box ty cells) => match idx, Nat.ble (off + s) cells.length with
          | 0, true => some ⟨none, (id, some (.box ty (sets cells off (cellsA v)))) :: h, n, true⟩
          | _, _ => none
        | some (.row _ _) => match frzL h (cellsA v) with
          | some (cs, h', c) => match lookH h' id with
            | some (.row e l) => match Univ.build e (sets (Univ.cells e (l.getD idx default)) off cs), Nat.ble (off + s) (Univ.sz e) with
              | some x, true => some ⟨none, (id, some (.row e (l.set idx x))) :: h', n, c && decide (idx < l.length)⟩
              | _, _ => none
            | _ => none
          | none => none
        | _ => none
      | _ => none
    | false => none
  | _, _ => none
def idxA (P : Program) (h : Heap) (n : Nat) (t : TypeId) (x i : AV) : Option Got :=
  match elemT P t, intOfA i with
  | some e, some j => match szT P e, x with
    | some s, .slf id => match lookH h id with
      | some (.row e' l) => match Nat.beq s (Univ.sz e') with
        | true => some ⟨some (.ptr id j.toNat 0), h, n, decide (0 ≤ j ∧ j < (l.length : Int))⟩
        | false => none
      | _ => none
    | some s, .sl id off len cap => match lookH h id with
      | some (.row e' l) => match Nat.beq s (Univ.sz e') with
        | true => some ⟨some (.ptr id (off + j.toNat) 0), h, n, decide (0 ≤ j ∧ j < (len : Int))⟩
        | false => none
      | _ => none
    | some s, .dsl e' l => match Nat.beq s (Univ.sz e') with
      | true => some ⟨some (.dptr e' (l.getD j.toNat default) 0), h, n, decide (0 ≤ j ∧ j < (l.length : Int))⟩
      | false => none
    | _, _ => none
  | _, _ => none
def fldA (P : Program) (s : TypeId) (a : AV) (f : Nat) : Option AV :=
  match fieldT P s f with
  | some fd => match szT P fd.type with
    | some (_ + 1) => match a with
      | .ptr id idx off => some (.ptr id idx (off + fd.offset))
      | .dptr e x off => some (.dptr e x (off + fd.offset))
      | _ => none
    | _ => none
  | none => none
def allI (k : IntKind) : List AV → Option (List Int)
  | [] => some []
  | .int k' a :: r => match decide (k = k'), allI k r with | true, some l => some (a :: l) | _, _ => none
  | _ => none
def bytesN (ns : List Int) : ByteArray := ⟨(ns.map fun n => UInt8.ofNat n.toNat).toArray⟩
def bytesR (h : Heap) (v : AV) : Option (AV × Bool) := match rowOf h v with
  | some (r, c) => (match Nat.beq (Univ.sz r.e) 1, allI .u8 (r.l.map fun x => (Univ.cells r.e x).getD 0 .nilp) with | true, some (n :: ns) => some (.str (bytesN (n :: ns)), c) | _, _ => none)
  | none => none
def allS : List AV → Option (List ByteArray)
  | [] => some []
  | .str a :: r => match allS r with | some l => some (a :: l) | none => none
  | _ => none
def colA (cs : List AV) : Option (Nat → AV) := match cs with
  | .int k _ :: _ => match allI k cs with | some l => some fun p => .int k (l.getD p 0) | none => none
  | .str _ :: _ => match allS cs with | some l => some fun p => .str (l.getD p default) | none => none
  | _ => none
def idxV (P : Program) (t : TypeId) (x i : AV) : Option (AV × Bool) :=
  match P.underlying t, x, i with
  | some (.array len e), .agg cs, .int _ j => match szT P e with
    | some s => match colA cs, Nat.beq cs.length (len * s) with
      | some f, true => match partA P e ((List.range s).map fun c => f (j.toNat * s + c)) 0 with | some v => some (v, decide (0 ≤ j ∧ j < (len : Int))) | none => none
      | _, _ => match partA P e cs (j.toNat * s) with | some v => some (v, decide (0 ≤ j ∧ j < (len : Int))) | none => none
    | none => none
  | some .string, .str s, .int _ j => some (.int .u8 (s.data.getD j.toNat 0).toNat, decide (0 ≤ j ∧ j < (s.size : Int)))
  | _, _, _ => none
def cutL {α : Type} (l : List α) (lo hi : Option Int) : List α := match lo, hi with
  | none, none => l
  | some a, none => l.drop a.toNat
  | none, some b => l.take b.toNat
  | some a, some b => (l.drop a.toNat).take (b.toNat - a.toNat)
def boundO (env : Env) : Option Operand → Option (Option Int)
  | none => some none
  | some x => match evA env x with | some v => (match intOfA v with | some i => some (some i) | none => none) | none => none
def sliceA (P : Program) (env : Env) (h : Heap) (n : Nat) (t : TypeId) (x : AV) (lo hi : Option Operand) : Option Got :=
  match x with
  | .str s => match P.underlying t, boundA env 0 lo, boundA env s.size hi with
    | some .string, some l, some u => some ⟨some (.str (s.extract l.toNat u.toNat)), h, n, decide (0 ≤ l ∧ l ≤ u ∧ u ≤ (s.size : Int))⟩
    | _, _, _ => none
  | .sl id off len cap => match elemT P t, boundA env 0 lo, boundA env len hi with
    | some e, some l, some u => match szT P e, lookH h id with
      | some s, some (.row e' _) => match Nat.beq s (Univ.sz e') with
        | true => some ⟨some (.sl id (off + l.toNat) (u.toNat - l.toNat) (cap - l.toNat)), h, n, decide (0 ≤ l ∧ l ≤ u ∧ u ≤ (cap : Int))⟩
        | false => none
      | _, _ => none
    | _, _, _ => none
  | .dsl e' r => match elemT P t, boundO env lo, boundO env hi with
    | some e, some l, some u => match szT P e with
      | some s => match Nat.beq s (Univ.sz e') with
        | true => some ⟨some (.dsl e' (cutL r l u)), h, n, decide (0 ≤ l.getD 0 ∧ l.getD 0 ≤ u.getD r.length ∧ u.getD r.length ≤ (r.length : Int))⟩
        | false => none
      | none => none
    | _, _, _ => none
  | .nils => match elemT P t, boundA env 0 lo, boundA env 0 hi with
    | some e, some l, some u => match szT P e with
      | some s => some ⟨some .nils, h, n, decide (l = 0 ∧ u = 0)⟩
      | none => none
    | _, _, _ => none
  | _ => none
def sliceZ (P : Program) (env : Env) (h : Heap) (n : Nat) (t : TypeId) (x : AV) (lo hi : Option Operand) (mx : Operand) : Option Got :=
  match elemT P t, boundA env 0 lo, boundA env 1 hi, boundA env 1 (some mx) with
  | some e, some 0, some 0, some 0 => match szT P e with
    | some _ => match x with
      | .slf _ | .sl _ _ _ _ | .dsl _ _ | .zs => some ⟨some .zs, h, n, true⟩
      | .nils => some ⟨some .nils, h, n, true⟩
      | _ => none
    | none => none
  | _, _, _, _ => none
def lenA (P : Program) (h : Heap) (t : TypeId) (x : AV) : Option AV :=
  match P.underlying t, x with
  | some .string, .str s => some (.int .i64 s.size)
  | some (.slice _), .slf id => match lookH h id with | some (.row _ l) => some (.int .i64 l.length) | _ => none
  | some (.slice _), .sl _ _ len _ => some (.int .i64 len)
  | some (.slice _), .dsl _ l => some (.int .i64 l.length)
  | some (.slice _), .dsn _ l => some (.int .i64 l.length)
  | some (.slice _), .nils => some (.int .i64 0)
  | some (.slice _), .zs => some (.int .i64 0)
  | some (.map _ _), .nilm => some (.int .i64 0)
  | some (.map _ _), .map id => match lookH h id with | some (.map es) => some (.int .i64 es.length) | _ => none
  | _, _ => none
def capA (P : Program) (t : TypeId) (x : AV) : Option AV := match P.underlying t, x with
  | some (.slice _), .nils => some (.int .i64 0)
  | some (.slice _), .zs => some (.int .i64 0)
  | _, _ => none
def cutO {α : Type} (l : List α) (off len : Nat) : List α := match off with
  | 0 => l.take len
  | off => (l.drop off).take len
theorem cutO_eq {α : Type} (l : List α) (off len : Nat) : cutO l off len = (l.drop off).take len := by
  unfold cutO; split <;> simp
def appTo (h : Heap) (n : Nat) (e bytes : Nat) (m : List (Den.den e)) (x : AV) : Option Got :=
  match x with
  | .nils | .zs => some ⟨some (.slf n), (n, some (.row e m)) :: h, n + 1, decide (m.length * bytes ≤ 140737488355328)⟩
  | .slf id => match lookH h id with
    | some (.row e' l) => match decEq e' e with
      | .isTrue q => some ⟨some (.slf n), (n, some (.row e (q ▸ l ++ m))) :: (id, none) :: h, n + 1, decide ((l.length + m.length) * bytes ≤ 140737488355328)⟩
      | .isFalse _ => none
    | _ => none
  | .sl id off len cap => match lookH h id with
    | some (.row e' l) => match decEq e' e with
      | .isTrue q => some ⟨some (.slf n), (n, some (.row e (cutO (q ▸ l) off len ++ m))) :: (id, none) :: h, n + 1, decide ((len + m.length) * bytes ≤ 140737488355328 ∧ off + len ≤ l.length)⟩
      | .isFalse _ => none
    | _ => none
  | _ => none
def moreA (h : Heap) (e : Nat) (y : AV) : Option (List (Den.den e) × Bool) :=
  match y with
  | .nils | .zs => some ([], true)
  | y => match rowOf h y with | some (r, b) => (match decEq r.e e with | .isTrue q => some (q ▸ r.l, b) | .isFalse _ => none) | none => none
def appA (P : Program) (h : Heap) (n : Nat) (t : TypeId) (x y : AV) : Option Got :=
  match elemT P t with
  | some e => match P.info? e with
    | some ie => match ie.zero, Nat.beq (Univ.sz e) ie.size, Nat.ble 1 ie.bytes with
      | some z, true, true => match Nat.beq z.cells.size ie.size, moreA h e y with
        | true, some (m, b) => match appTo h n e ie.bytes m x with
          | some g => some ⟨g.val, g.heap, g.next, b && g.cond⟩
          | none => none
        | _, _ => none
      | _, _, _ => none
    | none => none
  | none => none
def max2 (a b : Int) : Int := if b > a then b else a
def min2 (a b : Int) : Int := if b < a then b else a
theorem max2_eq (a b : Int) : max2 a b = max a b := by unfold max2; omega
def minmaxA (mx : Bool) : List AV → Option AV
  | .int k a :: .int k' b :: r => match decide (k = k') with
    | true => match r with
      | [] => (match mx with | true => some (.int k (max2 a b)) | false => some (.int k (min2 a b)))
      | _ => none
    | false => none
  | _ => none
def chunks (e : Nat) : Nat → List AV → Option (List (Den.den e))
  | 0, _ => some []
  | k + 1, cs => match Univ.build e (cs.take (Univ.sz e)), chunks e k (cs.drop (Univ.sz e)) with
    | some x, some l => some (x :: l)
    | _, _ => none
def buildSliceA (P : Program) (e : TypeId) (n len : Nat) (parts : List (Nat × AV)) : Option (List AV) :=
  match Nat.ble (len * n) 16777216, Nat.ble 1 n with
  | true, true => match len with
    | 0 => match parts with | [] => some [] | _ => none
    | len + 1 => match zeroT P e with
      | some z => match Nat.beq (cellsA z).length n with
        | true => fillA (fun i => some (i * n, n)) (rep (cellsA z) (len + 1)) parts
        | false => none
      | none => none
  | _, _ => none
def makA (P : Program) (h : Heap) (n : Nat) (t : TypeId) (l c : AV) : Option Got :=
  match elemT P t, l, c with
  | some e, .int .i64 a, .int .i64 b => match P.info? e with
    | some ie => match ie.zero with
      | some z => match constA z with
        | some za => match Nat.beq (cellsA za).length ie.size && Nat.beq (Univ.sz e) ie.size, Univ.build e (cellsA za) with
          | true, some x => some ⟨some (.slf n), (n, some (.row e (List.replicate a.toNat x))) :: h, n + 1,
              a == b && decide (0 ≤ a ∧ a * ie.bytes ≤ 140737488355328 ∧ a ≤ 140737488355328)⟩
          | _, _ => none
        | none => none
      | none => none
    | none => none
  | _, _, _ => none
def appZ (P : Program) (h : Heap) (n : Nat) (t : TypeId) (a : Int) : Option Got :=
  match elemT P t with
  | some e => match P.info? e with
    | some ie => match ie.zero with
      | some z => match constA z with
        | some za => match Nat.beq (cellsA za).length ie.size && Nat.beq (Univ.sz e) ie.size, Univ.build e (cellsA za), Nat.ble 1 ie.bytes with
          | true, some x, true => some ⟨some (.slf n), (n, some (.row e (List.replicate a.toNat x))) :: h, n + 1,
              decide (0 ≤ a ∧ a * ie.bytes ≤ 140737488355328 ∧ a ≤ 140737488355328)⟩
          | _, _, _ => none
        | none => none
      | none => none
    | none => none
  | none => none
def stepA (P : Program) (env : Env) (h : Heap) (n : Nat) (o : Op) : Option Got :=
  match o with
  | .move x | .assign x => Got.pure h n (evA env x)
  | .pick c a b => match evA env c with
    | some (.bool true) => Got.pure h n (evA env a)
    | some (.bool false) => Got.pure h n (evA env b)
    | _ => none
  | .alloc t => match zeroT P t with | some z => boxA h n t z | none => none
  | .box t x => match evA env x with | some v => boxA h n t v | none => none
  | .build t parts => match evParts env parts.toList with | some ps => Got.pure h n (buildA P t ps) | none => none
  | .buildSlice t len parts => match evParts env parts.toList, elemT P t with
    | some ps, some e => match szT P e with
      | some s => match buildSliceA P e s len ps, Nat.beq s (Univ.sz e) with
        | some cells, true => match frzL h cells with
          | some (cs, h', c) => match chunks e len cs with
            | some l => some ⟨some (.slf n), (n, some (.row e l)) :: h', n + 1, c⟩
            | none => none
          | none => none
        | _, _ => none
      | none => none
    | _, _ => none
  | .load t a => match evA env a with | some v => lodA P h n t v | none => none
  | .store t a x => match evA env a, evA env x with | some v, some u => stoA P h n t v u | _, _ => none
  | .nilCheck x => match evA env x with
    | some (.ptr id idx off) => Got.pure h n (some (.ptr id idx off))
    | some (.dptr e x off) => Got.pure h n (some (.dptr e x off))
    | _ => none
  | .binOp op t x y _ => match evA env x, evA env y with | some a, some b => Got.pureC h n (binA P op t (cstO y) a b) | _, _ => none
  | .unOp op _ x => match evA env x with | some a => Got.pure h n (unA op a) | none => none
  | .convert s t x => match evA env x, P.underlying s, P.underlying t with
    | some (.int _ a), some (.int _), some (.int k) => Got.pure h n (some (.int k (k.wrap a)))
    | some (.str a), some .string, some .string => Got.pure h n (some (.str a))
    | some v, some (.slice e), some .string => (match P.underlying e with | some (.int .u8) => Got.pureC h n (bytesR h (thawV h v)) | _ => none)
    | _, _, _ => none
  | .makeInterface t x => match evA env x, P.concrete t with | some a, true => Got.pure h n (some (.iface t a)) | _, _ => none
  | .makeFunc f first cap => match evAs env first.toList, evAs env cap.toList with | some a, some b => Got.pure h n (some (.fn f a b)) | _, _ => none
  | .makeSlice t l c => match evA env l, evA env c with | some a, some b => makA P h n t a b | _, _ => none
  | .slice t x lo hi none => match evA env x with | some v => sliceA P env h n t (unF h (thawV h v)) lo hi | none => none
  | .slice t x lo hi (some mx) => match evA env x with | some v => sliceZ P env h n t v lo hi mx | none => none
  | .fieldAddr s x f => match evA env x with | some v => Got.pure h n (fldA P s v f) | none => none
  | .field s x f => match evA env x, fieldT P s f with | some (.agg cs), some fd => Got.pure h n (partA P fd.type cs fd.offset) | _, _ => none
  | .indexAddr t x i => match evA env x, evA env i with | some v, some j => idxA P h n t (thawV h v) j | _, _ => none
  | .index t x i => match evA env x, evA env i with | some v, some j => Got.pureC h n (idxV P t v j) | _, _ => none
  | .extract x i => match evA env x with | some (.tup l) => Got.pure h n l[i]? | _ => none
  | .call { callee := .builtin .len, args := args, argTypes := ts } => match args.toList, ts.toList with
    | [x], [t] => match evA env x with | some v => Got.pure h n (lenA P h t (thawV h v)) | none => none
    | _, _ => none
  | .call { callee := .builtin .cap, args := args, argTypes := ts } => match args.toList, ts.toList with
    | [x], [t] => match evA env x with | some v => Got.pure h n (capA P t v) | none => none
    | _, _ => none
  | .call { callee := .builtin .append, args := args, argTypes := ts } => match args.toList, ts.toList with
    | [x, y], [t, u] => match evA env x, evA env y, P.underlying u with
      | some v, some z, some (.slice _) => appA P h n t v (thawV h z)
      | some .nils, some (.int .i64 a), some (.int _) => appZ P h n t a
      | _, _, _ => none
    | _, _ => none
  | .call { callee := .builtin .max, args := args, argTypes := _ } => match evAs env args.toList with | some l => Got.pure h n (minmaxA true l) | none => none
  | .call { callee := .builtin .min, args := args, argTypes := _ } => match evAs env args.toList with | some l => Got.pure h n (minmaxA false l) | none => none
  | _ => none
end Go.Eng

end
section
set_option linter.unusedVariables false
set_option linter.unusedSimpArgs false
set_option linter.unusedSectionVars false
namespace Go.Eng
variable [U : Univ]
open Go.RowKit
variable {P : Program} {w0 w : World} {F : Fr} {ρ : Nat → Option Loc} {RO : Nat → Prop} {h : Heap} {n : Nat}
theorem constCell_rel {v : Value} {a : AV} (e : constCell v = some a) : VRel ρ RO w a v := by
  unfold constCell at e
  split at e <;> first | (cases e; constructor) | cases e
theorem constCells_rel : ∀ {l : List Value} {as : List AV}, constCells l = some as → VRels ρ RO w as l
  | [], as, e => by simp [constCells] at e; subst e; exact .nil
  | v :: r, as, e => by
    simp only [constCells] at e
    split at e
    · rename_i a l h1 h2
      cases e
      exact .cons (constCell_rel h1) (constCells_rel h2)
    · cases e
theorem constCells_one : ∀ {l : List Value} {as : List AV}, constCells l = some as → ∀ x ∈ l, x.oneCell' = true
  | [], as, e, x, hx => by simp at hx
  | v :: r, as, e, x, hx => by
    simp only [constCells] at e
    split at e
    · rename_i a l h1 h2
      rcases List.mem_cons.1 hx with rfl | hx
      · unfold constCell at h1
        split at h1 <;> first | rfl | cases h1
      · exact constCells_one h2 x hx
    · cases e
theorem constA_rel {v : Value} {a : AV} (e : constA v = some a) : VRel ρ RO w a v := by
  unfold constA at e
  split at e
  · rename_i cs
    split at e
    · rename_i l hl
      cases e
      have := constCells_rel (ρ := ρ) (RO := RO) (w := w) hl
      exact .agg this.1 (constCells_one hl) this.2
    · cases e
  · exact constCell_rel e
def ERel (ρ : Nat → Option Loc) (RO : Nat → Prop) (w : World) (env : Env) (a : Act) : Prop := ∀ t v, lookE env t = some v → VRel ρ RO w v (a.tmps.getD t undef)
theorem ERel.mono {ρ' : Nat → Option Loc} {RO' : Nat → Prop} {w' : World} {env : Env} {a : Act} (e : Ext ρ RO w ρ' RO' w') (h : ERel ρ RO w env a) : ERel ρ' RO' w' env a := fun t v hl => (h t v hl).mono e
theorem evA_rel {env : Env} {a : Act} (he : ERel ρ RO w env a) {x : Operand} {v : AV} (e : evA env x = some v) : VRel ρ RO w v (a.eval x) := by
  cases x with
  | tmp t => exact he t v e
  | const c => exact constA_rel e
  | func f =>
    simp only [evA] at e; cases e
    exact .fn (v1 := []) (v2 := []) rfl rfl (fun i a v h => by simp at h) (fun i a v h => by simp at h)
  | global g => cases e
theorem evAs_rel {env : Env} {a : Act} (he : ERel ρ RO w env a) : ∀ {xs : List Operand} {l : List AV}, evAs env xs = some l → VRels ρ RO w l (xs.map a.eval)
  | [], l, e => by simp [evAs] at e; subst e; exact .nil
  | x :: r, l, e => by
    simp only [evAs] at e
    split at e
    · rename_i b l' h1 h2
      cases e
      exact .cons (evA_rel he h1) (evAs_rel he h2)
    · cases e
def PRel (ρ : Nat → Option Loc) (RO : Nat → Prop) (w : World) : List (Nat × AV) → List (Nat × Value) → Prop
  | [], [] => True
  | (i, a) :: l, (j, v) :: r => i = j ∧ VRel ρ RO w a v ∧ PRel ρ RO w l r
  | _, _ => False
theorem evParts_rel {env : Env} {a : Act} (he : ERel ρ RO w env a) : ∀ {xs : List (Nat × Operand)} {l : List (Nat × AV)}, evParts env xs = some l → PRel ρ RO w l (xs.map fun (i, x) => (i, a.eval x))
  | [], l, e => by simp [evParts] at e; subst e; trivial
  | (i, x) :: r, l, e => by
    simp only [evParts] at e
    split at e
    · rename_i b l' h1 h2
      cases e
      exact ⟨rfl, evA_rel he h1, evParts_rel he h2⟩
    · cases e
theorem cells_rel {a : AV} {v : Value} (h : VRel ρ RO w a v) : VRels ρ RO w (cellsA a) v.cells.toList := by
  have one : ∀ {a : AV} {v : Value}, VRel ρ RO w a v → VRels ρ RO w [a] [v] := fun h => .cons h .nil
  have h' := h
  cases h <;> first
    | exact one h'
    | (simp only [cellsA, Value.cells]; exact ⟨by assumption, by assumption⟩)
    | (refine ⟨by simp [cellsA], fun i a u e1 e2 => ?_⟩
       simp only [cellsA, List.getElem?_map, e2, Option.map_some, Option.some.injEq] at e1
       subst e1; exact .raw _)
theorem cells_one {a : AV} {v : Value} (h : VRel ρ RO w a v) (hp : plainA a = true) : ∀ x ∈ v.cells.toList, x.oneCell' = true := by
  have one : ∀ {v : Value}, v.oneCell' = true → ∀ x ∈ [v], x.oneCell' = true := fun h x hx => by simp at hx; subst hx; exact h
  cases h <;> first
    | exact one rfl
    | (rename_i h1 _; exact fun x hx => h1 x (by simpa [Value.cells] using hx))
    | (exact absurd hp (by simp [plainA]))
def GotOk (P : Program) (w0 : World) (F : Fr) (ρ : Nat → Option Loc) (RO : Nat → Prop) (w : World) (s : Sem Next) (g : Got) : Prop :=
  ∃ ρ' RO' w', Ext ρ RO w ρ' RO' w' ∧ HRel w0 F g.heap g.next ρ' RO' w' ∧
    match g.val with
    | some av => ∃ v, s.run P w = .ok (.value v) w' ∧ VRel ρ' RO' w' av v
    | none => s.run P w = .ok .skip w'
theorem GotOk.val {s : Sem Next} {av : AV} {v : Value} {c : Bool} (H : HRel w0 F h n ρ RO w) (hs : s.run P w = .ok (.value v) w) (hv : VRel ρ RO w av v) : GotOk P w0 F ρ RO w s ⟨some av, h, n, c⟩ :=
  ⟨ρ, RO, w, .refl _ _ _, H, v, hs, hv⟩
theorem GotOk.pure {s : Sem Next} {r : Option AV} {g : Got} (H : HRel w0 F h n ρ RO w) (e : Got.pure h n r = some g) (hs : ∀ av, r = some av → ∃ v, s.run P w = .ok (.value v) w ∧ VRel ρ RO w av v) : GotOk P w0 F ρ RO w s g := by
  unfold Got.pure at e
  split at e
  · rename_i v
    cases e
    obtain ⟨v', h1, h2⟩ := hs _ rfl
    exact .val H h1 h2
  · cases e
theorem GotOk.pureC {s : Sem Next} {r : Option (AV × Bool)} {g : Got} (H : HRel w0 F h n ρ RO w) (e : Got.pureC h n r = some g) (hc : g.cond = true)
    (hs : ∀ av c, r = some (av, c) → c = true → ∃ v, s.run P w = .ok (.value v) w ∧ VRel ρ RO w av v) : GotOk P w0 F ρ RO w s g := by
  unfold Got.pureC at e
  split at e
  · rename_i v c
    cases e
    obtain ⟨v', h1, h2⟩ := hs _ _ rfl hc
    exact .val H h1 h2
  · cases e
theorem szT_run {t : TypeId} {s : Nat} (e : szT P t = some s) (w : World) : (sizeOf t).run P w = .ok s w := by
  unfold szT at e
  split at e
  · rename_i i hi
    cases e
    simp [sizeOf, typeInfo, hi]
  · cases e
theorem szT_info {t : TypeId} {s : Nat} (e : szT P t = some s) : (P.info? t).map (·.size) = some s := by
  unfold szT at e
  split at e
  · rename_i i hi; cases e; simp [hi]
  · cases e
theorem agg_run {t : TypeId} {b : Bool} (e : aggT P t = some b) (w : World) : (isAgg t).run P w = .ok b w := by
  unfold aggT at e
  unfold isAgg
  rw [Sem.run_bind]
  split at e
  · rename_i hu; cases e; rw [run_underlying hu w]; simp
  · rename_i hu; cases e; rw [run_underlying hu w]; simp
  · rename_i d h1 h2 hu; cases e; rw [run_underlying hu w]
    cases d <;> simp_all
  · cases e
theorem part_ok {t : TypeId} {cs : List AV} {vs : List Value} {off : Nat} {a : AV} (hr : VRels ρ RO w cs vs) (hone : ∀ x ∈ vs, x.oneCell' = true) (e : partA P t cs off = some a) : ∃ v, (part t vs.toArray off).run P w = .ok v w ∧ VRel ρ RO w a v := by
  unfold partA at e
  split at e
  · cases e
  · rename_i n hn
    split at e
    · rename_i ha
      split at e
      · rename_i hb
        cases e
        have hb' : off + n ≤ cs.length := Nat.le_of_ble_eq_true hb
        refine ⟨.agg ((vs.drop off).take n).toArray, ?_, ?_⟩
        · unfold part
          simp only [Sem.run_bind, agg_run ha w, Result.andThen_ok, if_true, szT_run hn w, Sem.run_pure]
          congr 2
          simp [List.extract_toArray, List.extract_eq_take_drop]
        · have := hr.take_drop off n
          exact .agg this.1 (fun x hx => hone x (List.mem_of_mem_drop (List.mem_of_mem_take hx))) this.2
      · cases e
    · rename_i ha
      obtain ⟨v, h1, h2⟩ := hr.get e
      refine ⟨v, ?_, h2⟩
      unfold part
      simp [Sem.run_bind, agg_run ha w, h1]
    · cases e
theorem sets_length {α : Type} : ∀ (l : List α) (cs : List α) (o : Nat), (sets cs o l).length = cs.length
  | [], _, _ => rfl
  | v :: r, cs, o => by rw [sets, sets_length r]; simp
theorem sets_get {α : Type} : ∀ (l : List α) (cs : List α) (o j : Nat), (sets cs o l)[j]? = if o ≤ j ∧ j < o + l.length ∧ j < cs.length then l[j - o]? else cs[j]?
  | [], cs, o, j => by
    rw [sets, if_neg]
    intro hc; simp at hc; omega
  | v :: r, cs, o, j => by
    rw [sets, sets_get r]
    simp only [List.length_set, List.length_cons]
    by_cases h1 : o + 1 ≤ j ∧ j < o + 1 + r.length ∧ j < cs.length
    · rw [if_pos h1, if_pos (by omega)]
      rw [show j - o = (j - (o + 1)) + 1 by omega, List.getElem?_cons_succ]
    · rw [if_neg h1, List.getElem?_set]
      by_cases h2 : o = j
      · subst h2
        by_cases h3 : o < cs.length
        · simp [h3]
        · simp [h3]
      · rw [if_neg h2, if_neg (by omega)]
theorem sets_rel : ∀ {l : List AV} {us : List Value} {cs : List AV} {vs : List Value} (o : Nat), VRels ρ RO w cs vs → VRels ρ RO w l us → VRels ρ RO w (sets cs o l) (sets vs o us)
  | [], us, cs, vs, o, h, h' => by rw [h'.inv_nil]; exact h
  | a :: l, us, cs, vs, o, h, h' => by
    obtain ⟨v, t, rfl, h1, h2⟩ := h'.inv_cons
    exact sets_rel (o + 1) (h.set o h1) h2
theorem heap_setCells (b : Nat) (ty : TypeId) (fr : Nat × Nat) : ∀ (vs : List Value) (o : Nat) (w : World) (cs : List Value), w.heap[b]? = some (.cells cs.toArray ty fr) →
    (w.setCells b o vs).heap[b]? = some (.cells (sets cs o vs).toArray ty fr) ∧ (∀ k, k ≠ b → (w.setCells b o vs).heap[k]? = w.heap[k]?) ∧
      (w.setCells b o vs).os = w.os ∧ (w.setCells b o vs).tape = w.tape ∧ (w.setCells b o vs).output = w.output ∧ (w.setCells b o vs).heap.size = w.heap.size ∧ (w.setCells b o vs).drawn = w.drawn
  | [], o, w, cs, h => ⟨h, fun _ _ => rfl, rfl, rfl, rfl, rfl, rfl⟩
  | v :: r, o, w, cs, h => by
    have h1 : (w.setCell ⟨b, o, none⟩ v).heap[b]? = some (.cells (cs.set o v).toArray ty fr) := by
      simp [World.setCell, Array.getElem?_modify, h]
    have ih := heap_setCells b ty fr r (o + 1) (w.setCell ⟨b, o, none⟩ v) (cs.set o v) h1
    refine ⟨ih.1, fun k hk => (ih.2.1 k hk).trans ?_, ih.2.2.1, ih.2.2.2.1, ih.2.2.2.2.1, ih.2.2.2.2.2.1.trans (by simp), ih.2.2.2.2.2.2⟩
    exact heap_setCell_other _ _ _ _ hk
theorem agg_und {t : TypeId} (e : aggT P t = some true) : ∃ d, P.underlying t = some d ∧ d.isRow = true := by
  unfold aggT at e
  split at e
  · rename_i hu; exact ⟨_, hu, rfl⟩
  · rename_i hu; exact ⟨_, hu, rfl⟩
  · cases e
  · cases e
theorem load_agg {t : TypeId} {b o s : Nat} {l : List Value} (ha : aggT P t = some true) (hs : szT P t = some s) (hl : l.length = s) (hc : w.rangeAt b o l) : (loadVar t ⟨b, o, none⟩).run P w = .ok (.agg l.toArray) w := by
  obtain ⟨d, hu, hd⟩ := agg_und ha
  exact run_loadVar_mid w b o t l d hc hu hd (by rw [szT_info hs, hl])
theorem load_one {t : TypeId} {a : Addr} {v : Value} (ha : aggT P t = some false) (hc : w.cell? a = some v) : (loadVar t a).run P w = .ok v w := by
  simp [loadVar, Sem.run_bind, agg_run ha w, hc]
theorem store_var {t : TypeId} {b o s : Nat} {v : Value} (hs : szT P t = some s) (hv : v.cells.size = s) (ht : w.there b o s) (h1 : ∀ x ∈ v.cells.toList, x.oneCell' = true) :
    (storeVar t ⟨b, o, none⟩ v).run P w = .ok () (w.setCells b o v.cells.toList) := by
  have := run_storeCells_cells (P := P) b o v.cells.toList 0 w (fun j hj => by simpa using (ht j (by simpa [hv] using hj)).1) (fun j hj => by simpa using (ht j (by simpa [hv] using hj)).2) h1
  simp only [Nat.add_zero] at this
  simp [storeVar, szT_run hs, hv, this]
theorem cell_block {b o : Nat} {cs : Array Value} {ty : TypeId} {fr : Nat × Nat} (hb : w.heap[b]? = some (.cells cs ty fr)) : w.cell? ⟨b, o, none⟩ = cs[o]? := by
  simp [World.cell?, hb]
theorem there_block {b o s : Nat} {cs : Array Value} {ty : TypeId} (hb : w.heap[b]? = some (.cells cs ty (0, 0))) (hs : o + s ≤ cs.size) : w.there b o s := fun j hj =>
  ⟨by rw [cell_block hb]; simp; omega, by simp [World.frozen?, hb]⟩
theorem loadAt_eq (t : TypeId) (a : Addr) (w : World) : (Instr.loadAt t (.pointer (some a))).run P w = (loadVar t a).run P w := by
  simp [Instr.loadAt, Instr.sureAddr]
theorem lodPart {t : TypeId} {b o off : Nat} {cs : List AV} {vs : List Value} {av : AV} (hr : VRels ρ RO w cs vs) (ho : ∀ x ∈ vs, x.oneCell' = true) (hm : ∀ (j : Nat) (v : Value), vs[j]? = some v → w.cell? ⟨b, o + j, none⟩ = some v) (e : partA P t cs off = some av) :
    ∃ u, (loadVar t ⟨b, o + off, none⟩).run P w = .ok u w ∧ VRel ρ RO w av u := by
  unfold partA at e
  split at e
  · cases e
  · rename_i s hs
    split at e
    · rename_i ha
      split at e
      · rename_i hb
        cases e
        have hb' : off + s ≤ cs.length := Nat.le_of_ble_eq_true hb
        have hr' := hr.take_drop off s
        refine ⟨.agg ((vs.drop off).take s).toArray, load_agg ha hs (by rw [← hr'.1]; simp; omega) ?_, .agg hr'.1 (fun x hx => ho x (List.mem_of_mem_drop (List.mem_of_mem_take hx))) hr'.2⟩
        intro j v hv
        have hj : j < s := by have := (List.getElem?_eq_some_iff.1 hv).1; simp at this; omega
        rw [List.getElem?_take_of_lt hj, List.getElem?_drop] at hv
        rw [Nat.add_assoc]; exact hm _ _ hv
      · cases e
    · rename_i ha
      obtain ⟨u, e1, e2⟩ := hr.get e
      exact ⟨u, load_one ha (hm _ _ e1), e2⟩
    · cases e
theorem elT_vrels {e : Nat} {x : Den.den e} {R : Nat → Value → Prop} (h : ∀ k, k < Univ.sz e → ∃ v, R k v ∧ v.oneCell' = true ∧ VRel ρ RO w ((Univ.cells e x).getD k .nilp) v) :
    ∃ vs : List Value, VRels ρ RO w (Univ.cells e x) vs ∧ (∀ y ∈ vs, y.oneCell' = true) ∧ ∀ (j : Nat) (v : Value), vs[j]? = some v → R j v := by
  have key : ∀ k : Nat, ∃ v, k < Univ.sz e → R k v ∧ v.oneCell' = true ∧ VRel ρ RO w ((Univ.cells e x).getD k .nilp) v := fun k => by
    by_cases hk : k < Univ.sz e
    · obtain ⟨v, hv⟩ := h k hk; exact ⟨v, fun _ => hv⟩
    · exact ⟨.nilFunc, fun hk' => absurd hk' hk⟩
  have hl := Univ.cells_len e x
  refine ⟨(List.range (Univ.sz e)).map fun k => (key k).choose, ⟨by simp [hl], fun i a v e1 e2 => ?_⟩, fun y hy => ?_, fun j v hv => ?_⟩
  · have hi : i < Univ.sz e := by rw [← hl]; exact (List.getElem?_eq_some_iff.1 e1).1
    simp only [List.getElem?_map, List.getElem?_range hi, Option.map_some, Option.some.injEq] at e2
    subst e2
    have := ((key i).choose_spec hi).2.2
    have e3 : (Univ.cells e x).getD i .nilp = a := by rw [List.getD_eq_getElem?_getD, e1]; rfl
    generalize (key i).choose = v at this
    rw [e3] at this; exact this
  · obtain ⟨k, hk, rfl⟩ := List.mem_map.1 hy
    exact ((key k).choose_spec (by simpa using hk)).2.1
  · have hj : j < Univ.sz e := by have := (List.getElem?_eq_some_iff.1 hv).1; simpa using this
    simp only [List.getElem?_map, List.getElem?_range hj, Option.map_some, Option.some.injEq] at hv
    subst hv
    exact ((key j).choose_spec hj).1
theorem lod_ok {t : TypeId} {x : AV} {v : Value} {g : Got} (H : HRel w0 F h n ρ RO w) (hx : VRel ρ RO w x v) (e : lodA P h n t x = some g) (hc : g.cond = true) :
    ∃ u av, (Instr.loadAt t v).run P w = .ok u w ∧ g.val = some av ∧ g.heap = h ∧ g.next = n ∧ VRel ρ RO w av u := by
  unfold lodA at e
  split at e
  · rename_i id idx off
    cases hx with
    | @ptr id idx off L hL =>
    split at e
    · rename_i ty cells hlk
      split at e
      · unfold Got.pure at e
        split at e
        · rename_i av hp
          cases e
          obtain ⟨g1, g2, g3, cs, g4, g6, g5⟩ := H.box hlk hL
          obtain ⟨u, q1, q2⟩ := lodPart (b := L.blk) (o := 0) g5 g6 (fun j v hj => by rw [cell_block g4]; simpa using hj) hp
          refine ⟨u, _, (loadAt_eq _ _ _).trans ?_, rfl, rfl, rfl, q2⟩
          rw [show L.base + (0 * L.sz + off) = 0 + off by rw [g1]; omega]; exact q1
        · cases e
      · cases e
    · rename_i e' l hlk
      have hrow := H.row hlk hL
      split at e
      · rename_i av hp
        cases e
        have hi : idx < l.length := of_decide_eq_true hc
        obtain ⟨g1, cs, g3, g4, g5⟩ := hrow.2 (by omega)
        obtain ⟨vs, q1, q2, q3⟩ := elT_vrels (e := e') (x := l.getD idx default) (R := fun k v => cs[L.base + (idx * Univ.sz e' + k)]? = some v) (fun k hk => by
          obtain ⟨v, r1, r2, r3⟩ := g5 idx k hi hk
          exact ⟨v, r1, r2, r3⟩)
        obtain ⟨u, r1, r2⟩ := lodPart (b := L.blk) (o := L.base + idx * Univ.sz e') q1 q2 (fun j v hj => by
          rw [cell_block g3, Nat.add_assoc]; exact q3 _ _ hj) hp
        refine ⟨u, _, (loadAt_eq _ _ _).trans ?_, rfl, rfl, rfl, r2⟩
        rw [g1.1, ← Nat.add_assoc]; exact r1
      · cases e
    · cases e
  · rename_i e' x off
    cases hx with
    | @dptr _ _ _ blk o vs hr hcl hone hv =>
    unfold Got.pure at e
    split at e
    · rename_i av hp
      cases e
      obtain ⟨us, q1, q2, q3⟩ := elT_vrels (e := e') (x := x) (R := fun k v => w.cell? ⟨blk, o + k, none⟩ = some v) (fun k hk => ⟨vs k, hcl k hk, hone k hk, hv k hk⟩)
      obtain ⟨u, r1, r2⟩ := lodPart (b := blk) (o := o) q1 q2 q3 hp
      exact ⟨u, _, (loadAt_eq _ _ _).trans r1, rfl, rfl, rfl, r2⟩
    · cases e
  · cases e
end Go.Eng

end
section
set_option linter.unusedVariables false
set_option linter.unusedSectionVars false
set_option linter.unusedSimpArgs false
namespace Go.Eng
variable [U : Univ]
open Go.RowKit
variable {P : Program} {w0 w : World} {F : Fr} {ρ : Nat → Option Loc} {RO : Nat → Prop} {h : Heap} {n : Nat}
theorem sets_one : ∀ {l : List Value} {vs : List Value} (o : Nat), (∀ x ∈ vs, x.oneCell' = true) → (∀ x ∈ l, x.oneCell' = true) → ∀ x ∈ sets vs o l, x.oneCell' = true
  | [], vs, o, h1, _ => h1
  | v :: r, vs, o, h1, h2 => sets_one (o + 1) (fun x hx => by
      rcases List.mem_or_eq_of_mem_set hx with hx | rfl
      · exact h1 x hx
      · exact h2 x (by simp)) (fun x hx => h2 x (by simp [hx]))
theorem storeAt_eq (t : TypeId) (a : Addr) (v : Value) (w : World) : (Instr.storeAt t (.pointer (some a)) v).run P w = (storeVar t a v).run P w := by
  simp [Instr.storeAt, Instr.sureAddr]
theorem like_rel {a b : AV} {v : Value} (h : a = b ∨ ((a = .nils ∨ a = .zs) ∧ ∃ e', b = .dsl e' [])) (hv : VRel ρ RO w a v) : VRel ρ RO w b v := by
  rcases h with rfl | ⟨rfl | rfl, e', rfl⟩
  · exact hv
  · cases hv
    exact .dsl rfl (Nat.le_refl _) (fun _ _ => .nilFunc) (fun h => absurd rfl h) (fun i k hi => by omega) (fun i k hi => by omega) (fun _ => rfl)
  · cases hv
    exact .dsl rfl (Nat.le_refl _) (fun _ _ => .nilFunc) (fun h => absurd rfl h) (fun i k hi => by omega) (fun i k hi => by omega) (fun _ => rfl)
theorem build_rel {e : Nat} {l : List AV} {x : Den.den e} {vs : List Value} (hb : Univ.build e l = some x) (hv : VRels ρ RO w l vs) : VRels ρ RO w (Univ.cells e x) vs := by
  obtain ⟨h1, h2⟩ := Univ.build_ok e l x hb
  refine ⟨by rw [Univ.cells_len, ← h1]; exact hv.1, fun i b v e1 e2 => ?_⟩
  have hi : i < l.length := by rw [h1, ← Univ.cells_len e x]; exact (List.getElem?_eq_some_iff.1 e1).1
  exact like_rel (h2 i _ b (List.getElem?_eq_getElem hi) e1) (hv.2 i _ v (List.getElem?_eq_getElem hi) e2)
theorem thaw_rel {a : AV} {v : Value} (H : HRel w0 F h n ρ RO w) (hv : VRel ρ RO w a v) : VRel ρ RO w (thawV h a) v := by
  unfold thawV
  split
  · split
    · rename_i r hr; exact H.thaw hr hv
    · exact hv
  · exact hv
theorem frzC_ok {a b : AV} {v : Value} {h' : Heap} {c : Bool} (H : HRel w0 F h n ρ RO w) (hv : VRel ρ RO w a v) (e : frzC h a = some (b, h', c)) (hc : c = true) :
    ∃ RO', Ext ρ RO w ρ RO' w ∧ HRel w0 F h' n ρ RO' w ∧ VRel ρ RO' w b v := by
  unfold frzC at e
  replace hv := thaw_rel H hv
  generalize thawV h a = a' at e hv
  split at e
  · rename_i id
    split at e
    · rename_i e1 l hl
      cases e
      obtain ⟨RO', q1, q2, q3⟩ := H.freeze hl
      refine ⟨RO', q1, q2, ?_⟩
      have := q3 0 l.length l.length v (by omega) (H.unslf hl hv)
      simpa using this
    · cases e
  · rename_i id off len cap
    split at e
    · rename_i e1 l hl
      cases e
      obtain ⟨RO', q1, q2, q3⟩ := H.freeze hl
      exact ⟨RO', q1, q2, q3 off len cap v (of_decide_eq_true hc) hv⟩
    · cases e
  · split at e
    · cases e; exact ⟨RO, .refl _ _ _, H, hv⟩
    · cases e
theorem frzL_ok : ∀ {l l' : List AV} {vs : List Value} {h h' : Heap} {c : Bool} {RO : Nat → Prop}, HRel w0 F h n ρ RO w → VRels ρ RO w l vs → frzL h l = some (l', h', c) → c = true →
    ∃ RO', Ext ρ RO w ρ RO' w ∧ HRel w0 F h' n ρ RO' w ∧ VRels ρ RO' w l' vs
  | [], l', vs, h, h', c, RO, H, hv, e, hc => by
    simp only [frzL] at e; cases e
    exact ⟨RO, .refl _ _ _, H, hv⟩
  | a :: r, l', vs, h, h', c, RO, H, hv, e, hc => by
    simp only [frzL] at e
    split at e
    · rename_i b h1 c1 e1
      split at e
      · rename_i l2 h2 c2 e2
        cases e
        simp only [Bool.and_eq_true] at hc
        obtain ⟨v, t, rfl, hv1, hv2⟩ := hv.inv_cons
        obtain ⟨RO1, q1, q2, q3⟩ := frzC_ok H hv1 e1 hc.1
        obtain ⟨RO2, r1, r2, r3⟩ := frzL_ok q2 (hv2.mono q1) e2 hc.2
        exact ⟨RO2, q1.trans r1, r2, .cons (q3.mono r1) r3⟩
      · cases e
    · cases e
theorem sto_ok {t : TypeId} {x y : AV} {v u : Value} {g : Got} (H : HRel w0 F h n ρ RO w) (hx : VRel ρ RO w x v) (hy : VRel ρ RO w y u) (e : stoA P h n t x y = some g) (hc : g.cond = true) :
    ∃ RO' w', (Instr.storeAt t v u).run P w = .ok () w' ∧ g.val = none ∧ Ext ρ RO w ρ RO' w' ∧ HRel w0 F g.heap g.next ρ RO' w' := by
  unfold stoA at e
  split at e
  · rename_i s hs hone
    have hcells := cells_rel hy
    have hone1 := cells_one hy hone
    split at e
    · rename_i hlen
      have hlen : (cellsA y).length = s := Nat.eq_of_beq_eq_true hlen
      have hsz : u.cells.size = s := by rw [← hlen, hcells.1]; simp
      split at e
      · rename_i id idx off
        cases hx with
        | @ptr id idx off L hL =>
        split at e
        · rename_i ty cells hlk
          split at e
          · rename_i hb
            cases e
            have hb : off + s ≤ cells.length := Nat.le_of_ble_eq_true hb
            obtain ⟨g1, g2, g3, cs, g4, g6, g5⟩ := H.box hlk hL
            have hoff : L.base + (0 * L.sz + off) = off := by rw [g1]; omega
            have hst := store_var (P := P) (w := w) (b := L.blk) (o := off) hs hsz (there_block g4 (by simp [← g5.1]; exact hb)) hone1
            obtain ⟨a1, a2, a3, a4, a5, a6, a7⟩ := heap_setCells L.blk ty (0, 0) u.cells.toList off w cs g4
            obtain ⟨ext, fin⟩ := H.turn hlk hL not_ghost_box a3 a4 a5 a6 (Nat.le_of_eq a7.symm) a2
            exact ⟨RO, _, (storeAt_eq _ _ _ _).trans (by rw [hoff]; exact hst), rfl, ext, fin _ rfl ⟨g1, by rw [sets_length]; exact g2, by rw [sets_length]; exact g3, _, a1, sets_one off g6 hone1, (sets_rel off g5 hcells).mono ext⟩⟩
          · cases e
        · split at e
          · rename_i cs0 h' c hfz
            split at e
            · rename_i e' l hlk
              split at e
              · rename_i xx hbd hb
                cases e
                simp only [Bool.and_eq_true, decide_eq_true_eq] at hc
                obtain ⟨hc1, hi⟩ := hc
                have hb : off + s ≤ Univ.sz e' := Nat.le_of_ble_eq_true hb
                obtain ⟨RO', q1, H', hcs⟩ := frzL_ok H hcells hfz hc1
                obtain ⟨g1, cs, g3, g4, g5⟩ := (H'.row hlk hL).2 (by omega)
                obtain ⟨csl, rfl⟩ : ∃ l : List Value, cs = l.toArray := ⟨cs.toList, by simp⟩
                generalize hsE : Univ.sz e' = sz at *
                have hin : ∀ k, k < sz → L.base + (idx * sz + k) < csl.length := by
                  intro k hk
                  obtain ⟨v, e1, _, _⟩ := g5 idx k hi hk
                  have := (Array.getElem?_eq_some_iff.1 e1).1
                  simpa using this
                have hst : (storeVar t ⟨L.blk, L.base + (idx * sz + off), none⟩ u).run P w = .ok () (w.setCells L.blk (L.base + (idx * sz + off)) u.cells.toList) := by
                  by_cases h0 : s = 0
                  · refine store_var hs hsz (fun j hj => by omega) hone1
                  · refine store_var hs hsz (there_block g3 ?_) hone1
                    have := hin (off + s - 1) (by omega)
                    simp; omega
                obtain ⟨a1, a2, a3, a4, a5, a6, a7⟩ := heap_setCells L.blk e' (0, 0) u.cells.toList (L.base + (idx * sz + off)) w csl g3
                obtain ⟨ext, fin⟩ := H'.turn hlk hL (not_ghost_row (by omega)) a3 a4 a5 a6 (Nat.le_of_eq a7.symm) a2
                refine ⟨RO', _, (storeAt_eq _ _ _ _).trans (by rw [g1.1]; exact hst), rfl, q1.trans ext, fin _ rfl ⟨⟨g1.1.trans hsE.symm, by rw [List.length_set]; exact g1.2⟩, _, a1, by simp [sets_length]; simpa using g4, ?_⟩⟩
                have hul : u.cells.toList.length = s := by simpa using hsz
                obtain ⟨vs, p1, p2, p3⟩ := elT_vrels (e := e') (x := l.getD idx default) (R := fun k v => csl[L.base + (idx * sz + k)]? = some v) (fun k hk => by
                  obtain ⟨v, r1, r2, r3⟩ := g5 idx k hi (hsE ▸ hk)
                  exact ⟨v, by simpa using r1, r2, r3⟩)
                have hvl : vs.length = sz := by rw [← p1.1, Univ.cells_len, hsE]
                have hnew := build_rel hbd (sets_rel off p1 hcs)
                intro i k hi' hk
                rw [List.length_set] at hi'
                rw [hsE] at hk
                simp only [List.getElem?_toArray]
                rw [hsE]
                by_cases hidx : i = idx
                · subst hidx
                  have hcl : k < (Univ.cells e' xx).length := by rw [Univ.cells_len, hsE]; exact hk
                  obtain ⟨z, z1, z2⟩ := hnew.get (List.getElem?_eq_getElem hcl)
                  have e0 : elT e' (l.set i xx) i k = (Univ.cells e' xx)[k] := by
                    unfold elT
                    simp only [List.getD_eq_getElem?_getD, List.getElem?_set_self hi', Option.getD_some, List.getElem?_eq_getElem hcl]
                  refine ⟨z, ?_, ?_, by rw [e0]; exact z2.mono ext⟩
                  · rw [sets_get] at z1 ⊢
                    by_cases hh : off ≤ k ∧ k < off + u.cells.toList.length ∧ k < vs.length
                    · rw [if_pos hh] at z1
                      rw [if_pos ⟨by omega, by omega, hin k hk⟩, show L.base + (i * sz + k) - (L.base + (i * sz + off)) = k - off by omega]
                      exact z1
                    · rw [if_neg hh] at z1
                      rw [if_neg (by omega)]
                      exact p3 _ _ z1
                  · rw [sets_get] at z1
                    split at z1
                    · exact hone1 z (List.mem_of_getElem? z1)
                    · exact p2 z (List.mem_of_getElem? z1)
                · have e0 : elT e' (l.set idx xx) i k = elT e' l i k := by
                    unfold elT
                    simp only [List.getD_eq_getElem?_getD]
                    rw [List.getElem?_set_ne (fun q => hidx q.symm)]
                  rw [e0]
                  obtain ⟨z, z1, z3, z2⟩ := g5 i k hi' hk
                  refine ⟨z, ?_, z3, z2.mono ext⟩
                  rw [sets_get, if_neg]
                  · simpa using z1
                  · rintro ⟨q1, q2, _⟩
                    rw [hul] at q2
                    rcases Nat.lt_trichotomy i idx with hlt | heq | hgt
                    · have : (i + 1) * sz ≤ idx * sz := Nat.mul_le_mul_right _ hlt
                      rw [Nat.add_mul, Nat.one_mul] at this
                      omega
                    · exact hidx heq
                    · have : (idx + 1) * sz ≤ i * sz := Nat.mul_le_mul_right _ hgt
                      rw [Nat.add_mul, Nat.one_mul] at this
                      omega
              · cases e
            · cases e
          · cases e
        · cases e
      · cases e
    · cases e
  · cases e
theorem box_ok {t : TypeId} {x : AV} {v : Value} {g : Got} (H : HRel w0 F h n ρ RO w) (hx : VRel ρ RO w x v) (e : boxA h n t x = some g) :
    ∃ ρ' w', Ext ρ RO w ρ' RO w' ∧ HRel w0 F g.heap g.next ρ' RO w' ∧ (newVar t v).run P w = .ok ⟨w.heap.size, 0, none⟩ w' ∧
      ∃ av, g.val = some av ∧ VRel ρ' RO w' av (.pointer (some ⟨w.heap.size, 0, none⟩)) := by
  unfold boxA at e
  split at e
  case h_2 => cases e
  rename_i hpl
  cases e
  have hc := cells_rel hx
  obtain ⟨ext, fin⟩ := H.alloc (.cells v.cells t) (.box t (cellsA x)) (cellsA x).length (cellsA x).length 0
  refine ⟨_, _, ext, fin ⟨rfl, rfl, rfl, v.cells.toList, by rw [heap_alloc_new], cells_one hx hpl, hc.mono ext⟩, ?_, _, rfl, ?_⟩
  · simp [newVar, newRow]
  · have := VRel.ptr (ρ := fun id => if id = n then some (⟨w.heap.size, 0, (cellsA x).length, (cellsA x).length, 0, true⟩ : Loc) else ρ id) (RO := RO) (w := w.alloc (.cells v.cells t)) (id := n) (idx := 0) (off := 0) (L := ⟨w.heap.size, 0, (cellsA x).length, (cellsA x).length, 0, true⟩) (if_pos rfl)
    simpa using this
theorem zeroT_run {t : TypeId} {z : AV} (e : zeroT P t = some z) (w : World) : ∃ v, (zeroValue t).run P w = .ok v w ∧ VRel ρ RO w z v := by
  unfold zeroT at e
  split at e
  · rename_i i hi
    split at e
    · rename_i v hv
      exact ⟨v, by simp [zeroValue, typeInfo, hi, hv], constA_rel e⟩
    · cases e
  · cases e
theorem fieldT_und {s : TypeId} {f : Nat} {fd : Field} (e : fieldT P s f = some fd) : ∃ fs, P.underlying s = some (.struct fs) ∧ fs[f]? = some fd := by
  unfold fieldT at e
  split at e
  · rename_i fs hu; exact ⟨fs, hu, e⟩
  · cases e
theorem fld_ok {s : TypeId} {x : AV} {v : Value} {f : Nat} {av : AV} (hx : VRel ρ RO w x v) (e : fldA P s x f = some av) : ∃ u, (Instr.fieldAt s v f).run P w = .ok u w ∧ VRel ρ RO w av u := by
  unfold fldA at e
  split at e
  · rename_i fd hfd
    obtain ⟨fs, hu, hf⟩ := fieldT_und hfd
    split at e
    · rename_i k hk
      have hplace : ∀ a : Addr, (fieldPlace a fd).run P w = .ok (a.add fd.offset) w := by
        intro a
        simp [fieldPlace, szT_run hk]
      split at e
      · rename_i id idx off
        cases e
        cases hx with
        | @ptr id idx off L hL =>
        refine ⟨.pointer (some ⟨L.blk, L.base + (idx * L.sz + (off + fd.offset)), none⟩), ?_, .ptr hL⟩
        simp [Instr.fieldAt, run_underlying hu, hf, Instr.sureAddr, hplace, Addr.add_lit, Nat.add_assoc]
      · rename_i e' x' off
        cases e
        cases hx with
        | @dptr _ _ _ blk o vs hr hcl hone hv =>
        refine ⟨.pointer (some ⟨blk, o + (off + fd.offset), none⟩), ?_, .dptr vs hr hcl hone hv⟩
        simp [Instr.fieldAt, run_underlying hu, hf, Instr.sureAddr, hplace, Addr.add_lit, Nat.add_assoc]
      · cases e
    · cases e
  · cases e
theorem elemT_und {t e : TypeId} (hq : elemT P t = some e) : P.underlying t = some (.slice e) := by
  unfold elemT at hq
  split at hq
  · rename_i e' hu; cases hq; exact hu
  · cases hq
theorem intOf_rel {x : AV} {v : Value} {j : Int} (hx : VRel ρ RO w x v) (e : intOfA x = some j) : ∃ k, v = .int k j := by
  unfold intOfA at e
  split at e
  · cases e; cases hx; exact ⟨_, rfl⟩
  · cases e
theorem idx_ok {t : TypeId} {x i : AV} {v u : Value} {g : Got} (H : HRel w0 F h n ρ RO w) (hx : VRel ρ RO w x v) (hi : VRel ρ RO w i u) (e : idxA P h n t x i = some g) (hc : g.cond = true) :
    ∃ z av, (Instr.indexAt t v u).run P w = .ok z w ∧ g.val = some av ∧ g.heap = h ∧ g.next = n ∧ VRel ρ RO w av z := by
  unfold idxA at e
  split at e
  · rename_i e' j hel hj
    obtain ⟨k, rfl⟩ := intOf_rel hi hj
    have hu := elemT_und hel
    have sl : ∀ {s id off len cap e1} {l : List (Den.den e1)}, szT P e' = some s → lookH h id = some (.row e1 l) → s = Univ.sz e1 → VRel ρ RO w (.sl id off len cap) v → (0 ≤ j ∧ j < (len : Int)) →
        ∃ z, (Instr.indexAt t v (.int k j)).run P w = .ok z w ∧ VRel ρ RO w (.ptr id (off + j.toNat) 0) z := by
      intro s id off len cap e1 l hs hlk hb hx hbd
      cases hx with
      | @sl id off len cap c L A hL hl hcap hA h00 hss hmm =>
      have hc0 : c ≠ 0 := by omega
      obtain ⟨rfl, hm⟩ := hA hc0
      have hsz : L.sz = s := by rw [hb]; exact (H.row hlk hL).1.1
      refine ⟨.pointer (some ⟨L.blk, L.base + ((off + j.toNat) * L.sz + 0), none⟩), ?_, .ptr hL⟩
      simp [Instr.indexAt, run_underlying hu, asIntOf, hbd, szT_run hs, Addr.add_lit, hsz]
      rw [Nat.add_mul]; omega
    split at e
    · rename_i s id hs
      split at e
      · rename_i e1 l hlk
        split at e
        · rename_i hb
          cases e
          obtain ⟨z, z1, z2⟩ := sl hs hlk (Nat.eq_of_beq_eq_true hb) (H.unslf hlk hx) (of_decide_eq_true hc)
          rw [Nat.zero_add] at z2
          exact ⟨z, _, z1, rfl, rfl, rfl, z2⟩
        · cases e
      · cases e
    · rename_i s id off len cap hs
      split at e
      · rename_i e1 l hlk
        split at e
        · rename_i hb
          cases e
          obtain ⟨z, z1, z2⟩ := sl hs hlk (Nat.eq_of_beq_eq_true hb) hx (of_decide_eq_true hc)
          exact ⟨z, _, z1, rfl, rfl, rfl, z2⟩
        · cases e
      · cases e
    · rename_i s e1 l hs
      split at e
      · rename_i hb
        cases e
        have hb : s = Univ.sz e1 := Nat.eq_of_beq_eq_true hb
        have hbd : 0 ≤ j ∧ j < (l.length : Int) := of_decide_eq_true hc
        cases hx with
        | @dsl _ n' c _ A hln hn vs hA hone hv hz =>
        subst hln
        obtain ⟨blk, o, rfl, hr, hcl⟩ := hA (by omega)
        have hj : j.toNat < l.length := by omega
        refine ⟨.pointer (some ⟨blk, o + j.toNat * s + 0, none⟩), _, ?_, rfl, rfl, rfl, .dptr (fun k => vs j.toNat k) hr (fun k hk => ?_) (fun k hk => hone _ _ hj hk) (fun k hk => hv _ _ hj hk)⟩
        · simp [Instr.indexAt, run_underlying hu, asIntOf, hbd, szT_run hs, Addr.add_lit]
        · rw [Nat.add_assoc, hb]; exact hcl _ _ hj hk
      · cases e
    · cases e
  · cases e
end Go.Eng

end
section
set_option linter.unusedVariables false
set_option linter.unusedSectionVars false
set_option linter.unusedSimpArgs false
namespace Go.Eng
variable [U : Univ]
open Go.RowKit
variable {P : Program} {w0 w : World} {F : Fr} {ρ : Nat → Option Loc} {RO : Nat → Prop} {h : Heap} {n : Nat}
theorem fold_sets (off : Nat) : ∀ (l : List Value) (s : Nat) (cs : List Value), (l.zipIdx s).foldl (fun (acc : Array Value) (x : Value × Nat) => acc.setIfInBounds (off + x.2) x.1) cs.toArray = (sets cs (off + s) l).toArray
  | [], s, cs => rfl
  | v :: r, s, cs => by
    rw [List.zipIdx_cons, List.foldl_cons, sets]
    have : (cs.toArray.setIfInBounds (off + s) v) = (cs.set (off + s) v).toArray := by simp
    show List.foldl _ (cs.toArray.setIfInBounds (off + s) v) _ = _
    rw [this, fold_sets off r (s + 1) _, Nat.add_assoc]
theorem fill_rel {place : Nat → Option (Nat × Nat)} : ∀ {parts : List (Nat × AV)} {vps : List (Nat × Value)} {cells r : List AV} {cs : List Value}, VRels ρ RO w cells cs → (∀ x ∈ cs, x.oneCell' = true) → PRel ρ RO w parts vps → fillA place cells parts = some r →
    ∃ rs : List Value, Instr.fill place cs.toArray vps = some rs.toArray ∧ VRels ρ RO w r rs ∧ (∀ x ∈ rs, x.oneCell' = true)
  | [], [], cells, r, cs, hc, ho, hp, e => by simp [fillA] at e; subst e; exact ⟨cs, rfl, hc, ho⟩
  | [], _ :: _, _, _, _, _, _, hp, _ => hp.elim
  | _ :: _, [], _, _, _, _, _, hp, _ => hp.elim
  | (i, a) :: parts, (j, v) :: vps, cells, r, cs, hc, ho, hp, e => by
    obtain ⟨rfl, hv, hp⟩ := hp
    simp only [fillA] at e
    split at e
    · cases e
    · rename_i off size hpl
      split at e
      · rename_i hb
        simp only [Bool.and_eq_true] at hb
        have h1 : (cellsA a).length = size := Nat.eq_of_beq_eq_true hb.1.1
        have h2 : off + size ≤ cells.length := Nat.le_of_ble_eq_true hb.1.2
        have hcl := cells_rel hv
        have hol := cells_one hv hb.2
        have hsz : v.cells.size = size := by rw [← h1, hcl.1]; simp
        have hlen : cs.length = cells.length := hc.1.symm
        obtain ⟨rs, q1, q2⟩ := fill_rel (sets_rel off hc hcl) (sets_one off ho hol) hp e
        refine ⟨rs, ?_, q2⟩
        simp only [Instr.fill, hpl]
        rw [if_neg (by simp [hsz]; omega)]
        have : v.cells.zipIdx.foldl (fun (acc : Array Value) (x : Value × Nat) => acc.setIfInBounds (off + x.2) x.1) cs.toArray = (sets cs off v.cells.toList).toArray := by
          rw [← Array.foldl_toList]
          simpa using fold_sets off v.cells.toList 0 cs
        rw [← this] at q1
        exact q1
      · cases e
theorem constA_plain {v : Value} {a : AV} (e : constA v = some a) : plainA a = true := by
  unfold constA at e
  split at e
  · split at e
    · cases e; rfl
    · cases e
  · unfold constCell at e
    split at e <;> first | (cases e; rfl) | cases e
theorem places_mapM : ∀ {fs : List Field} {ps : List (Nat × Nat)}, placesT P fs = some ps → fs.mapM (fun f => (P.info? f.type).map fun i => (f.offset, i.size)) = some ps
  | [], ps, e => by simp [placesT] at e; subst e; rfl
  | f :: r, ps, e => by
    simp only [placesT] at e
    split at e
    · rename_i k l h1 h2
      cases e
      have := places_mapM h2
      have hi := szT_info h1
      cases hq : P.info? f.type with
      | none => simp [hq] at hi
      | some i =>
        have hs : i.size = k := by simpa [hq] using hi
        simp [List.mapM_cons, hq, this, hs]
    · cases e
theorem build_ok {t : TypeId} {parts : List (Nat × AV)} {vps : Array (Nat × Value)} {av : AV} (hp : PRel ρ RO w parts vps.toList) (e : buildA P t parts = some av) : ∃ u, (Instr.build t vps).run P w = .ok u w ∧ VRel ρ RO w av u := by
  unfold buildA at e
  split at e
  · rename_i z len e' hz hu
    split at e
    · rename_i k hk
      split at e
      · rename_i l hl
        cases e
        unfold zeroT at hz
        split at hz
        · rename_i it hit
          split at hz
          · rename_i zv hzv
            have hc := cells_rel (ρ := ρ) (RO := RO) (w := w) (constA_rel hz)
            obtain ⟨rs, q1, q2, q3⟩ := fill_rel hc (cells_one (ρ := ρ) (RO := RO) (w := w) (constA_rel hz) (constA_plain hz)) hp hl
            refine ⟨.agg rs.toArray, run_build w t vps _ ?_, .agg q2.1 q3 q2.2⟩
            have hi := szT_info hk
            cases hq : P.info? e' with
            | none => simp [hq] at hi
            | some ie =>
              have hs : ie.size = k := by simpa [hq] using hi
              simp only [Program.built, hit, hu, hzv, hq, hs]
              simpa using q1
          · cases hz
        · cases hz
      · cases e
    · cases e
  · rename_i z fs hz hu
    split at e
    · rename_i ps hps
      split at e
      · rename_i l hl
        cases e
        unfold zeroT at hz
        split at hz
        · rename_i it hit
          split at hz
          · rename_i zv hzv
            have hc := cells_rel (ρ := ρ) (RO := RO) (w := w) (constA_rel hz)
            obtain ⟨rs, q1, q2, q3⟩ := fill_rel hc (cells_one (ρ := ρ) (RO := RO) (w := w) (constA_rel hz) (constA_plain hz)) hp hl
            refine ⟨.agg rs.toArray, run_build w t vps _ ?_, .agg q2.1 q3 q2.2⟩
            simp only [Program.built, hit, hu, hzv, places_mapM hps]
            simpa using q1
          · cases hz
        · cases hz
      · cases e
    · cases e
  · cases e
theorem rep_length (z : List AV) : ∀ k, (rep z k).length = k * z.length
  | 0 => by simp [rep]
  | k + 1 => by simp [rep, rep_length z k, Nat.add_mul]; omega
theorem rep_get (z : List AV) (hz : 0 < z.length) : ∀ (k i : Nat), i < k * z.length → (rep z k)[i]? = z[i % z.length]?
  | 0, i, hi => by simp at hi
  | k + 1, i, hi => by
    rw [rep]
    by_cases h1 : i < z.length
    · rw [List.getElem?_append_left h1, Nat.mod_eq_of_lt h1]
    · have hi' : i < k * z.length + z.length := by rw [Nat.add_mul, Nat.one_mul] at hi; exact hi
      rw [List.getElem?_append_right (by omega), rep_get z hz k (i - z.length) (by omega), ← Nat.mod_eq_sub_mod (by omega)]
theorem chunks_rel {e : Nat} : ∀ {k : Nat} {cs : List AV} {vs : List Value} {l : List (Den.den e)}, chunks e k cs = some l → VRels ρ RO w cs vs → cs.length = k * Univ.sz e →
    l.length = k ∧ ∀ i c, i < k → c < Univ.sz e → ∃ v, vs[i * Univ.sz e + c]? = some v ∧ VRel ρ RO w (elT e l i c) v
  | 0, cs, vs, l, h, hv, hl => by
    simp only [chunks] at h; cases h
    exact ⟨rfl, fun i c hi => by omega⟩
  | k + 1, cs, vs, l, h, hv, hl => by
    simp only [chunks] at h
    split at h
    · rename_i x r hx hr
      cases h
      have hl' : cs.length = k * Univ.sz e + Univ.sz e := by rw [hl, Nat.add_mul, Nat.one_mul]
      have hv1 : VRels ρ RO w (cs.take (Univ.sz e)) (vs.take (Univ.sz e)) := by simpa using hv.take_drop 0 (Univ.sz e)
      have hv2 : VRels ρ RO w (cs.drop (Univ.sz e)) (vs.drop (Univ.sz e)) := by
        have := hv.take_drop (Univ.sz e) (cs.length - Univ.sz e)
        rwa [List.take_of_length_le (by simp), List.take_of_length_le (by simp [hv.1])] at this
      obtain ⟨q1, q2⟩ := chunks_rel hr hv2 (by simp; omega)
      refine ⟨by simp [q1], fun i c hi hc => ?_⟩
      cases i with
      | zero =>
        have hb := build_rel hx hv1
        have hcl : c < (Univ.cells e x).length := by rw [Univ.cells_len]; exact hc
        obtain ⟨v, r1, r2⟩ := hb.get (List.getElem?_eq_getElem hcl)
        rw [List.getElem?_take_of_lt hc] at r1
        refine ⟨v, by simpa using r1, ?_⟩
        have e0 : elT e (x :: r) 0 c = (Univ.cells e x)[c] := by
          unfold elT
          simp [List.getD_eq_getElem?_getD, List.getElem?_eq_getElem hcl]
        rw [e0]; exact r2
      | succ i =>
        obtain ⟨v, r1, r2⟩ := q2 i c (by omega) hc
        rw [List.getElem?_drop] at r1
        refine ⟨v, ?_, r2⟩
        rw [← r1]; congr 1
        rw [Nat.add_mul, Nat.one_mul]; omega
    · cases h
theorem row_new {e : Nat} {k : Nat} {cs : List Value} {l : List (Den.den e)} (H : HRel w0 F h n ρ RO w) (ho : ∀ x ∈ cs, x.oneCell' = true) (hlen : cs.length = k * Univ.sz e)
    (hl : l.length = k) (hr : ∀ i c, i < k → c < Univ.sz e → ∃ v, cs[i * Univ.sz e + c]? = some v ∧ VRel ρ RO w (elT e l i c) v) (hk : k ≤ 9223372036854775807) :
    ∃ ρ', Ext ρ RO w ρ' RO (w.alloc (.cells cs.toArray e)) ∧ HRel w0 F ((n, some (.row e l)) :: h) (n + 1) ρ' RO (w.alloc (.cells cs.toArray e)) ∧
      VRel ρ' RO (w.alloc (.cells cs.toArray e)) (.slf n) (.slice (some ⟨w.heap.size, 0, none⟩) k k) := by
  obtain ⟨ext, fin⟩ := H.alloc (.cells cs.toArray e) (.row e l) (Univ.sz e) cs.length k
  refine ⟨_, ext, fin ⟨⟨rfl, hl.symm⟩, cs.toArray, by rw [heap_alloc_new], by simp, fun i c hi hc => ?_⟩, ?_⟩
  · obtain ⟨v, e1, e2⟩ := hr i c (by omega) hc
    exact ⟨v, by simpa using e1, ho v (List.mem_of_getElem? e1), e2.mono ext⟩
  · exact .slf (L := ⟨w.heap.size, 0, Univ.sz e, cs.length, k, true⟩) (if_pos rfl) (Nat.le_refl _) (fun _ => rfl) (fun _ _ => rfl) hk (by simp [hlen])
theorem buildSlice_run {t e : TypeId} {s len : Nat} {parts : List (Nat × AV)} {vps : Array (Nat × Value)} {cells : List AV} (H : HRel w0 F h n ρ RO w) (hp : PRel ρ RO w parts vps.toList) (hel : elemT P t = some e) (hs : szT P e = some s)
    (hb : buildSliceA P e s len parts = some cells) :
    ∃ rs, VRels ρ RO w cells rs ∧ (∀ x ∈ rs, x.oneCell' = true) ∧ cells.length = len * s ∧ len * s ≤ 16777216 ∧ 1 ≤ s ∧
      (Instr.buildSlice t len vps).run P w = .ok (.slice (some ⟨w.heap.size, 0, none⟩) len len) (w.alloc (.cells rs.toArray e)) := by
  have hu := elemT_und hel
  unfold buildSliceA at hb
  split at hb
  · rename_i hb1 hb2
    have hb1 : len * s ≤ 16777216 := Nat.le_of_ble_eq_true hb1
    have hb2 : 1 ≤ s := Nat.le_of_ble_eq_true hb2
    have hi := szT_info hs
    cases hq : P.info? e with
    | none => simp [hq] at hi
    | some ie =>
      have hsz : ie.size = s := by simpa [hq] using hi
      split at hb
      · split at hb
        · cases hb
          have : vps = #[] := by
            cases hv : vps.toList with
            | nil => simpa using congrArg List.toArray hv
            | cons a l => rw [hv] at hp; exact hp.elim
          subst this
          refine ⟨[], .nil, by simp, by simp, by simp, hb2, ?_⟩
          simp [Instr.buildSlice, run_underlying hu, szT_run hs, Instr.fill, newRow, show Array.range 0 = #[] from rfl]
        · cases hb
      · rename_i len _
        split at hb
        · rename_i z hz
          split at hb
          · rename_i hzl
            have hzl : (cellsA z).length = s := Nat.eq_of_beq_eq_true hzl
            unfold zeroT at hz
            rw [hq] at hz
            dsimp only at hz
            split at hz
            · rename_i zv hzv
              have hc := cells_rel (ρ := ρ) (RO := RO) (w := w) (constA_rel hz)
              have hzs : zv.cells.size = s := by rw [← hzl, hc.1]; simp
              have hrep : VRels ρ RO w (rep (cellsA z) (len + 1)) ((List.range ((len + 1) * s)).map (zv.cells[· % zv.cells.size]!)) := by
                refine ⟨by simp [rep_length, hzl], fun i a v ea ev => ?_⟩
                have hlt : i < (len + 1) * s := by have := (List.getElem?_eq_some_iff.1 ev).1; simpa using this
                rw [rep_get _ (by omega) _ _ (by rw [hzl]; exact hlt)] at ea
                simp only [List.getElem?_map, List.getElem?_range hlt, Option.map_some, Option.some.injEq] at ev
                subst ev
                obtain ⟨u, q1, q2⟩ := hc.get ea
                rw [hzl] at q1
                have : zv.cells[i % zv.cells.size]! = u := by
                  rw [hzs]
                  simp only [Array.getElem?_toList] at q1
                  simp [getElem!_def, q1]
                rw [this]; exact q2
              have hrone : ∀ x ∈ (List.range ((len + 1) * s)).map (zv.cells[· % zv.cells.size]!), x.oneCell' = true := by
                intro x hx
                obtain ⟨i, hi, rfl⟩ := List.mem_map.1 hx
                have hmod : i % zv.cells.size < zv.cells.size := Nat.mod_lt _ (by omega)
                refine cells_one (ρ := ρ) (RO := RO) (w := w) (constA_rel hz) (constA_plain hz) _ ?_
                simp [getElem!_def, Array.getElem?_eq_getElem hmod]
              obtain ⟨rs, q1, q2, q3⟩ := fill_rel hrep hrone hp hb
              have hrl : cells.length = (len + 1) * s := by
                have : ∀ {ps : List (Nat × AV)} {c r : List AV} {pl : Nat → Option (Nat × Nat)}, fillA pl c ps = some r → r.length = c.length := by
                  intro ps
                  induction ps with
                  | nil => intro c r pl e; simp [fillA] at e; rw [e]
                  | cons a l ih =>
                    intro c r pl e
                    simp only [fillA] at e
                    split at e
                    · cases e
                    · split at e
                      · rw [ih e, sets_length]
                      · cases e
                rw [this hb, rep_length, hzl]
              refine ⟨rs, q2, q3, hrl, hb1, hb2, ?_⟩
              refine run_buildSlice w t e (len + 1) vps rs.toArray ie zv hu hq hzv (by rw [hsz]; exact Nat.not_lt.2 hb1) (by rw [hsz]; intro h0; rw [Nat.mul_eq_zero] at h0; omega) ?_
              rw [hsz, ← q1]
              congr 1
              apply Array.ext'
              simp
            · cases hz
          · cases hb
        · cases hb
  · cases hb
theorem buildSlice_ok {t e : TypeId} {s len : Nat} {parts : List (Nat × AV)} {vps : Array (Nat × Value)} {cells cs : List AV} {h' : Heap} {c : Bool} {l : List (Den.den e)} (H : HRel w0 F h n ρ RO w) (hp : PRel ρ RO w parts vps.toList) (hel : elemT P t = some e) (hs : szT P e = some s)
    (hb : buildSliceA P e s len parts = some cells) (hse : s = Univ.sz e) (hf : frzL h cells = some (cs, h', c)) (hc : c = true) (hch : chunks e len cs = some l) :
    ∃ ρ' RO' w' v, Ext ρ RO w ρ' RO' w' ∧ HRel w0 F ((n, some (.row e l)) :: h') (n + 1) ρ' RO' w' ∧ (Instr.buildSlice t len vps).run P w = .ok v w' ∧ VRel ρ' RO' w' (.slf n) v := by
  obtain ⟨rs, q1, q2, q3, q4, q5, q6⟩ := buildSlice_run H hp hel hs hb
  subst hse
  obtain ⟨RO', f1, f2, f3⟩ := frzL_ok H q1 hf hc
  have hcl : cs.length = len * Univ.sz e := by rw [f3.1, ← q1.1, q3]
  obtain ⟨g1, g2⟩ := chunks_rel hch f3 hcl
  obtain ⟨ρ', e1, e2, e3⟩ := row_new f2 q2 (by rw [← f3.1, hcl]) g1 g2 (by have := Nat.le_trans (Nat.le_mul_of_pos_right len (show 0 < Univ.sz e by omega)) q4; omega)
  exact ⟨ρ', RO', _, _, f1.trans e1, e2, q6, e3⟩
theorem bound_rel {env : Env} {a : Act} (he : ERel ρ RO w env a) {d : Int} {x : Option Operand} {l : Int} (e : boundA env d x = some l) : (x = none ∧ l = d) ∨ ∃ y k, x = some y ∧ a.eval y = .int k l := by
  unfold boundA at e
  split at e
  · cases e; exact .inl ⟨rfl, rfl⟩
  · rename_i y
    split at e
    · rename_i v hv
      obtain ⟨k, hk⟩ := intOf_rel (evA_rel he hv) e
      exact .inr ⟨y, k, rfl, hk⟩
    · cases e
theorem sliceBounds_ok {isSlice : Bool} {len cap : Nat} {l u : Int} {lo hi : Option Value} (hlo : (lo = none ∧ l = 0) ∨ ∃ k, lo = some (.int k l)) (hhi : (hi = none ∧ u = (len : Int)) ∨ ∃ k, hi = some (.int k u))
    (h0 : 0 ≤ l) (h1 : l ≤ u) (h2 : u ≤ (cap : Int)) : (Instr.sliceBounds isSlice len cap lo hi none).run P w = .ok (l.toNat, u.toNat, cap) w := by
  have hb : ∀ (x : Value) (k : IntKind) (i : Int) (y : Nat) (code : BoundsCode), x = .int k i → 0 ≤ i → i ≤ (y : Int) → (Instr.sliceBound x y code).run P w = .ok i.toNat w := by
    rintro x k i y code rfl a b
    simp [Instr.sliceBound, asIntOf, a, b]
  unfold Instr.sliceBounds
  have hu' : u.toNat = u := Int.toNat_of_nonneg (by omega)
  rcases hhi with ⟨rfl, rfl⟩ | ⟨k, rfl⟩
  · rcases hlo with ⟨rfl, rfl⟩ | ⟨k', rfl⟩
    · simp
    · simp [hb _ k' l len .sliceB rfl h0 h1]
  · rcases hlo with ⟨rfl, rfl⟩ | ⟨k', rfl⟩
    · cases isSlice <;> simp [hb _ k u cap _ rfl (by omega) h2]
    · cases isSlice <;> simp [hb _ k u cap _ rfl (by omega) h2, hb _ k' l u.toNat .sliceB rfl h0 (by omega)]
theorem bound_vals {env : Env} {a : Act} (he : ERel ρ RO w env a) {d : Int} {x : Option Operand} {l : Int} (e : boundA env d x = some l) : (x.map a.eval = none ∧ l = d) ∨ ∃ k, x.map a.eval = some (.int k l) := by
  rcases bound_rel he e with ⟨rfl, rfl⟩ | ⟨y, k, rfl, hk⟩
  · exact .inl ⟨rfl, rfl⟩
  · exact .inr ⟨k, by simp [hk]⟩
theorem boundO_rel {env : Env} {a : Act} (he : ERel ρ RO w env a) {x : Option Operand} {l : Option Int} (e : boundO env x = some l) (d : Int) : (x.map a.eval = none ∧ l.getD d = d ∧ l = none) ∨ ∃ k i, l = some i ∧ x.map a.eval = some (.int k i) := by
  unfold boundO at e
  split at e
  · cases e; exact .inl ⟨rfl, rfl, rfl⟩
  · rename_i y
    split at e
    · rename_i v hv
      split at e
      · rename_i i hi
        cases e
        obtain ⟨k, hk⟩ := intOf_rel (evA_rel he hv) hi
        exact .inr ⟨k, i, rfl, by simp [hk]⟩
      · cases e
    · cases e
theorem cutL_eq {α : Type} (l : List α) (lo hi : Option Int) (h : hi.getD l.length ≤ (l.length : Int)) : cutL l lo hi = (l.drop (lo.getD 0).toNat).take ((hi.getD l.length).toNat - (lo.getD 0).toNat) := by
  cases lo <;> cases hi
  · simp [cutL]
  · simp [cutL]
  · simp only [cutL, Option.getD_some, Option.getD_none]
    rw [List.take_of_length_le (by simp)]
  · simp [cutL]
theorem slice_ok {env : Env} {a : Act} {t : TypeId} {x : AV} {v : Value} {lo hi : Option Operand} {g : Got} (H : HRel w0 F h n ρ RO w) (he : ERel ρ RO w env a) (hx0 : VRel ρ RO w x v) (e : sliceA P env h n t (unF h x) lo hi = some g) (hc : g.cond = true) :
    ∃ z av, (Instr.sliceAt t v (lo.map a.eval) (hi.map a.eval) none).run P w = .ok z w ∧ g.val = some av ∧ g.heap = h ∧ g.next = n ∧ VRel ρ RO w av z := by
  have hx : VRel ρ RO w (unF h x) v := by
    unfold unF
    split
    · split
      · rename_i hlk; exact H.unslf hlk hx0
      · exact hx0
    · exact hx0
  generalize unF h x = x at hx e
  clear hx0
  unfold sliceA at e
  split at e
  · rename_i s
    cases hx
    split at e
    · rename_i l u hu hl hr
      cases e
      have hbd : 0 ≤ l ∧ l ≤ u ∧ u ≤ (s.size : Int) := of_decide_eq_true hc
      refine ⟨.string (s.extract l.toNat u.toNat), _, ?_, rfl, rfl, rfl, .str _⟩
      have hsb := sliceBounds_ok (P := P) (w := w) (isSlice := false) (len := s.size) (cap := s.size) (bound_vals he hl) (bound_vals he hr) hbd.1 hbd.2.1 hbd.2.2
      simp [Instr.sliceAt, run_underlying hu, Instr.slice, hsb]
    · cases e
  · rename_i id off len cap
    split at e
    · rename_i e' l u hel hl hr
      have hu := elemT_und hel
      split at e
      · rename_i s e1 l1 hs hlk
        split at e
        · rename_i hb
          cases e
          have hb : s = Univ.sz e1 := Nat.eq_of_beq_eq_true hb
          have hbd : 0 ≤ l ∧ l ≤ u ∧ u ≤ (cap : Int) := of_decide_eq_true hc
          cases hx with
          | @sl id off len cap c L A hL hll hcap hA h0 hss hmm =>
          have hsz : L.sz = s := by rw [hb]; exact (H.row hlk hL).1.1
          have hsb := sliceBounds_ok (P := P) (w := w) (isSlice := true) (len := len) (cap := c) (bound_vals he hl) (bound_vals he hr) hbd.1 hbd.2.1 (by omega)
          refine ⟨.slice (if c = l.toNat then A else A.map (·.add (l.toNat * s))) (u.toNat - l.toNat) (c - l.toNat), _, ?_, rfl, rfl, rfl, ?_⟩
          · simp [Instr.sliceAt, run_underlying hu, Instr.slice, hsb, szT_run hs]
          · refine .sl hL (by omega) (by omega) (fun hne => ?_) (fun hc0 ho0 hr0 => by
              have e1 : l.toNat = 0 := by omega
              have e2 : c = 0 := by omega
              rw [if_pos (by omega)]
              exact h0 e2 (by omega) hr0) (by omega) (by rw [show off + l.toNat + (c - l.toNat) = off + c by omega]; exact hmm)
            rw [if_neg (by omega)]
            obtain ⟨rfl, hm⟩ := hA (by omega)
            refine ⟨?_, ?_⟩
            · simp [Addr.add_lit, hsz, Nat.add_mul, Nat.add_assoc]
            · rw [show off + l.toNat + (c - l.toNat) = off + c by omega]; exact hm
        · cases e
      · cases e
    · cases e
  · rename_i e1 r
    split at e
    · rename_i e' l u hel hl hr
      have hu := elemT_und hel
      split at e
      · rename_i s hs
        split at e
        · rename_i hb
          cases e
          have hb : s = Univ.sz e1 := Nat.eq_of_beq_eq_true hb
          have hbd : 0 ≤ l.getD 0 ∧ l.getD 0 ≤ u.getD r.length ∧ u.getD r.length ≤ (r.length : Int) := of_decide_eq_true hc
          cases hx with
          | @dsl _ n' c _ A hln hn vs hA hone hv hz =>
          subst hln
          have b1 : (lo.map a.eval = none ∧ l.getD 0 = 0) ∨ ∃ k, lo.map a.eval = some (.int k (l.getD 0)) := by
            rcases boundO_rel he hl 0 with ⟨q1, q2, _⟩ | ⟨k, i, rfl, q⟩
            · exact .inl ⟨q1, q2⟩
            · exact .inr ⟨k, q⟩
          have b2 : (hi.map a.eval = none ∧ u.getD r.length = (r.length : Int)) ∨ ∃ k, hi.map a.eval = some (.int k (u.getD r.length)) := by
            rcases boundO_rel he hr r.length with ⟨q1, q2, _⟩ | ⟨k, i, rfl, q⟩
            · exact .inl ⟨q1, q2⟩
            · exact .inr ⟨k, q⟩
          have hsb := sliceBounds_ok (P := P) (w := w) (isSlice := true) (len := r.length) (cap := c) b1 b2 hbd.1 hbd.2.1 (by omega)
          rw [cutL_eq r l u hbd.2.2]
          generalize l.getD 0 = l at *
          generalize u.getD r.length = u at *
          refine ⟨.slice (if c = l.toNat then A else A.map (·.add (l.toNat * s))) (u.toNat - l.toNat) (c - l.toNat), _, ?_, rfl, rfl, rfl, ?_⟩
          · simp [Instr.sliceAt, run_underlying hu, Instr.slice, hsb, szT_run hs]
          · have hel : ∀ i k, i < u.toNat - l.toNat → elT e1 ((r.drop l.toNat).take (u.toNat - l.toNat)) i k = elT e1 r (l.toNat + i) k := by
              intro i k hi
              unfold elT
              congr 2
              simp [List.getD_eq_getElem?_getD, hi]
            refine .dsl (by simp; omega) (by omega) (fun i k => vs (l.toNat + i) k) (fun hne => ?_) (fun i k hi hk => hone _ _ (by omega) hk) (fun i k hi hk => by rw [hel i k hi]; exact hv _ _ (by omega) hk) (fun h => by
              split at h
              · rename_i q; omega
              · cases A with
                | none => rw [hz rfl]; simp
                | some A => cases h)
            obtain ⟨blk, o, rfl, hro, hcl⟩ := hA (by omega)
            rw [if_neg (by omega)]
            refine ⟨blk, o + l.toNat * s, by simp [Addr.add_lit], hro, fun i k hi hk => ?_⟩
            rw [hb, show o + l.toNat * Univ.sz e1 + (i * Univ.sz e1 + k) = o + ((l.toNat + i) * Univ.sz e1 + k) by rw [Nat.add_mul]; omega]
            exact hcl _ _ (by omega) hk
        · cases e
      · cases e
    · cases e
  · split at e
    · rename_i e' l u hel hl hr
      have hu := elemT_und hel
      split at e
      · rename_i s hs
        cases e
        have hbd : l = 0 ∧ u = 0 := of_decide_eq_true hc
        cases hx
        have hsb := sliceBounds_ok (P := P) (w := w) (isSlice := true) (len := 0) (cap := 0) (bound_vals he hl) (bound_vals he hr) (by omega) (by omega) (by omega)
        refine ⟨.slice none 0 0, _, ?_, rfl, rfl, rfl, .nils⟩
        simp [Instr.sliceAt, run_underlying hu, Instr.slice, hsb, szT_run hs, hbd.1, hbd.2]
      · cases e
    · cases e
  · cases e
theorem sliceZ_ok {env : Env} {a : Act} {t : TypeId} {x : AV} {v : Value} {lo hi : Option Operand} {mx : Operand} {g : Got} (H : HRel w0 F h n ρ RO w) (he : ERel ρ RO w env a) (hx : VRel ρ RO w x v) (e : sliceZ P env h n t x lo hi mx = some g) :
    ∃ z av, (Instr.sliceAt t v (lo.map a.eval) (hi.map a.eval) (some (a.eval mx))).run P w = .ok z w ∧ g.val = some av ∧ g.heap = h ∧ g.next = n ∧ VRel ρ RO w av z := by
  unfold sliceZ at e
  split at e
  · rename_i e' hel hl hr hm
    have hu := elemT_und hel
    have hr : ∃ k, hi.map a.eval = some (.int k 0) := by
      rcases bound_vals he hr with ⟨_, q⟩ | q
      · cases q
      · exact q
    obtain ⟨k1, hr⟩ := hr
    have hm : ∃ k, a.eval mx = .int k 0 := by
      rcases bound_vals he hm with ⟨_, q⟩ | ⟨k, q⟩
      · cases q
      · exact ⟨k, by simpa using q⟩
    obtain ⟨k2, hm⟩ := hm
    split at e
    · rename_i s hs
      have key : ∀ A len c, (Instr.sliceAt t (.slice A len c) (lo.map a.eval) (hi.map a.eval) (some (a.eval mx))).run P w = .ok (.slice A 0 0) w := by
        intro A len c
        rcases bound_vals he hl with ⟨q, _⟩ | ⟨k, q⟩
        · rw [q, hr, hm]
          simp [Instr.sliceAt, run_underlying hu, Instr.slice, Instr.sliceBounds, Instr.sliceBound, asIntOf, szT_run hs]
        · rw [q, hr, hm]
          simp [Instr.sliceAt, run_underlying hu, Instr.slice, Instr.sliceBounds, Instr.sliceBound, asIntOf, szT_run hs]
      split at e
      · cases e; cases hx; exact ⟨_, _, key _ _ _, rfl, rfl, rfl, .zs _⟩
      · cases e; cases hx; exact ⟨_, _, key _ _ _, rfl, rfl, rfl, .zs _⟩
      · cases e; cases hx; exact ⟨_, _, key _ _ _, rfl, rfl, rfl, .zs _⟩
      · cases e; cases hx; exact ⟨_, _, key _ _ _, rfl, rfl, rfl, .zs _⟩
      · cases e; cases hx; exact ⟨_, _, key _ _ _, rfl, rfl, rfl, .nils⟩
      · cases e
    · cases e
  · cases e
end Go.Eng

end
section
set_option linter.unusedVariables false
set_option linter.unusedSectionVars false
set_option linter.unusedSimpArgs false
namespace Go.Eng
variable [U : Univ]
open Go.RowKit
variable {P : Program} {w0 w : World} {F : Fr} {ρ : Nat → Option Loc} {RO : Nat → Prop} {h : Heap} {n : Nat}
theorem und_struct {t : TypeId} {fs : Array Field} (hu : P.underlying t = some (.struct fs)) : P.underlying t = some (.struct (P.fieldsOf t)) ∧ P.fieldsOf t = fs := by
  have : P.fieldsOf t = fs := by simp [Program.fieldsOf, hu]
  exact ⟨by rw [this]; exact hu, this⟩
theorem eqF_ok {eq : TypeId → AV → AV → Option Bool} {D : Nat} (ih : ∀ {t : TypeId} {x y : AV} {v u : Value} {q : Bool}, VRel ρ RO w x v → VRel ρ RO w y u → eq t x y = some q → (Op.equalIn D t v u).run P w = .ok q w) :
    ∀ {fs : List Field} {xs ys : List AV} {vs us : List Value} {q : Bool}, VRels ρ RO w xs vs → VRels ρ RO w ys us → (∀ x ∈ vs, x.oneCell' = true) → (∀ x ∈ us, x.oneCell' = true) → eqF P eq xs ys fs = some q → (Op.eqFields D vs.toArray us.toArray fs).run P w = .ok q w
  | [], xs, ys, vs, us, q, h1, h2, o1, o2, e => by simp [eqF] at e; subst e; simp [Op.eqFields]
  | f :: r, xs, ys, vs, us, q, h1, h2, o1, o2, e => by
    unfold eqF at e
    split at e
    · cases e
    · rename_i hname
      have hname : f.name ≠ "_" := by simpa using hname
      split at e
      · rename_i a b ha hb
        obtain ⟨va, p1, p2⟩ := part_ok (P := P) h1 o1 ha
        obtain ⟨vb, p3, p4⟩ := part_ok (P := P) h2 o2 hb
        split at e
        · rename_i q1 hq1
          have e1 := ih p2 p4 hq1
          rw [Op.eqFields, if_pos hname]
          simp only [Sem.run_bind, p1, p3, e1, Result.andThen_ok]
          split at e
          · cases e
            cases q <;> simp [Op.eqFields]
          · rename_i g r'
            split at e
            · rename_i s hs
              cases e
              have e2 := eqF_ok ih h1 h2 o1 o2 hs
              cases q1
              · simp
              · simp only [Bool.not_true, Bool.false_eq_true, if_false, Bool.true_and]
                exact e2
            · cases e
        · cases e
      · cases e
theorem eqA_ok : ∀ {d D : Nat} {t : TypeId} {x y : AV} {v u : Value} {q : Bool}, d ≤ D → VRel ρ RO w x v → VRel ρ RO w y u → eqA P d t x y = some q → (Op.equalIn D t v u).run P w = .ok q w
  | 0, D, t, x, y, v, u, q, hd, h1, h2, e => by cases e
  | d + 1, D, t, x, y, v, u, q, hd, h1, h2, e => by
    obtain ⟨D, rfl⟩ : ∃ k, D = k + 1 := ⟨D - 1, by omega⟩
    simp only [eqA] at e
    split at e
    · rename_i a b hu
      cases e; cases h1; cases h2
      exact run_equalIn_bool' w D t a b hu
    · rename_i k a k' b hu
      split at e
      · rename_i hk
        have : a = b → True := fun _ => trivial
        cases e
        cases h1; cases h2
        have hk := of_decide_eq_true hk
        subst hk
        exact run_equalIn_int w D t _ _ _ _ hu
      · cases e
    · rename_i a b hu
      cases e; cases h1; cases h2
      exact run_equalIn_string w D t a b hu
    · rename_i fs xs ys hu
      split at e
      · cases e
      · rename_i hst
        cases h1 with
        | agg e1 s1 r1 =>
        cases h2 with
        | agg e2 s2 r2 =>
        obtain ⟨hu', hfs⟩ := und_struct hu
        rw [run_equalIn_struct w D t _ _ hu' hst, hfs]
        exact eqF_ok (fun h1 h2 hq => eqA_ok (by omega) h1 h2 hq) ⟨e1, r1⟩ ⟨e2, r2⟩ s1 s2 e
    · cases e
theorem intA_ok {op : BinOp} {t : TypeId} {k : IntKind} {a b : Int} {av : AV} {c : Bool} (e : intA op k a b = some (av, c)) (hc : c = true) :
    ∃ v, (binOp op t (.int k a) (.int k b)).run P w = .ok v w ∧ VRel ρ RO w av v := by
  cases op
  case add => cases e; exact ⟨_, by rw [binOp_add]; rfl, .int _ _⟩
  case sub => cases e; exact ⟨_, by rw [binOp_sub]; rfl, .int _ _⟩
  case mul => cases e; exact ⟨_, by rw [binOp_mul]; rfl, .int _ _⟩
  case quo =>
    cases e
    have hb : b ≠ 0 := by simpa using hc
    exact ⟨_, by rw [binOp_quo]; unfold Op.intDiv; rw [if_neg hb]; rfl, .int _ _⟩
  case rem =>
    cases e
    have hb : b ≠ 0 := by simpa using hc
    exact ⟨_, by rw [binOp_rem]; unfold Op.intDiv; rw [if_neg hb]; rfl, .int _ _⟩
  case and => cases e; exact ⟨_, by rw [binOp_and]; rfl, .int _ _⟩
  case or => cases e; exact ⟨_, by rw [binOp_or]; rfl, .int _ _⟩
  case xor => cases e; exact ⟨_, by rw [binOp_xor]; rfl, .int _ _⟩
  case andNot => cases e; exact ⟨_, by rw [binOp_andNot]; rfl, .int _ _⟩
  case shl => cases e
  case shr => cases e
  case eql => cases e; exact ⟨_, by rw [binOp_eql]; rfl, .bool _⟩
  case neq => cases e; exact ⟨_, by rw [binOp_neq]; rfl, .bool _⟩
  case lss => cases e; exact ⟨_, by rw [binOp_lss]; rfl, .bool _⟩
  case leq => cases e; exact ⟨_, by rw [binOp_leq]; rfl, .bool _⟩
  case gtr => cases e; exact ⟨_, by rw [binOp_gtr]; rfl, .bool _⟩
  case geq => cases e; exact ⟨_, by rw [binOp_geq]; rfl, .bool _⟩
theorem strA_ok {op : BinOp} {t : TypeId} {a b : ByteArray} {av : AV} {c : Bool} (e : strA op a b = some (av, c)) (hc : c = true) :
    ∃ v, (binOp op t (.string a) (.string b)).run P w = .ok v w ∧ VRel ρ RO w av v := by
  cases op
  case add =>
    cases e
    have hb : a.size + b.size ≤ 9223372036854775807 := of_decide_eq_true hc
    refine ⟨.string (a ++ b), ?_, .str _⟩
    simp only [binOp, Op.stringOp]
    rw [if_neg (by rw [IntKind.max_i64]; omega)]
    rfl
  case eql => cases e; exact ⟨_, rfl, .bool _⟩
  case neq => cases e; exact ⟨_, rfl, .bool _⟩
  case lss => cases e; exact ⟨_, rfl, .bool _⟩
  case leq => cases e; exact ⟨_, rfl, .bool _⟩
  case gtr => cases e; exact ⟨_, rfl, .bool _⟩
  case geq => cases e; exact ⟨_, rfl, .bool _⟩
  all_goals cases e
theorem SLeql {t e : TypeId} (a : Option Addr) (n c n' c' : Nat) (h : P.underlying t = some (.slice e)) : (binOp .eql t (.slice a n c) (.slice none n' c')).run P w = .ok (.bool a.isNone) w := Lib.run_eql_slice_nil w t e a n c n' c' h
theorem SLneq {t e : TypeId} (a : Option Addr) (n c n' c' : Nat) (h : P.underlying t = some (.slice e)) : (binOp .neq t (.slice a n c) (.slice none n' c')).run P w = .ok (.bool (!a.isNone)) w := by
  simp only [binOp]
  simp [Op.equal, Op.maxDepth, Lib.run_equalIn_slice_nil w 9999 t e a n c n' c' h]
theorem PNeql {t e : TypeId} (p : Option Addr) (h : P.underlying t = some (.pointer e)) : (binOp .eql t (.pointer p) (.pointer none)).run P w = .ok (.bool p.isNone) w := by
  have hp : P.pointee t = e := by simp [Program.pointee, h]
  have := run_eql_pointer_nil (P := P) (w := w) t p (by rw [hp]; exact h)
  simpa using this
theorem PNneq {t e : TypeId} (p : Option Addr) (h : P.underlying t = some (.pointer e)) : (binOp .neq t (.pointer p) (.pointer none)).run P w = .ok (.bool (!p.isNone)) w := by
  have hp : P.pointee t = e := by simp [Program.pointee, h]
  have := run_neq_pointer_nil (P := P) (w := w) t p (by rw [hp]; exact h)
  simpa using this
theorem INin (d : Nat) {t : TypeId} {ms : Array (String × TypeId)} (tx : TypeId) (vx : Value) (h : P.underlying t = some (.interface ms)) : (Op.equalIn (d + 1) t (.iface tx vx) .nilIface).run P w = .ok false w := by
  simp [Op.equalIn, run_underlying h]
theorem NNin (d : Nat) {t : TypeId} {ms : Array (String × TypeId)} (h : P.underlying t = some (.interface ms)) : (Op.equalIn (d + 1) t .nilIface .nilIface).run P w = .ok true w := by
  simp [Op.equalIn, run_underlying h]
theorem INeq {t : TypeId} {ms : Array (String × TypeId)} (tx : TypeId) (vx : Value) (h : P.underlying t = some (.interface ms)) : (Op.equal t (.iface tx vx) .nilIface).run P w = .ok false w := INin 9999 tx vx h
theorem NNeq {t : TypeId} {ms : Array (String × TypeId)} (h : P.underlying t = some (.interface ms)) : (Op.equal t .nilIface .nilIface).run P w = .ok true w := NNin 9999 h
theorem INeql {t : TypeId} {ms : Array (String × TypeId)} (tx : TypeId) (vx : Value) (h : P.underlying t = some (.interface ms)) : (binOp .eql t (.iface tx vx) .nilIface).run P w = .ok (.bool false) w := by
  simp only [binOp]
  simp [INeq tx vx h]
theorem INneq {t : TypeId} {ms : Array (String × TypeId)} (tx : TypeId) (vx : Value) (h : P.underlying t = some (.interface ms)) : (binOp .neq t (.iface tx vx) .nilIface).run P w = .ok (.bool true) w := by
  simp only [binOp]
  simp [INeq tx vx h]
theorem NNeql {t : TypeId} {ms : Array (String × TypeId)} (h : P.underlying t = some (.interface ms)) : (binOp .eql t .nilIface .nilIface).run P w = .ok (.bool true) w := by
  simp only [binOp]
  simp [NNeq h]
theorem NNneq {t : TypeId} {ms : Array (String × TypeId)} (h : P.underlying t = some (.interface ms)) : (binOp .neq t .nilIface .nilIface).run P w = .ok (.bool false) w := by
  simp only [binOp]
  simp [NNeq h]
theorem cst_guard {op : BinOp} {t : TypeId} {x y : Operand} (h : cstO y = true) : eqGuard op t x y .nilIface .nilIface = pure () := by
  cases y <;> first | (cases op <;> cases x <;> rfl) | (cases h)
theorem bin_ok {op : BinOp} {t : TypeId} {x y : Operand} {a b : AV} {v u : Value} {av : AV} {c : Bool} (h1 : VRel ρ RO w a v) (h2 : VRel ρ RO w b u) (e : binA P op t (cstO y) a b = some (av, c)) (hc : c = true) :
    ∃ z, (do eqGuard op t x y v u; binOp op t v u : Sem Value).run P w = .ok z w ∧ VRel ρ RO w av z := by
  have guardOk : ∀ z : Value, (eqGuard op t x y v u).run P w = .ok () w → (binOp op t v u).run P w = .ok z w → (do eqGuard op t x y v u; binOp op t v u : Sem Value).run P w = .ok z w := by
    intro z g1 g2
    simp [Sem.run_bind, g1, g2]
  unfold binA at e
  split at e
  · rename_i k a k' b
    cases h1; cases h2
    cases e
    have hb : ¬ b < 0 := by simpa using hc
    exact ⟨_, guardOk _ (by rw [eqGuard_at_int]; rfl) (by simp [binOp, Op.shift, hb]), .int _ _⟩
  · rename_i k a k' b
    cases h1; cases h2
    cases e
    have hb : ¬ b < 0 := by simpa using hc
    exact ⟨_, guardOk _ (by rw [eqGuard_at_int]; rfl) (by simp [binOp, Op.shift, hb]), .int _ _⟩
  · rename_i op k a k' b _ _
    cases h1; cases h2
    split at e
    · rename_i hk
      have hk := of_decide_eq_true hk
      subst hk
      obtain ⟨z, z1, z2⟩ := intA_ok (P := P) (t := t) e hc
      exact ⟨z, guardOk _ (by rw [eqGuard_at_int]; rfl) z1, z2⟩
    · cases e
  · cases h1; cases h2
    obtain ⟨z, z1, z2⟩ := strA_ok (P := P) (t := t) e hc
    exact ⟨z, guardOk _ (by rw [eqGuard_at_string]; rfl) z1, z2⟩
  · rename_i a b
    cases h1; cases h2
    split at e
    · rename_i hu
      cases e
      exact ⟨_, guardOk _ (by rw [eqGuard_at_bool]; rfl) (run_eql_bool w t a b hu), .bool _⟩
    · cases e
  · rename_i a b
    cases h1; cases h2
    split at e
    · rename_i hu
      cases e
      exact ⟨_, guardOk _ (by rw [eqGuard_at_bool]; rfl) (run_neq_bool w t a b hu), .bool _⟩
    · cases e
  · rename_i xs ys
    split at e
    · rename_i q hg hq
      cases e
      have hrun := eqA_ok (D := 10000) (by omega) h1 h2 hq
      cases h1 with
      | agg e1 s1 r1 =>
      cases h2 with
      | agg e2 s2 r2 =>
      exact ⟨_, guardOk _ (run_eqGuard_agg w _ _ _ _ _ _ hg) (by rw [run_eql_struct, hrun]; rfl), .bool _⟩
    · cases e
  · rename_i xs ys
    split at e
    · rename_i q hg hq
      cases e
      have hrun := eqA_ok (D := 10000) (by omega) h1 h2 hq
      cases h1 with
      | agg e1 s1 r1 =>
      cases h2 with
      | agg e2 s2 r2 =>
      exact ⟨_, guardOk _ (run_eqGuard_agg w _ _ _ _ _ _ hg) (by rw [run_neq_struct, hrun]; rfl), .bool _⟩
    · cases e
  · split at e
    · rename_i hu
      cases e
      cases h1; cases h2
      exact ⟨_, guardOk _ (by rw [eqGuard_at_slice]; rfl) (SLeql _ _ _ _ _ hu), .bool _⟩
    · cases e
  · split at e
    · rename_i hu
      cases e
      cases h1; cases h2
      exact ⟨_, guardOk _ (by rw [eqGuard_at_slice]; rfl) (SLneq _ _ _ _ _ hu), .bool _⟩
    · cases e
  · split at e
    · rename_i hu
      cases e
      cases h1; cases h2
      exact ⟨_, guardOk _ (by rw [eqGuard_at_slice]; rfl) (SLeql _ _ _ _ _ hu), .bool _⟩
    · cases e
  · split at e
    · rename_i hu
      cases e
      cases h1; cases h2
      exact ⟨_, guardOk _ (by rw [eqGuard_at_slice]; rfl) (SLneq _ _ _ _ _ hu), .bool _⟩
    · cases e
  · split at e
    · rename_i hu
      cases e
      cases h1; cases h2
      exact ⟨_, guardOk _ (by rw [eqGuard_at_pointer]; rfl) (PNeql _ hu), .bool _⟩
    · cases e
  · split at e
    · rename_i hu
      cases e
      cases h1; cases h2
      exact ⟨_, guardOk _ (by rw [eqGuard_at_pointer]; rfl) (PNneq _ hu), .bool _⟩
    · cases e
  · split at e
    · rename_i hu
      cases e
      cases h1; cases h2
      exact ⟨_, guardOk _ (by rw [eqGuard_at_pointer]; rfl) (PNeql _ hu), .bool _⟩
    · cases e
  · split at e
    · rename_i hu
      cases e
      cases h1; cases h2
      exact ⟨_, guardOk _ (by rw [eqGuard_at_pointer]; rfl) (PNneq _ hu), .bool _⟩
    · cases e
  · split at e
    · rename_i hu
      cases e
      cases h1; cases h2
      exact ⟨_, guardOk _ rfl (INeql _ _ hu), .bool _⟩
    · cases e
  · split at e
    · rename_i hu
      cases e
      cases h1; cases h2
      exact ⟨_, guardOk _ rfl (INneq _ _ hu), .bool _⟩
    · cases e
  · split at e
    · rename_i hu hcst
      cases e
      cases h1; cases h2
      exact ⟨_, guardOk _ (by rw [cst_guard hcst]; rfl) (NNeql hu), .bool _⟩
    · cases e
  · split at e
    · rename_i hu hcst
      cases e
      cases h1; cases h2
      exact ⟨_, guardOk _ (by rw [cst_guard hcst]; rfl) (NNneq hu), .bool _⟩
    · cases e
  · cases e
theorem un_ok {op : UnOp} {a : AV} {v : Value} {av : AV} (h1 : VRel ρ RO w a v) (e : unA op a = some av) : ∃ z, (Op.unary op v).run P w = .ok z w ∧ VRel ρ RO w av z := by
  unfold unA at e
  split at e
  · cases h1; cases e; exact ⟨_, by simp [Op.unary], .bool _⟩
  · cases h1; cases e; exact ⟨_, by simp [Op.unary, Op.intArith], .int _ _⟩
  · cases e
theorem allI_rel {k : IntKind} : ∀ {cs : List AV} {l : List Int}, allI k cs = some l → cs = l.map (.int k)
  | [], l, e => by simp only [allI] at e; cases e; rfl
  | .int k' a :: r, l, e => by
    simp only [allI] at e
    split at e
    · rename_i l' hk hr
      cases e
      have hk := of_decide_eq_true hk
      subst hk
      simp [allI_rel hr]
    · cases e
  | .bool _ :: _, l, e | .str _ :: _, l, e | .ptr _ _ _ :: _, l, e | .dptr _ _ _ :: _, l, e | .nilp :: _, l, e | .sl _ _ _ _ :: _, l, e | .dsl _ _ :: _, l, e | .dsn _ _ :: _, l, e | .slf _ :: _, l, e | .nils :: _, l, e | .zs :: _, l, e
  | .map _ :: _, l, e | .nilm :: _, l, e | .fn _ _ _ :: _, l, e | .nilfn :: _, l, e | .iface _ _ :: _, l, e | .nili :: _, l, e | .agg _ :: _, l, e | .tup _ :: _, l, e | .raw _ :: _, l, e => by simp [allI] at e
theorem allS_rel : ∀ {cs : List AV} {l : List ByteArray}, allS cs = some l → cs = l.map .str
  | [], l, e => by simp only [allS] at e; cases e; rfl
  | .str a :: r, l, e => by
    simp only [allS] at e
    split at e
    · rename_i l' hr
      cases e
      simp [allS_rel hr]
    · cases e
  | .bool _ :: _, l, e | .int _ _ :: _, l, e | .ptr _ _ _ :: _, l, e | .dptr _ _ _ :: _, l, e | .nilp :: _, l, e | .sl _ _ _ _ :: _, l, e | .dsl _ _ :: _, l, e | .dsn _ _ :: _, l, e | .slf _ :: _, l, e | .nils :: _, l, e | .zs :: _, l, e
  | .map _ :: _, l, e | .nilm :: _, l, e | .fn _ _ _ :: _, l, e | .nilfn :: _, l, e | .iface _ _ :: _, l, e | .nili :: _, l, e | .agg _ :: _, l, e | .tup _ :: _, l, e | .raw _ :: _, l, e => by simp [allS] at e
theorem colA_get {cs : List AV} {f : Nat → AV} (e : colA cs = some f) {p : Nat} (hp : p < cs.length) : cs[p]? = some (f p) := by
  unfold colA at e
  split at e
  · split at e
    · rename_i l hl
      cases e
      have := allI_rel hl
      rw [this] at hp ⊢
      simp at hp
      simp [List.getD_eq_getElem?_getD, hp]
    · cases e
  · split at e
    · rename_i l hl
      cases e
      have := allS_rel hl
      rw [this] at hp ⊢
      simp at hp
      simp [List.getD_eq_getElem?_getD, hp]
    · cases e
  · cases e
theorem idxV_ok {t : TypeId} {x i : AV} {v u : Value} {av : AV} {c : Bool} (h1 : VRel ρ RO w x v) (h2 : VRel ρ RO w i u) (e : idxV P t x i = some (av, c)) (hc : c = true) :
    ∃ z, (Instr.index t v u).run P w = .ok z w ∧ VRel ρ RO w av z := by
  unfold idxV at e
  split at e
  · rename_i len e' cs k j hu
    split at e
    · rename_i s hs
      split at e
      · rename_i f hcol hlen
        split at e
        · rename_i a ha
          cases e
          have hb : 0 ≤ j ∧ j < (len : Int) := of_decide_eq_true hc
          have hlen : cs.length = len * s := Nat.eq_of_beq_eq_true hlen
          cases h2
          cases h1 with
          | @agg _ vs e1 s1 r1 =>
          have hle : j.toNat * s + s ≤ len * s := by
            have : (j.toNat + 1) * s ≤ len * s := Nat.mul_le_mul_right _ (by omega)
            rw [Nat.add_mul, Nat.one_mul] at this; exact this
          have hsub : VRels ρ RO w ((List.range s).map fun c => f (j.toNat * s + c)) ((vs.drop (j.toNat * s)).take s) := by
            refine ⟨by simp; omega, fun i a v ea ev => ?_⟩
            have hi : i < s := by have := (List.getElem?_eq_some_iff.1 ea).1; simpa using this
            simp only [List.getElem?_map, List.getElem?_range hi, Option.map_some, Option.some.injEq] at ea
            subst ea
            rw [List.getElem?_take_of_lt hi, List.getElem?_drop] at ev
            exact r1 _ _ _ (colA_get hcol (by omega)) ev
          obtain ⟨z, z1, z2⟩ := part_ok (P := P) hsub (fun x hx => s1 x (List.mem_of_mem_drop (List.mem_of_mem_take hx))) ha
          have hpart : (part e' vs.toArray (j.toNat * s)).run P w = (part e' ((vs.drop (j.toNat * s)).take s).toArray 0).run P w := by
            unfold partA at ha
            rw [hs] at ha
            dsimp only at ha
            split at ha
            · rename_i hag
              unfold part
              simp only [Sem.run_bind, agg_run hag w, Result.andThen_ok, if_true, szT_run hs w, Sem.run_pure]
              congr 2
              simp [List.extract_toArray, List.extract_eq_take_drop, List.take_take]
            · rename_i hag
              have h0 : 0 < s := by have := (List.getElem?_eq_some_iff.1 ha).1; simpa using this
              unfold part
              have hlt : j.toNat * s < vs.length := by omega
              simp [Sem.run_bind, agg_run hag w, List.getElem?_eq_getElem hlt, h0]
            · cases ha
          refine ⟨z, ?_, z2⟩
          simp [Instr.index, asIntOf, run_underlying hu, hb, szT_run hs, hpart, z1]
        · cases e
      · split at e
        · rename_i a ha
          cases e
          have hb : 0 ≤ j ∧ j < (len : Int) := of_decide_eq_true hc
          cases h2
          cases h1 with
          | agg e1 s1 r1 =>
          obtain ⟨z, z1, z2⟩ := part_ok (P := P) ⟨e1, r1⟩ s1 ha
          refine ⟨z, ?_, z2⟩
          simp [Instr.index, asIntOf, run_underlying hu, hb, szT_run hs, z1]
        · cases e
    · cases e
  · rename_i s k j hu
    cases e
    have hb : 0 ≤ j ∧ j < (s.size : Int) := of_decide_eq_true hc
    cases h2; cases h1
    have hlt : j.toNat < s.size := by omega
    refine ⟨.int .u8 (s.data.getD j.toNat 0).toNat, ?_, .int _ _⟩
    have hge : s[j.toNat]? = some s[j.toNat] := getElem?_pos s j.toNat hlt
    have hd : s.data.getD j.toNat 0 = s[j.toNat] := by
      rw [Array.getD_eq_getD_getElem?, Array.getElem?_eq_getElem (show j.toNat < s.data.size from hlt)]
      rfl
    simp [Instr.index, asIntOf, run_underlying hu, hb.1, hge, hd]
  · cases e
theorem len_ok {t : TypeId} {ty : TypeId} {x : AV} {v : Value} {av : AV} (H : HRel w0 F h n ρ RO w) (h1 : VRel ρ RO w x v) (e : lenA P h t x = some av) : ∃ z, (Builtin.len_ #[t] ty #[v]).run P w = .ok z w ∧ VRel ρ RO w av z := by
  unfold lenA at e
  split at e
  · rename_i hu
    cases e; cases h1
    exact ⟨_, by simp [Builtin.len_, run_underlying hu]; rfl, .int _ _⟩
  · rename_i id hu
    split at e
    · rename_i e1 l hlk
      cases e
      have h2 := H.unslf hlk h1
      cases h2
      exact ⟨_, by simp [Builtin.len_, run_underlying hu]; rfl, .int _ _⟩
    · cases e
  · rename_i hu
    cases e; cases h1
    exact ⟨_, by simp [Builtin.len_, run_underlying hu]; rfl, .int _ _⟩
  · rename_i e1 l hu
    cases e
    cases h1 with
    | dsl hl =>
    subst hl
    exact ⟨_, by simp [Builtin.len_, run_underlying hu]; rfl, .int _ _⟩
  · rename_i e1 l hu
    cases e
    cases h1 with
    | dsn hl =>
    subst hl
    exact ⟨_, by simp [Builtin.len_, run_underlying hu]; rfl, .int _ _⟩
  · rename_i hu
    cases e; cases h1
    exact ⟨_, by simp [Builtin.len_, run_underlying hu]; rfl, .int _ _⟩
  · rename_i hu
    cases e; cases h1
    exact ⟨_, by simp [Builtin.len_, run_underlying hu]; rfl, .int _ _⟩
  · rename_i hu
    cases e; cases h1
    exact ⟨_, by simp [Builtin.len_, run_underlying hu]; rfl, .int _ _⟩
  · rename_i id hu
    split at e
    · rename_i es hlk
      cases e
      cases h1 with
      | map hL =>
      obtain ⟨ms, clock, g1, g2, _⟩ := H.mapO hlk hL
      refine ⟨.int .i64 (es.length : Int), ?_, .int _ _⟩
      simp [Builtin.len_, run_underlying hu, getObj, Sem.run, g1, goInt, g2]
    · cases e
  · cases e
theorem cap_ok {t : TypeId} {ty : TypeId} {x : AV} {v : Value} {av : AV} (h1 : VRel ρ RO w x v) (e : capA P t x = some av) : ∃ z, (Builtin.cap_ #[t] ty #[v]).run P w = .ok z w ∧ VRel ρ RO w av z := by
  unfold capA at e
  split at e
  · rename_i hu
    cases e; cases h1
    exact ⟨_, by simp [Builtin.cap_, run_underlying hu]; rfl, .int _ _⟩
  · rename_i hu
    cases e; cases h1
    exact ⟨_, by simp [Builtin.cap_, run_underlying hu]; rfl, .int _ _⟩
  · cases e
theorem minmax_ok {mx : Bool} {l : List AV} {vs : List Value} {ts : Array TypeId} {ty : TypeId} {av : AV} (h1 : VRels ρ RO w l vs) (e : minmaxA mx l = some av) :
    ∃ z, (if mx then Builtin.max_ ts ty vs.toArray else Builtin.min_ ts ty vs.toArray).run P w = .ok z w ∧ VRel ρ RO w av z := by
  unfold minmaxA at e
  split at e
  · rename_i k a k' b r
    split at e
    · rename_i hk
      have hk := of_decide_eq_true hk
      subst hk
      split at e
      · obtain ⟨v1, t1, rfl, r1, h1⟩ := h1.inv_cons
        obtain ⟨v2, t2, rfl, r2, h1⟩ := h1.inv_cons
        obtain rfl := h1.inv_nil
        cases r1; cases r2
        cases mx
        · cases e; exact ⟨_, by simpa [min2] using run_min_int2 w ts ty k k a b, .int _ _⟩
        · cases e; exact ⟨_, by simpa [max2] using run_max_int2 w ts ty k k a b, .int _ _⟩
      · cases e
    · cases e
  · cases e
end Go.Eng

end
section
set_option linter.unusedVariables false
set_option linter.unusedSectionVars false
set_option linter.unusedSimpArgs false
namespace Go.Eng
variable [U : Univ]
open Go.RowKit
variable {P : Program} {w0 w : World} {F : Fr} {ρ : Nat → Option Loc} {RO : Nat → Prop} {h : Heap} {n : Nat}
theorem elT_cut {e : Nat} (l : List (Den.den e)) (off len i k : Nat) (hi : i < len) : elT e ((l.drop off).take len) i k = elT e l (off + i) k := by
  unfold elT
  congr 2
  simp [List.getD_eq_getElem?_getD, hi]
theorem elT_app {e : Nat} (a b : List (Den.den e)) (i k : Nat) : elT e (a ++ b) i k = if i < a.length then elT e a i k else elT e b (i - a.length) k := by
  unfold elT
  simp only [List.getD_eq_getElem?_getD]
  by_cases h : i < a.length
  · rw [if_pos h, List.getElem?_append_left h]
  · rw [if_neg h, List.getElem?_append_right (by omega)]
theorem rowOf_ok {x : AV} {v : Value} {r : Row} (H : HRel w0 F h n ρ RO w) (hx : VRel ρ RO w x v) (e : rowOf h x = some (r, true)) :
    ∃ (A : Option Addr) (c : Nat) (vs : Nat → Nat → Value), v = .slice A r.l.length c ∧ r.l.length ≤ c ∧ (0 < r.l.length → ∃ blk o, A = some ⟨blk, o, none⟩ ∧ ∀ i k, i < r.l.length → k < Univ.sz r.e → w.cell? ⟨blk, o + (i * Univ.sz r.e + k), none⟩ = some (vs i k)) ∧
      (∀ i k, i < r.l.length → k < Univ.sz r.e → (vs i k).oneCell' = true) ∧ ∀ i k, i < r.l.length → k < Univ.sz r.e → VRel ρ RO w (elT r.e r.l i k) (vs i k) := by
  have main : ∀ {id off len cap e : Nat} {l : List (Den.den e)}, VRel ρ RO w (.sl id off len cap) v → lookH h id = some (.row e l) → off + len ≤ l.length →
      ∃ (A : Option Addr) (c : Nat) (vs : Nat → Nat → Value), v = .slice A len c ∧ len ≤ c ∧ (0 < len → ∃ blk o, A = some ⟨blk, o, none⟩ ∧ ∀ i k, i < len → k < Univ.sz e → w.cell? ⟨blk, o + (i * Univ.sz e + k), none⟩ = some (vs i k)) ∧
        (∀ i k, i < len → k < Univ.sz e → (vs i k).oneCell' = true) ∧ ∀ i k, i < len → k < Univ.sz e → VRel ρ RO w (elT e l (off + i) k) (vs i k) := by
    intro id off len cap e l hx hlk hle
    cases hx with
    | @sl id off len cap c L A hL hll hcap hA h00 hss hmm =>
    by_cases h0 : len = 0
    · subst h0
      exact ⟨A, c, fun _ _ => undef, rfl, by omega, fun h => by omega, fun i k hi => by omega, fun i k hi => by omega⟩
    · obtain ⟨rfl, hm⟩ := hA (by omega)
      obtain ⟨g1, cs, g3, g4, g5⟩ := (H.row hlk hL).2 (by omega)
      refine ⟨_, c, fun i k => (cs[L.base + ((off + i) * Univ.sz e + k)]?).getD undef, rfl, by omega, fun _ => ⟨L.blk, L.base + off * L.sz, rfl, fun i k hi hk => ?_⟩, fun i k hi hk => ?_, fun i k hi hk => ?_⟩
      · obtain ⟨u, e1, _, e2⟩ := g5 (off + i) k (by omega) hk
        rw [cell_block g3, g1.1, show L.base + off * Univ.sz e + (i * Univ.sz e + k) = L.base + ((off + i) * Univ.sz e + k) by rw [Nat.add_mul]; omega]
        simp only [e1, Option.getD_some]
      · obtain ⟨u, e1, e3, e2⟩ := g5 (off + i) k (by omega) hk
        simp only [e1, Option.getD_some]
        exact e3
      · obtain ⟨u, e1, _, e2⟩ := g5 (off + i) k (by omega) hk
        simp only [e1, Option.getD_some]
        exact e2
  unfold rowOf at e
  split at e
  · split at e
    · rename_i e1 l hlk
      simp only [Option.some.injEq, Prod.mk.injEq, and_true] at e
      subst e
      obtain ⟨A, c, vs, q1, q2, q3, q4, q5⟩ := main (H.unslf hlk hx) hlk (by omega)
      exact ⟨A, c, vs, q1, q2, q3, q4, fun i k hi hk => by have := q5 i k hi hk; rwa [Nat.zero_add] at this⟩
    · cases e
  · rename_i id off len cap
    split at e
    · rename_i e1 l hlk
      simp only [Option.some.injEq, Prod.mk.injEq, decide_eq_true_eq] at e
      obtain ⟨rfl, hle⟩ := e
      have hlen : ((l.drop off).take len).length = len := by simp; omega
      dsimp only
      rw [hlen]
      obtain ⟨A, c, vs, q1, q2, q3, q4, q5⟩ := main hx hlk hle
      exact ⟨A, c, vs, q1, q2, q3, q4, fun i k hi hk => by rw [elT_cut l off len i k hi]; exact q5 i k hi hk⟩
    · cases e
  · simp only [Option.some.injEq, Prod.mk.injEq, and_true] at e
    subst e
    cases hx with
    | @dsl _ m' c _ A hl hn vs hA hone hv hz =>
    subst hl
    refine ⟨A, c, vs, rfl, hn, fun h0 => ?_, hone, hv⟩
    obtain ⟨blk, o, q1, _, q3⟩ := hA (Nat.ne_of_gt h0)
    exact ⟨blk, o, q1, q3⟩
  · simp only [Option.some.injEq, Prod.mk.injEq, and_true] at e
    subst e
    cases hx with
    | @dsn _ m' c _ A hl hn vs hA hone hv =>
    subst hl
    refine ⟨some A, c, vs, rfl, hn, fun h0 => ?_, hone, hv⟩
    obtain ⟨blk, o, rfl, _, q3⟩ := hA (Nat.ne_of_gt h0)
    exact ⟨blk, o, rfl, q3⟩
  · cases e
def flat (sz m : Nat) (vs : Nat → Nat → Value) : List Value := (List.range (m * sz)).map fun j => vs (j / sz) (j % sz)
theorem flat_length (sz m : Nat) (vs : Nat → Nat → Value) : (flat sz m vs).length = m * sz := by simp [flat]
theorem flat_get {sz m : Nat} (vs : Nat → Nat → Value) {i k : Nat} (hi : i < m) (hk : k < sz) : (flat sz m vs)[i * sz + k]? = some (vs i k) := by
  have hlt : i * sz + k < m * sz := by
    have : (i + 1) * sz ≤ m * sz := Nat.mul_le_mul_right _ hi
    rw [Nat.add_mul, Nat.one_mul] at this
    omega
  unfold flat
  rw [List.getElem?_map, List.getElem?_range hlt]
  simp only [Option.map_some]
  rw [Nat.mul_comm, Nat.mul_add_div (by omega), Nat.div_eq_of_lt hk, Nat.mul_add_mod, Nat.mod_eq_of_lt hk, Nat.add_zero]
theorem firstCells_ok {A : Option Addr} {m c sz : Nat} {vs : Nat → Nat → Value} (hA : 0 < m → ∃ blk o, A = some ⟨blk, o, none⟩ ∧ ∀ i k, i < m → k < sz → w.cell? ⟨blk, o + (i * sz + k), none⟩ = some (vs i k)) (hs : 1 ≤ sz) :
    (Builtin.firstCells sz m (.slice A m c)).run P w = .ok (flat sz m vs).toArray w := by
  by_cases h0 : m = 0
  · subst h0
    cases A <;> simp [Builtin.firstCells, flat, loadCells, loadCellsFrom]
  · obtain ⟨blk, o, rfl, hc⟩ := hA (by omega)
    have := run_loadCells_list (P := P) w ⟨blk, o, none⟩ (flat sz m vs) (fun j v hv => by
      have hj : j < m * sz := by have := (List.getElem?_eq_some_iff.1 hv).1; simpa [flat_length] using this
      have hi : j / sz < m := Nat.div_lt_of_lt_mul (by rw [Nat.mul_comm]; exact hj)
      have hk : j % sz < sz := Nat.mod_lt _ (by omega)
      have hjj : j / sz * sz + j % sz = j := by rw [Nat.mul_comm]; exact Nat.div_add_mod j sz
      have h1 := hc _ _ hi hk
      have h2 := flat_get vs hi hk
      rw [hjj] at h1 h2
      rw [hv] at h2
      rw [Addr.add_mid, h1, h2])
    rw [flat_length] at this
    simpa [Builtin.firstCells] using this
theorem one_flat {sz m : Nat} {vs : Nat → Nat → Value} (h : ∀ i k, i < m → k < sz → (vs i k).oneCell' = true) : ∀ x ∈ flat sz m vs, x.oneCell' = true := by
  intro x hx
  obtain ⟨j, hj, rfl⟩ := List.mem_map.1 hx
  have hj : j < m * sz := by simpa using hj
  have h0 : 0 < sz := by
    rcases Nat.eq_zero_or_pos sz with h0 | h0
    · subst h0; simp at hj
    · exact h0
  exact h _ _ (Nat.div_lt_of_lt_mul (by rw [Nat.mul_comm]; exact hj)) (Nat.mod_lt _ h0)
theorem app_ok {t u e : TypeId} {ty : TypeId} {ie : TypeInfo} {z : Value} {m : List (Den.den e)} {x : AV} {v v' : Value} {g : Got} (H : HRel w0 F h n ρ RO w) (hu : P.underlying t = some (.slice e)) (hu2 : ∃ e', P.underlying u = some (.slice e')) (hie : P.info? e = some ie) (hz : ie.zero = some z) (hzs0 : z.cells.size = ie.size)
    (hse : Univ.sz e = ie.size) (hby : 1 ≤ ie.bytes) (hx : VRel ρ RO w x v)
    {A : Option Addr} {c : Nat} {vs : Nat → Nat → Value} (hv' : v' = .slice A m.length c) (hA : 0 < m.length → ∃ blk o, A = some ⟨blk, o, none⟩ ∧ ∀ i k, i < m.length → k < Univ.sz e → w.cell? ⟨blk, o + (i * Univ.sz e + k), none⟩ = some (vs i k))
    (hv : ∀ i k, i < m.length → k < Univ.sz e → VRel ρ RO w (elT e m i k) (vs i k)) (hone : ∀ i k, i < m.length → k < Univ.sz e → (vs i k).oneCell' = true)
    (e' : appTo h n e ie.bytes m x = some g) (hc : g.cond = true) :
    ∃ ρ' w' zv av, Ext ρ RO w ρ' RO w' ∧ HRel w0 F g.heap g.next ρ' RO w' ∧ (Builtin.append_ #[t, u] ty #[v, v']).run P w = .ok zv w' ∧ g.val = some av ∧ VRel ρ' RO w' av zv := by
  obtain ⟨e2, hu2⟩ := hu2
  subst hv'
  have hs := Univ.sz_pos e
  have hzs : z.cells.size = Univ.sz e := hzs0.trans hse.symm
  have hfirst := firstCells_ok (P := P) (w := w) (c := c) hA hs
  have hsz : (sizeOf e).run P w = .ok (Univ.sz e) w := by rw [hse]; simp [sizeOf, typeInfo, hie]
  have grow : ∀ (len : Nat) (A0 : Option Addr) (c0 : Nat) (olds : Nat → Nat → Value) (l0 : List (Den.den e)) (h' : Heap) (n' : Nat), l0.length = len →
      HRel w0 F h' n' ρ RO w → c0 < len + m.length → len ≤ c0 → (0 < len → ∃ blk o, A0 = some ⟨blk, o, none⟩ ∧ ∀ i k, i < len → k < Univ.sz e → w.cell? ⟨blk, o + (i * Univ.sz e + k), none⟩ = some (olds i k)) →
      (∀ i k, i < len → k < Univ.sz e → (olds i k).oneCell' = true) → (∀ i k, i < len → k < Univ.sz e → VRel ρ RO w (elT e l0 i k) (olds i k)) → (len + m.length) * ie.bytes ≤ 140737488355328 →
      ∃ ρ' w' zv, Ext ρ RO w ρ' RO w' ∧ HRel w0 F ((n', some (.row e (l0 ++ m))) :: h') (n' + 1) ρ' RO w' ∧
        (Builtin.append_ #[t, u] ty #[.slice A0 len c0, .slice A m.length c]).run P w = .ok zv w' ∧ VRel ρ' RO w' (.slf n') zv := by
    intro len A0 c0 olds l0 h' n' hl0 H' hgt hlc hA0 hone0 hel0 hbytes
    have hfirst0 := firstCells_ok (P := P) (w := w.drew) (c := c0) (A := A0) (m := len) (vs := olds) (fun h0 => by obtain ⟨b, o, q1, q2⟩ := hA0 h0; exact ⟨b, o, q1, q2⟩) hs
    have hfirst1 := firstCells_ok (P := P) (w := w.drew) (c := c) (A := A) (m := m.length) (vs := vs) (fun h0 => by obtain ⟨b, o, q1, q2⟩ := hA h0; exact ⟨b, o, q1, q2⟩) hs
    obtain ⟨d1, d2⟩ := H'.drew
    let nc := (Question.appendCap (len + m.length) c0 e).cut (w.tape w.drawn (.appendCap (len + m.length) c0 e))
    have hnc : len + m.length ≤ nc := by simp [nc, Question.cut]
    have hncm : nc ≤ 9223372036854775807 := by
      have h1 : len + m.length ≤ 140737488355328 := Nat.le_trans (Nat.le_mul_of_pos_right _ (by omega)) hbytes
      simp only [nc, Question.cut]
      have := Nat.mod_lt (w.tape w.drawn (.appendCap (len + m.length) c0 e)) (show 0 < 2 ^ 63 - (len + m.length) by omega)
      omega
    let cells : List Value := flat (Univ.sz e) len olds ++ flat (Univ.sz e) m.length vs ++ (Builtin.zeroCells z.cells (nc - (len + m.length))).toList
    have hcl : cells.length = nc * Univ.sz e := by
      simp only [cells, List.length_append, flat_length, Array.length_toList, Builtin.zeroCells, Array.size_map, Array.size_range, hzs]
      rw [← Nat.add_mul, ← Nat.add_mul]
      congr 1
      omega
    obtain ⟨ext, fin⟩ := d2.alloc (.cells cells.toArray e) (.row e (l0 ++ m)) (Univ.sz e) cells.length (len + m.length)
    have ext := d1.trans ext
    refine ⟨_, _, .slice (some ⟨w.heap.size, 0, none⟩) (len + m.length) nc, ext, fin ⟨⟨rfl, by simp [hl0]⟩, cells.toArray, heap_alloc_new w.drew _, by simp, fun i k hi hk => ?_⟩, ?_, ?_⟩
    · rw [elT_app, hl0]
      simp only [Nat.zero_add]
      rw [List.length_append, hl0] at hi
      by_cases h1 : i < len
      · rw [if_pos h1]
        refine ⟨olds i k, ?_, hone0 i k h1 hk, (hel0 i k h1 hk).mono ext⟩
        have hlt : i * Univ.sz e + k < len * Univ.sz e := by
          have : (i + 1) * Univ.sz e ≤ len * Univ.sz e := Nat.mul_le_mul_right _ h1
          rw [Nat.add_mul, Nat.one_mul] at this
          omega
        simp only [List.getElem?_toArray, cells]
        rw [List.append_assoc, List.getElem?_append_left (by rw [flat_length]; exact hlt)]
        exact flat_get olds h1 hk
      · rw [if_neg h1]
        have h2 : i - len < m.length := by omega
        refine ⟨vs (i - len) k, ?_, hone _ k h2 hk, (hv _ k h2 hk).mono ext⟩
        have hsub : i * Univ.sz e + k = len * Univ.sz e + ((i - len) * Univ.sz e + k) := by
          have : i = len + (i - len) := by omega
          rw [← Nat.add_assoc, ← Nat.add_mul, ← this]
        have hlt : (i - len) * Univ.sz e + k < m.length * Univ.sz e := by
          have : (i - len + 1) * Univ.sz e ≤ m.length * Univ.sz e := Nat.mul_le_mul_right _ h2
          rw [Nat.add_mul, Nat.one_mul] at this
          omega
        simp only [List.getElem?_toArray, cells]
        rw [List.append_assoc, List.getElem?_append_right (by rw [flat_length]; omega), flat_length, hsub, Nat.add_sub_cancel_left, List.getElem?_append_left (by rw [flat_length]; exact hlt)]
        exact flat_get vs h2 hk
    · have hfit : ¬ (Builtin.nextslicecap (len + m.length) c0 * ie.bytes > 281474976710656) := Nat.not_lt.2 (growslice_fits hgt hbytes)
      have hb0 : ie.bytes ≠ 0 := by omega
      have hc1 : Result.ok (flat (Univ.sz e) len olds).toArray w.drew = Result.ok (flat (Univ.sz e) len olds).toArray w.drew := rfl
      simp only [Builtin.append_, Sem.run_bind, List.getElem?_toArray, List.getElem?_cons_zero, List.getElem?_cons_succ, run_underlying hu, run_underlying hu2, Result.andThen_ok, hsz, Builtin.lenOf, Sem.run_pure, Bool.false_eq_true, if_false, Nat.not_le.2 hgt,
        Sem.run_ite, hfit, typeInfo, run_program, hie, hb0, or_self, and_false, run_choose, Question.forced, World.drew_eq, run_askRoom, hfirst0, hfirst1, zeroValue, hz, newRow, run_newObj, World.alloc_eq, Bool.not_false, if_true]
      have hcells : (flat (Univ.sz e) len olds).toArray ++ (flat (Univ.sz e) m.length vs).toArray ++ Builtin.zeroCells z.cells (nc - (len + m.length)) = cells.toArray := by
        apply Array.ext'
        simp [cells]
      show Result.ok (Value.slice (some ⟨w.drew.heap.size, 0, none⟩) (len + m.length) nc) (w.drew.alloc (.cells ((flat (Univ.sz e) len olds).toArray ++ (flat (Univ.sz e) m.length vs).toArray ++ Builtin.zeroCells z.cells (nc - (len + m.length))) e)) = _
      rw [hcells]
      rfl
    · refine .slf (L := ⟨w.heap.size, 0, Univ.sz e, cells.length, len + m.length, true⟩) (if_pos rfl) hnc (fun _ => rfl) (fun _ _ => rfl) hncm (by simp [hcl])
  have ghost : ∀ (A0 : Option Addr) (h' : Heap), HRel w0 F h' n ρ RO w → m = [] → ∃ ρ' zv, Ext ρ RO w ρ' RO w ∧ HRel w0 F ((n, some (.row e [])) :: h') (n + 1) ρ' RO w ∧
      (Builtin.append_ #[t, u] ty #[.slice A0 0 0, .slice A 0 c]).run P w = .ok zv w ∧ VRel ρ' RO w (.slf n) zv := by
    intro A0 h' H' h0
    subst h0
    obtain ⟨ext, fin⟩ := H'.add (w' := w) (.row e []) ⟨0, 0, Univ.sz e, 0, 0, false⟩ H'.frame (fun _ _ => rfl) (Nat.le_refl _) rfl
    refine ⟨_, .slice A0 0 0, ext, fin (.inl ⟨_, rfl, rfl, ⟨rfl, rfl⟩, rfl⟩), ?_, .slf (L := ⟨0, 0, Univ.sz e, 0, 0, false⟩) (if_pos rfl) (Nat.le_refl _) (fun h => absurd rfl h) (fun _ h => by cases h) (by omega) (by simp)⟩
    have hf : (flat (Univ.sz e) 0 vs).toArray = #[] := by simp [flat]
    simp only [List.length_nil] at hfirst
    cases A0 <;> simp only [Builtin.append_, Sem.run_bind, List.getElem?_toArray, List.getElem?_cons_zero, List.getElem?_cons_succ, run_underlying hu, run_underlying hu2, Result.andThen_ok, hsz, Builtin.lenOf, Sem.run_pure, Bool.false_eq_true, if_false,
      Sem.run_ite, Nat.add_zero, Nat.le_refl, if_true, hfirst, hf, Bool.not_false, storeCells]
  have old : ∀ {id off len cap : Nat} {l : List (Den.den e)}, VRel ρ RO w (.sl id off len cap) v → lookH h id = some (.row e l) → off + len ≤ l.length → (len + m.length) * ie.bytes ≤ 140737488355328 →
      ∃ ρ' w' zv, Ext ρ RO w ρ' RO w' ∧ HRel w0 F ((n, some (.row e ((l.drop off).take len ++ m))) :: (id, none) :: h) (n + 1) ρ' RO w' ∧
        (Builtin.append_ #[t, u] ty #[v, .slice A m.length c]).run P w = .ok zv w' ∧ VRel ρ' RO w' (.slf n) zv := by
    intro id off len cap l hx hlk hle hbytes
    have hlt0 : ((l.drop off).take len).length = len := by simp; omega
    obtain ⟨A0, c0, olds, q1, q2, q3, q4, q5⟩ := rowOf_ok (r := ⟨e, (l.drop off).take len⟩) H hx (by
      unfold rowOf
      simp only [hlk, decide_eq_true hle])
    dsimp only at q1 q2 q3 q4 q5
    rw [hlt0] at q1 q2 q3 q4 q5
    subst q1
    have H' : HRel w0 F ((id, none) :: h) n ρ RO w := H.forget (fun i o hi => by rw [lookH_cons] at hi; split at hi <;> first | cases hi | exact hi) (fun i o hi => by rw [lookF_cons] at hi; split at hi <;> first | cases hi | exact hi)
    cases hx with
    | @sl id off len cap c0 L A0 hL hll hcap hA0 h00 hss hmm =>
    by_cases hroom : len + m.length ≤ c0
    · by_cases hc0 : c0 = 0
      · subst hc0
        obtain rfl : len = 0 := by omega
        have hm0 : m = [] := List.length_eq_zero_iff.1 (by omega)
        obtain ⟨ρ', zv, p1, p2, p3, p4⟩ := ghost A0 _ H' hm0
        subst hm0
        exact ⟨ρ', w, zv, p1, by simpa using p2, p3, p4⟩
      · obtain ⟨rfl, hm⟩ := hA0 hc0
        have hsz' : L.sz = Univ.sz e := (H.row hlk hL).1.1
        have hng : ¬ Ghost L (.row e l) := by
          rintro ⟨_, _, e1, ⟨e2, _⟩, e3⟩
          have : 1 * 1 ≤ (off + c0) * L.sz := Nat.mul_le_mul (by omega) (by omega)
          omega
        obtain ⟨y, h1, h2⟩ := H.objs id _ hlk
        rw [hL] at h1; cases h1
        obtain ⟨g1, cs, g3, g4, g5⟩ := (h2.resolve_left hng).rel
        obtain ⟨csl, rfl⟩ : ∃ l : List Value, cs = l.toArray := ⟨cs.toList, by simp⟩
        have hcl : csl.length = L.m := by simpa using g4
        rw [hsz'] at hm
        generalize hbs : L.base + off * Univ.sz e = bs at *
        have hm : bs + c0 * Univ.sz e = L.m := by rw [← hm, ← hbs, Nat.add_mul]; omega
        have hle2 : len * Univ.sz e + m.length * Univ.sz e ≤ c0 * Univ.sz e := by rw [← Nat.add_mul]; exact Nat.mul_le_mul_right _ (by omega)
        have hst := run_storeCells_cells (P := P) L.blk (bs + len * Univ.sz e) (flat (Univ.sz e) m.length vs) 0 w
          (fun j hj => by
            rw [flat_length] at hj
            rw [cell_block g3]
            simp; omega)
          (fun j hj => by simp [World.frozen?, g3]) (one_flat hone)
        simp only [Nat.add_zero] at hst
        obtain ⟨a1, a2, a3, a4, a5, a6, a7⟩ := heap_setCells L.blk e (0, 0) (flat (Univ.sz e) m.length vs) (bs + len * Univ.sz e) w csl g3
        obtain ⟨ext, fin⟩ := H.renew hlk hL hng a3 a4 a5 a6 (Nat.le_of_eq a7.symm) a2 ⟨L.blk, bs, Univ.sz e, L.m, len + m.length, true⟩ rfl rfl
        refine ⟨_, _, .slice (some ⟨L.blk, bs, none⟩) (len + m.length) c0, ext, fin _ rfl ⟨⟨rfl, by simp; omega⟩, _, a1, by simp [sets_length, hcl], fun i c hi hk => ?_⟩, ?_, ?_⟩
        · rw [List.length_append, hlt0] at hi
          simp only [List.getElem?_toArray]
          rw [sets_get, flat_length, elT_app, hlt0]
          by_cases h1 : i < len
          · rw [if_pos h1]
            obtain ⟨v, e1, e3, e2⟩ := g5 (off + i) c (by omega) hk
            have e0 : elT e ((l.drop off).take len) i c = elT e l (off + i) c := elT_cut l off len i c h1
            refine ⟨v, ?_, e3, by rw [e0]; exact e2.mono ext⟩
            have hlt : i * Univ.sz e + c < len * Univ.sz e := by
              have : (i + 1) * Univ.sz e ≤ len * Univ.sz e := Nat.mul_le_mul_right _ h1
              rw [Nat.add_mul, Nat.one_mul] at this
              omega
            rw [if_neg (by omega)]
            have hix : L.base + ((off + i) * Univ.sz e + c) = bs + (i * Univ.sz e + c) := by rw [← hbs, Nat.add_mul]; omega
            rw [hix] at e1
            simpa using e1
          · rw [if_neg h1]
            have h2 : i - len < m.length := by omega
            refine ⟨vs (i - len) c, ?_, hone _ c h2 hk, (hv _ c h2 hk).mono ext⟩
            have hsub0 : i * Univ.sz e + c = len * Univ.sz e + ((i - len) * Univ.sz e + c) := by
              have : i = len + (i - len) := by omega
              rw [← Nat.add_assoc, ← Nat.add_mul, ← this]
            have hsub : bs + (i * Univ.sz e + c) = bs + len * Univ.sz e + ((i - len) * Univ.sz e + c) := by omega
            have hlt : (i - len) * Univ.sz e + c < m.length * Univ.sz e := by
              have : (i - len + 1) * Univ.sz e ≤ m.length * Univ.sz e := Nat.mul_le_mul_right _ h2
              rw [Nat.add_mul, Nat.one_mul] at this
              omega
            rw [hsub, if_pos (by omega), Nat.add_sub_cancel_left]
            exact flat_get vs h2 hk
        · rw [hsz', hbs]
          simp only [Builtin.append_, Sem.run_bind, List.getElem?_toArray, List.getElem?_cons_zero, List.getElem?_cons_succ, run_underlying hu, run_underlying hu2, Result.andThen_ok, hsz, Builtin.lenOf, Sem.run_pure, Bool.false_eq_true, if_false,
            Sem.run_ite, hroom, if_true, hfirst, Bool.not_false, Addr.add_lit, Nat.zero_mul, Nat.add_zero, Nat.zero_add, hst]
        · exact .slf (L := ⟨L.blk, bs, Univ.sz e, L.m, len + m.length, true⟩) (if_pos rfl) hroom (fun _ => rfl) (fun hh => absurd hh hc0) hss (by simpa using hm)
    · exact grow len A0 c0 olds ((l.drop off).take len) _ n hlt0 H' (by omega) (by omega) q3 q4 q5 hbytes
  unfold appTo at e'
  split at e'
  · cases e'
    cases hx
    have hb : m.length * ie.bytes ≤ 140737488355328 := of_decide_eq_true hc
    by_cases h0 : m.length = 0
    · have hm0 := List.length_eq_zero_iff.1 h0
      obtain ⟨ρ', zv, p1, p2, p3, p4⟩ := ghost none _ H hm0
      subst hm0
      exact ⟨ρ', w, zv, _, p1, p2, p3, rfl, p4⟩
    · obtain ⟨ρ', w', zv, p1, p2, p3, p4⟩ := grow 0 none 0 (fun _ _ => undef) [] h n rfl H (by omega) (Nat.le_refl _) (fun h => by omega) (fun i k h => by omega) (fun i k h => by omega) (by rw [Nat.zero_add]; exact hb)
      exact ⟨ρ', w', zv, _, p1, p2, p3, rfl, p4⟩
  · cases e'
    cases hx with
    | zs A0 =>
    have hb : m.length * ie.bytes ≤ 140737488355328 := of_decide_eq_true hc
    by_cases h0 : m.length = 0
    · have hm0 := List.length_eq_zero_iff.1 h0
      obtain ⟨ρ', zv, p1, p2, p3, p4⟩ := ghost A0 _ H hm0
      subst hm0
      exact ⟨ρ', w, zv, _, p1, p2, p3, rfl, p4⟩
    · obtain ⟨ρ', w', zv, p1, p2, p3, p4⟩ := grow 0 A0 0 (fun _ _ => undef) [] h n rfl H (by omega) (Nat.le_refl _) (fun h => by omega) (fun i k h => by omega) (fun i k h => by omega) (by rw [Nat.zero_add]; exact hb)
      exact ⟨ρ', w', zv, _, p1, p2, p3, rfl, p4⟩
  · split at e'
    · rename_i e1 l hlk
      split at e'
      · rename_i q _
        subst q
        cases e'
        have hb : (l.length + m.length) * ie.bytes ≤ 140737488355328 := of_decide_eq_true hc
        obtain ⟨ρ', w', zv, p1, p2, p3, p4⟩ := old (H.unslf hlk hx) hlk (by omega) hb
        rw [List.drop_zero, List.take_length] at p2
        exact ⟨ρ', w', zv, _, p1, p2, p3, rfl, p4⟩
      · cases e'
    · cases e'
  · split at e'
    · rename_i e1 l hlk
      split at e'
      · rename_i q _
        subst q
        cases e'
        have hb := of_decide_eq_true hc
        obtain ⟨ρ', w', zv, p1, p2, p3, p4⟩ := old hx hlk hb.2 hb.1
        rw [← cutO_eq] at p2
        exact ⟨ρ', w', zv, _, p1, p2, p3, rfl, p4⟩
      · cases e'
    · cases e'
  · cases e'
end Go.Eng

end
section
set_option linter.unusedVariables false
set_option linter.unusedSectionVars false
set_option linter.unusedSimpArgs false
namespace Go.Eng
variable [U : Univ]
open Go.RowKit
variable {P : Program} {w0 w : World} {F : Fr} {ρ : Nat → Option Loc} {RO : Nat → Prop} {h : Heap} {n : Nat}
theorem bytes_ok {x : AV} {v : Value} {av : AV} {c : Bool} (H : HRel w0 F h n ρ RO w) (hx : VRel ρ RO w x v) {s t e : TypeId} (hs : P.underlying s = some (.slice e)) (he : P.underlying e = some (.int .u8)) (hd : P.underlying t = some .string)
    (eq : bytesR h x = some (av, c)) (hc : c = true) : ∃ z, (convert s t v).run P w = .ok z w ∧ VRel ρ RO w av z := by
  unfold bytesR at eq
  split at eq
  · rename_i r c' hro
    split at eq
    · rename_i m ms hsz hal
      cases eq
      subst hc
      obtain ⟨A, cp, vs, q1, q2, q3, q4, q5⟩ := rowOf_ok H hx hro
      have hcs := allI_rel hal
      have hlen : r.l.length = (m :: ms).length := by simpa using congrArg List.length hcs
      have hpos : 0 < r.l.length := by rw [hlen]; simp
      obtain ⟨blk, o, rfl, hcell⟩ := q3 hpos
      subst q1
      have hsz1 : Univ.sz r.e = 1 := Nat.eq_of_beq_eq_true hsz
      refine ⟨_, run_convert_bytes_arg w s e hs he blk o _ cp (m :: ms) hlen.symm (fun i hi => ?_) t hd, .str _⟩
      have h1 := hcell i 0 hi (by omega)
      have h5 := q5 i 0 hi (by omega)
      rw [hsz1, Nat.mul_one, Nat.add_zero] at h1
      have h2 := congrArg (fun l => l[i]?) hcs
      simp only [List.getElem?_map, List.getElem?_eq_getElem hi, List.getElem?_eq_getElem (show i < (m :: ms).length by omega), Option.map_some, Option.some.injEq] at h2
      have h3 : elT r.e r.l i 0 = .int .u8 ((m :: ms).getD i 0) := by
        have g1 : r.l.getD i default = r.l[i] := by rw [List.getD_eq_getElem?_getD, List.getElem?_eq_getElem hi]; rfl
        have g2 : (m :: ms).getD i 0 = (m :: ms)[i]'(by omega) := by rw [List.getD_eq_getElem?_getD, List.getElem?_eq_getElem (show i < (m :: ms).length by omega)]; rfl
        unfold elT
        rw [g1, g2]
        exact h2
      rw [h3] at h5
      rw [h1]
      generalize vs i 0 = u at h5
      cases h5
      rfl
    · cases eq
  · cases eq
theorem elT_rep {e : Nat} (x : Den.den e) (k i c : Nat) (hi : i < k) : elT e (List.replicate k x) i c = elT e [x] 0 c := by
  unfold elT
  simp [List.getD_eq_getElem?_getD, List.getElem?_replicate, hi]
theorem append_ok {t u : TypeId} {ty : TypeId} {x y : AV} {v v' : Value} {g : Got} (H : HRel w0 F h n ρ RO w) (hu2 : ∃ e', P.underlying u = some (.slice e')) (hx : VRel ρ RO w x v) (hy : VRel ρ RO w y v')
    (e : appA P h n t x y = some g) (hc : g.cond = true) :
    ∃ ρ' w' zv av, Ext ρ RO w ρ' RO w' ∧ HRel w0 F g.heap g.next ρ' RO w' ∧ (Builtin.append_ #[t, u] ty #[v, v']).run P w = .ok zv w' ∧ g.val = some av ∧ VRel ρ' RO w' av zv := by
  unfold appA at e
  split at e
  · rename_i e' hel
    have hu := elemT_und hel
    split at e
    · rename_i ie hie
      split at e
      · rename_i z hz hs hb
        have hs : Univ.sz e' = ie.size := Nat.eq_of_beq_eq_true hs
        have hb : 1 ≤ ie.bytes := Nat.le_of_ble_eq_true hb
        split at e
        · rename_i m b hzs hmore
          have hzs : z.cells.size = ie.size := Nat.eq_of_beq_eq_true hzs
          split at e
          · rename_i g' hto
            cases e
            simp only [Bool.and_eq_true] at hc
            obtain ⟨hb1, hc⟩ := hc
            subst hb1
            unfold moreA at hmore
            split at hmore
            · cases hmore
              cases hy
              exact app_ok (g := g') H hu hu2 hie hz hzs hs hb hx (A := none) (c := 0) (vs := fun _ _ => undef) rfl (fun h => by simp at h) (fun i k h => by simp at h) (fun i k h => by simp at h) hto hc
            · cases hmore
              cases hy with
              | zs A0 =>
              exact app_ok (g := g') H hu hu2 hie hz hzs hs hb hx (A := A0) (c := 0) (vs := fun _ _ => undef) rfl (fun h => by simp at h) (fun i k h => by simp at h) (fun i k h => by simp at h) hto hc
            · split at hmore
              · rename_i r b' hro
                split at hmore
                · rename_i q _
                  subst q
                  cases hmore
                  obtain ⟨A, c, vs, q1, q2, q3, q4, q5⟩ := rowOf_ok H hy hro
                  exact app_ok (g := g') H hu hu2 hie hz hzs hs hb hx q1 q3 q5 q4 hto hc
                · cases hmore
              · cases hmore
          · cases e
        · cases e
      · cases e
    · cases e
  · cases e
theorem make_ok {t : TypeId} {x y : AV} {v u : Value} {g : Got} (H : HRel w0 F h n ρ RO w) (hx : VRel ρ RO w x v) (hy : VRel ρ RO w y u) (e : makA P h n t x y = some g) (hc : g.cond = true) :
    ∃ ρ' w' zv av, Ext ρ RO w ρ' RO w' ∧ HRel w0 F g.heap g.next ρ' RO w' ∧ (Instr.makeSlice t v u).run P w = .ok zv w' ∧ g.val = some av ∧ VRel ρ' RO w' av zv := by
  unfold makA at e
  split at e
  · rename_i e' a b hel
    have hu := elemT_und hel
    cases hx; cases hy
    split at e
    · rename_i ie hie
      split at e
      · rename_i z hz
        split at e
        · rename_i za hza
          split at e
          · rename_i x hl hbx
            cases e
            simp only [Bool.and_eq_true] at hl
            have hse : Univ.sz e' = ie.size := Nat.eq_of_beq_eq_true hl.2
            have hs : 1 ≤ ie.size := by rw [← hse]; exact Univ.sz_pos e'
            have hl : (cellsA za).length = ie.size := Nat.eq_of_beq_eq_true hl.1
            simp only [Bool.and_eq_true] at hc
            have hab : a = b := by simpa using hc.1
            subst hab
            have hb : 0 ≤ a ∧ a * ie.bytes ≤ 140737488355328 ∧ a ≤ 140737488355328 := of_decide_eq_true hc.2
            have hrun := run_make (P := P) w t e' ie z hu hie hz .i64 .i64 a a hb.1 (Int.le_refl _) (by rw [Int.mul_comm]; omega) (by omega)
            have hcr := cells_rel (ρ := ρ) (RO := RO) (w := w) (constA_rel hza)
            have hco := cells_one (ρ := ρ) (RO := RO) (w := w) (constA_rel hza) (constA_plain hza)
            have hzl : z.cells.size = ie.size := by rw [← hl, hcr.1]; simp
            have ho : ∀ x ∈ (madeCells z.cells (a.toNat * ie.size)).toList, x.oneCell' = true := by
              intro x hx
              simp only [madeCells, Array.toList_map, Array.toList_range] at hx
              obtain ⟨i, hi, rfl⟩ := List.mem_map.1 hx
              have hmod : i % z.cells.size < z.cells.size := Nat.mod_lt _ (by omega)
              refine hco _ ?_
              simp [getElem!_def, Array.getElem?_eq_getElem hmod]
            have hbr := build_rel hbx hcr
            obtain ⟨ρ', e1, e2, e3⟩ := row_new (e := e') (k := a.toNat) (l := List.replicate a.toNat x) H ho (by simp [madeCells, hse]) (by simp) (fun i c hi hcc => by
              have hcl : c < (Univ.cells e' x).length := by rw [Univ.cells_len]; exact hcc
              obtain ⟨q, q1, q2⟩ := hbr.get (List.getElem?_eq_getElem hcl)
              refine ⟨q, ?_, ?_⟩
              · rw [hse] at hcc ⊢
                have hlt : i * ie.size + c < a.toNat * ie.size := by
                  have : (i + 1) * ie.size ≤ a.toNat * ie.size := Nat.mul_le_mul_right _ hi
                  rw [Nat.add_mul, Nat.one_mul] at this
                  omega
                simp only [madeCells, hzl, Array.toList_map, Array.toList_range, List.getElem?_map, List.getElem?_range hlt, Option.map_some]
                rw [Nat.mul_comm, Nat.mul_add_mod, Nat.mod_eq_of_lt hcc]
                simp only [Array.getElem?_toList] at q1
                simp [getElem!_def, q1]
              · rw [elT_rep x _ i c hi]
                unfold elT
                simp only [List.getD_eq_getElem?_getD, List.getElem?_cons_zero, Option.getD_some, List.getElem?_eq_getElem hcl]
                exact q2) (by have := hb.2.2; omega)
            refine ⟨ρ', _, _, _, e1, e2, ?_, rfl, e3⟩
            simpa using hrun
          · cases e
        · cases e
      · cases e
    · cases e
  · cases e
theorem appZ_ok {t u ty : TypeId} {k : IntKind} {a : Int} {g : Got} (H : HRel w0 F h n ρ RO w) (hu2 : P.underlying u = some (.int k)) (e : appZ P h n t a = some g) (hc : g.cond = true) :
    ∃ ρ' w' zv av, Ext ρ RO w ρ' RO w' ∧ HRel w0 F g.heap g.next ρ' RO w' ∧ (Builtin.append_ #[t, u] ty #[.slice none 0 0, .int .i64 a]).run P w = .ok zv w' ∧ g.val = some av ∧ VRel ρ' RO w' av zv := by
  unfold appZ at e
  split at e
  · rename_i e' hel
    have hu := elemT_und hel
    split at e
    · rename_i ie hie
      split at e
      · rename_i z hz
        split at e
        · rename_i za hza
          split at e
          · rename_i x hl hbx hby
            cases e
            simp only [Bool.and_eq_true] at hl
            have hse : Univ.sz e' = ie.size := Nat.eq_of_beq_eq_true hl.2
            have hs : 1 ≤ ie.size := by rw [← hse]; exact Univ.sz_pos e'
            have hby : 1 ≤ ie.bytes := Nat.le_of_ble_eq_true hby
            have hl : (cellsA za).length = ie.size := Nat.eq_of_beq_eq_true hl.1
            have hb : 0 ≤ a ∧ a * ie.bytes ≤ 140737488355328 ∧ a ≤ 140737488355328 := of_decide_eq_true hc
            have hcr := cells_rel (ρ := ρ) (RO := RO) (w := w) (constA_rel hza)
            have hco := cells_one (ρ := ρ) (RO := RO) (w := w) (constA_rel hza) (constA_plain hza)
            have hzl : z.cells.size = ie.size := by rw [← hl, hcr.1]; simp
            have hsz : (sizeOf e').run P w = .ok ie.size w := by simp [sizeOf, typeInfo, hie]
            have hw : IntKind.i64.wrap a = a := by simp [IntKind.wrap, IntKind.bits, IntKind.signed]; omega
            have hneg : ¬ a < 0 := by omega
            have hroom : ¬ (a * (ie.bytes : Int) > 281474976710656) := by omega
            obtain ⟨m, rfl⟩ : ∃ m : Nat, a = (m : Int) := ⟨a.toNat, by omega⟩
            simp only [Int.toNat_natCast]
            by_cases h0 : m = 0
            · subst h0
              obtain ⟨ext, fin⟩ := H.add (w' := w) (.row e' []) ⟨0, 0, Univ.sz e', 0, 0, false⟩ H.frame (fun _ _ => rfl) (Nat.le_refl _) rfl
              refine ⟨_, w, .slice none 0 0, _, ext, fin (.inl ⟨_, rfl, rfl, ⟨rfl, rfl⟩, rfl⟩), ?_, rfl, .slf (L := ⟨0, 0, Univ.sz e', 0, 0, false⟩) (if_pos rfl) (Nat.le_refl _) (fun h => absurd rfl h) (fun _ h => by cases h) (by omega) (by simp)⟩
              have hw0 : IntKind.i64.wrap 0 = 0 := by decide
              simp [Builtin.append_, Sem.run_bind, run_underlying hu, run_underlying hu2, hsz, asInt, asIntOf, hw0, typeInfo, hie]
            · have hbytes : (0 + m) * ie.bytes ≤ 140737488355328 := by
                have h2 : ((m * ie.bytes : Nat) : Int) ≤ 140737488355328 := by rw [Int.natCast_mul]; exact hb.2.1
                rw [Nat.zero_add]
                omega
              have hfit : ¬ (Builtin.nextslicecap (0 + m) 0 * ie.bytes > 281474976710656) := Nat.not_lt.2 (growslice_fits (by omega) hbytes)
              have hgt : 0 < 0 + m := by omega
              obtain ⟨d1, d2⟩ := H.drew
              let nc := (Question.appendCap (0 + m) 0 e').cut (w.tape w.drawn (.appendCap (0 + m) 0 e'))
              have hnc : 0 + m ≤ nc := by simp [nc, Question.cut]
              have hncm : nc ≤ 9223372036854775807 := by
                have h1 : 0 + m ≤ 140737488355328 := Nat.le_trans (Nat.le_mul_of_pos_right _ (by omega)) hbytes
                simp only [nc, Question.cut]
                have := Nat.mod_lt (w.tape w.drawn (.appendCap (0 + m) 0 e')) (show 0 < 2 ^ 63 - (0 + m) by omega)
                omega
              let cells : List Value := (Builtin.zeroCells z.cells m).toList ++ (Builtin.zeroCells z.cells (nc - (0 + m))).toList
              have hcl : cells.length = nc * ie.size := by
                simp only [cells, List.length_append, Array.length_toList, Builtin.zeroCells, Array.size_map, Array.size_range, hzl]
                rw [← Nat.add_mul]
                congr 1
                omega
              obtain ⟨ext, fin⟩ := d2.alloc (.cells cells.toArray e') (.row e' (List.replicate m x)) ie.size cells.length m
              have ext := d1.trans ext
              have hbr := build_rel hbx hcr
              refine ⟨_, _, .slice (some ⟨w.heap.size, 0, none⟩) m nc, _, ext, fin ⟨⟨hse.symm, by simp⟩, cells.toArray, heap_alloc_new w.drew _, by simp, fun i c hi hcc => ?_⟩, ?_, rfl, ?_⟩
              · rw [List.length_replicate] at hi
                have hcl : c < (Univ.cells e' x).length := by rw [Univ.cells_len]; exact hcc
                obtain ⟨q, q1, q2⟩ := hbr.get (List.getElem?_eq_getElem hcl)
                refine ⟨q, ?_, hco q (List.mem_of_getElem? q1), ?_⟩
                · rw [hse] at hcc ⊢
                  have hlt : i * ie.size + c < m * ie.size := by
                    have : (i + 1) * ie.size ≤ m * ie.size := Nat.mul_le_mul_right _ hi
                    rw [Nat.add_mul, Nat.one_mul] at this
                    omega
                  simp only [Nat.zero_add, List.getElem?_toArray, cells]
                  rw [List.getElem?_append_left (by simp [Builtin.zeroCells, hzl, hlt])]
                  simp only [Builtin.zeroCells, hzl, Array.toList_map, Array.toList_range, List.getElem?_map, List.getElem?_range hlt, Option.map_some]
                  rw [Nat.mul_comm, Nat.mul_add_mod, Nat.mod_eq_of_lt hcc]
                  simp only [Array.getElem?_toList] at q1
                  simp [getElem!_def, q1]
                · rw [elT_rep x _ i c hi]
                  unfold elT
                  simp only [List.getD_eq_getElem?_getD, List.getElem?_cons_zero, Option.getD_some, List.getElem?_eq_getElem hcl]
                  exact q2.mono ext
              · have hne : ¬ (m : Int) * (ie.bytes : Int) > 2 ^ 48 := by
                  have := hb.2.1
                  omega
                have hms : m * ie.size ≠ 0 := Nat.mul_ne_zero h0 (by omega)
                have hmax : ¬ (((0 + m : Nat) : Int) > IntKind.i64.max) := by
                  have : IntKind.i64.max = 9223372036854775807 := by decide
                  rw [this]; omega
                have hfirst0 : (Builtin.firstCells ie.size 0 (.slice none 0 0)).run P w.drew = .ok #[] w.drew := by simp [Builtin.firstCells]
                have hb0 : ie.bytes ≠ 0 := by omega
                simp only [Builtin.append_, Sem.run_bind, List.getElem?_toArray, List.getElem?_cons_zero, List.getElem?_cons_succ, run_underlying hu, run_underlying hu2, Result.andThen_ok, hsz, Sem.run_pure, asInt, asIntOf, hw, hneg, if_false, typeInfo, run_program, hie, hne,
                  Int.toNat_natCast, Nat.not_le.2 hgt, Sem.run_ite, hmax, false_and, hfit, run_choose, Question.forced, World.drew_eq, run_askRoom, hfirst0, zeroValue, hz, newRow, run_newObj, World.alloc_eq, Bool.not_true, Bool.false_eq_true, if_true, hms]
                have hcells : #[] ++ Builtin.zeroCells z.cells m ++ Builtin.zeroCells z.cells (nc - (0 + m)) = cells.toArray := by
                  apply Array.ext'
                  simp [cells]
                show Result.ok (Value.slice (some ⟨w.drew.heap.size, 0, none⟩) (0 + m) nc) (w.drew.alloc (.cells (#[] ++ Builtin.zeroCells z.cells m ++ Builtin.zeroCells z.cells (nc - (0 + m))) e')) = _
                rw [hcells, Nat.zero_add]
                rfl
              · refine .slf (L := ⟨w.heap.size, 0, ie.size, cells.length, m, true⟩) (if_pos rfl) (by show m ≤ nc; omega) (fun _ => rfl) (fun _ _ => rfl) hncm (by simp [hcl])
          · cases e
        · cases e
      · cases e
    · cases e
  · cases e
theorem GotOk.mk' {s : Sem Next} {g : Got} {ρ' : Nat → Option Loc} {RO' : Nat → Prop} {w' : World} {av : AV} {v : Value} (e : Ext ρ RO w ρ' RO' w') (H : HRel w0 F g.heap g.next ρ' RO' w') (hg : g.val = some av) (hs : s.run P w = .ok (.value v) w') (hv : VRel ρ' RO' w' av v) : GotOk P w0 F ρ RO w s g :=
  ⟨ρ', RO', w', e, H, by rw [hg]; exact ⟨v, hs, hv⟩⟩
theorem bool_inv {b : Bool} {v : Value} (h : VRel ρ RO w (.bool b) v) : v = .bool b := by cases h; rfl
theorem int_inv {k : IntKind} {b : Int} {v : Value} (h : VRel ρ RO w (.int k b) v) : v = .int k b := by cases h; rfl
theorem str_inv {b : ByteArray} {v : Value} (h : VRel ρ RO w (.str b) v) : v = .string b := by cases h; rfl
theorem agg_inv {l : List AV} {v : Value} (h : VRel ρ RO w (.agg l) v) : ∃ vs : List Value, v = .agg vs.toArray ∧ VRels ρ RO w l vs ∧ ∀ x ∈ vs, x.oneCell' = true := by
  cases h with
  | agg e h1 h => exact ⟨_, rfl, ⟨e, h⟩, h1⟩
theorem tup_inv {l : List AV} {v : Value} (h : VRel ρ RO w (.tup l) v) : ∃ vs : List Value, v = .tuple vs.toArray ∧ VRels ρ RO w l vs := by
  cases h with
  | tup e h => exact ⟨_, rfl, ⟨e, h⟩⟩
theorem map_arr {α β : Type} (f : α → β) (xs : Array α) : xs.map f = (xs.toList.map f).toArray := by apply Array.ext'; simp
theorem ptr_inv {id idx off : Nat} {v : Value} (h : VRel ρ RO w (.ptr id idx off) v) : ∃ A, v = .pointer (some A) := by cases h; exact ⟨_, rfl⟩
theorem dptr_inv {e : Nat} {x : Den.den e} {off : Nat} {v : Value} (h : VRel ρ RO w (.dptr e x off) v) : ∃ A, v = .pointer (some A) := by cases h; exact ⟨_, rfl⟩
theorem step_ok {env : Env} {a : Act} {o : Oper} {g : Got} (H : HRel w0 F h n ρ RO w) (he : ERel ρ RO w env a) (e : stepA P env h n o.op = some g) (hc : g.cond = true) : GotOk P w0 F ρ RO w (execOp a.eval o) g := by
  obtain ⟨dst, op, ty, pos, after, guard⟩ := o
  simp only at e ⊢
  unfold stepA at e
  unfold execOp
  simp only
  split at e
  ·
    refine GotOk.pure H e fun av hav => ⟨_, by simp, evA_rel he hav⟩
  · refine GotOk.pure H e fun av hav => ⟨_, by simp, evA_rel he hav⟩
  ·
    rename_i c x y
    split at e
    · rename_i hcv
      have hb := bool_inv (evA_rel he hcv)
      refine GotOk.pure H e fun av hav => ⟨_, by simp [asBool, hb], evA_rel he hav⟩
    · rename_i hcv
      have hb := bool_inv (evA_rel he hcv)
      refine GotOk.pure H e fun av hav => ⟨_, by simp [asBool, hb], evA_rel he hav⟩
    · cases e
  ·
    rename_i t
    split at e
    · rename_i z hz
      obtain ⟨v, v1, v2⟩ := zeroT_run (P := P) (ρ := ρ) (RO := RO) (w := w) hz
      obtain ⟨ρ', w', e1, e2, e3, av, e4, e5⟩ := box_ok (P := P) H v2 e
      refine GotOk.mk' e1 e2 e4 ?_ e5
      simp only [Instr.alloc, Sem.run_bind, v1, e3, Result.andThen_ok, Sem.run_pure]
    · cases e
  ·
    rename_i t x
    split at e
    · rename_i v hv
      obtain ⟨ρ', w', e1, e2, e3, av, e4, e5⟩ := box_ok (P := P) H (evA_rel he hv) e
      refine GotOk.mk' e1 e2 e4 ?_ e5
      simp only [Instr.box, Sem.run_bind, e3, Result.andThen_ok, Sem.run_pure]
    · cases e
  ·
    rename_i t parts
    split at e
    · rename_i ps hps
      refine GotOk.pure H e fun av hav => ?_
      obtain ⟨u, u1, u2⟩ := build_ok (P := P) (t := t) (vps := parts.map fun (i, x) => (i, a.eval x)) (by simpa using evParts_rel he hps) hav
      exact ⟨u, by simp only [Sem.run_bind, u1, Result.andThen_ok, Sem.run_pure], u2⟩
    · cases e
  ·
    rename_i t len parts
    split at e
    · rename_i ps e' hps hel
      split at e
      · rename_i s hs
        split at e
        · rename_i cells hb hse
          split at e
          · rename_i cs h' c hf
            split at e
            · rename_i l hch
              cases e
              obtain ⟨ρ', RO', w', v, e1, e2, e3, e4⟩ := buildSlice_ok (P := P) (vps := parts.map fun (i, x) => (i, a.eval x)) H (by simpa using evParts_rel he hps) hel hs hb (Nat.eq_of_beq_eq_true hse) hf hc hch
              exact GotOk.mk' e1 e2 rfl (by simp only [Sem.run_bind, e3, Result.andThen_ok, Sem.run_pure]) e4
            · cases e
          · cases e
        · cases e
      · cases e
    · cases e
  ·
    rename_i t x
    split at e
    · rename_i v hv
      obtain ⟨u, av, e1, e2, e3, e4, e5⟩ := lod_ok (P := P) H (evA_rel he hv) e hc
      exact GotOk.mk' (.refl _ _ _) (by rw [e3, e4]; exact H) e2 (by simp only [Sem.run_bind, e1, Result.andThen_ok, Sem.run_pure]) e5
    · cases e
  ·
    rename_i t x y
    split at e
    · rename_i v u hv hu
      obtain ⟨RO', w', e1, e2, e3, e4⟩ := sto_ok (P := P) H (evA_rel he hv) (evA_rel he hu) e hc
      refine ⟨ρ, RO', w', e3, e4, ?_⟩
      rw [e2]
      simp only [Sem.run_bind, e1, Result.andThen_ok, Sem.run_pure]
    · cases e
  ·
    rename_i x
    split at e
    · rename_i id idx off hx
      have hr := evA_rel he hx
      obtain ⟨A, hA⟩ := ptr_inv hr
      refine GotOk.pure H e fun av hav => ?_
      cases hav
      exact ⟨_, by simp [hA], hA ▸ hr⟩
    · rename_i sz c hx
      have hr := evA_rel he hx
      obtain ⟨A, hA⟩ := dptr_inv hr
      refine GotOk.pure H e fun av hav => ?_
      cases hav
      exact ⟨_, by simp [hA], hA ▸ hr⟩
    · cases e
  ·
    rename_i op t x y t2
    split at e
    · rename_i u v hu hv
      refine GotOk.pureC H e hc fun av c hav hcc => ?_
      obtain ⟨z, z1, z2⟩ := bin_ok (P := P) (x := x) (y := y) (evA_rel he hu) (evA_rel he hv) hav hcc
      exact ⟨z, by rw [Sem.run_bind, z1]; simp only [Result.andThen_ok, Sem.run_pure], z2⟩
    · cases e
  ·
    rename_i op t x
    split at e
    · rename_i u hu
      refine GotOk.pure H e fun av hav => ?_
      obtain ⟨z, z1, z2⟩ := un_ok (P := P) (evA_rel he hu) hav
      exact ⟨z, by simp only [Sem.run_bind, z1, Result.andThen_ok, Sem.run_pure], z2⟩
    · cases e
  ·
    rename_i s t x
    split at e
    · rename_i k' b k1 k2 hx h1 h2
      have hr := int_inv (evA_rel he hx)
      refine GotOk.pure H e fun av hav => ?_
      cases hav
      exact ⟨.int k2 (k2.wrap b), by simp [convert, run_underlying h1, run_underlying h2, hr, Conv.intToInt], .int _ _⟩
    · rename_i b hx h1 h2
      have hr := str_inv (evA_rel he hx)
      refine GotOk.pure H e fun av hav => ?_
      cases hav
      exact ⟨.string b, by simp [convert, run_underlying h1, run_underlying h2, hr], .str _⟩
    · rename_i v e' hx h1 h2
      split at e
      · rename_i h3
        refine GotOk.pureC H e hc fun av c hav hcc => ?_
        obtain ⟨z, z1, z2⟩ := bytes_ok (P := P) H (thaw_rel H (evA_rel he hx)) h1 h3 h2 hav hcc
        exact ⟨z, by simp only [Sem.run_bind, z1, Result.andThen_ok, Sem.run_pure], z2⟩
      · cases e
    · cases e
  ·
    rename_i t x
    split at e
    · rename_i v hx hcon
      refine GotOk.pure H e fun av hav => ?_
      cases hav
      exact ⟨_, by simp only [Sem.run_bind, run_makeInterface w t _ hcon, Result.andThen_ok, Sem.run_pure], .iface (evA_rel he hx)⟩
    · cases e
  ·
    rename_i f first cap
    split at e
    · rename_i l1 l2 h1 h2
      refine GotOk.pure H e fun av hav => ?_
      cases hav
      have r1 := evAs_rel he h1
      have r2 := evAs_rel he h2
      refine ⟨.func f (first.toList.map a.eval).toArray (cap.toList.map a.eval).toArray, ?_, .fn r1.1 r2.1 r1.2 r2.2⟩
      simp [Instr.makeFunc, map_arr]
    · cases e
  ·
    rename_i t l c
    split at e
    · rename_i x y hx hy
      obtain ⟨ρ', w', zv, av, e1, e2, e3, e4, e5⟩ := make_ok (P := P) H (evA_rel he hx) (evA_rel he hy) e hc
      exact GotOk.mk' e1 e2 e4 (by simp only [Sem.run_bind, e3, Result.andThen_ok, Sem.run_pure]) e5
    · cases e
  ·
    rename_i t x lo hi
    split at e
    · rename_i v hv
      obtain ⟨z, av, e1, e2, e3, e4, e5⟩ := slice_ok (P := P) H he (thaw_rel H (evA_rel he hv)) e hc
      exact GotOk.mk' (.refl _ _ _) (by rw [e3, e4]; exact H) e2 (by simp only [Option.map_none, Sem.run_bind, e1, Result.andThen_ok, Sem.run_pure]) e5
    · cases e
  ·
    rename_i t x lo hi mx
    split at e
    · rename_i v hv
      have hcc : g.val = g.val := rfl
      obtain ⟨z, av, e1, e2, e3, e4, e5⟩ := sliceZ_ok (P := P) H he (evA_rel he hv) e
      exact GotOk.mk' (.refl _ _ _) (by rw [e3, e4]; exact H) e2 (by simp only [Option.map_some, Sem.run_bind, e1, Result.andThen_ok, Sem.run_pure]) e5
    · cases e
  ·
    rename_i s x f
    split at e
    · rename_i v hv
      refine GotOk.pure H e fun av hav => ?_
      obtain ⟨u, u1, u2⟩ := fld_ok (P := P) (evA_rel he hv) hav
      exact ⟨u, by simp only [Sem.run_bind, u1, Result.andThen_ok, Sem.run_pure], u2⟩
    · cases e
  ·
    rename_i s x f
    split at e
    · rename_i cs fd hx hfd
      obtain ⟨fs, hu, hf⟩ := fieldT_und hfd
      obtain ⟨vs, hv, hr, ho⟩ := agg_inv (evA_rel he hx)
      refine GotOk.pure H e fun av hav => ?_
      obtain ⟨u, u1, u2⟩ := part_ok (P := P) hr ho hav
      refine ⟨u, ?_, u2⟩
      simp [Instr.field, run_underlying hu, hf, hv, asAgg, u1]
    · cases e
  ·
    rename_i t x i
    split at e
    · rename_i v j hv hj
      obtain ⟨z, av, e1, e2, e3, e4, e5⟩ := idx_ok (P := P) H (thaw_rel H (evA_rel he hv)) (evA_rel he hj) e hc
      exact GotOk.mk' (.refl _ _ _) (by rw [e3, e4]; exact H) e2 (by simp only [Sem.run_bind, e1, Result.andThen_ok, Sem.run_pure]) e5
    · cases e
  ·
    rename_i t x i
    split at e
    · rename_i v j hv hj
      refine GotOk.pureC H e hc fun av c hav hcc => ?_
      obtain ⟨z, z1, z2⟩ := idxV_ok (P := P) (evA_rel he hv) (evA_rel he hj) hav hcc
      exact ⟨z, by simp only [Sem.run_bind, z1, Result.andThen_ok, Sem.run_pure], z2⟩
    · cases e
  ·
    rename_i x i
    split at e
    · rename_i l hx
      obtain ⟨vs, hv, hr⟩ := tup_inv (evA_rel he hx)
      refine GotOk.pure H e fun av hav => ?_
      obtain ⟨v, v1, v2⟩ := hr.get hav
      exact ⟨v, by simp [Instr.extract, hv, v1], v2⟩
    · cases e
  ·
    rename_i args ts
    split at e
    · rename_i x t hargs hts
      have ha : args = #[x] := by apply Array.ext'; simp [hargs]
      have ht : ts = #[t] := by apply Array.ext'; simp [hts]
      subst ha; subst ht
      split at e
      · rename_i v hv
        refine GotOk.pure H e fun av hav => ?_
        obtain ⟨z, z1, z2⟩ := len_ok (P := P) (ty := ty) H (thaw_rel H (evA_rel he hv)) hav
        exact ⟨z, by simp [resolve, invoke, builtin, z1], z2⟩
      · cases e
    · cases e
  ·
    rename_i args ts
    split at e
    · rename_i x t hargs hts
      have ha : args = #[x] := by apply Array.ext'; simp [hargs]
      have ht : ts = #[t] := by apply Array.ext'; simp [hts]
      subst ha; subst ht
      split at e
      · rename_i v hv
        refine GotOk.pure H e fun av hav => ?_
        obtain ⟨z, z1, z2⟩ := cap_ok (P := P) (ty := ty) (evA_rel he hv) hav
        exact ⟨z, by simp [resolve, invoke, builtin, z1], z2⟩
      · cases e
    · cases e
  ·
    rename_i args ts
    split at e
    · rename_i x y t u hargs hts
      have ha : args = #[x, y] := by apply Array.ext'; simp [hargs]
      have ht : ts = #[t, u] := by apply Array.ext'; simp [hts]
      subst ha; subst ht
      split at e
      · rename_i v z e2 hv hz hu
        obtain ⟨ρ', w', zv, av, e1, e2, e3, e4, e5⟩ := append_ok (P := P) (ty := ty) H ⟨_, hu⟩ (evA_rel he hv) (thaw_rel H (evA_rel he hz)) e hc
        exact GotOk.mk' e1 e2 e4 (by simp [resolve, invoke, builtin, e3]) e5
      · rename_i b k hv hz hu
        obtain ⟨ρ', w', zv, av, e1, e2, e3, e4, e5⟩ := appZ_ok (P := P) (ty := ty) H hu e hc
        have hev := evA_rel he hv
        have hez := evA_rel he hz
        have q1 : a.eval x = .slice none 0 0 := by generalize a.eval x = q at hev; cases hev; rfl
        have q2 : a.eval y = .int .i64 b := by generalize a.eval y = q at hez; cases hez; rfl
        exact GotOk.mk' e1 e2 e4 (by simp [resolve, invoke, builtin, q1, q2, e3]) e5
      · cases e
    · cases e
  ·
    rename_i args ts
    split at e
    · rename_i l hl
      refine GotOk.pure H e fun av hav => ?_
      have hr := evAs_rel he hl
      obtain ⟨z, z1, z2⟩ := minmax_ok (P := P) (mx := true) (ts := ts) (ty := ty) hr hav
      refine ⟨z, ?_, z2⟩
      simp only [if_true] at z1
      have : (args.map a.eval) = (args.toList.map a.eval).toArray := map_arr _ _
      simp [resolve, invoke, builtin, this, z1]
    · cases e
  ·
    rename_i args ts
    split at e
    · rename_i l hl
      refine GotOk.pure H e fun av hav => ?_
      have hr := evAs_rel he hl
      obtain ⟨z, z1, z2⟩ := minmax_ok (P := P) (mx := false) (ts := ts) (ty := ty) hr hav
      refine ⟨z, ?_, z2⟩
      simp only [Bool.false_eq_true, if_false] at z1
      have : (args.map a.eval) = (args.toList.map a.eval).toArray := map_arr _ _
      simp [resolve, invoke, builtin, this, z1]
    · cases e
  · cases e
end Go.Eng

end
section
set_option linter.unusedVariables false
set_option linter.unusedSectionVars false
set_option linter.unusedSimpArgs false
namespace Go.Eng
variable [U : Univ]
open Go.RowKit
variable {P : Program} {w0 w : World} {F : Fr} {ρ : Nat → Option Loc} {RO : Nat → Prop} {h : Heap} {n : Nat}
def br {R : Type} (b : Bool) (x y : Option R) : Option R := match b with | true => x | false => y
theorem br_true {R : Type} (x y : Option R) : br true x y = x := rfl
theorem br_false {R : Type} (x y : Option R) : br false x y = y := rfl
theorem br_some {R : Type} {b : Bool} {x y : Option R} {r : R} (e : br b x y = some r) : (b = true ∧ x = some r) ∨ (b = false ∧ y = some r) := by
  cases b
  · exact .inr ⟨rfl, e⟩
  · exact .inl ⟨rfl, e⟩
def keyEq : AV → AV → Option Bool
  | .int k a, .int k' b => match decide (k = k') with | true => some (a == b) | false => none
  | .str a, .str b => some (a.toList == b.toList)
  | _, _ => none
def isKeyA : TypeDesc → AV → Bool
  | .int k, .int k' _ => decide (k' = k)
  | .string, .str _ => true
  | _, _ => false
theorem isKey_rel {d : TypeDesc} {a : AV} {v : Value} (hd : isKeyA d a = true) (hv : VRel ρ RO w a v) : MapKept.IsKey d v := by
  unfold isKeyA at hd
  split at hd
  · cases hv; have := of_decide_eq_true hd; exact this
  · cases hv; trivial
  · cases hd
theorem keyEq_rel {d : TypeDesc} {a b : AV} {u v : Value} {c : Bool} (hd : isKeyA d a = true) (h : keyEq a b = some c) (ha : VRel ρ RO w a u) (hb : VRel ρ RO w b v) :
    MapKept.IsKey d u ∧ MapKept.IsKey d v ∧ (c = true ↔ u = v) := by
  have hu := isKey_rel hd ha
  unfold keyEq at h
  split at h
  · split at h
    · rename_i k x k' y hk
      have hk := of_decide_eq_true hk
      subst hk
      cases h
      cases ha; cases hb
      refine ⟨hu, ?_, by simp⟩
      unfold MapKept.IsKey at hu ⊢
      split at hu <;> first | (rename_i q; cases q; done) | skip
      · rename_i q; cases q; exact hu
      · exact hu.elim
    · cases h
  · cases h
    cases ha; cases hb
    refine ⟨hu, ?_, ?_⟩
    · unfold MapKept.IsKey at hu ⊢
      split at hu <;> first | (rename_i q; cases q; done) | trivial
    · rw [beq_iff_eq, ByteArray.toList_eq, ByteArray.toList_eq]
      constructor
      · intro q
        rw [Array.toList_inj] at q
        rename_i x y
        cases x; cases y
        simp_all
      · intro q; cases q; rfl
  · cases h
theorem keyEq_now {d : TypeDesc} {a b : AV} {u v : Value} {c : Bool} (hd : isKeyA d a = true) (h : keyEq a b = some c) (ha : VRel ρ RO w a u) (hb : VRel ρ RO w b v) : Instr.sameNow d u v = some c := by
  obtain ⟨h1, h2, h3⟩ := keyEq_rel hd h ha hb
  obtain ⟨r, r1, r2⟩ := MapKept.sameNow_of_keys h1 h2
  rw [r1]
  congr 1
  cases c <;> cases r <;> simp_all
def Found (es : List (AV × AV)) (ka : AV) (i : Nat) (v : AV) : Prop := ∃ e, es[i]? = some e ∧ keyEq ka e.1 = some true ∧ e.2 = v ∧ ∀ j e', j < i → es[j]? = some e' → keyEq ka e'.1 = some false
def Missed (es : List (AV × AV)) (ka : AV) : Prop := ∀ e ∈ es, keyEq ka e.1 = some false
def EsRel (ρ : Nat → Option Loc) (RO : Nat → Prop) (w : World) (es : List (AV × AV)) (ms : List MapEntry) : Prop :=
  es.length = ms.length ∧ ∀ (i : Nat) (e : AV × AV) (m : MapEntry), es[i]? = some e → ms[i]? = some m → VRel ρ RO w e.1 m.key ∧ VRel ρ RO w e.2 m.val
theorem EsRel.inv_cons {e : AV × AV} {es : List (AV × AV)} {ms : List MapEntry} (h : EsRel ρ RO w (e :: es) ms) : ∃ m t, ms = m :: t ∧ VRel ρ RO w e.1 m.key ∧ VRel ρ RO w e.2 m.val ∧ EsRel ρ RO w es t := by
  obtain ⟨h1, h2⟩ := h
  cases ms with
  | nil => simp at h1
  | cons m t =>
    refine ⟨m, t, rfl, (h2 0 e m rfl rfl).1, (h2 0 e m rfl rfl).2, by simpa using h1, fun i x y e1 e2 => h2 (i + 1) x y (by simpa using e1) (by simpa using e2)⟩
theorem EsRel.inv_nil {ms : List MapEntry} (h : EsRel ρ RO w [] ms) : ms = [] := by
  cases ms with
  | nil => rfl
  | cons m t => have := h.1; simp at this
theorem EsRel.push {es : List (AV × AV)} {ms : List MapEntry} (h : EsRel ρ RO w es ms) {e : AV × AV} {m : MapEntry} (h1 : VRel ρ RO w e.1 m.key) (h2 : VRel ρ RO w e.2 m.val) : EsRel ρ RO w (es ++ [e]) (ms ++ [m]) := by
  refine ⟨by simp [h.1], fun i x y e1 e2 => ?_⟩
  by_cases hi : i < es.length
  · rw [List.getElem?_append_left hi] at e1
    rw [List.getElem?_append_left (by rw [← h.1]; exact hi)] at e2
    exact h.2 i x y e1 e2
  · rw [List.getElem?_append_right (by omega)] at e1
    rw [List.getElem?_append_right (by rw [← h.1]; omega), ← h.1] at e2
    cases hz : i - es.length with
    | zero => rw [hz] at e1 e2; cases e1; cases e2; exact ⟨h1, h2⟩
    | succ j => rw [hz] at e1; simp at e1
theorem EsRel.set {es : List (AV × AV)} {ms : List MapEntry} (h : EsRel ρ RO w es ms) (i : Nat) {e : AV × AV} {m : MapEntry} (h1 : VRel ρ RO w e.1 m.key) (h2 : VRel ρ RO w e.2 m.val) : EsRel ρ RO w (es.set i e) (ms.set i m) := by
  refine ⟨by simp [h.1], fun j x y e1 e2 => ?_⟩
  rw [List.getElem?_set] at e1 e2
  by_cases hi : i = j
  · subst hi
    rw [if_pos rfl] at e1 e2
    split at e1
    · split at e2
      · cases e1; cases e2; exact ⟨h1, h2⟩
      · cases e2
    · cases e1
  · rw [if_neg hi] at e1 e2
    exact h.2 j x y e1 e2
theorem findNow_rel {d : TypeDesc} {ka : AV} {k : Value} (hd : isKeyA d ka = true) (hk : VRel ρ RO w ka k) : ∀ {es : List (AV × AV)} {ms : List MapEntry} (i0 : Nat), EsRel ρ RO w es ms →
    (∀ i v, Found es ka i v → ∃ m, ms[i]? = some m ∧ m.key = k ∧ VRel ρ RO w v m.val ∧ Instr.findNow d k ms i0 = some (some (i0 + i, m.val))) ∧
    (Missed es ka → Instr.findNow d k ms i0 = some none)
  | [], ms, i0, H => by
    rw [H.inv_nil]
    exact ⟨fun i v hf => by obtain ⟨e, he, _⟩ := hf; simp at he, fun _ => rfl⟩
  | e :: es, ms, i0, H => by
    obtain ⟨m, t, rfl, r1, r2, r3⟩ := H.inv_cons
    obtain ⟨ih1, ih2⟩ := findNow_rel hd hk (i0 + 1) r3
    refine ⟨fun i v hf => ?_, fun hm => ?_⟩
    · obtain ⟨e', he, ht, hv, hlt⟩ := hf
      cases i with
      | zero =>
        simp at he; subst he; subst hv
        refine ⟨m, rfl, ((keyEq_rel hd ht hk r1).2.2.1 rfl).symm, r2, ?_⟩
        simp only [Instr.findNow, keyEq_now hd ht hk r1, Nat.add_zero]
      | succ i =>
        have h0 := hlt 0 e (by omega) rfl
        obtain ⟨m', q1, q2, q3, q4⟩ := ih1 i v ⟨e', by simpa using he, ht, hv, fun j x hj hx => hlt (j + 1) x (by omega) (by simpa using hx)⟩
        refine ⟨m', by simpa using q1, q2, q3, ?_⟩
        simp only [Instr.findNow, keyEq_now hd h0 hk r1, q4]
        congr 3; omega
    · have h0 := hm e (by simp)
      simp only [Instr.findNow, keyEq_now hd h0 hk r1]
      exact ih2 fun x hx => hm x (by simp [hx])
def okV (ok : Bool) (v : AV) (b : Bool) : AV := match ok with | true => .tup [v, .bool b] | false => v
def mapOf (h : Heap) : AV → Option (List (AV × AV))
  | .map id => match lookH h id with | some (.map es) => some es | _ => none
  | .nilm => some []
  | _ => none
def isIfc : TypeDesc → Bool
  | .interface _ => true
  | _ => false
def CStep (P : Program) (env : Env) (h : Heap) (n : Nat) (op : Op) (v : Option AV) (h' : Heap) (n' : Nat) : Prop := match op with
  | .makeMap t r => (∃ a b, P.underlying t = some (.map a b)) ∧ (∀ x, r = some x → ∃ k i, evA env x = some (.int k i)) ∧ v = some (.map n) ∧ h' = (n, some (.map [])) :: h ∧ n' = n + 1
  | .lookup t x k ok => ∃ kt et d a es ka, P.underlying t = some (.map kt et) ∧ P.underlying kt = some d ∧ evA env x = some a ∧ mapOf h a = some es ∧ evA env k = some ka ∧ isKeyA d ka = true ∧ h' = h ∧ n' = n ∧
      ((∃ i u, Found es ka i u ∧ v = some (okV ok u true)) ∨ (Missed es ka ∧ ∃ z, zeroT P et = some z ∧ v = some (okV ok z false)))
  | .mapUpdate t x k y | .insert t x k y => ∃ kt et d id es ka va es', P.underlying t = some (.map kt et) ∧ P.underlying kt = some d ∧ evA env x = some (.map id) ∧ lookH h id = some (.map es) ∧ evA env k = some ka ∧ isKeyA d ka = true ∧
      evA env y = some va ∧ v = none ∧ n' = n ∧ h' = (id, some (.map es')) :: h ∧ ((∃ i u, Found es ka i u ∧ es' = es.set i (ka, va)) ∨ (Missed es ka ∧ es' = es ++ [(ka, va)]))
  | .typeAssert x xt at_ ok => (∃ d, P.underlying at_ = some d ∧ isIfc d = false) ∧ h' = h ∧ n' = n ∧
      ((evA env x = some .nili ∧ ok = true ∧ ∃ z, zeroT P at_ = some z ∧ v = some (.tup [z, .bool false])) ∨
       (∃ t u, evA env x = some (.iface t u) ∧ ((t = at_ ∧ v = some (okV ok u true)) ∨ (t ≠ at_ ∧ ok = true ∧ ∃ z, zeroT P at_ = some z ∧ v = some (.tup [z, .bool false])))))
  | _ => False
theorem mapOf_ok {a : AV} {x : Value} {es : List (AV × AV)} (H : HRel w0 F h n ρ RO w) (hx : VRel ρ RO w a x) (e : mapOf h a = some es) :
    (x = .map none ∧ es = []) ∨ ∃ b ms clock, x = .map (some b) ∧ w.heap[b]? = some (.map (List.toArray ms) clock) ∧ EsRel ρ RO w es ms := by
  unfold mapOf at e
  split at e
  · split at e
    · rename_i id es' hl
      cases e
      cases hx with
      | @map _ L hL =>
      obtain ⟨ms, clock, g1, g2, _, _, g3⟩ := H.mapO hl hL
      exact .inr ⟨_, ms, clock, rfl, g1, g2, g3⟩
    · cases e
  · cases e
    cases hx
    exact .inl ⟨rfl, rfl⟩
  · cases e
theorem okV_rel {ok b : Bool} {a : AV} {v : Value} (hv : VRel ρ RO w a v) : VRel ρ RO w (okV ok a b) (if ok then .tuple #[v, .bool b] else v) := by
  cases ok
  · exact hv
  · have : VRels ρ RO w [a, .bool b] [v, .bool b] := .cons hv (.cons (.bool b) .nil)
    exact .tup (vs := [v, .bool b]) this.1 this.2
theorem cstep_ok {env : Env} {a : Act} {o : Oper} {v : Option AV} {h' : Heap} {n' : Nat} (H : HRel w0 F h n ρ RO w) (he : ERel ρ RO w env a) (e : CStep P env h n o.op v h' n') : GotOk P w0 F ρ RO w (execOp a.eval o) ⟨v, h', n', true⟩ := by
  obtain ⟨dst, op, ty, pos, after, guard⟩ := o
  simp only at e ⊢
  have upd : ∀ (t : TypeId) (x k y : Operand), (∃ kt et d id es ka va es', P.underlying t = some (.map kt et) ∧ P.underlying kt = some d ∧ evA env x = some (.map id) ∧ lookH h id = some (.map es) ∧ evA env k = some ka ∧ isKeyA d ka = true ∧
      evA env y = some va ∧ v = none ∧ n' = n ∧ h' = (id, some (.map es')) :: h ∧ ((∃ i u, Found es ka i u ∧ es' = es.set i (ka, va)) ∨ (Missed es ka ∧ es' = es ++ [(ka, va)]))) →
      GotOk P w0 F ρ RO w (do Instr.mapUpdate t (a.eval x) (a.eval k) (a.eval y); pure .skip) ⟨v, h', n', true⟩ := by
    rintro t x k y ⟨kt, et, d, id, es, ka, va, es', ht, hkt, hx, hl, hk, hkey, hy, rfl, rfl, rfl, hes⟩
    have rx := evA_rel he hx
    have rk := evA_rel he hk
    have ry := evA_rel he hy
    generalize a.eval x = xv at rx ⊢
    cases rx with
    | @map _ L hL =>
    obtain ⟨ms, clock, g1, g2, gb, gn, g3⟩ := H.mapO hl hL
    have hes0 : EsRel ρ RO w es ms := ⟨g2, g3⟩
    obtain ⟨f1, f2⟩ := findNow_rel hkey rk 0 hes0
    have hik : MapKept.IsKey d (a.eval k) := isKey_rel hkey rk
    have hlt : L.blk < w.heap.size := (Array.getElem?_eq_some_iff.1 g1).1
    have set_same : ∀ (o : Obj) (k : Nat), k ≠ L.blk → (w.heap.setIfInBounds L.blk o)[k]? = w.heap[k]? := fun o k hk => Array.getElem?_setIfInBounds_ne (Ne.symm hk)
    rcases hes with ⟨i, u, hf, rfl⟩ | ⟨hm, rfl⟩
    · obtain ⟨m, m1, m2, m3, m4⟩ := f1 i u hf
      let w' : World := { w with heap := w.heap.setIfInBounds L.blk (.map (List.toArray (ms.set i { m with key := a.eval k, val := a.eval y })) clock) }
      obtain ⟨ext, fin⟩ := H.turn (w' := w') hl hL not_ghost_map rfl rfl rfl (by simp [w']) (Nat.le_refl _) (set_same _)
      refine ⟨ρ, RO, w', ext, fin (.map (es.set i (ka, va))) rfl ⟨ms.set i { m with key := a.eval k, val := a.eval y }, clock, by simp [w', hlt], by simp [g2], ?_, ?_, ?_⟩, ?_⟩
      · intro x hx
        rcases List.mem_or_eq_of_mem_set hx with q | rfl
        · exact gb x q
        · exact gb m (List.mem_of_getElem? m1)
      · rw [List.map_set]
        have : (List.map (fun x => x.born) ms).set i m.born = List.map (fun x => x.born) ms := by
          apply List.ext_getElem?
          intro j
          rw [List.getElem?_set]
          split
          · rename_i q; subst q
            obtain ⟨g, hg⟩ := List.getElem?_eq_some_iff.1 m1
            simp [g, hg]
          · rfl
        rw [this]; exact gn
      · have q := (hes0.set i (e := (ka, va)) (m := { m with key := a.eval k, val := a.eval y }) rk ry).2
        exact fun i e m e1 e2 => ⟨(q i e m e1 e2).1.mono ext, (q i e m e1 e2).2.mono ext⟩
      · have hmod : (List.toArray ms).modify i (fun e => { e with key := a.eval k, val := a.eval y }) = List.toArray (ms.set i { m with key := a.eval k, val := a.eval y }) := by
          apply Array.ext'
          rw [Array.toList_modify]
          apply List.ext_getElem?
          intro j
          rw [List.getElem?_modify, List.getElem?_set]
          by_cases q : i = j
          · subst q
            obtain ⟨g, hg⟩ := List.getElem?_eq_some_iff.1 m1
            simp [g, hg]
          · simp [q]
        have hst := MapKept.run_keyThatStays (P := P) (w := w) hik
        simp only [Instr.mapUpdate, Sem.run_bind, run_underlying ht, MapKept.run_getObj_map g1, MapKept.run_checkKey hkt hik, MapKept.run_findKey hkt m4, Result.andThen_ok, Nat.zero_add, List.getElem?_toArray, m1, Option.map_some, Option.getD_some, m2, hst, hmod, MapKept.run_setObj_map _ g1, Sem.run_pure]
        rfl
    · have m4 := f2 hm
      let w' : World := { w with heap := w.heap.setIfInBounds L.blk (.map (List.toArray (ms ++ [{ key := a.eval k, val := a.eval y, born := clock }])) (clock + 1)) }
      obtain ⟨ext, fin⟩ := H.turn (w' := w') hl hL not_ghost_map rfl rfl rfl (by simp [w']) (Nat.le_refl _) (set_same _)
      refine ⟨ρ, RO, w', ext, fin (.map (es ++ [(ka, va)])) rfl ⟨ms ++ [{ key := a.eval k, val := a.eval y, born := clock }], clock + 1, by simp [w', hlt], by simp [g2], ?_, ?_, ?_⟩, ?_⟩
      · intro x hx
        rcases List.mem_append.1 hx with q | q
        · have := gb x q; omega
        · simp only [List.mem_singleton] at q; subst q; simp
      · rw [List.map_append, List.nodup_append]
        refine ⟨gn, by simp, fun x hx y hy => ?_⟩
        obtain ⟨z, hz, rfl⟩ := List.mem_map.1 hx
        simp at hy; subst hy
        have := gb z hz; omega
      · have q := (hes0.push (e := (ka, va)) (m := { key := a.eval k, val := a.eval y, born := clock }) rk ry).2
        exact fun i e m e1 e2 => ⟨(q i e m e1 e2).1.mono ext, (q i e m e1 e2).2.mono ext⟩
      · have hpush : (List.toArray ms).push { key := a.eval k, val := a.eval y, born := clock } = List.toArray (ms ++ [{ key := a.eval k, val := a.eval y, born := clock }]) := by simp
        simp only [Instr.mapUpdate, Sem.run_bind, run_underlying ht, MapKept.run_getObj_map g1, MapKept.run_checkKey hkt hik, MapKept.run_findKey hkt m4, Result.andThen_ok, hpush, MapKept.run_setObj_map _ g1, Sem.run_pure]
        rfl
  unfold CStep at e
  split at e
  ·
    rename_i t r
    obtain ⟨⟨ka, kb, ht⟩, hr, rfl, rfl, rfl⟩ := e
    obtain ⟨ext, fin⟩ := H.alloc (.map #[] 0) (.map []) 0 0 0
    refine ⟨_, RO, _, ext, fin ⟨[], 0, ?_, rfl, by simp, by simp, fun i e m e1 => by simp at e1⟩, .map (some w.heap.size), ?_, .map (L := ⟨w.heap.size, 0, 0, 0, 0, true⟩) (if_pos rfl)⟩
    · show (w.heap.push (.map #[] 0))[w.heap.size]? = _
      simp
    cases r with
    | none => simp [execOp, Instr.makeMap, Sem.run_bind, run_newObj]
    | some x =>
      obtain ⟨k, i, hi⟩ := hr x rfl
      have := int_inv (evA_rel he hi)
      simp [execOp, Instr.makeMap, Sem.run_bind, run_newObj, run_underlying ht, asInt, asIntOf, this]
  ·
    rename_i t x k ok
    obtain ⟨kt, et, d, xa, es, ka, ht, hkt, hx, hm, hk, hkey, rfl, rfl, hes⟩ := e
    have rx := evA_rel he hx
    have rk := evA_rel he hk
    have hik : MapKept.IsKey d (a.eval k) := isKey_rel hkey rk
    have fin : ∀ (ms : List MapEntry) (w1 : World), EsRel ρ RO w es ms →
        (∀ r, Instr.findNow d (a.eval k) ms 0 = some r → (Instr.lookup t (a.eval x) (a.eval k) ok).run P w = (do
          let (v, b) ← (match r with
            | some (_, v) => pure (v, true)
            | none => do pure (← zeroValue et, false) : Sem (Value × Bool))
          pure (if ok then .tuple #[v, .bool b] else v) : Sem Value).run P w) → GotOk P w0 F ρ RO w (do pure (.value (← Instr.lookup t (a.eval x) (a.eval k) ok))) ⟨v, h', n', true⟩ := by
      intro ms _ hms hrun
      obtain ⟨f1, f2⟩ := findNow_rel hkey rk 0 hms
      rcases hes with ⟨i, u, hf, rfl⟩ | ⟨hmiss, z, hz, rfl⟩
      · obtain ⟨m, m1, m2, m3, m4⟩ := f1 i u hf
        refine ⟨ρ, RO, w, .refl _ _ _, H, _, ?_, okV_rel m3⟩
        rw [Sem.run_bind, hrun _ m4]
        simp
      · obtain ⟨zv, z1, z2⟩ := zeroT_run (P := P) (ρ := ρ) (RO := RO) (w := w) hz
        refine ⟨ρ, RO, w, .refl _ _ _, H, _, ?_, okV_rel z2⟩
        rw [Sem.run_bind, hrun _ (f2 hmiss)]
        simp [z1]
    rcases mapOf_ok H rx hm with ⟨hxv, rfl⟩ | ⟨b, ms, clock, hxv, g1, g2⟩
    · refine fin [] w ⟨rfl, fun i e m e1 => by simp at e1⟩ fun r hr => ?_
      rw [hxv]
      simp only [Instr.lookup, Sem.run_bind, run_underlying ht, Result.andThen_ok, Sem.run_pure, MapKept.run_checkKey hkt hik, MapKept.run_findKey hkt hr]
      cases r
      · simp; cases (zeroValue et).run P w <;> simp [Result.andThen]
      · simp
    · refine fin ms w g2 fun r hr => ?_
      rw [hxv]
      simp only [Instr.lookup, Sem.run_bind, run_underlying ht, Result.andThen_ok, Sem.run_pure, MapKept.run_getObj_map g1, MapKept.run_checkKey hkt hik, MapKept.run_findKey hkt hr]
      cases r
      · simp; cases (zeroValue et).run P w <;> simp [Result.andThen]
      · simp
  · exact upd _ _ _ _ e
  · exact upd _ _ _ _ e
  ·
    rename_i x xt at_ ok
    obtain ⟨⟨d, hd, hi⟩, rfl, rfl, hes⟩ := e
    have miss : ∀ {z : AV} (s : Sem Value), zeroT P at_ = some z → (∀ zv, (zeroValue at_).run P w = .ok zv w → s.run P w = .ok (.tuple #[zv, .bool false]) w) → GotOk P w0 F ρ RO w (do pure (.value (← s))) ⟨some (.tup [z, .bool false]), h', n', true⟩ := by
      intro z s hz hs
      obtain ⟨zv, z1, z2⟩ := zeroT_run (P := P) (ρ := ρ) (RO := RO) (w := w) hz
      refine ⟨ρ, RO, w, .refl _ _ _, H, .tuple #[zv, .bool false], by rw [Sem.run_bind, hs zv z1]; rfl, ?_⟩
      have : VRels ρ RO w [z, .bool false] [zv, .bool false] := .cons z2 (.cons (.bool _) .nil)
      exact .tup (vs := [zv, .bool false]) this.1 this.2
    rcases hes with ⟨hx, rfl, z, hz, rfl⟩ | ⟨t, u, hx, hes⟩
    · have rx := evA_rel he hx
      have hxv : a.eval x = .nilIface := by
        generalize a.eval x = xv at rx
        cases rx; rfl
      refine miss _ hz fun zv hzv => ?_
      rw [hxv]
      simp only [Instr.typeAssert, Sem.run_bind, run_underlying hd, Result.andThen_ok]
      cases d <;> first | (simp [isIfc] at hi; done) | simp [hzv]
    · have rx := evA_rel he hx
      have : ∃ uv, a.eval x = .iface t uv ∧ VRel ρ RO w u uv := by
        generalize a.eval x = xv at rx
        cases rx with
        | iface h => exact ⟨_, rfl, h⟩
      obtain ⟨uv, hxv, hu⟩ := this
      rcases hes with ⟨rfl, rfl⟩ | ⟨hne, rfl, z, hz, rfl⟩
      · refine ⟨ρ, RO, w, .refl _ _ _, H, _, ?_, okV_rel hu⟩
        simp only [execOp, hxv, Instr.typeAssert, Sem.run_bind, run_underlying hd, Result.andThen_ok]
        cases d <;> first | (simp [isIfc] at hi; done) | simp
      · refine miss _ hz fun zv hzv => ?_
        rw [hxv]
        simp only [Instr.typeAssert, Sem.run_bind, run_underlying hd, Result.andThen_ok]
        cases d <;> first | (simp [isIfc] at hi; done) | simp [hzv, hne]
  · exact e.elim
end Go.Eng

end
section
set_option linter.unusedVariables false
set_option linter.unusedSectionVars false
set_option linter.unusedSimpArgs false
namespace Go.Eng
variable [U : Univ]
open Go.RowKit
inductive AEnd where
  | ret (v : AV)
  | pan (v : AV)
inductive AExit where
  | normal
  | exit (id : Nat)
  | goto (l : Nat)
  | ret
  | panic (v : AV)
abbrev CallF := (R : Type) → FuncId → List AV → Heap → Nat → (AEnd → Heap → Nat → Option R) → Option R
abbrev KX (R : Type) := AExit → Env → Heap → Nat → Option R
abbrev KN (R : Type) := Env → Heap → Nat → Option R
def lostA (env : Env) : Option Tmp → Env
  | some t => (t, some (.tup [])) :: env
  | none => env
def putA (env : Env) : Option Tmp → Option AV → Option Env
  | some t, some v => some ((t, some v) :: env)
  | none, _ => some env
  | some _, none => none
def calleeA (env : Env) : Callee → Option (FuncId × List AV × List AV)
  | .value f => match evA env f with
    | some (.fn (.func k) first cap) => some (k, first, cap)
    | _ => none
  | _ => none
def wantedA (ops : Array Oper) (env : Env) (o : Oper) : Option Bool := match o.guard with
  | none => some true
  | some (g, want) => match ((ops[g]?).bind (·.dst)) with
    | some t => match lookE env t with
      | some (.bool true) => some want
      | some (.bool false) => some (!want)
      | some (.tup _) => some false
      | _ => none
    | none => none
def guardsOf : List Oper → List Nat
  | [] => []
  | o :: l => match o.guard with | some (k, _) => k :: guardsOf l | none => guardsOf l
def memG (j : Nat) : List Nat → Bool
  | [] => false
  | k :: l => match Nat.beq k j with | true => true | false => memG j l
def evPut {R : Type} (g : Bool) (dst : Option Tmp) (v : Option AV) (env : Env) (k : Env → Option R) : Option R :=
  match g with
  | false => match putA env dst v with | some e => k e | none => none
  | true => match v with
    | some (.bool b) => br b (match putA env dst (some (.bool true)) with | some e => k e | none => none) (match putA env dst (some (.bool false)) with | some e => k e | none => none)
    | _ => none
def findC {R : Type} (ka : AV) : List (AV × AV) → Nat → (Nat → AV → Option R) → Option R → Option R
  | [], _, _, miss => miss
  | e :: r, i, hit, miss => match keyEq ka e.1 with | some b => br b (hit i e.2) (findC ka r (i + 1) hit miss) | none => none
def isC : Op → Bool
  | .makeMap _ _ | .lookup _ _ _ _ | .mapUpdate _ _ _ _ | .insert _ _ _ _ | .typeAssert _ _ _ _ => true
  | _ => false
def evUpd {R : Type} (P : Program) (env : Env) (h : Heap) (n : Nat) (t : TypeId) (x k y : Operand) (K : Option AV → Heap → Nat → Option R) : Option R :=
  match P.underlying t, evA env x, evA env k, evA env y with
  | some (.map kt _), some (.map id), some ka, some va => (match P.underlying kt, lookH h id with
    | some d, some (.map es) => (match isKeyA d ka with
      | true => findC ka es 0 (fun i _ => K none ((id, some (.map (es.set i (ka, va)))) :: h) n) (K none ((id, some (.map (es ++ [(ka, va)]))) :: h) n)
      | false => none)
    | _, _ => none)
  | _, _, _, _ => none
def evM {R : Type} (P : Program) (env : Env) (h : Heap) (n : Nat) (op : Op) (K : Option AV → Heap → Nat → Option R) : Option R := match op with
  | .makeMap t r => (match P.underlying t, (match r with | none => true | some x => match evA env x with | some (.int _ _) => true | _ => false) with
    | some (.map _ _), true => K (some (.map n)) ((n, some (.map [])) :: h) (n + 1)
    | _, _ => none)
  | .lookup t x k ok => (match P.underlying t, evA env x, evA env k with
    | some (.map kt et), some a, some ka => (match P.underlying kt, mapOf h a with
      | some d, some es => (match isKeyA d ka with
        | true => findC ka es 0 (fun _ u => K (some (okV ok u true)) h n) (match zeroT P et with | some z => K (some (okV ok z false)) h n | none => none)
        | false => none)
      | _, _ => none)
    | _, _, _ => none)
  | .mapUpdate t x k y => evUpd P env h n t x k y K
  | .insert t x k y => evUpd P env h n t x k y K
  | .typeAssert x _ at_ ok => (match P.underlying at_ with
    | some d => (match isIfc d, evA env x with
      | false, some .nili => (match ok, zeroT P at_ with | true, some z => K (some (.tup [z, .bool false])) h n | _, _ => none)
      | false, some (.iface t u) => (match Nat.beq t at_ with
        | true => K (some (okV ok u true)) h n
        | false => (match ok, zeroT P at_ with | true, some z => K (some (.tup [z, .bool false])) h n | _, _ => none))
      | _, _ => none)
    | none => none)
  | _ => none
def evOp {R : Type} (P : Program) (cf : CallF) (g : Bool) (o : Oper) (env : Env) (h : Heap) (n : Nat) (k : KN R) (kp : AV → Heap → Nat → Option R) : Option R :=
  match o.op with
  | .call { callee := .value f, args := args, argTypes := _ } =>
    match calleeA env (.value f), evAs env args.toList with
    | some (c, first, cap), some l => cf R c (first ++ l ++ cap) h n fun out h' n' => match out with
      | .ret v => evPut g o.dst (some v) env fun e => k e h' n'
      | .pan v => kp v h' n'
    | _, _ => none
  | .panic x => match evA env x with
    | some (.iface t v) => kp (.iface t v) h n
    | _ => none
  | op => match isC op with
    | true => evM P env h n op fun v h' n' => evPut g o.dst v env fun e => k e h' n'
    | false => match stepA P env h n op with
      | some r => br r.cond (evPut g o.dst r.val env fun e => k e r.heap r.next) none
      | none => none
def evOps {R : Type} (P : Program) (N : Nat) (cf : CallF) (ops : Array Oper) (gs : List Nat) : List Oper → Nat → Env → Heap → Nat → KX R → Option R
  | [], _, env, h, n, K => K .normal env h n
  | o :: rest, j, env, h, n, K =>
    match (match o.dst with | some t => Nat.blt t N | none => true), wantedA ops env o with
    | true, some false => evOps P N cf ops gs rest (j + 1) (lostA env o.dst) h n K
    | true, some true => evOp P cf (memG j gs) o env h n (fun e h n => evOps P N cf ops gs rest (j + 1) e h n K) (fun v h n => K (.panic v) env h n)
    | _, _ => none
variable {P : Program} {w0 w : World} {F : Fr} {ρ : Nat → Option Loc} {RO : Nat → Prop} {h : Heap} {n : Nat}
def EndRel (ρ : Nat → Option Loc) (RO : Nat → Prop) (w : World) : AEnd → Ending → Prop
  | .ret a, e => ∃ v, e = .returned v ∧ VRel ρ RO w a v
  | .pan a, e => ∃ v, e = .panicked [{ v, recovered := false }] ∧ VRel ρ RO w a v
def CallOk (P : Program) (k : FuncId) (args : List AV) (h : Heap) (n : Nat) (out : AEnd) (h' : Heap) (n' : Nat) : Prop :=
  (∃ fn, P.funcs[k]? = some fn ∧ fn.body.isSome = true) ∧
  ∀ (w0 : World) (F : Fr) (ρ : Nat → Option Loc) (RO : Nat → Prop) (w : World) (vs : List Value), HRel w0 F h n ρ RO w → VRels ρ RO w args vs →
    Calls P k vs.toArray w fun e w' => ∃ ρ' RO', Ext ρ RO w ρ' RO' w' ∧ HRel w0 F h' n' ρ' RO' w' ∧ EndRel ρ' RO' w' out e
def CfOk (P : Program) (cf : CallF) : Prop :=
  ∀ (R : Type) k args h n (K : AEnd → Heap → Nat → Option R) r, cf R k args h n K = some r → ∃ out u n', CallOk P k args h n out (u ++ h) n' ∧ K out (u ++ h) n' = some r
def NoNum (P : Program) : Prop := ∀ (k : Nat) (fn : Func), P.funcs[k]? = some fn → fn.body.isSome = true → (fn.name == "runtime.NumGoroutine") = false
theorem lookE_cons (k : Nat) (v : Option AV) (r : Env) (t : Nat) : lookE ((k, v) :: r) t = if k = t then v else lookE r t := by
  unfold lookE
  rw [look_cons]
  by_cases e : k = t
  · simp only [e, if_true]; cases v <;> rfl
  · simp only [e, if_false]
structure ARel (N : Nat) (D : List Deferred) (ρ : Nat → Option Loc) (RO : Nat → Prop) (w : World) (env : Env) (a : Act) : Prop where
  size : a.tmps.size = N
  defers : a.defers = D
  env : ERel ρ RO w env a
theorem ARel.mono {N : Nat} {D : List Deferred} {ρ' : Nat → Option Loc} {RO' : Nat → Prop} {w' : World} {env : Env} {a : Act} (e : Ext ρ RO w ρ' RO' w') (H : ARel N D ρ RO w env a) : ARel N D ρ' RO' w' env a := ⟨H.size, H.defers, H.env.mono e⟩
theorem ARel.put {N : Nat} {D : List Deferred} {env env' : Env} {a : Act} {d : Option Tmp} {v : Option AV} {u : Value} (H : ARel N D ρ RO w env a) (hd : (match d with | some t => Nat.blt t N | none => true) = true) (e : putA env d v = some env')
    (hv : ∀ av, v = some av → VRel ρ RO w av u) : ARel N D ρ RO w env' (a.put d u) := by
  cases d with
  | none => simp only [putA] at e; cases e; exact H
  | some t =>
    cases v with
    | none => simp only [putA] at e; cases e
    | some av =>
      simp only [putA] at e
      cases e
      have ht : t < N := by
        have : (t + 1).ble N = true := hd
        exact Nat.le_of_ble_eq_true this
      refine ⟨by simp [Act.put, H.size], H.defers, fun t' v' hl => ?_⟩
      rw [lookE_cons] at hl
      by_cases htt : t = t'
      · subst htt
        simp only [if_true] at hl
        cases hl
        have : (a.put (some t) u).tmps.getD t undef = u := by
          simp only [Act.put, Array.getD_eq_getD_getElem?]
          rw [Array.getElem?_setIfInBounds_self_of_lt (by rw [H.size]; exact ht)]
          rfl
        rw [this]
        exact hv _ rfl
      · rw [if_neg htt] at hl
        have : (a.put (some t) u).tmps.getD t' undef = a.tmps.getD t' undef := by
          simp only [Act.put, Array.getD_eq_getD_getElem?]
          rw [Array.getElem?_setIfInBounds_ne htt]
        rw [this]
        exact H.env _ _ hl
theorem ARel.lost {N : Nat} {D : List Deferred} {env : Env} {a : Act} {d : Option Tmp} (H : ARel N D ρ RO w env a) : ARel N D ρ RO w (lostA env d) (a.put d undef) := by
  cases d with
  | none => exact H
  | some t =>
    refine ⟨by simp [Act.put, H.size], H.defers, fun t' v' hl => ?_⟩
    simp only [lostA] at hl
    rw [lookE_cons] at hl
    by_cases htt : t = t'
    · subst htt
      simp only [if_true] at hl
      cases hl
      have : (a.put (some t) undef).tmps.getD t undef = undef := by
        simp only [Act.put, Array.getD_eq_getD_getElem?, Array.getElem?_setIfInBounds]
        split
        · split <;> rfl
        · rename_i hh; exact absurd trivial hh
      rw [this]
      exact .tup (vs := []) rfl (fun i a v h => by simp at h)
    · rw [if_neg htt] at hl
      have : (a.put (some t) undef).tmps.getD t' undef = a.tmps.getD t' undef := by
        simp only [Act.put, Array.getD_eq_getD_getElem?]
        rw [Array.getElem?_setIfInBounds_ne htt]
      rw [this]
      exact H.env _ _ hl
def XRel (ρ : Nat → Option Loc) (RO : Nat → Prop) (w : World) : AExit → Exit → Prop
  | .normal, e => e = .normal
  | .exit id, e => e = .exit id
  | .goto l, e => e = .goto l
  | .ret, e => e = .ret
  | .panic a, e => ∃ v, e = .panic [{ v, recovered := false }] ∧ VRel ρ RO w a v
def Post (w0 : World) (F : Fr) (N : Nat) (D : List Deferred) (ρ : Nat → Option Loc) (RO : Nat → Prop) (w : World) (x : AExit) (env : Env) (h : Heap) (n : Nat) (e : Exit) (a' : Act) (w' : World) : Prop :=
  ∃ ρ' RO', Ext ρ RO w ρ' RO' w' ∧ HRel w0 F h n ρ' RO' w' ∧ XRel ρ' RO' w' x e ∧ ARel N D ρ' RO' w' env a'
theorem Post.trans {N : Nat} {D : List Deferred} {ρ1 : Nat → Option Loc} {RO1 : Nat → Prop} {w1 : World} {x : AExit} {env : Env} {h' : Heap} {n' : Nat} {e : Exit} {a' : Act} {w' : World} (ext : Ext ρ RO w ρ1 RO1 w1) (p : Post w0 F N D ρ1 RO1 w1 x env h' n' e a' w') : Post w0 F N D ρ RO w x env h' n' e a' w' := by
  obtain ⟨ρ', RO', e1, e2⟩ := p
  exact ⟨ρ', RO', ext.trans e1, e2⟩
theorem wanted_ok {env : Env} {a : Act} {ops : Array Oper} {o : Oper} {b : Bool} (he : ERel ρ RO w env a)
    (e : wantedA ops env o = some b) : Region.wanted o (yielded ops a.tmps) = b := by
  unfold Region.wanted
  unfold wantedA at e
  split at e
  · rename_i hg
    cases e
    simp [hg]
  · rename_i g want hg
    simp only [hg]
    split at e
    · rename_i t ht
      have key : ∀ q, lookE env t = some (.bool q) → yielded ops a.tmps g = some q := by
        intro q hq
        have h1 := bool_inv (he t _ hq)
        have h2 : a.tmps[t]? = some (.bool q) := by
          rw [Array.getD_eq_getD_getElem?] at h1
          cases hx : a.tmps[t]? with
          | none => rw [hx] at h1; simp [undef] at h1
          | some v => rw [hx] at h1; simpa using h1
        simp [yielded, ht, h2]
      split at e
      · rename_i hl
        rw [key _ hl]
        simp only [Option.some.injEq] at e
        subst e
        cases want <;> rfl
      · rename_i hl
        rw [key _ hl]
        simp only [Option.some.injEq] at e
        subst e
        cases want <;> rfl
      · rename_i l hl
        cases e
        obtain ⟨vs, hv, _⟩ := tup_inv (he t _ hl)
        have : yielded ops a.tmps g = none := by
          rw [Array.getD_eq_getD_getElem?] at hv
          cases hx : a.tmps[t]? with
          | none => simp [yielded, ht, hx]
          | some v =>
            rw [hx] at hv
            simp at hv
            subst hv
            simp [yielded, ht, hx]
        rw [this]
        rfl
      · cases e
    · cases e
theorem callee_ok {env : Env} {a : Act} {f : Operand} {k : FuncId} {first cap : List AV} (he : ERel ρ RO w env a) (e : calleeA env (.value f) = some (k, first, cap)) :
    ∃ v1 v2 : List Value, a.eval f = .func (.func k) v1.toArray v2.toArray ∧ VRels ρ RO w first v1 ∧ VRels ρ RO w cap v2 := by
  simp only [calleeA] at e
  split at e
  · rename_i k' f' c' hf
    cases e
    have hr := evA_rel he hf
    generalize a.eval f = v at hr
    cases hr with
    | fn e1 e2 h1 h2 => exact ⟨_, _, rfl, ⟨e1, h1⟩, ⟨e2, h2⟩⟩
  · cases e
theorem enter_run {f : Operand} {a : Act} {k : FuncId} {args : Array Operand} {ts : Array TypeId} {o : Oper} {v1 v2 : List Value} (hP : NoNum P) (ho : o.op = .call { callee := .value f, args := args, argTypes := ts })
    (hf : a.eval f = .func (.func k) v1.toArray v2.toArray) {fn : Func} (hk : P.funcs[k]? = some fn) (hb : fn.body.isSome = true) :
    (execOp a.eval o).run P w = .ok (.enter k (v1 ++ args.toList.map a.eval ++ v2).toArray) w := by
  have hnum := hP k fn hk hb
  have hbn : fn.body.isNone = false := by cases hx : fn.body <;> simp_all
  have harr : v1.toArray ++ Array.map a.eval args ++ v2.toArray = (v1 ++ (List.map a.eval args.toList ++ v2)).toArray := by
    apply Array.ext'; simp
  simp only [execOp, ho, resolve, hf, Deferred.ofValue, invoke, callFunc, Sem.run_bind, Sem.run_pure, Result.andThen_ok, run_program, hk, hnum, hbn, Bool.false_eq_true, if_false, harr, List.append_assoc]
theorem wp_of_got {o : Oper} {a : Act} {g : Got} {K : Act → World → Prop} {Q : Exit → Act → World → Prop} (hg : GotOk P w0 F ρ RO w (execOp a.eval o) g)
    (hk : ∀ ρ' RO' w', Ext ρ RO w ρ' RO' w' → HRel w0 F g.heap g.next ρ' RO' w' → ∀ u, (∀ av, g.val = some av → VRel ρ' RO' w' av u) → K (a.put o.dst u) w') : o.wp P a w K Q := by
  obtain ⟨ρ', RO', w', e1, e2, e3⟩ := hg
  unfold Oper.wp
  split at e3
  · rename_i av hav
    obtain ⟨v, s1, s2⟩ := e3
    rw [s1, Oper.upon_value]
    exact hk ρ' RO' w' e1 e2 v (fun av' h' => by rw [hav] at h'; cases h'; exact s2)
  · rename_i hav
    rw [e3, Oper.upon_skip]
    exact hk ρ' RO' w' e1 e2 undef (fun av' h' => by rw [hav] at h'; cases h')
theorem letsOut_mono {Q Q' : Exit → Act → World → Prop} (hq : ∀ x a w, Q x a w → Q' x a w) (h : LetsOut Q) : LetsOut Q' := by
  obtain ⟨a, w, h⟩ := h
  exact ⟨a, w, hq _ _ _ h⟩
theorem upon_mono {o : Oper} {a : Act} {K K' : Act → World → Prop} {Q Q' : Exit → Act → World → Prop} (hk : ∀ a w, K a w → K' a w) (hq : ∀ x a w, Q x a w → Q' x a w) {r : Result Next} (h : o.upon P a K Q r) : o.upon P a K' Q' r := by
  unfold Oper.upon at h ⊢
  split at h
  · exact hk _ _ h
  · exact hk _ _ h
  · exact hk _ _ h
  · refine h.mono fun e w' he => ?_
    cases e with
    | returned v => exact hk _ _ he
    | panicked c => exact hq _ _ _ he
    | outgrown => exact letsOut_mono hq he
  · exact h.mono fun v w' he => hk _ _ he
  · exact hq _ _ _ h
  · exact h.elim
theorem wpList_mono {ops : Array Oper} {Q Q' : Exit → Act → World → Prop} (hq : ∀ x a w, Q x a w → Q' x a w) : ∀ {l : List Oper} {a : Act} {w : World}, wpList P ops Q l a w → wpList P ops Q' l a w
  | [], a, w, h => hq _ _ _ h
  | o :: rest, a, w, h => by
    unfold wpList at h ⊢
    split
    · rename_i hw
      rw [if_pos hw] at h
      rcases h with h | ⟨h1, h2⟩
      · exact .inl (upon_mono (fun a w h => wpList_mono hq h) hq h)
      · exact .inr ⟨h1, letsOut_mono hq h2⟩
    · rename_i hw
      rw [if_neg hw] at h
      exact wpList_mono hq h
theorem pure_push {h : Heap} {n : Nat} {r : Option AV} {g : Got} (e : Got.pure h n r = some g) : ∃ u, g.heap = u ++ h := by
  unfold Got.pure at e; split at e <;> cases e; exact ⟨[], rfl⟩
theorem pureC_push {h : Heap} {n : Nat} {r : Option (AV × Bool)} {g : Got} (e : Got.pureC h n r = some g) : ∃ u, g.heap = u ++ h := by
  unfold Got.pureC at e; split at e <;> cases e; exact ⟨[], rfl⟩
theorem frzC_push {h h' : Heap} {a b : AV} {c : Bool} (e : frzC h a = some (b, h', c)) : ∃ u, h' = u ++ h := by
  unfold frzC at e
  repeat' split at e
  all_goals first | cases e | skip
  all_goals first | exact ⟨[], rfl⟩ | exact ⟨[_], rfl⟩
theorem frzL_push : ∀ {l l' : List AV} {h h' : Heap} {c : Bool}, frzL h l = some (l', h', c) → ∃ u, h' = u ++ h
  | [], l', h, h', c, e => by simp only [frzL] at e; cases e; exact ⟨[], rfl⟩
  | a :: r, l', h, h', c, e => by
    simp only [frzL] at e
    split at e
    · rename_i b h1 c1 e1
      split at e
      · rename_i l2 h2 c2 e2
        cases e
        obtain ⟨u1, rfl⟩ := frzC_push e1
        obtain ⟨u2, rfl⟩ := frzL_push e2
        exact ⟨u2 ++ u1, by simp⟩
      · cases e
    · cases e
theorem box_push {h : Heap} {n : Nat} {t : TypeId} {v : AV} {g : Got} (e : boxA h n t v = some g) : ∃ u, g.heap = u ++ h := by
  unfold boxA at e; split at e <;> cases e; exact ⟨[_], rfl⟩
theorem lod_push {P : Program} {h : Heap} {n : Nat} {t : TypeId} {v : AV} {g : Got} (e : lodA P h n t v = some g) : ∃ u, g.heap = u ++ h := by
  unfold lodA at e
  repeat' split at e
  all_goals first | exact pure_push e | cases e
  all_goals exact ⟨[], rfl⟩
theorem sto_push {P : Program} {h : Heap} {n : Nat} {t : TypeId} {v x : AV} {g : Got} (e : stoA P h n t v x = some g) : ∃ u, g.heap = u ++ h := by
  unfold stoA at e
  repeat' split at e
  all_goals first | cases e | skip
  · exact ⟨[_], rfl⟩
  · rename_i hf _ _ _ _ _ _ _ _ _
    obtain ⟨u, rfl⟩ := frzL_push hf
    exact ⟨_ :: u, rfl⟩
theorem idx_push {P : Program} {h : Heap} {n : Nat} {t : TypeId} {v x : AV} {g : Got} (e : idxA P h n t v x = some g) : ∃ u, g.heap = u ++ h := by
  unfold idxA at e
  repeat' split at e
  all_goals first | cases e | skip
  all_goals exact ⟨[], rfl⟩
theorem slice_push {P : Program} {env : Env} {h : Heap} {n : Nat} {t : TypeId} {v : AV} {lo hi : Option Operand} {g : Got} (e : sliceA P env h n t v lo hi = some g) : ∃ u, g.heap = u ++ h := by
  unfold sliceA at e
  repeat' split at e
  all_goals first | cases e | skip
  all_goals exact ⟨[], rfl⟩
theorem sliceZ_push {P : Program} {env : Env} {h : Heap} {n : Nat} {t : TypeId} {v : AV} {lo hi : Option Operand} {mx : Operand} {g : Got} (e : sliceZ P env h n t v lo hi mx = some g) : ∃ u, g.heap = u ++ h := by
  unfold sliceZ at e
  repeat' split at e
  all_goals first | cases e | skip
  all_goals exact ⟨[], rfl⟩
theorem app_push {P : Program} {h : Heap} {n : Nat} {t : TypeId} {v x : AV} {g : Got} (e : appA P h n t v x = some g) : ∃ u, g.heap = u ++ h := by
  unfold appA at e
  repeat' split at e
  all_goals first | cases e | skip
  rename_i g' hto
  show ∃ u, g'.heap = u ++ h
  unfold appTo at hto
  repeat' split at hto
  all_goals first | cases hto | skip
  all_goals first | exact ⟨[_], rfl⟩ | exact ⟨[_, _], rfl⟩
theorem mak_push {P : Program} {h : Heap} {n : Nat} {t : TypeId} {v x : AV} {g : Got} (e : makA P h n t v x = some g) : ∃ u, g.heap = u ++ h := by
  unfold makA at e
  repeat' split at e
  all_goals first | cases e | skip
  exact ⟨[_], rfl⟩
theorem appZ_push {P : Program} {h : Heap} {n : Nat} {t : TypeId} {a : Int} {g : Got} (e : appZ P h n t a = some g) : ∃ u, g.heap = u ++ h := by
  unfold appZ at e
  repeat' split at e
  all_goals first | cases e | skip
  exact ⟨[_], rfl⟩
theorem stepA_push {P : Program} {env : Env} {h : Heap} {n : Nat} {op : Op} {g : Got} (e : stepA P env h n op = some g) : ∃ u, g.heap = u ++ h := by
  unfold stepA at e
  repeat' split at e
  all_goals first
    | exact pure_push e | exact pureC_push e | exact box_push e | exact lod_push e | exact sto_push e | exact idx_push e | exact slice_push e | exact sliceZ_push e | exact app_push e | exact mak_push e | exact appZ_push e
    | (cases e; done) | skip
  rename_i hf _ _ _
  cases e
  obtain ⟨u, rfl⟩ := frzL_push hf
  exact ⟨_ :: u, rfl⟩
def BStep (P : Program) (env : Env) (h : Heap) (n : Nat) (op : Op) (v : Option AV) (h' : Heap) (n' : Nat) : Prop :=
  (∃ f args ts c first cap l u, op = .call { callee := .value f, args := args, argTypes := ts } ∧ calleeA env (.value f) = some (c, first, cap) ∧ evAs env args.toList = some l ∧ CallOk P c (first ++ l ++ cap) h n (.ret u) h' n' ∧ v = some u ∧ ∃ u', h' = u' ++ h) ∨
  (∃ g, stepA P env h n op = some g ∧ g.cond = true ∧ v = g.val ∧ h' = g.heap ∧ n' = g.next) ∨
  CStep P env h n op v h' n'
theorem findC_some {R : Type} {ka : AV} {hit : Nat → AV → Option R} {miss : Option R} {r : R} : ∀ {es : List (AV × AV)} {i : Nat}, findC ka es i hit miss = some r →
    (∃ j u, Found es ka j u ∧ hit (i + j) u = some r) ∨ (Missed es ka ∧ miss = some r)
  | [], i, e => .inr ⟨fun e h => by simp at h, e⟩
  | x :: es, i, e => by
    simp only [findC] at e
    split at e
    · rename_i b hb
      rcases br_some e with ⟨rfl, e⟩ | ⟨rfl, e⟩
      · exact .inl ⟨0, x.2, ⟨x, rfl, hb, rfl, fun j e' hj => by omega⟩, e⟩
      · rcases findC_some e with ⟨j, u, ⟨y, y1, y2, y3, y4⟩, hu⟩ | ⟨hm, q⟩
        · refine .inl ⟨j + 1, u, ⟨y, by simpa using y1, y2, y3, fun k e' hk he => ?_⟩, by rw [show i + (j + 1) = i + 1 + j by omega]; exact hu⟩
          cases k with
          | zero => simp at he; subst he; exact hb
          | succ k => exact y4 k e' (by omega) (by simpa using he)
        · refine .inr ⟨fun y hy => ?_, q⟩
          rcases List.mem_cons.1 hy with rfl | hy
          · exact hb
          · exact hm y hy
    · cases e
theorem evM_ok {R : Type} {env : Env} {op : Op} {K : Option AV → Heap → Nat → Option R} {r : R} (e : evM P env h n op K = some r) : ∃ v h' n', CStep P env h n op v h' n' ∧ K v h' n' = some r := by
  have upd : ∀ {t x k y}, evUpd P env h n t x k y K = some r → ∃ v h' n', (∃ kt et d id es ka va es', P.underlying t = some (.map kt et) ∧ P.underlying kt = some d ∧ evA env x = some (.map id) ∧ lookH h id = some (.map es) ∧ evA env k = some ka ∧ isKeyA d ka = true ∧
      evA env y = some va ∧ v = none ∧ n' = n ∧ h' = (id, some (.map es')) :: h ∧ ((∃ i u, Found es ka i u ∧ es' = es.set i (ka, va)) ∨ (Missed es ka ∧ es' = es ++ [(ka, va)]))) ∧ K v h' n' = some r := by
    intro t x k y e
    unfold evUpd at e
    split at e
    · rename_i kt et id ka va ht hx hk hy
      split at e
      · rename_i d es hd hl
        split at e
        · rename_i hkey
          rcases findC_some e with ⟨j, u, hf, hu⟩ | ⟨hm, hu⟩
          · exact ⟨_, _, _, ⟨kt, et, d, id, es, ka, va, _, ht, hd, hx, hl, hk, hkey, hy, rfl, rfl, rfl, .inl ⟨j, u, hf, rfl⟩⟩, by rw [Nat.zero_add] at hu; exact hu⟩
          · exact ⟨_, _, _, ⟨kt, et, d, id, es, ka, va, _, ht, hd, hx, hl, hk, hkey, hy, rfl, rfl, rfl, .inr ⟨hm, rfl⟩⟩, hu⟩
        · cases e
      · cases e
    · cases e
  unfold evM at e
  split at e
  · rename_i t q
    split at e
    · rename_i ka kb ht hq
      refine ⟨_, _, _, ⟨⟨_, _, ht⟩, fun x hx => ?_, rfl, rfl, rfl⟩, e⟩
      subst hx
      simp only at hq
      split at hq
      · rename_i k i hi; exact ⟨k, i, hi⟩
      · cases hq
    · cases e
  · rename_i t x k ok
    split at e
    · rename_i kt et a ka ht hx hk
      split at e
      · rename_i d es hd hm
        split at e
        · rename_i hkey
          rcases findC_some e with ⟨j, u, hf, hu⟩ | ⟨hmi, hu⟩
          · exact ⟨_, _, _, ⟨kt, et, d, a, es, ka, ht, hd, hx, hm, hk, hkey, rfl, rfl, .inl ⟨j, u, hf, rfl⟩⟩, hu⟩
          · split at hu
            · rename_i z hz
              exact ⟨_, _, _, ⟨kt, et, d, a, es, ka, ht, hd, hx, hm, hk, hkey, rfl, rfl, .inr ⟨hmi, z, hz, rfl⟩⟩, hu⟩
            · cases hu
        · cases e
      · cases e
    · cases e
  · exact upd e
  · exact upd e
  · rename_i x xt at_ ok
    split at e
    · rename_i d hd
      split at e
      · rename_i hi hx
        split at e
        · rename_i z hz
          exact ⟨_, _, _, ⟨⟨d, hd, hi⟩, rfl, rfl, .inl ⟨hx, rfl, z, hz, rfl⟩⟩, e⟩
        · cases e
      · rename_i t u hi hx
        split at e
        · rename_i hb
          exact ⟨_, _, _, ⟨⟨d, hd, hi⟩, rfl, rfl, .inr ⟨t, u, hx, .inl ⟨Nat.eq_of_beq_eq_true hb, rfl⟩⟩⟩, e⟩
        · rename_i hb
          split at e
          · rename_i z hz
            exact ⟨_, _, _, ⟨⟨d, hd, hi⟩, rfl, rfl, .inr ⟨t, u, hx, .inr ⟨fun q => (by rw [q, Nat.beq_refl] at hb; cases hb), rfl, z, hz, rfl⟩⟩⟩, e⟩
          · cases e
      · cases e
    · cases e
  · cases e
theorem cstep_push {env : Env} {op : Op} {v : Option AV} {h' : Heap} {n' : Nat} (e : CStep P env h n op v h' n') : ∃ u, h' = u ++ h := by
  unfold CStep at e
  split at e
  · obtain ⟨_, _, _, rfl, _⟩ := e; exact ⟨[_], rfl⟩
  · obtain ⟨_, _, _, _, _, _, _, _, _, _, _, _, rfl, _⟩ := e; exact ⟨[], rfl⟩
  · obtain ⟨_, _, _, _, _, _, _, _, _, _, _, _, _, _, _, _, _, rfl, _⟩ := e; exact ⟨[_], rfl⟩
  · obtain ⟨_, _, _, _, _, _, _, _, _, _, _, _, _, _, _, _, _, rfl, _⟩ := e; exact ⟨[_], rfl⟩
  · obtain ⟨_, rfl, _⟩ := e; exact ⟨[], rfl⟩
  · exact e.elim
def BPan (P : Program) (env : Env) (h : Heap) (n : Nat) (op : Op) (v : AV) (h' : Heap) (n' : Nat) : Prop :=
  (∃ f args ts c first cap l, op = .call { callee := .value f, args := args, argTypes := ts } ∧ calleeA env (.value f) = some (c, first, cap) ∧ evAs env args.toList = some l ∧ CallOk P c (first ++ l ++ cap) h n (.pan v) h' n' ∧ ∃ u', h' = u' ++ h) ∨
  (∃ x t u, op = .panic x ∧ evA env x = some (.iface t u) ∧ v = .iface t u ∧ h' = h ∧ n' = n)
theorem evPut_ok {R : Type} {g : Bool} {dst : Option Tmp} {v : Option AV} {env : Env} {k : Env → Option R} {r : R} (e : evPut g dst v env k = some r) : ∃ env', putA env dst v = some env' ∧ k env' = some r := by
  unfold evPut at e
  split at e
  · split at e
    · rename_i e' he; exact ⟨e', he, e⟩
    · cases e
  · split at e
    · rename_i b
      cases b
      · rw [br_false] at e
        split at e
        · rename_i e' he; exact ⟨e', he, e⟩
        · cases e
      · rw [br_true] at e
        split at e
        · rename_i e' he; exact ⟨e', he, e⟩
        · cases e
    · cases e
theorem evOp_ok {R : Type} {cf : CallF} (hcf : CfOk P cf) {g : Bool} {o : Oper} {env : Env} {k : KN R} {kp : AV → Heap → Nat → Option R} {r : R} (e : evOp P cf g o env h n k kp = some r) :
    (∃ v env' h' n', BStep P env h n o.op v h' n' ∧ putA env o.dst v = some env' ∧ k env' h' n' = some r) ∨ (∃ v h' n', BPan P env h n o.op v h' n' ∧ kp v h' n' = some r) := by
  unfold evOp at e
  split at e
  · rename_i f args ts hop
    split at e
    · rename_i c first cap l hcal hargs
      obtain ⟨out, u, n', hc, hk⟩ := hcf _ _ _ _ _ _ _ e
      cases out with
      | ret v =>
        obtain ⟨env', q1, q2⟩ := evPut_ok hk
        exact .inl ⟨_, _, _, _, .inl ⟨_, _, _, _, _, _, _, _, hop, hcal, hargs, hc, rfl, _, rfl⟩, q1, q2⟩
      | pan v => exact .inr ⟨_, _, _, .inl ⟨_, _, _, _, _, _, _, hop, hcal, hargs, hc, _, rfl⟩, hk⟩
    · cases e
  · rename_i x hop
    split at e
    · rename_i t u hx
      exact .inr ⟨_, _, _, .inr ⟨_, _, _, hop, hx, rfl, rfl, rfl⟩, e⟩
    · cases e
  · split at e
    · obtain ⟨v, h', n', hs, hk⟩ := evM_ok e
      obtain ⟨env', q1, q2⟩ := evPut_ok hk
      exact .inl ⟨_, _, _, _, .inr (.inr hs), q1, q2⟩
    · split at e
      · rename_i g' hg
        rcases br_some e with ⟨hc, e⟩ | ⟨_, e⟩
        · obtain ⟨env', q1, q2⟩ := evPut_ok e
          exact .inl ⟨_, _, _, _, .inr (.inl ⟨_, hg, hc, rfl, rfl, rfl⟩), q1, q2⟩
        · cases e
      · cases e
theorem bstep_push {env : Env} {op : Op} {v : Option AV} {h' : Heap} {n' : Nat} (hb : BStep P env h n op v h' n') : ∃ u, h' = u ++ h := by
  rcases hb with ⟨f, args, ts, c, first, cap, l, u, hop, hcal, hargs, hcall, rfl, q⟩ | ⟨g, hg, hc, rfl, rfl, rfl⟩ | hs
  · exact q
  · exact stepA_push hg
  · exact cstep_push hs
theorem bstep_wp {N : Nat} {D : List Deferred} (hP : NoNum P) {o : Oper} {env env' : Env} {v : Option AV} {h' : Heap} {n' : Nat} (hb : BStep P env h n o.op v h' n') (hput : putA env o.dst v = some env')
    (hdst : (match o.dst with | some t => Nat.blt t N | none => true) = true) {a : Act} (H : HRel w0 F h n ρ RO w) (A : ARel N D ρ RO w env a) {K : Act → World → Prop} {Q : Exit → Act → World → Prop}
    (hk : ∀ ρ' RO' u w', Ext ρ RO w ρ' RO' w' → HRel w0 F h' n' ρ' RO' w' → ARel N D ρ' RO' w' env' (a.put o.dst u) → K (a.put o.dst u) w') : o.wp P a w K Q := by
  rcases hb with ⟨f, args, ts, c, first, cap, l, u, hop, hcal, hargs, hcall, rfl, _⟩ | ⟨g, hg, hc, rfl, rfl, rfl⟩ | hs
  · obtain ⟨v1, v2, hf, r1, r2⟩ := callee_ok A.env hcal
    have hl := evAs_rel A.env hargs
    have hvs := (r1.append hl).append r2
    obtain ⟨⟨fn, hkk, hb⟩, hcall⟩ := hcall
    unfold Oper.wp
    rw [enter_run hP hop hf hkk hb, Oper.upon_enter]
    refine (hcall w0 F ρ RO w _ H hvs).mono fun e w' he => ?_
    obtain ⟨ρ', RO', p1, p2, u', rfl, hu⟩ := he
    exact hk ρ' RO' _ w' p1 p2 ((A.mono p1).put hdst hput (fun av hav => by cases hav; exact hu))
  · exact wp_of_got (step_ok H A.env hg hc) fun ρ' RO' w' e1 e2 u hu => hk ρ' RO' _ w' e1 e2 ((A.mono e1).put hdst hput hu)
  · exact wp_of_got (cstep_ok H A.env hs) fun ρ' RO' w' e1 e2 u hu => hk ρ' RO' _ w' e1 e2 ((A.mono e1).put hdst hput hu)
theorem bpan_push {env : Env} {op : Op} {v : AV} {h' : Heap} {n' : Nat} (hb : BPan P env h n op v h' n') : ∃ u, h' = u ++ h := by
  rcases hb with ⟨f, args, ts, c, first, cap, l, hop, hcal, hargs, hcall, q⟩ | ⟨x, t, u, hop, hx, rfl, rfl, rfl⟩
  · exact q
  · exact ⟨[], rfl⟩
theorem bpan_wp {N : Nat} {D : List Deferred} (hP : NoNum P) {o : Oper} {env : Env} {v : AV} {h' : Heap} {n' : Nat} (hb : BPan P env h n o.op v h' n')
    {a : Act} (H : HRel w0 F h n ρ RO w) (A : ARel N D ρ RO w env a) {K : Act → World → Prop} : o.wp P a w K (fun e a' w' => Post w0 F N D ρ RO w (.panic v) env h' n' e a' w' ∧ a' = a) := by
  rcases hb with ⟨f, args, ts, c, first, cap, l, hop, hcal, hargs, hcall, _⟩ | ⟨x, t, u, hop, hx, rfl, rfl, rfl⟩
  · obtain ⟨v1, v2, hf, r1, r2⟩ := callee_ok A.env hcal
    have hl := evAs_rel A.env hargs
    have hvs := (r1.append hl).append r2
    obtain ⟨⟨fn, hkk, hb⟩, hcall⟩ := hcall
    unfold Oper.wp
    rw [enter_run hP hop hf hkk hb, Oper.upon_enter]
    refine (hcall w0 F ρ RO w _ H hvs).mono fun e w' he => ?_
    obtain ⟨ρ', RO', p1, p2, u', rfl, hu⟩ := he
    exact ⟨⟨ρ', RO', p1, p2, ⟨u', rfl, hu⟩, A.mono p1⟩, rfl⟩
  · have hr := evA_rel A.env hx
    have hiv : ∃ u, a.eval x = .iface t u := by
      generalize a.eval x = z at hr
      cases hr; exact ⟨_, rfl⟩
    obtain ⟨u, hu⟩ := hiv
    unfold Oper.wp
    have : (execOp a.eval o).run P w = .halt (.panic (.iface t u)) w := by
      simp [execOp, hop, hu, Instr.panic]
    rw [this, Oper.upon_panic]
    exact ⟨⟨ρ, RO, .refl _ _ _, H, ⟨_, rfl, hu ▸ hr⟩, A⟩, rfl⟩
def dstsL : List Oper → List Nat
  | [] => []
  | o :: l => match o.dst with | some t => t :: dstsL l | none => dstsL l
theorem dstsL_mem {o : Oper} {t : Nat} (hd : o.dst = some t) : ∀ {l : List Oper}, o ∈ l → t ∈ dstsL l
  | x :: l, h => by
    simp only [dstsL]
    rcases List.mem_cons.1 h with rfl | h
    · rw [hd]; simp
    · have := dstsL_mem hd h
      split
      · exact List.mem_cons_of_mem _ this
      · exact this
theorem dstsL_cons {o : Oper} {l : List Oper} {t : Nat} (h : t ∈ dstsL l) : t ∈ dstsL (o :: l) := by
  simp only [dstsL]
  split
  · exact List.mem_cons_of_mem _ h
  · exact h
def Keep (W : List Nat) (a a' : Act) : Prop := ∀ t, t ∉ W → a'.tmps.getD t undef = a.tmps.getD t undef
theorem Keep.refl (W : List Nat) (a : Act) : Keep W a a := fun _ _ => rfl
theorem Keep.trans {W : List Nat} {a b c : Act} (h : Keep W a b) (g : Keep W b c) : Keep W a c := fun t ht => (g t ht).trans (h t ht)
theorem Keep.mono {W W' : List Nat} {a b : Act} (h : Keep W a b) (hs : ∀ t, t ∈ W → t ∈ W') : Keep W' a b := fun t ht => h t fun q => ht (hs t q)
theorem Keep.put {W : List Nat} {a : Act} {d : Option Tmp} (h : ∀ t, d = some t → t ∈ W) (u : Value) : Keep W a (a.put d u) := by
  intro t ht
  cases d with
  | none => rfl
  | some k =>
    have hne : k ≠ t := fun q => ht (q ▸ h k rfl)
    simp only [Act.put, Array.getD_eq_getD_getElem?]
    rw [Array.getElem?_setIfInBounds_ne hne]
def LOk (P : Program) (N : Nat) (ops : Array Oper) (l : List Oper) (env : Env) (h : Heap) (n : Nat) (x : AExit) (env' : Env) (h' : Heap) (n' : Nat) : Prop :=
  ∀ (w0 : World) (F : Fr) (D : List Deferred) (ρ : Nat → Option Loc) (RO : Nat → Prop) (a : Act) (w : World), HRel w0 F h n ρ RO w → ARel N D ρ RO w env a → wpList P ops (fun e a' w' => Post w0 F N D ρ RO w x env' h' n' e a' w' ∧ Keep (dstsL l) a a') l a w
theorem evOps_ok {R : Type} {N : Nat} {cf : CallF} (hP : NoNum P) (hcf : CfOk P cf) {ops : Array Oper} {gs : List Nat} : ∀ {l : List Oper} {j : Nat} {env : Env} {h : Heap} {n : Nat} {K : KX R} {r : R}, evOps P N cf ops gs l j env h n K = some r →
    ∃ x env' h' n', LOk P N ops l env h n x env' h' n' ∧ K x env' h' n' = some r ∧ ∃ u, h' = u ++ h
  | [], j, env, h, n, K, r, e => ⟨.normal, env, h, n, fun w0 F D ρ RO a w H A => ⟨⟨ρ, RO, .refl _ _ _, H, rfl, A⟩, .refl _ _⟩, e, [], rfl⟩
  | o :: rest, j, env, h, n, K, r, e => by
    unfold evOps at e
    split at e
    · rename_i hdst hw
      obtain ⟨x, env', h', n', q1, q2, q3⟩ := evOps_ok hP hcf e
      refine ⟨x, env', h', n', fun w0 F D ρ RO a w H A => ?_, q2, q3⟩
      unfold wpList
      rw [if_neg (by rw [wanted_ok A.env hw]; simp)]
      exact wpList_mono (fun x a' w'' q => ⟨q.1, (Keep.put (fun t ht => dstsL_mem ht (by simp)) _).trans (q.2.mono fun t ht => dstsL_cons ht)⟩) (q1 w0 F D ρ RO _ w H A.lost)
    · rename_i hdst hw
      rcases evOp_ok hcf e with ⟨v, env1, h1, n1, hb, hput, hk⟩ | ⟨v, h1, n1, hb, hk⟩
      · obtain ⟨x, env', h', n', q1, q2, u2, q3⟩ := evOps_ok hP hcf hk
        obtain ⟨u1, q4⟩ := bstep_push hb
        refine ⟨x, env', h', n', fun w0 F D ρ RO a w H A => ?_, q2, u2 ++ u1, by rw [q3, q4, List.append_assoc]⟩
        unfold wpList
        rw [if_pos (wanted_ok A.env hw)]
        left
        refine bstep_wp hP hb hput hdst H A fun ρ' RO' v' w' p1 p2 p3 => ?_
        exact wpList_mono (fun x a' w'' q => ⟨q.1.trans p1, (Keep.put (fun t ht => dstsL_mem ht (by simp)) _).trans (q.2.mono fun t ht => dstsL_cons ht)⟩) (q1 w0 F D ρ' RO' _ w' p2 p3)
      · refine ⟨_, _, _, _, fun w0 F D ρ RO a w H A => ?_, hk, bpan_push hb⟩
        unfold wpList
        rw [if_pos (wanted_ok A.env hw)]
        exact .inl (upon_mono (fun _ _ h => h) (fun x a' w'' q => ⟨q.1, q.2 ▸ .refl _ _⟩) (bpan_wp (K := fun a w => wpList P ops _ rest a w) hP hb H A))
    · cases e
end Go.Eng

end
section
set_option linter.unusedVariables false
set_option linter.unusedSectionVars false
set_option linter.unusedSimpArgs false
namespace Go.Eng
variable [U : Univ]
open Go.RowKit
variable {P : Program} {w0 w : World} {F : Fr} {ρ : Nat → Option Loc} {RO : Nat → Prop} {h : Heap} {n : Nat}
def dIdV : AV → Option Nat
  | .ptr id _ _ => some id
  | .sl id _ _ _ => some id
  | .slf id => some id
  | .map id => some id
  | _ => none
def dId (env : Env) : Op → Option Nat
  | .load _ a => match evA env a with | some v => dIdV v | none => none
  | .indexAddr _ x _ => match evA env x with | some v => dIdV v | none => none
  | .slice _ x _ _ _ => match evA env x with | some v => dIdV v | none => none
  | .convert _ _ x => match evA env x with | some v => dIdV v | none => none
  | .call { callee := .builtin .len, args := args, argTypes := _ } => match args.toList with
    | [x] => match evA env x with | some v => dIdV v | none => none
    | _ => none
  | _ => none
def smallOp : Op → Bool
  | .move _ | .assign _ | .pick _ _ _ | .build _ _ | .binOp _ _ _ _ _ | .unOp _ _ _ | .convert _ _ _ | .makeInterface _ _ | .makeFunc _ _ _ | .field _ _ _ | .fieldAddr _ _ _ | .nilCheck _ | .index _ _ _ | .extract _ _ => true
  | .load _ _ | .indexAddr _ _ _ | .slice _ _ _ _ _ => true
  | .call { callee := .builtin .len, args := _, argTypes := _ } => true
  | .call { callee := .builtin .cap, args := _, argTypes := _ } => true
  | .call { callee := .builtin .max, args := _, argTypes := _ } => true
  | .call { callee := .builtin .min, args := _, argTypes := _ } => true
  | _ => false
def bigAt (ops : Array Oper) (i : Nat) : Bool := match ops[i]? with | some o => !(smallOp o.op) | none => false
def befs : List Oper → List Nat → List Nat
  | [], acc => acc
  | o :: l, acc => befs l (acc ++ [o.after.toList.foldl (fun s e => match Region.binds .any e with | true => s ||| 2 ^ e.on ||| acc.getD e.on 0 | false => s) 0])
def edgesOk : List Oper → Nat → Bool
  | [], _ => true
  | o :: l, i => o.after.toList.all (fun e => match Region.binds .any e with | true => Nat.blt e.on i | false => true) && edgesOk l (i + 1)
def freeO (o : Oper) : Bool := match o.op, o.guard, o.dst with | .alloc _, none, some _ => true | _, _, _ => false
def freeAt (ops : Array Oper) (B : List Nat) (i : Nat) (o : Oper) (k : Nat) : Bool :=
  (match Nat.beq k i with | true => true | false => match ops[k]?, o.dst with | some x, some d => (match x.dst with | some d' => (match Nat.beq d' d with | true => false | false => true) | none => true) | _, _ => true) &&
  (match (B.getD k 0).testBit i with | true => (List.range i).all fun j => (match bigAt ops j with | true => (B.getD k 0).testBit j | false => true) | false => true)
def freeB (ops : Array Oper) (B : List Nat) (n : Nat) : List Oper → Nat → Bool
  | [], _ => true
  | o :: l, i => match freeO o with | true => (List.range n).all (freeAt ops B i o) && freeB ops B n l (i + 1) | false => freeB ops B n l (i + 1)
def stripE : List Oper → Env → Env
  | [], e => e
  | o :: l, e => match freeO o, o.dst with | true, some t => (t, none) :: stripE l e | _, _ => stripE l e
def pairB (ops : Array Oper) (B : List Nat) (j i : Nat) : Bool :=
  match (B.getD i 0).testBit j with
  | true => true
  | false => match ops[j]?, ops[i]? with | some x, some y => (smallOp x.op || smallOp y.op || freeO y) && x.apart ops y | _, _ => false
def pairsB (ops : Array Oper) (B : List Nat) (n : Nat) : Bool := (List.range n).all fun i => (List.range i).all fun j => pairB ops B j i
def lastB (ops : Array Oper) : Nat → Nat
  | 0 => 0
  | k + 1 => match bigAt ops k with | true => k + 1 | false => lastB ops k
def mayAt (ops : Array Oper) (B : List Nat) (i J : Nat) : Bool :=
  (match J with | 0 => true | j + 1 => bigAt ops j && !((B.getD j 0).testBit i)) &&
  (List.range ops.size).all (fun j => match (B.getD i 0).testBit j && bigAt ops j with | true => Nat.blt j J | false => true)
theorem evA_congr {env env' : Env} {x : Operand} (h : ∀ t, x = .tmp t → lookE env t = lookE env' t) : evA env x = evA env' x := by
  cases x with
  | tmp t => exact h t rfl
  | _ => rfl
theorem evAs_congr {env env' : Env} : ∀ {l : List Operand}, (∀ x ∈ l, evA env x = evA env' x) → evAs env l = evAs env' l
  | [], _ => rfl
  | x :: r, h => by simp only [evAs, h x (by simp), evAs_congr (l := r) (fun y hy => h y (by simp [hy]))]
theorem evParts_congr {env env' : Env} : ∀ {l : List (Nat × Operand)}, (∀ x ∈ l, evA env x.2 = evA env' x.2) → evParts env l = evParts env' l
  | [], _ => rfl
  | (i, x) :: r, h => by simp only [evParts, h (i, x) (by simp), evParts_congr (l := r) (fun y hy => h y (by simp [hy]))]
theorem bound_congr {env env' : Env} {d : Int} {x : Option Operand} (h : ∀ y ∈ x.toArray, evA env y = evA env' y) : boundA env d x = boundA env' d x := by
  cases x with
  | none => rfl
  | some y => simp only [boundA, h y (by simp)]
theorem boundO_congr {env env' : Env} {x : Option Operand} (h : ∀ y ∈ x.toArray, evA env y = evA env' y) : boundO env x = boundO env' x := by
  cases x with
  | none => rfl
  | some y => simp only [boundO, h y (by simp)]
theorem stepA_env {env env' : Env} {op : Op} (h : ∀ x ∈ op.operands, evA env x = evA env' x) (hp : Heap) (n : Nat) : stepA P env hp n op = stepA P env' hp n op := by
  cases op <;> simp only [Op.operands] at h <;> try rfl
  case move x => simp only [stepA, h x (by simp)]
  case assign x => simp only [stepA, h x (by simp)]
  case pick c x y => simp only [stepA, h c (by simp), h x (by simp), h y (by simp)]
  case box t x => simp only [stepA, h x (by simp)]
  case build t parts => simp only [stepA, evParts_congr (l := parts.toList) (fun x hx => h x.2 (by simp only [List.mem_toArray, List.mem_map]; exact ⟨x, hx, rfl⟩))]
  case buildSlice t len parts => simp only [stepA, evParts_congr (l := parts.toList) (fun x hx => h x.2 (by simp only [List.mem_toArray, List.mem_map]; exact ⟨x, hx, rfl⟩))]
  case load t x => simp only [stepA, h x (by simp)]
  case store t x y => simp only [stepA, h x (by simp), h y (by simp)]
  case nilCheck x => simp only [stepA, h x (by simp)]
  case binOp op t x y u => simp only [stepA, h x (by simp), h y (by simp)]
  case unOp op t x => simp only [stepA, h x (by simp)]
  case convert s t x => simp only [stepA, h x (by simp)]
  case makeInterface t x => simp only [stepA, h x (by simp)]
  case makeFunc f first cap =>
    simp only [stepA, evAs_congr (l := first.toList) (fun x hx => h x (by simp at hx ⊢; exact .inl hx)), evAs_congr (l := cap.toList) (fun x hx => h x (by simp at hx ⊢; exact .inr hx))]
  case makeSlice t l c => simp only [stepA, h l (by simp), h c (by simp)]
  case slice t x lo hi mx =>
    cases mx with
    | some m =>
      simp only [stepA, h x (by simp)]
      split
      · simp only [sliceZ, bound_congr (env := env) (env' := env') (x := lo) (fun y hy => h y (by simp at hy ⊢; exact .inr (.inl hy))), bound_congr (env := env) (env' := env') (x := hi) (fun y hy => h y (by simp at hy ⊢; exact .inr (.inr (.inl hy)))), bound_congr (env := env) (env' := env') (x := some m) (fun y hy => h y (by simp at hy ⊢; exact .inr (.inr (.inr hy))))]
      · rfl
    | none =>
      simp only [stepA, h x (by simp)]
      split
      · simp only [sliceA, boundO_congr (env := env) (env' := env') (x := lo) (fun y hy => h y (by simp at hy ⊢; exact .inr (.inl hy))), boundO_congr (env := env) (env' := env') (x := hi) (fun y hy => h y (by simp at hy ⊢; exact .inr (.inr hy))), bound_congr (env := env) (env' := env') (x := lo) (fun y hy => h y (by simp at hy ⊢; exact .inr (.inl hy))), bound_congr (env := env) (env' := env') (x := hi) (fun y hy => h y (by simp at hy ⊢; exact .inr (.inr hy)))]
      · rfl
  case fieldAddr s x f => simp only [stepA, h x (by simp)]
  case field s x f => simp only [stepA, h x (by simp)]
  case indexAddr t x i => simp only [stepA, h x (by simp), h i (by simp)]
  case index t x i => simp only [stepA, h x (by simp), h i (by simp)]
  case extract x i => simp only [stepA, h x (by simp)]
  case call c =>
    obtain ⟨cal, args, ts⟩ := c
    cases cal with
    | value f => rfl
    | invoke r m => rfl
    | builtin b =>
      have hl : ∀ x ∈ args.toList, evA env x = evA env' x := fun x hx => h x (by simp [Call.operands]; simpa using hx)
      cases b <;> try rfl
      · simp only [stepA]
        split
        · rename_i x y t u hx ht
          rw [hx] at hl
          simp only [hl x (by simp), hl y (by simp)]
        · rfl
      · simp only [stepA]
        split
        · rename_i x t hx ht
          rw [hx] at hl
          simp only [hl x (by simp)]
        · rfl
      · simp only [stepA]
        split
        · rename_i x t hx ht
          rw [hx] at hl
          simp only [hl x (by simp)]
        · rfl
      · simp only [stepA, evAs_congr hl]
      · simp only [stepA, evAs_congr hl]
theorem callee_congr {env env' : Env} {f : Operand} (h : evA env f = evA env' f) : calleeA env (.value f) = calleeA env' (.value f) := by simp only [calleeA, h]
theorem lookH_eq {h h' : Heap} {id : Nat} (e : look h id = look h' id) : lookH h id = lookH h' id := by unfold lookH; rw [e]
theorem lookF_eq {h h' : Heap} {id : Nat} (e : look h id = look h' id) : lookF h id = lookF h' id := by unfold lookF; rw [e]
theorem thaw_at {h h' : Heap} {v : AV} (hh : ∀ id, dIdV v = some id → look h id = look h' id) : thawV h v = thawV h' v := by
  unfold thawV
  split
  · rw [lookF_eq (hh _ rfl)]
  · rfl
theorem dIdV_thaw {h : Heap} {v : AV} {id : Nat} (e : dIdV (thawV h v) = some id) : dIdV v = some id := by
  unfold thawV at e
  split at e
  · split at e
    · cases e
    · exact e
  · exact e
def Got.at (h : Heap) (n : Nat) (g : Option Got) : Option Got := g.map fun g => ⟨g.val, h, n, g.cond⟩
theorem pure_at {h h' : Heap} {n n' : Nat} {r : Option AV} : Got.pure h' n' r = Got.at h' n' (Got.pure h n r) := by cases r <;> rfl
theorem pureC_at {h h' : Heap} {n n' : Nat} {r : Option (AV × Bool)} : Got.pureC h' n' r = Got.at h' n' (Got.pureC h n r) := by cases r <;> rfl
theorem lod_at {h h' : Heap} {n n' : Nat} {t : TypeId} {v : AV} (hh : ∀ id, dIdV v = some id → lookH h id = lookH h' id) : lodA P h' n' t v = Got.at h' n' (lodA P h n t v) := by
  unfold lodA
  split
  · rw [hh _ rfl]
    split
    · split
      · exact pure_at
      · rfl
    · split <;> rfl
    · rfl
  · exact pure_at
  · rfl
theorem idx_at {h h' : Heap} {n n' : Nat} {t : TypeId} {v x : AV} (hh : ∀ id, dIdV v = some id → lookH h id = lookH h' id) : idxA P h' n' t v x = Got.at h' n' (idxA P h n t v x) := by
  unfold idxA
  split
  · split
    · rw [hh _ rfl]
      split
      · split <;> rfl
      · rfl
    · rw [hh _ rfl]
      split
      · split <;> rfl
      · rfl
    · split <;> rfl
    · rfl
  · rfl
theorem unF_at {h h' : Heap} {v : AV} (hh : ∀ id, dIdV v = some id → lookH h id = lookH h' id) : unF h v = unF h' v := by
  unfold unF
  split
  · rw [hh _ rfl]
  · rfl
theorem dIdV_unF {h : Heap} {v : AV} : dIdV (unF h v) = dIdV v := by
  unfold unF
  split
  · split <;> rfl
  · rfl
theorem slice_at {env : Env} {h h' : Heap} {n n' : Nat} {t : TypeId} {v : AV} {lo hi : Option Operand} (hh : ∀ id, dIdV v = some id → lookH h id = lookH h' id) : sliceA P env h' n' t v lo hi = Got.at h' n' (sliceA P env h n t v lo hi) := by
  unfold sliceA
  split
  · split <;> rfl
  · rw [hh _ rfl]
    split
    · split
      · split <;> rfl
      · rfl
    · rfl
  · split
    · split
      · split <;> rfl
      · rfl
    · rfl
  · split
    · split <;> rfl
    · rfl
  · rfl
theorem sliceZ_at {env : Env} {h h' : Heap} {n n' : Nat} {t : TypeId} {v : AV} {lo hi : Option Operand} {mx : Operand} : sliceZ P env h' n' t v lo hi mx = Got.at h' n' (sliceZ P env h n t v lo hi mx) := by
  unfold sliceZ
  split
  · split
    · split <;> rfl
    · rfl
  · rfl
theorem len_at {h h' : Heap} {t : TypeId} {v : AV} (hh : ∀ id, dIdV v = some id → lookH h id = lookH h' id) : lenA P h t v = lenA P h' t v := by
  unfold lenA
  split <;> first | rfl | (rw [hh _ rfl])
theorem bytes_at {h h' : Heap} {v : AV} (hh : ∀ id, dIdV v = some id → lookH h id = lookH h' id) : bytesR h v = bytesR h' v := by
  have : rowOf h v = rowOf h' v := by
    cases v <;> first | rfl | (simp only [rowOf, hh _ rfl])
  unfold bytesR
  rw [this]
theorem small_at' {env : Env} {op : Op} {h h' : Heap} {n n' : Nat} (hs : smallOp op = true) (hh : ∀ id, dId env op = some id → look h id = look h' id) : stepA P env h' n' op = Got.at h' n' (stepA P env h n op) := by
  unfold stepA
  split
  · exact pure_at
  · exact pure_at
  · split
    · exact pure_at
    · exact pure_at
    · rfl
  · simp [smallOp] at hs
  · simp [smallOp] at hs
  · split
    · exact pure_at
    · rfl
  · simp [smallOp] at hs
  · rename_i t a
    split
    · rename_i v hv
      exact lod_at fun id hid => lookH_eq (hh id (by simp only [dId, hv]; exact hid))
    · rfl
  · simp [smallOp] at hs
  · split
    · exact pure_at
    · exact pure_at
    · rfl
  · split
    · exact pureC_at
    · rfl
  · split
    · exact pure_at
    · rfl
  · rename_i s t x
    split
    · exact pure_at
    · exact pure_at
    · rename_i v e hv _ _
      split
      · have hq : ∀ id, dIdV v = some id → look h id = look h' id := fun id hid => hh id (by simp only [dId, hv]; exact hid)
        rw [← thaw_at hq, ← bytes_at (h := h) fun id hid => lookH_eq (hq id (dIdV_thaw hid))]
        exact pureC_at
      · rfl
    · rfl
  · split
    · exact pure_at
    · rfl
  · split
    · exact pure_at
    · rfl
  · simp [smallOp] at hs
  · rename_i t x lo hi
    split
    · rename_i v hv
      have hq : ∀ id, dIdV v = some id → look h id = look h' id := fun id hid => hh id (by simp only [dId, hv]; exact hid)
      rw [← thaw_at hq, ← unF_at (fun id hid => lookH_eq (hq id (dIdV_thaw hid)))]
      exact slice_at fun id hid => lookH_eq (hq id (dIdV_thaw (by rw [dIdV_unF] at hid; exact hid)))
    · rfl
  · split
    · exact sliceZ_at
    · rfl
  · split
    · exact pure_at
    · rfl
  · split
    · exact pure_at
    · rfl
  · rename_i t x i
    split
    · rename_i v j hv hj
      have hq : ∀ id, dIdV v = some id → look h id = look h' id := fun id hid => hh id (by simp only [dId, hv]; exact hid)
      rw [← thaw_at hq]
      exact idx_at fun id hid => lookH_eq (hq id (dIdV_thaw hid))
    · rfl
  · split
    · exact pureC_at
    · rfl
  · split
    · exact pure_at
    · rfl
  · rename_i args ts
    split
    · rename_i x t hargs hts
      split
      · rename_i v hv
        have hq : ∀ id, dIdV v = some id → look h id = look h' id := fun id hid => hh id (by simp only [dId, hargs, hv]; exact hid)
        rw [← thaw_at hq, ← len_at (h := h) fun id hid => lookH_eq (hq id (dIdV_thaw hid))]
        exact pure_at
      · rfl
    · rfl
  · split
    · split
      · exact pure_at
      · rfl
    · rfl
  · simp [smallOp] at hs
  · split
    · exact pure_at
    · rfl
  · split
    · exact pure_at
    · rfl
  · rfl
theorem small_at {env : Env} {op : Op} {g : Got} {h' : Heap} (hs : smallOp op = true) (e : stepA P env h n op = some g) (hh : ∀ id, dId env op = some id → look h id = look h' id) (n' : Nat) :
    stepA P env h' n' op = some ⟨g.val, h', n', g.cond⟩ := by rw [small_at' (h := h) (n := n) hs hh, e]; rfl
theorem small_keep {env : Env} {op : Op} {g : Got} (hs : smallOp op = true) (e : stepA P env h n op = some g) : g.heap = h ∧ g.next = n := by
  have := small_at hs e (fun _ _ => rfl) n
  rw [e] at this
  exact ⟨congrArg Got.heap (Option.some.inj this), congrArg Got.next (Option.some.inj this)⟩
theorem wanted_congr {ops : Array Oper} {env env' : Env} {o : Oper} (h : ∀ t ∈ o.looksAt ops, lookE env t = lookE env' t) : wantedA ops env o = wantedA ops env' o := by
  unfold wantedA
  split
  · rfl
  · rename_i g want hg
    split
    · rename_i t ht
      rw [h t (by simp [Oper.looksAt, hg, ht])]
    · rfl
theorem evA_looks {ops : Array Oper} {env env' : Env} {o : Oper} (h : ∀ t ∈ o.looksAt ops, lookE env t = lookE env' t) : ∀ x ∈ o.op.operands, evA env x = evA env' x := by
  intro x hx
  refine evA_congr fun t ht => h t ?_
  subst ht
  exact List.mem_append_left _ (List.mem_filterMap.2 ⟨.tmp t, by simpa using hx, rfl⟩)
structure BSt where
  env : Env
  heap : Heap
  next : Nat
def noKey (id : Nat) : Heap → Bool
  | [] => true
  | (k, _) :: r => match Nat.beq k id with | true => false | false => noKey id r
def sameAt (a b : Heap) (id : Nat) : Bool := match Nat.ble a.length b.length with
  | true => noKey id (b.take (b.length - a.length))
  | false => noKey id (a.take (a.length - b.length))
def winsAt (ops : Array Oper) (st : Nat → BSt) (B : List Nat) (i : Nat) (o : Oper) : Bool :=
  match smallOp o.op with
  | false => true
  | true => match dId (st i).env o.op with
    | none => true
    | some id => (List.range (ops.size + 1)).all fun J => match mayAt ops B i J && !(Nat.beq J (lastB ops i)) with | true => sameAt (st i).heap (st J).heap id | false => true
def winsAll (ops : Array Oper) (st : Nat → BSt) (B : List Nat) : List Oper → Nat → Bool
  | [], _ => true
  | o :: l, i => match winsAt ops st B i o with | true => winsAll ops st B l (i + 1) | false => false
def evDr {R : Type} (P : Program) (N : Nat) (cf : CallF) (ops : Array Oper) (gs : List Nat) (K : List BSt → KN R) : List Oper → Nat → Env → Heap → Nat → List BSt → Option R
  | [], _, env, h, n, hist => K (⟨env, h, n⟩ :: hist) env h n
  | o :: rest, j, env, h, n, hist =>
    match (match o.dst with | some t => Nat.blt t N | none => true), wantedA ops env o with
    | true, some false => evDr P N cf ops gs K rest (j + 1) (lostA env o.dst) h n (⟨env, h, n⟩ :: hist)
    | true, some true => evOp P cf (memG j gs) o env h n (fun e h' n' => evDr P N cf ops gs K rest (j + 1) e h' n' (⟨env, h, n⟩ :: hist)) (fun _ _ _ => none)
    | _, _ => none
def evDraw {R : Type} (P : Program) (N : Nat) (cf : CallF) (ops : Array Oper) (env : Env) (h : Heap) (n : Nat) (K : KX R) : Option R :=
  match pairsB ops (befs ops.toList []) ops.size && edgesOk ops.toList 0 && freeB ops (befs ops.toList []) ops.size ops.toList 0 with
  | true => evDr P N cf ops (guardsOf ops.toList) (fun hist e h' n' => match winsAll ops (fun i => hist.reverse.getD i ⟨stripE ops.toList env, h, n⟩) (befs ops.toList []) ops.toList 0 with
    | true => K .normal e h' n'
    | false => none) ops.toList 0 (stripE ops.toList env) h n []
  | false => none
end Go.Eng

end
