/- Arguments as they come in: what a reading tells of cells. -/
import Derived.Test.YtopeokonlaljlaaEng16
import Derived.ProofKit
import Derived.OpenShut
import Derived.Carry
import Derived.SizedLaws
import Derived.SliceStrings
set_option linter.unusedVariables false
set_option linter.unusedSectionVars false
namespace Go.Eng
variable [Dr]
open Go.RowKit

variable {H : Type} {enc : TypeId × Value → H} {P : Program} {W : World}

/-- A piece of memory that can be read as of a type. -/
def Read (enc : TypeId × Value → H) (P : Program) (W : World) (t : TypeId) (cs : List Value) : Prop := ∃ fuel x, DataW.trod enc P W 0 (fun _ => true) true fuel t cs = some x

theorem Read.of {t : TypeId} {v : Value} {d : DataW H} {ps : List MemPlace} (h : DataW.Trod enc P W 0 (fun _ => true) true t v d ps) : Read enc P W t v.cells.toList := by
  obtain ⟨fuel, h⟩ := h
  exact ⟨fuel, _, h⟩

theorem Read.int {t : TypeId} {k : IntKind} {cs : List Value} (h : Read enc P W t cs) (ht : P.underlying t = some (.int k)) : ∃ n, cs = [.int k n] ∧ (Lit.int k n).wf = true := by
  obtain ⟨fuel, x, h⟩ := h
  obtain ⟨n, h1, _, h2⟩ := DataW.trod_int ht h
  exact ⟨n, h1, h2⟩
theorem Read.str {t : TypeId} {cs : List Value} (h : Read enc P W t cs) (ht : P.underlying t = some .string) : ∃ s, cs = [.string s] ∧ s.size ≤ maxLen := by
  obtain ⟨fuel, x, h⟩ := h
  obtain ⟨n, h1, _, h2⟩ := DataW.trod_string ht h
  exact ⟨n, h1, h2⟩
theorem Read.bool {t : TypeId} {cs : List Value} (h : Read enc P W t cs) (ht : P.underlying t = some .bool) : ∃ b, cs = [.bool b] := by
  obtain ⟨fuel, x, h⟩ := h
  obtain ⟨n, h1, _⟩ := DataW.trod_bool ht h
  exact ⟨n, h1⟩
theorem Read.struct {t : TypeId} {fs : Array Field} {cs : List Value} (h : Read enc P W t cs) (ht : P.underlying t = some (.struct fs)) :
    cs.length = P.cellsOf t ∧ ∀ (i : Nat) (f : Field), fs[i]? = some f → Read enc P W f.type ((cs.drop f.offset).take (P.cellsOf f.type)) := by
  obtain ⟨fuel, x, h⟩ := h
  obtain ⟨xs, n, _, rfl, hl, hlen, hf⟩ := DataW.trod_struct ht h
  refine ⟨hl, fun i f hi => ?_⟩
  have hlt : i < xs.length := by
    have := (Array.getElem?_eq_some_iff.1 hi).1
    simp_all
  refine ⟨n, xs[i], ?_⟩
  have := hf i f hi
  simpa [List.getElem?_eq_getElem hlt] using this

theorem spot_none {a : Addr} {v : Value} (h : W.cell? a = some v) : a.spot = none := by
  unfold World.cell? at h
  split at h
  · split at h
    · cases h
    · rename_i hn; cases hs : a.spot with
      | none => rfl
      | some x => rw [hs] at hn; exact absurd rfl hn
  · cases h

theorem addr_add {a : Addr} (hs : a.spot = none) (i : Nat) : a.add i = ⟨a.block, a.off + i, none⟩ := by
  unfold Addr.add
  split
  · rename_i h; subst h; obtain ⟨b, o, s⟩ := a; simp only at hs; subst hs; rfl
  · rfl

theorem block_lt {a : Addr} {v : Value} (h : W.cell? a = some v) : a.block < W.heap.size := by
  unfold World.cell? at h
  split at h
  · rename_i hb; exact (Array.getElem?_eq_some_iff.1 hb).1
  · cases h

/-- A row of texts. -/
theorem Read.strs {t e : TypeId} {cs : List Value} (h : Read enc P W t cs) (ht : P.underlying t = some (.slice e)) (he : P.underlying e = some .string) (hc : P.cellsOf e = 1) :
    ∃ (v : Value) (l : List ByteArray), cs = [v] ∧ l.length ≤ maxLen ∧ (∀ s ∈ l, s.size ≤ maxLen) ∧ v.oneCell' = true ∧ ∀ ρ, VRel ρ (fun b => b < W.heap.size) W (.dsl 1 l.length (fun i _ => .str (l.getD i .empty))) v := by
  obtain ⟨fuel, x, h⟩ := h
  rcases Go.ChangeShapes.open_strings ht he hc h with ⟨rfl, _⟩ | ⟨a, len, cap, ss, rfl, _, h1, h2, h3, _, h4, h5⟩
  · refine ⟨_, [], rfl, Nat.zero_le _, by simp, rfl, fun ρ => .dsl (Nat.le_refl _) (fun _ _ => .bool false) (fun h => absurd rfl h) (fun i k hi => by simp at hi) (fun i k hi => by simp at hi) (fun i k hi => by simp at hi)⟩
  · simp only [if_true] at h3
    have hl : (ss.take len).length = len := by rw [List.length_take]; omega
    have hg : ∀ i, i < len → (ss.take len).getD i .empty = ss.getD i .empty := by
      intro i hi
      rw [List.getD_eq_getElem?_getD, List.getD_eq_getElem?_getD, List.getElem?_take_of_lt hi]
    refine ⟨_, ss.take len, rfl, by omega, fun s hs => h5 s (List.mem_of_mem_take hs), rfl, fun ρ => ?_⟩
    rw [hl]
    refine .dsl h1 (fun i _ => .string (ss.getD i .empty)) (fun hn => ?_) (fun i k hi hk => rfl) (fun i k hi hk => .str _) (fun i k hi hk => by rw [hg i hi]; exact .str _)
    have h0 := h4 0 (by omega)
    have hz : a.add 0 = a := by simp [Addr.add]
    rw [hz] at h0
    have hsp := spot_none h0
    refine ⟨a.block, a.off, by obtain ⟨b, o, s⟩ := a; simp only at hsp; subst hsp; rfl, block_lt h0, fun i k hi hk => ?_⟩
    have := h4 i (by omega)
    rw [addr_add hsp] at this
    have hk0 : k = 0 := by omega
    subst hk0
    simpa using this

/-! ### Structs: cell by cell -/
/-- The types of the cells, structs opened. -/
def leafT (P : Program) : Nat → TypeId → List TypeId
  | 0, t => [t]
  | d + 1, t => match P.underlying t with
    | some (.struct fs) => fs.toList.flatMap fun f => leafT P d f.type
    | _ => [t]

def contig (P : Program) (d : Nat) : Nat → List Field → Bool
  | _, [] => true
  | o, f :: l => Nat.beq f.offset o && Nat.beq (P.cellsOf f.type) (leafT P d f.type).length && contig P d (o + (leafT P d f.type).length) l

def flatOk (P : Program) : Nat → TypeId → Bool
  | 0, t => Nat.beq (P.cellsOf t) 1
  | d + 1, t => match P.underlying t with
    | some (.struct fs) => Nat.beq (P.cellsOf t) (fs.toList.flatMap fun f => leafT P d f.type).length && (contig P d 0 fs.toList && fs.toList.all (fun f => flatOk P d f.type))
    | _ => Nat.beq (P.cellsOf t) 1

theorem contig_le {d : Nat} : ∀ {l : List Field} {o : Nat}, contig P d o l = true → ∀ f ∈ l, f.offset + P.cellsOf f.type ≤ o + (l.flatMap fun f => leafT P d f.type).length
  | f :: l, o, hc, g, hg => by
    simp only [contig, Bool.and_eq_true] at hc
    obtain ⟨⟨h1, h2⟩, h3⟩ := hc
    have h1 := Nat.eq_of_beq_eq_true h1
    have h2 := Nat.eq_of_beq_eq_true h2
    simp only [List.flatMap_cons, List.length_append]
    rcases List.mem_cons.1 hg with rfl | hg
    · omega
    · have := contig_le h3 g hg
      omega

theorem leaf_in {d : Nat} {cs : List Value} : ∀ {l : List Field} {o : Nat}, contig P d o l = true → (∀ f ∈ l, ∀ (k : Nat) (u : TypeId), (leafT P d f.type)[k]? = some u → ∃ v : Value, cs[f.offset + k]? = some v ∧ Read enc P W u [v]) →
    ∀ (i : Nat) (u : TypeId), (l.flatMap fun f => leafT P d f.type)[i]? = some u → ∃ v : Value, cs[o + i]? = some v ∧ Read enc P W u [v]
  | [], o, _, _, i, u, h => by simp at h
  | f :: l, o, hc, hf, i, u, h => by
    simp only [contig, Bool.and_eq_true] at hc
    obtain ⟨⟨h1, h2⟩, h3⟩ := hc
    have h1 := Nat.eq_of_beq_eq_true h1
    simp only [List.flatMap_cons] at h
    by_cases hi : i < (leafT P d f.type).length
    · rw [List.getElem?_append_left hi] at h
      have := hf f (by simp) i u h
      rw [h1] at this
      exact this
    · rw [List.getElem?_append_right (by omega)] at h
      obtain ⟨v, q1, q2⟩ := leaf_in h3 (fun g hg => hf g (by simp [hg])) _ u h
      refine ⟨v, ?_, q2⟩
      rw [← q1]; congr 1; omega

theorem Read.leaf : ∀ {d : Nat} {t : TypeId} {cs : List Value}, Read enc P W t cs → cs.length = P.cellsOf t → flatOk P d t = true → ∀ (i : Nat) (u : TypeId), (leafT P d t)[i]? = some u → ∃ v : Value, cs[i]? = some v ∧ Read enc P W u [v]
  | 0, t, cs, h, hl, hk, i, u, hu => by
    have hk := Nat.eq_of_beq_eq_true hk
    rw [hk] at hl
    obtain ⟨v, rfl⟩ := List.length_eq_one_iff.1 hl
    cases i with
    | zero => simp [leafT] at hu; subst hu; exact ⟨v, rfl, h⟩
    | succ i => simp [leafT] at hu
  | d + 1, t, cs, h, hl, hk, i, u, hu => by
    unfold flatOk at hk
    unfold leafT at hu
    split at hk
    · rename_i fs ht
      simp only [ht] at hu
      simp only [Bool.and_eq_true] at hk
      obtain ⟨h1, h2⟩ := h.struct ht
      have hcell := Nat.eq_of_beq_eq_true hk.1
      have hk := hk.2
      have := leaf_in (enc := enc) (W := W) (cs := cs) hk.1 (fun f hf k u hku => ?_) i u hu
      · simpa using this
      · obtain ⟨j, hj⟩ := List.mem_iff_getElem?.1 hf
        have hr := h2 j f (by simpa using hj)
        have hlen : ((cs.drop f.offset).take (P.cellsOf f.type)).length = P.cellsOf f.type := by
          have := contig_le hk.1 f hf
          rw [List.length_take, List.length_drop]
          omega
        obtain ⟨v, q1, q2⟩ := Read.leaf hr hlen (List.all_eq_true.1 hk.2 f hf) k u hku
        refine ⟨v, ?_, q2⟩
        have hlt : k < P.cellsOf f.type := by
          have := (List.getElem?_eq_some_iff.1 q1).1
          rw [hlen] at this; exact this
        rw [List.getElem?_take_of_lt hlt, List.getElem?_drop] at q1
        exact q1
    · rename_i hn
      have hk := Nat.eq_of_beq_eq_true hk
      rw [hk] at hl
      obtain ⟨v, rfl⟩ := List.length_eq_one_iff.1 hl
      split at hu
      · rename_i fs ht; exact absurd ht (hn fs)
      · cases i with
        | zero => simp at hu; subst hu; exact ⟨v, rfl, h⟩
        | succ i => simp at hu

theorem HRel.start {RO : Nat → Prop} (h : ∀ b, RO b → b < W.heap.size) : HRel W (fun _ => False) [] 0 (fun _ => none) RO W :=
  ⟨.refl _ _, fun id o hl => by simp [lookH, look] at hl, fun id id' o o' x x' hne hl => by simp [lookH, look] at hl, fun _ _ => rfl, h⟩

end Go.Eng
