/- Rows of structs as they come in. -/
import Derived.Test.YtopeokonlaljlaaEng21
import Derived.Deep.Slices
set_option linter.unusedVariables false
set_option linter.unusedSectionVars false
namespace Go.Eng
variable [Dr]
open Go.RowKit Go.ChangeShapes Go.WideShapes

variable {H : Type} {enc : TypeId × Value → H} {P : Program} {W : World}

/-- A row of things of k cells each. -/
abbrev elK {α : Type} [Inhabited α] (cells : α → List AV) (l : List α) : Nat → Nat → AV := fun i k => (cells (l.getD i default)).getD k .nilp

theorem Read.rows {α : Type} [Inhabited α] {t e : TypeId} {k : Nat} {cells : α → List AV} {good : α → Prop} {cs : List Value} (h : Read enc P W t cs) (ht : P.underlying t = some (.slice e)) (hc : P.cellsOf e = k) (hk : 1 ≤ k)
    (rd : ∀ cs : List Value, Read enc P W e cs → cs.length = k → ∃ x : α, (∀ v ∈ cs, v.oneCell' = true) ∧ good x ∧ ∀ ρ, VRels ρ (fun b => b < W.heap.size) W (cells x) cs) (flat : ∀ x : α, ∀ a ∈ cells x, Flat a) :
    ∃ (v : Value) (l : List α), cs = [v] ∧ l.length ≤ maxLen ∧ (∀ x ∈ l, good x) ∧ v.oneCell' = true ∧ ∀ ρ, VRel ρ (fun b => b < W.heap.size) W (.dsl k l.length (elK cells l)) v := by
  obtain ⟨fuel, x, h⟩ := h
  rcases Go.Deep.open_slice ht h with ⟨rfl, _⟩ | ⟨a, len, cap, m, n, D, Pl, rfl, _, hl, hm, hmm, _, hx⟩
  · exact ⟨_, [], rfl, Nat.zero_le _, by simp, rfl, fun ρ => .dsl (Nat.le_refl _) (fun _ _ => .bool false) (fun h => absurd rfl h) (fun i k hi => by simp at hi) (fun i k hi => by simp at hi) (fun i k hi => by simp at hi)⟩
  · simp only [if_true] at hmm
    have each : ∀ i, ∃ (cs : List Value) (x : α), i < len → (W.cells? 0 (a.add (i * k)) k = some cs ∧ (∀ v ∈ cs, v.oneCell' = true) ∧ good x ∧ ∀ ρ, VRels ρ (fun b => b < W.heap.size) W (cells x) cs) := by
      intro i
      by_cases hi : i < len
      · obtain ⟨cs', h1, h2⟩ := hx i (by omega)
        rw [hc] at h1
        obtain ⟨_, hlen, _⟩ := World.cells?_some h1
        obtain ⟨x, q1, q2, q3⟩ := rd cs' ⟨_, _, h2⟩ hlen
        exact ⟨cs', x, fun _ => ⟨h1, q1, q2, q3⟩⟩
      · exact ⟨[], default, fun h => absurd h hi⟩
    obtain ⟨C, hC⟩ := Classical.axiomOfChoice each
    obtain ⟨X, hX⟩ := Classical.axiomOfChoice hC
    have hget : ∀ i, i < len → ((List.range len).map X).getD i default = X i := fun i hi => by simp [hi]
    refine ⟨_, (List.range len).map X, rfl, by simp; omega, fun x hx => ?_, rfl, fun ρ => ?_⟩
    · obtain ⟨i, hi, rfl⟩ := List.mem_map.1 hx
      exact (hX i (List.mem_range.1 hi)).2.2.1
    · rw [List.length_map, List.length_range]
      have hcl : ∀ i, i < len → (C i).length = k := fun i hi => (World.cells?_some (hX i hi).1).2.1
      have hat : ∀ i j, i < len → j < k → W.cell? ((a.add (i * k)).add j) = some ((C i).getD j (.bool false)) := by
        intro i j hi hj
        have := (World.cells?_some (hX i hi).1).2.2 j (by have := hcl i hi; omega)
        rw [this]
        have hlt : j < (C i).length := by have := hcl i hi; omega
        simp [List.getD, hlt]
      have hone : ∀ i j, i < len → j < k → ((C i).getD j (.bool false)) ∈ C i := by
        intro i j hi hj
        have hlt : j < (C i).length := by have := hcl i hi; omega
        simp [List.getD, hlt]
      refine .dsl hl (fun i j => (C i).getD j (.bool false)) (fun hn => ?_) (fun i j hi hj => (hX i hi).2.1 _ (hone i j hi hj)) (fun i j hi hj => ?_) (fun i j hi hj => ?_)
      · have h0 := hat 0 0 (by omega) (by omega)
        have hz : (a.add (0 * k)).add 0 = a := by simp [Addr.add]
        rw [hz] at h0
        have hsp := spot_none h0
        refine ⟨a.block, a.off, by obtain ⟨b, o, s⟩ := a; simp only at hsp; subst hsp; rfl, block_lt h0, fun i j hi hj => ?_⟩
        have := hat i j hi hj
        rw [addr_add hsp, addr_add rfl] at this
        rw [← this]
        show W.cell? _ = W.cell? ⟨a.block, a.off + i * k + j, none⟩
        rw [Nat.add_assoc]
      · simp only [elK, hget i hi]
        have hv := (hX i hi).2.2.2 ρ
        have hlt : j < (cells (X i)).length := by rw [hv.1, hcl i hi]; exact hj
        apply flat (X i)
        simp [List.getD, hlt]
      · simp only [elK, hget i hi]
        have hv := (hX i hi).2.2.2 ρ
        have hlt : j < (cells (X i)).length := by rw [hv.1, hcl i hi]; exact hj
        have hlt2 : j < (C i).length := by rw [hcl i hi]; exact hj
        exact hv.2 j _ _ (by simp [List.getD, hlt]) (by simp [List.getD, hlt2])
end Go.Eng
