/- The operations are sound: what the evaluator says of one, the model does. -/
import Derived.Test.YtopeokonlaljlaaEng2
import Derived.Laws.StructEq
set_option linter.unusedVariables false
set_option linter.unusedSimpArgs false
set_option linter.unusedSectionVars false
namespace Go.Eng
variable [Dr]
open Go.RowKit

variable {P : Program} {w0 w : World} {F : Nat → Prop} {ρ : Nat → Option Loc} {RO : Nat → Prop} {h : Heap} {n : Nat}

theorem constCell_rel {v : Value} {a : AV} (e : constCell v = some a) : VRel ρ RO w a v := by
  unfold constCell at e
  split at e <;> first | (cases e; constructor) | cases e

theorem constCells_rel : ∀ {l : List Value} {as : List AV}, constCells l = some as → VRels ρ RO w as l
  | [], as, e => by simp [constCells] at e; subst e; exact .nil
  | v :: r, as, e => by
    simp only [constCells] at e
    split at e
    · rename_i a l h1 h2
      cases e
      exact .cons (constCell_rel h1) (constCells_rel h2)
    · cases e

theorem constCells_one : ∀ {l : List Value} {as : List AV}, constCells l = some as → ∀ x ∈ l, x.oneCell' = true
  | [], as, e, x, hx => by simp at hx
  | v :: r, as, e, x, hx => by
    simp only [constCells] at e
    split at e
    · rename_i a l h1 h2
      rcases List.mem_cons.1 hx with rfl | hx
      · unfold constCell at h1
        split at h1 <;> first | rfl | cases h1
      · exact constCells_one h2 x hx
    · cases e

theorem constA_rel {v : Value} {a : AV} (e : constA v = some a) : VRel ρ RO w a v := by
  unfold constA at e
  split at e
  · rename_i cs
    split at e
    · rename_i l hl
      cases e
      have := constCells_rel (ρ := ρ) (RO := RO) (w := w) hl
      exact .agg this.1 (constCells_one hl) this.2
    · cases e
  · exact constCell_rel e

/-- The names' values are the act's. -/
def ERel (ρ : Nat → Option Loc) (RO : Nat → Prop) (w : World) (env : Env) (a : Act) : Prop := ∀ t v, lookE env t = some v → VRel ρ RO w v (a.tmps.getD t undef)

theorem ERel.mono {ρ' : Nat → Option Loc} {RO' : Nat → Prop} {w' : World} {env : Env} {a : Act} (e : Ext ρ RO w ρ' RO' w') (h : ERel ρ RO w env a) : ERel ρ' RO' w' env a := fun t v hl => (h t v hl).mono e

theorem evA_rel {env : Env} {a : Act} (he : ERel ρ RO w env a) {x : Operand} {v : AV} (e : evA env x = some v) : VRel ρ RO w v (a.eval x) := by
  cases x with
  | tmp t => exact he t v e
  | const c => exact constA_rel e
  | func f =>
    simp only [evA] at e; cases e
    exact .fn (v1 := []) (v2 := []) rfl rfl (fun i a v h => by simp at h) (fun i a v h => by simp at h)
  | global g => cases e

theorem evAs_rel {env : Env} {a : Act} (he : ERel ρ RO w env a) : ∀ {xs : List Operand} {l : List AV}, evAs env xs = some l → VRels ρ RO w l (xs.map a.eval)
  | [], l, e => by simp [evAs] at e; subst e; exact .nil
  | x :: r, l, e => by
    simp only [evAs] at e
    split at e
    · rename_i b l' h1 h2
      cases e
      exact .cons (evA_rel he h1) (evAs_rel he h2)
    · cases e

/-- Parts of a literal. -/
def PRel (ρ : Nat → Option Loc) (RO : Nat → Prop) (w : World) : List (Nat × AV) → List (Nat × Value) → Prop
  | [], [] => True
  | (i, a) :: l, (j, v) :: r => i = j ∧ VRel ρ RO w a v ∧ PRel ρ RO w l r
  | _, _ => False

theorem evParts_rel {env : Env} {a : Act} (he : ERel ρ RO w env a) : ∀ {xs : List (Nat × Operand)} {l : List (Nat × AV)}, evParts env xs = some l → PRel ρ RO w l (xs.map fun (i, x) => (i, a.eval x))
  | [], l, e => by simp [evParts] at e; subst e; trivial
  | (i, x) :: r, l, e => by
    simp only [evParts] at e
    split at e
    · rename_i b l' h1 h2
      cases e
      exact ⟨rfl, evA_rel he h1, evParts_rel he h2⟩
    · cases e

/-- The cells of a value. -/
theorem cells_rel {a : AV} {v : Value} (h : VRel ρ RO w a v) : VRels ρ RO w (cellsA a) v.cells.toList := by
  have one : ∀ {a : AV} {v : Value}, VRel ρ RO w a v → VRels ρ RO w [a] [v] := fun h => .cons h .nil
  have h' := h
  cases h <;> first
    | exact one h'
    | (simp only [cellsA, Value.cells]; exact ⟨by assumption, by assumption⟩)

theorem cells_one {a : AV} {v : Value} (h : VRel ρ RO w a v) (hp : plainA a = true) : ∀ x ∈ v.cells.toList, x.oneCell' = true := by
  have one : ∀ {v : Value}, v.oneCell' = true → ∀ x ∈ [v], x.oneCell' = true := fun h x hx => by simp at hx; subst hx; exact h
  cases h <;> first
    | exact one rfl
    | (rename_i h1 _; exact fun x hx => h1 x (by simpa [Value.cells] using hx))
    | (exact absurd hp (by simp [plainA]))

/-- What an operation that was looked at in the abstract does. -/
def GotOk (P : Program) (w0 : World) (F : Nat → Prop) (ρ : Nat → Option Loc) (RO : Nat → Prop) (w : World) (s : Sem Next) (g : Got) : Prop :=
  ∃ ρ' w', Ext ρ RO w ρ' RO w' ∧ HRel w0 F g.heap g.next ρ' RO w' ∧
    match g.val with
    | some av => ∃ v, s.run P w = .ok (.value v) w' ∧ VRel ρ' RO w' av v
    | none => s.run P w = .ok .skip w'

theorem GotOk.val {s : Sem Next} {av : AV} {v : Value} {c : Conds} (H : HRel w0 F h n ρ RO w) (hs : s.run P w = .ok (.value v) w) (hv : VRel ρ RO w av v) : GotOk P w0 F ρ RO w s ⟨some av, h, n, c⟩ :=
  ⟨ρ, w, .refl _ _ _, H, v, hs, hv⟩

theorem GotOk.pure {s : Sem Next} {r : Option AV} {g : Got} (H : HRel w0 F h n ρ RO w) (e : Got.pure h n r = some g) (hs : ∀ av, r = some av → ∃ v, s.run P w = .ok (.value v) w ∧ VRel ρ RO w av v) : GotOk P w0 F ρ RO w s g := by
  unfold Got.pure at e
  split at e
  · rename_i v
    cases e
    obtain ⟨v', h1, h2⟩ := hs _ rfl
    exact .val H h1 h2
  · cases e

theorem GotOk.pureC {s : Sem Next} {r : Option (AV × Conds)} {g : Got} (H : HRel w0 F h n ρ RO w) (e : Got.pureC h n r = some g) (hc : ∀ c ∈ g.conds, c.1 = c.2)
    (hs : ∀ av c, r = some (av, c) → (∀ x ∈ c, x.1 = x.2) → ∃ v, s.run P w = .ok (.value v) w ∧ VRel ρ RO w av v) : GotOk P w0 F ρ RO w s g := by
  unfold Got.pureC at e
  split at e
  · rename_i v c
    cases e
    obtain ⟨v', h1, h2⟩ := hs _ _ rfl hc
    exact .val H h1 h2
  · cases e

/-! ### The types' table -/
theorem szT_run {t : TypeId} {s : Nat} (e : szT P t = some s) (w : World) : (sizeOf t).run P w = .ok s w := by
  unfold szT at e
  split at e
  · rename_i i hi
    cases e
    simp [sizeOf, typeInfo, hi]
  · cases e

theorem szT_info {t : TypeId} {s : Nat} (e : szT P t = some s) : (P.info? t).map (·.size) = some s := by
  unfold szT at e
  split at e
  · rename_i i hi; cases e; simp [hi]
  · cases e

theorem agg_run {t : TypeId} {b : Bool} (e : aggT P t = some b) (w : World) : (isAgg t).run P w = .ok b w := by
  unfold aggT at e
  unfold isAgg
  rw [Sem.run_bind]
  split at e
  · rename_i hu; cases e; rw [run_underlying hu w]; simp
  · rename_i hu; cases e; rw [run_underlying hu w]; simp
  · rename_i d h1 h2 hu; cases e; rw [run_underlying hu w]
    cases d <;> simp_all
  · cases e

/-- Part of cells. -/
theorem part_ok {t : TypeId} {cs : List AV} {vs : List Value} {off : Nat} {a : AV} (hr : VRels ρ RO w cs vs) (hone : ∀ x ∈ vs, x.oneCell' = true) (e : partA P t cs off = some a) : ∃ v, (part t vs.toArray off).run P w = .ok v w ∧ VRel ρ RO w a v := by
  unfold partA at e
  split at e
  · cases e
  · rename_i n hn
    split at e
    · rename_i ha
      split at e
      · rename_i hb
        cases e
        have hb' : off + n ≤ cs.length := Nat.le_of_ble_eq_true hb
        refine ⟨.agg ((vs.drop off).take n).toArray, ?_, ?_⟩
        · unfold part
          simp only [Sem.run_bind, agg_run ha w, Result.andThen_ok, if_true, szT_run hn w, Sem.run_pure]
          congr 2
          simp [List.extract_toArray, List.extract_eq_take_drop]
        · have := hr.take_drop off n
          exact .agg this.1 (fun x hx => hone x (List.mem_of_mem_drop (List.mem_of_mem_take hx))) this.2
      · cases e
    · rename_i ha
      obtain ⟨v, h1, h2⟩ := hr.get e
      refine ⟨v, ?_, h2⟩
      unfold part
      simp [Sem.run_bind, agg_run ha w, h1]
    · cases e

theorem sets_length {α : Type} : ∀ (l : List α) (cs : List α) (o : Nat), (sets cs o l).length = cs.length
  | [], _, _ => rfl
  | v :: r, cs, o => by rw [sets, sets_length r]; simp

theorem sets_get {α : Type} : ∀ (l : List α) (cs : List α) (o j : Nat), (sets cs o l)[j]? = if o ≤ j ∧ j < o + l.length ∧ j < cs.length then l[j - o]? else cs[j]?
  | [], cs, o, j => by
    rw [sets, if_neg]
    intro hc; simp at hc; omega
  | v :: r, cs, o, j => by
    rw [sets, sets_get r]
    simp only [List.length_set, List.length_cons]
    by_cases h1 : o + 1 ≤ j ∧ j < o + 1 + r.length ∧ j < cs.length
    · rw [if_pos h1, if_pos (by omega)]
      rw [show j - o = (j - (o + 1)) + 1 by omega, List.getElem?_cons_succ]
    · rw [if_neg h1, List.getElem?_set]
      by_cases h2 : o = j
      · subst h2
        by_cases h3 : o < cs.length
        · simp [h3]
        · simp [h3]
      · rw [if_neg h2, if_neg (by omega)]

theorem sets_rel : ∀ {l : List AV} {us : List Value} {cs : List AV} {vs : List Value} (o : Nat), VRels ρ RO w cs vs → VRels ρ RO w l us → VRels ρ RO w (sets cs o l) (sets vs o us)
  | [], us, cs, vs, o, h, h' => by rw [h'.inv_nil]; exact h
  | a :: l, us, cs, vs, o, h, h' => by
    obtain ⟨v, t, rfl, h1, h2⟩ := h'.inv_cons
    exact sets_rel (o + 1) (h.set o h1) h2

theorem heap_setCells (b : Nat) (ty : TypeId) (fr : Nat × Nat) : ∀ (vs : List Value) (o : Nat) (w : World) (cs : List Value), w.heap[b]? = some (.cells cs.toArray ty fr) →
    (w.setCells b o vs).heap[b]? = some (.cells (sets cs o vs).toArray ty fr) ∧ (∀ k, k ≠ b → (w.setCells b o vs).heap[k]? = w.heap[k]?) ∧
      (w.setCells b o vs).os = w.os ∧ (w.setCells b o vs).tape = w.tape ∧ (w.setCells b o vs).output = w.output ∧ (w.setCells b o vs).heap.size = w.heap.size ∧ (w.setCells b o vs).drawn = w.drawn
  | [], o, w, cs, h => ⟨h, fun _ _ => rfl, rfl, rfl, rfl, rfl, rfl⟩
  | v :: r, o, w, cs, h => by
    have h1 : (w.setCell ⟨b, o, none⟩ v).heap[b]? = some (.cells (cs.set o v).toArray ty fr) := by
      simp [World.setCell, Array.getElem?_modify, h]
    have ih := heap_setCells b ty fr r (o + 1) (w.setCell ⟨b, o, none⟩ v) (cs.set o v) h1
    refine ⟨ih.1, fun k hk => (ih.2.1 k hk).trans ?_, ih.2.2.1, ih.2.2.2.1, ih.2.2.2.2.1, ih.2.2.2.2.2.1.trans (by simp), ih.2.2.2.2.2.2⟩
    exact heap_setCell_other _ _ _ _ hk

theorem agg_und {t : TypeId} (e : aggT P t = some true) : ∃ d, P.underlying t = some d ∧ d.isRow = true := by
  unfold aggT at e
  split at e
  · rename_i hu; exact ⟨_, hu, rfl⟩
  · rename_i hu; exact ⟨_, hu, rfl⟩
  · cases e
  · cases e

theorem load_agg {t : TypeId} {b o s : Nat} {l : List Value} (ha : aggT P t = some true) (hs : szT P t = some s) (hl : l.length = s) (hc : w.rangeAt b o l) : (loadVar t ⟨b, o, none⟩).run P w = .ok (.agg l.toArray) w := by
  obtain ⟨d, hu, hd⟩ := agg_und ha
  exact run_loadVar_mid w b o t l d hc hu hd (by rw [szT_info hs, hl])

theorem load_one {t : TypeId} {a : Addr} {v : Value} (ha : aggT P t = some false) (hc : w.cell? a = some v) : (loadVar t a).run P w = .ok v w := by
  simp [loadVar, Sem.run_bind, agg_run ha w, hc]

theorem store_var {t : TypeId} {b o s : Nat} {v : Value} (hs : szT P t = some s) (hv : v.cells.size = s) (ht : w.there b o s) (h1 : ∀ x ∈ v.cells.toList, x.oneCell' = true) :
    (storeVar t ⟨b, o, none⟩ v).run P w = .ok () (w.setCells b o v.cells.toList) := by
  have := run_storeCells_cells (P := P) b o v.cells.toList 0 w (fun j hj => by simpa using (ht j (by simpa [hv] using hj)).1) (fun j hj => by simpa using (ht j (by simpa [hv] using hj)).2) h1
  simp only [Nat.add_zero] at this
  simp [storeVar, szT_run hs, hv, this]

theorem cell_block {b o : Nat} {cs : Array Value} {ty : TypeId} {fr : Nat × Nat} (hb : w.heap[b]? = some (.cells cs ty fr)) : w.cell? ⟨b, o, none⟩ = cs[o]? := by
  simp [World.cell?, hb]

theorem there_block {b o s : Nat} {cs : Array Value} {ty : TypeId} (hb : w.heap[b]? = some (.cells cs ty (0, 0))) (hs : o + s ≤ cs.size) : w.there b o s := fun j hj =>
  ⟨by rw [cell_block hb]; simp; omega, by simp [World.frozen?, hb]⟩

theorem loadAt_eq (t : TypeId) (a : Addr) (w : World) : (Instr.loadAt t (.pointer (some a))).run P w = (loadVar t a).run P w := by
  simp [Instr.loadAt, Instr.sureAddr]

theorem lod_ok {t : TypeId} {x : AV} {v : Value} {g : Got} (H : HRel w0 F h n ρ RO w) (hx : VRel ρ RO w x v) (e : lodA P h n t x = some g) (hc : ∀ c ∈ g.conds, c.1 = c.2) :
    ∃ u av, (Instr.loadAt t v).run P w = .ok u w ∧ g.val = some av ∧ g.heap = h ∧ g.next = n ∧ VRel ρ RO w av u := by
  unfold lodA at e
  split at e
  · rename_i id idx off
    cases hx with
    | @ptr id idx off L hL =>
    split at e
    · rename_i ty cells hlk
      split at e
      · unfold Got.pure at e
        split at e
        · rename_i av hp
          cases e
          obtain ⟨g1, g2, g3, cs, g4, g6, g5⟩ := H.box hlk hL
          have hoff : L.base + (0 * L.sz + off) = off := by rw [g1]; omega
          unfold partA at hp
          split at hp
          · cases hp
          · rename_i s hs
            split at hp
            · rename_i ha
              split at hp
              · rename_i hb
                cases hp
                have hb' : off + s ≤ cells.length := Nat.le_of_ble_eq_true hb
                have hr := g5.take_drop off s
                refine ⟨.agg ((cs.drop off).take s).toArray, _, (loadAt_eq _ _ _).trans (load_agg ha hs (by rw [← hr.1]; simp; omega) ?_), rfl, rfl, rfl, .agg hr.1 (fun x hx => g6 x (List.mem_of_mem_drop (List.mem_of_mem_take hx))) hr.2⟩
                intro j v hv
                rw [cell_block g4, hoff]
                have hj : j < s := by have := (List.getElem?_eq_some_iff.1 hv).1; simp at this; omega
                rw [List.getElem?_take_of_lt hj, List.getElem?_drop] at hv
                simpa using hv
              · cases hp
            · rename_i ha
              obtain ⟨u, e1, e2⟩ := g5.get hp
              exact ⟨u, _, (loadAt_eq _ _ _).trans (load_one ha (by rw [cell_block g4, hoff]; simpa using e1)), rfl, rfl, rfl, e2⟩
            · cases hp
        · cases e
      · cases e
    · rename_i ty sz m elem hlk
      have hrow := H.row hlk hL
      split at e
      · rename_i s hs
        split at e
        · rename_i ha hb
          cases e
          have hb' : off + s ≤ sz := Nat.le_of_ble_eq_true hb
          have hi : idx < m := by simpa using hc (decide (idx < m), true) (by simp)
          obtain ⟨g1, cs, g3, g4, g5⟩ := hrow.2 (by omega)
          have hk : ∀ k, k < s → ∃ v, cs[L.base + (idx * sz + (off + k))]? = some v ∧ v.oneCell' = true ∧ VRel ρ RO w (elem idx (off + k)) v := fun k hk => g5 idx (off + k) hi (by omega)
          let vs : List Value := (List.range s).map fun k => (cs[L.base + (idx * sz + (off + k))]?).getD undef
          refine ⟨.agg vs.toArray, _, (loadAt_eq _ _ _).trans (load_agg ha hs (by simp [vs]) ?_), rfl, rfl, rfl, .agg (by simp [vs]) ?_ ?_⟩
          · intro j v hv
            have hj : j < s := by have := (List.getElem?_eq_some_iff.1 hv).1; simpa [vs] using this
            obtain ⟨u, e1, _⟩ := hk j hj
            simp only [vs, List.getElem?_map, List.getElem?_range hj, Option.map_some] at hv
            rw [cell_block g3, g1, show L.base + (idx * sz + off) + j = L.base + (idx * sz + (off + j)) by omega]
            rw [e1] at hv ⊢
            simpa using hv
          · intro x hx
            obtain ⟨j, hj, rfl⟩ := List.mem_map.1 hx
            obtain ⟨u, e1, e3, _⟩ := hk j (by simpa using hj)
            simpa [e1] using e3
          · intro j a v ea hv
            have hj : j < s := by have := (List.getElem?_eq_some_iff.1 hv).1; simpa [vs] using this
            obtain ⟨u, e1, _, e2⟩ := hk j hj
            simp only [List.getElem?_map, List.getElem?_range hj, Option.map_some, vs] at ea hv
            rw [e1] at hv
            simp at ea hv
            subst ea; subst hv; exact e2
        · rename_i ha hb
          cases e
          have hb' : off + 1 ≤ sz := Nat.le_of_ble_eq_true hb
          have hi : idx < m := by simpa using hc (decide (idx < m), true) (by simp)
          obtain ⟨g1, cs, g3, g4, g5⟩ := hrow.2 (by omega)
          obtain ⟨u, e1, _, e2⟩ := g5 idx off hi (by omega)
          exact ⟨u, _, (loadAt_eq _ _ _).trans (load_one ha (by rw [cell_block g3, g1]; exact e1)), rfl, rfl, rfl, e2⟩
        · cases e
      · cases e
    · cases e
  · rename_i sz cell
    cases hx with
    | @dptr sz cell blk o vs hr hcl hone hfl hv =>
    split at e
    · rename_i s hs
      split at e
      · rename_i ha hb
        cases e
        have hb' : s ≤ sz := Nat.le_of_ble_eq_true hb
        refine ⟨.agg ((List.range s).map vs).toArray, _, (loadAt_eq _ _ _).trans (load_agg ha hs (by simp) ?_), rfl, rfl, rfl, .agg (by simp) ?_ ?_⟩
        · intro j v hv
          have hj : j < s := by have := (List.getElem?_eq_some_iff.1 hv).1; simpa using this
          simp only [List.getElem?_map, List.getElem?_range hj, Option.map_some] at hv
          rw [hcl j (by omega)]; exact hv
        · intro x hx
          obtain ⟨j, hj, rfl⟩ := List.mem_map.1 hx
          have hj : j < s := by simpa using hj
          exact hone j (by omega)
        · intro j a v ea hv'
          have hj : j < s := by have := (List.getElem?_eq_some_iff.1 hv').1; simpa using this
          simp only [List.getElem?_map, List.getElem?_range hj, Option.map_some] at ea hv'
          cases ea; cases hv'
          exact hv j (by omega)
      · rename_i ha hb
        cases e
        have hb' : 1 ≤ sz := Nat.le_of_ble_eq_true hb
        exact ⟨vs 0, _, (loadAt_eq _ _ _).trans (load_one ha (hcl 0 (by omega))), rfl, rfl, rfl, hv 0 (by omega)⟩
      · cases e
    · cases e
  · cases e

end Go.Eng
