/- One operation that calls nobody: sound. -/
import Derived.Test.YtopeokonlaljlaaEng7
set_option linter.unusedVariables false
set_option linter.unusedSimpArgs false
set_option linter.unusedSectionVars false
namespace Go.Eng
variable [Dr]
open Go.RowKit

variable {P : Program} {w0 w : World} {F : Nat → Prop} {ρ : Nat → Option Loc} {RO : Nat → Prop} {h : Heap} {n : Nat}

theorem append_ok {t u : TypeId} {ty : TypeId} {x y : AV} {v v' : Value} {g : Got} (H : HRel w0 F h n ρ RO w) (hu2 : ∃ e', P.underlying u = some (.slice e')) (hx : VRel ρ RO w x v) (hy : VRel ρ RO w y v')
    (e : appA P h n t x y = some g) (hc : ∀ c ∈ g.conds, c.1 = c.2) :
    ∃ ρ' w' zv av, Ext ρ RO w ρ' RO w' ∧ HRel w0 F g.heap g.next ρ' RO w' ∧ (Builtin.append_ #[t, u] ty #[v, v']).run P w = .ok zv w' ∧ g.val = some av ∧ VRel ρ' RO w' av zv := by
  unfold appA at e
  split at e
  · rename_i e' hel
    have hu := elemT_und hel
    split at e
    · rename_i ie hie
      split at e
      · rename_i z hz hs hb
        have hs : 1 ≤ ie.size := Nat.le_of_ble_eq_true hs
        have hb : 1 ≤ ie.bytes := Nat.le_of_ble_eq_true hb
        split at e
        · rename_i m el b hzs hmore
          have hzs : z.cells.size = ie.size := Nat.eq_of_beq_eq_true hzs
          split at e
          · rename_i g' hto
            cases e
            have hb1 : b = true := hc (b, true) (by simp)
            subst hb1
            unfold moreA at hmore
            split at hmore
            · cases hmore
              cases hy
              exact app_ok (g := g') H hu hu2 hie hz hzs hs hb hx (A := none) (c := 0) (vs := fun _ _ => undef) rfl (fun h => by omega) (fun i k h => by omega) (fun i k h => by omega) hto (fun c hcc => hc c (by simp [hcc]))
            · rename_i y hy0
              split at hmore
              · rename_i sz m' el' b' hro
                split at hmore
                · rename_i hsz
                  cases hmore
                  have hsz : sz = ie.size := Nat.eq_of_beq_eq_true hsz
                  subst hsz
                  obtain ⟨A, c, vs, q1, q2, q3, q4, q5⟩ := rowOf_ok H hy hro
                  exact app_ok (g := g') H hu hu2 hie hz hzs hs hb hx q1 q3 q5 q4 hto (fun c hcc => hc c (by simp [hcc]))
                · cases hmore
              · cases hmore
          · cases e
        · cases e
      · cases e
    · cases e
  · cases e

theorem make_ok {t : TypeId} {x y : AV} {v u : Value} {g : Got} (H : HRel w0 F h n ρ RO w) (hx : VRel ρ RO w x v) (hy : VRel ρ RO w y u) (e : makA P h n t x y = some g) (hc : ∀ c ∈ g.conds, c.1 = c.2) :
    ∃ ρ' w' zv av, Ext ρ RO w ρ' RO w' ∧ HRel w0 F g.heap g.next ρ' RO w' ∧ (Instr.makeSlice t v u).run P w = .ok zv w' ∧ g.val = some av ∧ VRel ρ' RO w' av zv := by
  unfold makA at e
  split at e
  · rename_i e' a b hel
    have hu := elemT_und hel
    cases hx; cases hy
    split at e
    · rename_i ie hie
      split at e
      · rename_i z hz
        split at e
        · rename_i za hza
          split at e
          · rename_i hl hs
            cases e
            have hs : 1 ≤ ie.size := Nat.le_of_ble_eq_true hs
            have hl : (cellsA za).length = ie.size := Nat.eq_of_beq_eq_true hl
            have hab : a = b := by simpa using hc (a == b, true) (by simp)
            subst hab
            have hb : 0 ≤ a ∧ a * ie.bytes ≤ 140737488355328 ∧ a ≤ 140737488355328 := by simpa using hc (decide (0 ≤ a ∧ a * ie.bytes ≤ 140737488355328 ∧ a ≤ 140737488355328), true) (by simp)
            have hrun := run_make (P := P) w t e' ie z hu hie hz .i64 .i64 a a hb.1 (Int.le_refl _) (by rw [Int.mul_comm]; omega) (by omega)
            have hcr := cells_rel (ρ := ρ) (RO := RO) (w := w) (constA_rel hza)
            have hco := cells_one (ρ := ρ) (RO := RO) (w := w) (constA_rel hza) (constA_plain hza)
            have hzl : z.cells.size = ie.size := by rw [← hl, hcr.1]; simp
            have hr : VRels ρ RO w ((List.range (a.toNat * ie.size)).map fun i => (cellsA za).getD (i % ie.size) .nilp) (madeCells z.cells (a.toNat * ie.size)).toList := by
              refine ⟨by simp [madeCells], fun i x v e1 e2 => ?_⟩
              have hi : i < a.toNat * ie.size := by have := (List.getElem?_eq_some_iff.1 e1).1; simpa using this
              have hmod : i % ie.size < ie.size := Nat.mod_lt _ (by omega)
              simp only [List.getElem?_map, List.getElem?_range hi, Option.map_some, Option.some.injEq] at e1
              have hm1 : i % ie.size < (cellsA za).length := by omega
              obtain ⟨q, q1, q2⟩ := hcr.get (List.getElem?_eq_getElem hm1)
              rw [List.getD_eq_getElem?_getD, List.getElem?_eq_getElem hm1] at e1
              simp only [Option.getD_some] at e1
              subst e1
              have hv : v = q := by
                simp only [madeCells, hzl, Array.toList_map, Array.toList_range, List.getElem?_map, List.getElem?_range hi, Option.map_some, Option.some.injEq] at e2
                subst e2
                simp only [Array.getElem?_toList] at q1
                simp [getElem!_def, q1]
              rw [hv]; exact q2
            have ho : ∀ x ∈ (madeCells z.cells (a.toNat * ie.size)).toList, x.oneCell' = true := by
              intro x hx
              simp only [madeCells, Array.toList_map, Array.toList_range] at hx
              obtain ⟨i, hi, rfl⟩ := List.mem_map.1 hx
              have hmod : i % z.cells.size < z.cells.size := Nat.mod_lt _ (by omega)
              refine hco _ ?_
              simp [getElem!_def, Array.getElem?_eq_getElem hmod]
            obtain ⟨ρ', e1, e2, e3⟩ := row_new (e := e') (sz := ie.size) (k := a.toNat) (elem := fun _ k => (cellsA za).getD k .nilp) H hr ho (by simp) (fun i c hi hcc => by
              have hlt : i * ie.size + c < a.toNat * ie.size := by
                have : (i + 1) * ie.size ≤ a.toNat * ie.size := Nat.mul_le_mul_right _ hi
                rw [Nat.add_mul, Nat.one_mul] at this
                omega
              rw [List.getD_eq_getElem?_getD (l := List.map _ _), List.getElem?_map, List.getElem?_range hlt]
              simp only [Option.map_some, Option.getD_some]
              rw [Nat.mul_comm, Nat.mul_add_mod, Nat.mod_eq_of_lt hcc]) (Nat.le_refl _)
            refine ⟨ρ', _, _, _, e1, e2, ?_, rfl, e3⟩
            simpa using hrun
          · cases e
        · cases e
      · cases e
    · cases e
  · cases e

theorem GotOk.mk' {s : Sem Next} {g : Got} {ρ' : Nat → Option Loc} {w' : World} {av : AV} {v : Value} (e : Ext ρ RO w ρ' RO w') (H : HRel w0 F g.heap g.next ρ' RO w') (hg : g.val = some av) (hs : s.run P w = .ok (.value v) w') (hv : VRel ρ' RO w' av v) : GotOk P w0 F ρ RO w s g :=
  ⟨ρ', w', e, H, by rw [hg]; exact ⟨v, hs, hv⟩⟩

theorem bool_inv {b : Bool} {v : Value} (h : VRel ρ RO w (.bool b) v) : v = .bool b := by cases h; rfl
theorem int_inv {k : IntKind} {b : Int} {v : Value} (h : VRel ρ RO w (.int k b) v) : v = .int k b := by cases h; rfl
theorem str_inv {b : ByteArray} {v : Value} (h : VRel ρ RO w (.str b) v) : v = .string b := by cases h; rfl
theorem agg_inv {l : List AV} {v : Value} (h : VRel ρ RO w (.agg l) v) : ∃ vs : List Value, v = .agg vs.toArray ∧ VRels ρ RO w l vs ∧ ∀ x ∈ vs, x.oneCell' = true := by
  cases h with
  | agg e h1 h => exact ⟨_, rfl, ⟨e, h⟩, h1⟩
theorem tup_inv {l : List AV} {v : Value} (h : VRel ρ RO w (.tup l) v) : ∃ vs : List Value, v = .tuple vs.toArray ∧ VRels ρ RO w l vs := by
  cases h with
  | tup e h => exact ⟨_, rfl, ⟨e, h⟩⟩

theorem map_arr {α β : Type} (f : α → β) (xs : Array α) : xs.map f = (xs.toList.map f).toArray := by apply Array.ext'; simp
theorem ptr_inv {id idx off : Nat} {v : Value} (h : VRel ρ RO w (.ptr id idx off) v) : ∃ A, v = .pointer (some A) := by cases h; exact ⟨_, rfl⟩
theorem dptr_inv {sz : Nat} {c : Nat → AV} {v : Value} (h : VRel ρ RO w (.dptr sz c) v) : ∃ A, v = .pointer (some A) := by cases h; exact ⟨_, rfl⟩

theorem step_ok {env : Env} {a : Act} {o : Oper} {g : Got} (H : HRel w0 F h n ρ RO w) (he : ERel ρ RO w env a) (e : stepA P env h n o.op = some g) (hc : ∀ c ∈ g.conds, c.1 = c.2) : GotOk P w0 F ρ RO w (execOp a.eval o) g := by
  obtain ⟨dst, op, ty, pos, after, guard⟩ := o
  simp only at e ⊢
  unfold stepA at e
  unfold execOp
  simp only
  split at e
  · -- move
    refine GotOk.pure H e fun av hav => ⟨_, by simp, evA_rel he hav⟩
  · refine GotOk.pure H e fun av hav => ⟨_, by simp, evA_rel he hav⟩
  · -- pick
    rename_i c x y
    split at e
    · rename_i hcv
      have hb := bool_inv (evA_rel he hcv)
      refine GotOk.pure H e fun av hav => ⟨_, by simp [asBool, hb], evA_rel he hav⟩
    · rename_i hcv
      have hb := bool_inv (evA_rel he hcv)
      refine GotOk.pure H e fun av hav => ⟨_, by simp [asBool, hb], evA_rel he hav⟩
    · cases e
  · -- alloc
    rename_i t
    split at e
    · rename_i z hz
      obtain ⟨v, v1, v2⟩ := zeroT_run (P := P) (ρ := ρ) (RO := RO) (w := w) hz
      obtain ⟨ρ', w', e1, e2, e3, av, e4, e5⟩ := box_ok (P := P) H v2 e
      refine GotOk.mk' e1 e2 e4 ?_ e5
      simp only [Instr.alloc, Sem.run_bind, v1, e3, Result.andThen_ok, Sem.run_pure]
    · cases e
  · -- box
    rename_i t x
    split at e
    · rename_i v hv
      obtain ⟨ρ', w', e1, e2, e3, av, e4, e5⟩ := box_ok (P := P) H (evA_rel he hv) e
      refine GotOk.mk' e1 e2 e4 ?_ e5
      simp only [Instr.box, Sem.run_bind, e3, Result.andThen_ok, Sem.run_pure]
    · cases e
  · -- build
    rename_i t parts
    split at e
    · rename_i ps hps
      refine GotOk.pure H e fun av hav => ?_
      obtain ⟨u, u1, u2⟩ := build_ok (P := P) (t := t) (vps := parts.map fun (i, x) => (i, a.eval x)) (by simpa using evParts_rel he hps) hav
      exact ⟨u, by simp only [Sem.run_bind, u1, Result.andThen_ok, Sem.run_pure], u2⟩
    · cases e
  · -- buildSlice
    rename_i t len parts
    split at e
    · rename_i ps e' hps hel
      split at e
      · rename_i s hs
        split at e
        · rename_i cells hb
          cases e
          obtain ⟨ρ', w', v, e1, e2, e3, e4⟩ := buildSlice_ok (P := P) (vps := parts.map fun (i, x) => (i, a.eval x)) H (by simpa using evParts_rel he hps) hel hs hb
          exact GotOk.mk' e1 e2 rfl (by simp only [Sem.run_bind, e3, Result.andThen_ok, Sem.run_pure]) e4
        · cases e
      · cases e
    · cases e
  · -- load
    rename_i t x
    split at e
    · rename_i v hv
      obtain ⟨u, av, e1, e2, e3, e4, e5⟩ := lod_ok (P := P) H (evA_rel he hv) e hc
      exact GotOk.mk' (.refl _ _ _) (by rw [e3, e4]; exact H) e2 (by simp only [Sem.run_bind, e1, Result.andThen_ok, Sem.run_pure]) e5
    · cases e
  · -- store
    rename_i t x y
    split at e
    · rename_i v u hv hu
      obtain ⟨w', e1, e2, e3, e4⟩ := sto_ok (P := P) H (evA_rel he hv) (evA_rel he hu) e hc
      refine ⟨ρ, w', e3, e4, ?_⟩
      rw [e2]
      simp only [Sem.run_bind, e1, Result.andThen_ok, Sem.run_pure]
    · cases e
  · -- nilCheck
    rename_i x
    split at e
    · rename_i id idx off hx
      have hr := evA_rel he hx
      obtain ⟨A, hA⟩ := ptr_inv hr
      refine GotOk.pure H e fun av hav => ?_
      cases hav
      exact ⟨_, by simp [hA], hA ▸ hr⟩
    · rename_i sz c hx
      have hr := evA_rel he hx
      obtain ⟨A, hA⟩ := dptr_inv hr
      refine GotOk.pure H e fun av hav => ?_
      cases hav
      exact ⟨_, by simp [hA], hA ▸ hr⟩
    · cases e
  · -- binOp
    rename_i op t x y t2
    split at e
    · rename_i u v hu hv
      refine GotOk.pureC H e hc fun av c hav hcc => ?_
      obtain ⟨z, z1, z2⟩ := bin_ok (P := P) (x := x) (y := y) (evA_rel he hu) (evA_rel he hv) hav hcc
      exact ⟨z, by rw [Sem.run_bind, z1]; simp only [Result.andThen_ok, Sem.run_pure], z2⟩
    · cases e
  · -- unOp
    rename_i op t x
    split at e
    · rename_i u hu
      refine GotOk.pure H e fun av hav => ?_
      obtain ⟨z, z1, z2⟩ := un_ok (P := P) (evA_rel he hu) hav
      exact ⟨z, by simp only [Sem.run_bind, z1, Result.andThen_ok, Sem.run_pure], z2⟩
    · cases e
  · -- convert
    rename_i s t x
    split at e
    · rename_i k' b k1 k2 hx h1 h2
      have hr := int_inv (evA_rel he hx)
      refine GotOk.pure H e fun av hav => ?_
      cases hav
      exact ⟨.int k2 (k2.wrap b), by simp [convert, run_underlying h1, run_underlying h2, hr, Conv.intToInt], .int _ _⟩
    · rename_i b hx h1 h2
      have hr := str_inv (evA_rel he hx)
      refine GotOk.pure H e fun av hav => ?_
      cases hav
      exact ⟨.string b, by simp [convert, run_underlying h1, run_underlying h2, hr], .str _⟩
    · cases e
  · -- makeInterface
    rename_i t x
    split at e
    · rename_i v hx hcon
      refine GotOk.pure H e fun av hav => ?_
      cases hav
      exact ⟨_, by simp only [Sem.run_bind, run_makeInterface w t _ hcon, Result.andThen_ok, Sem.run_pure], .iface (evA_rel he hx)⟩
    · cases e
  · -- makeFunc
    rename_i f first cap
    split at e
    · rename_i l1 l2 h1 h2
      refine GotOk.pure H e fun av hav => ?_
      cases hav
      have r1 := evAs_rel he h1
      have r2 := evAs_rel he h2
      refine ⟨.func f (first.toList.map a.eval).toArray (cap.toList.map a.eval).toArray, ?_, .fn r1.1 r2.1 r1.2 r2.2⟩
      simp [Instr.makeFunc, map_arr]
    · cases e
  · -- makeSlice
    rename_i t l c
    split at e
    · rename_i x y hx hy
      obtain ⟨ρ', w', zv, av, e1, e2, e3, e4, e5⟩ := make_ok (P := P) H (evA_rel he hx) (evA_rel he hy) e hc
      exact GotOk.mk' e1 e2 e4 (by simp only [Sem.run_bind, e3, Result.andThen_ok, Sem.run_pure]) e5
    · cases e
  · -- slice
    rename_i t x lo hi
    split at e
    · rename_i v hv
      obtain ⟨z, av, e1, e2, e3, e4, e5⟩ := slice_ok (P := P) H he (evA_rel he hv) e hc
      exact GotOk.mk' (.refl _ _ _) (by rw [e3, e4]; exact H) e2 (by simp only [Option.map_none, Sem.run_bind, e1, Result.andThen_ok, Sem.run_pure]) e5
    · cases e
  · -- fieldAddr
    rename_i s x f
    split at e
    · rename_i v hv
      refine GotOk.pure H e fun av hav => ?_
      obtain ⟨u, u1, u2⟩ := fld_ok (P := P) (evA_rel he hv) hav
      exact ⟨u, by simp only [Sem.run_bind, u1, Result.andThen_ok, Sem.run_pure], u2⟩
    · cases e
  · -- field
    rename_i s x f
    split at e
    · rename_i cs fd hx hfd
      obtain ⟨fs, hu, hf⟩ := fieldT_und hfd
      obtain ⟨vs, hv, hr, ho⟩ := agg_inv (evA_rel he hx)
      refine GotOk.pure H e fun av hav => ?_
      obtain ⟨u, u1, u2⟩ := part_ok (P := P) hr ho hav
      refine ⟨u, ?_, u2⟩
      simp [Instr.field, run_underlying hu, hf, hv, asAgg, u1]
    · cases e
  · -- indexAddr
    rename_i t x i
    split at e
    · rename_i v j hv hj
      obtain ⟨z, av, e1, e2, e3, e4, e5⟩ := idx_ok (P := P) H (evA_rel he hv) (evA_rel he hj) e hc
      exact GotOk.mk' (.refl _ _ _) (by rw [e3, e4]; exact H) e2 (by simp only [Sem.run_bind, e1, Result.andThen_ok, Sem.run_pure]) e5
    · cases e
  · -- index
    rename_i t x i
    split at e
    · rename_i v j hv hj
      refine GotOk.pureC H e hc fun av c hav hcc => ?_
      obtain ⟨z, z1, z2⟩ := idxV_ok (P := P) (evA_rel he hv) (evA_rel he hj) hav hcc
      exact ⟨z, by simp only [Sem.run_bind, z1, Result.andThen_ok, Sem.run_pure], z2⟩
    · cases e
  · -- extract
    rename_i x i
    split at e
    · rename_i l hx
      obtain ⟨vs, hv, hr⟩ := tup_inv (evA_rel he hx)
      refine GotOk.pure H e fun av hav => ?_
      obtain ⟨v, v1, v2⟩ := hr.get hav
      exact ⟨v, by simp [Instr.extract, hv, v1], v2⟩
    · cases e
  · -- len
    rename_i args ts
    split at e
    · rename_i x t hargs hts
      have ha : args = #[x] := by apply Array.ext'; simp [hargs]
      have ht : ts = #[t] := by apply Array.ext'; simp [hts]
      subst ha; subst ht
      split at e
      · rename_i v hv
        refine GotOk.pure H e fun av hav => ?_
        obtain ⟨z, z1, z2⟩ := len_ok (P := P) (ty := ty) H (evA_rel he hv) hav
        exact ⟨z, by simp [resolve, invoke, builtin, z1], z2⟩
      · cases e
    · cases e
  · -- cap
    rename_i args ts
    split at e
    · rename_i x t hargs hts
      have ha : args = #[x] := by apply Array.ext'; simp [hargs]
      have ht : ts = #[t] := by apply Array.ext'; simp [hts]
      subst ha; subst ht
      split at e
      · rename_i v hv
        refine GotOk.pure H e fun av hav => ?_
        obtain ⟨z, z1, z2⟩ := cap_ok (P := P) (ty := ty) (evA_rel he hv) hav
        exact ⟨z, by simp [resolve, invoke, builtin, z1], z2⟩
      · cases e
    · cases e
  · -- append
    rename_i args ts
    split at e
    · rename_i x y t u hargs hts
      have ha : args = #[x, y] := by apply Array.ext'; simp [hargs]
      have ht : ts = #[t, u] := by apply Array.ext'; simp [hts]
      subst ha; subst ht
      split at e
      · rename_i v z e2 hv hz hu
        obtain ⟨ρ', w', zv, av, e1, e2, e3, e4, e5⟩ := append_ok (P := P) (ty := ty) H ⟨_, hu⟩ (evA_rel he hv) (evA_rel he hz) e hc
        exact GotOk.mk' e1 e2 e4 (by simp [resolve, invoke, builtin, e3]) e5
      · cases e
    · cases e
  · -- max
    rename_i args ts
    split at e
    · rename_i l hl
      refine GotOk.pure H e fun av hav => ?_
      have hr := evAs_rel he hl
      obtain ⟨z, z1, z2⟩ := minmax_ok (P := P) (mx := true) (ts := ts) (ty := ty) hr hav
      refine ⟨z, ?_, z2⟩
      simp only [if_true] at z1
      have : (args.map a.eval) = (args.toList.map a.eval).toArray := map_arr _ _
      simp [resolve, invoke, builtin, this, z1]
    · cases e
  · -- min
    rename_i args ts
    split at e
    · rename_i l hl
      refine GotOk.pure H e fun av hav => ?_
      have hr := evAs_rel he hl
      obtain ⟨z, z1, z2⟩ := minmax_ok (P := P) (mx := false) (ts := ts) (ty := ty) hr hav
      refine ⟨z, ?_, z2⟩
      simp only [Bool.false_eq_true, if_false] at z1
      have : (args.map a.eval) = (args.toList.map a.eval).toArray := map_arr _ _
      simp [resolve, invoke, builtin, this, z1]
    · cases e
  · cases e

end Go.Eng
