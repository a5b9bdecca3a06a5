/- A region that draws its order: swapped, moved, all orders. -/
import Derived.Test.YtopeokonlaljlaaEng10
set_option linter.unusedVariables false
set_option linter.unusedSimpArgs false
set_option linter.unusedSectionVars false
namespace Go.Eng
variable [Dr]
open Go.RowKit

variable {P : Program} {w0 w : World} {F : Nat → Prop} {ρ : Nat → Option Loc} {RO : Nat → Prop} {h : Heap} {n : Nat}

theorem stepD_heap {cf : CallF} {cds : List Dec} {env : Env} {op : Op} {id : Option Nat} {wr : Bool} {h h' : Heap} {v : Option AV} {h1 : Heap} {c : Conds} (hd : dIds env op = some (id, wr)) (e : stepD P cf cds env h n op = some (v, h1, c)) (hh : ∀ i, id = some i → lookH h i = lookH h' i) :
    ∃ u, Upd id wr u ∧ h1 = u ++ h ∧ stepD P cf cds env h' n op = some (v, u ++ h', c) := by
  unfold stepD at e ⊢
  split at e
  · split at e
    · rename_i r2 r3
      split at e
      · rename_i q1 q2
        (try simp only [q1, q2])
        split at e
        · rename_i v' q3
          (try simp only [q3])
          split at e
          · rename_i q4
            cases e
            (try simp only [q4])
            exact ⟨[], .inl rfl, rfl, rfl⟩
          · cases e
        · cases e
      · cases e
    · cases e
  · split at e
    · rename_i g hg
      split at e
      · rename_i hn
        cases e
        obtain ⟨u, u1, u2, u3⟩ := stepA_heap hd hg hh
        refine ⟨u, u1, u2, ?_⟩
        simp only [u3, hn]
      · cases e
    · cases e

theorem wanted_congr {ops : Array Oper} {env env' : Env} {o : Oper} (h : ∀ t ∈ o.looksAt ops, lookE env t = lookE env' t) : wantedA ops env o = wantedA ops env' o := by
  unfold wantedA
  split
  · rfl
  · rename_i g want hg
    split
    · rename_i t ht
      rw [h t (by simp [Oper.looksAt, hg, ht])]
    · rfl

theorem evA_looks {ops : Array Oper} {env env' : Env} {o : Oper} (h : ∀ t ∈ o.looksAt ops, lookE env t = lookE env' t) : ∀ x ∈ o.op.operands, evA env x = evA env' x := by
  intro x hx
  refine evA_congr fun t ht => h t ?_
  subst ht
  exact List.mem_append_left _ (List.mem_filterMap.2 ⟨.tmp t, by simpa using hx, rfl⟩)

/-- What a step does, wherever it is done. -/
theorem dStep_eff {cf : CallF} {N : Nat} {ops : Array Oper} {tab : Nat → DTab} {i : Nat} {s s1 : DSt} {c : Conds} (e : dStep P cf N n ops tab i s = some (s1, c)) :
    ∃ o ue uh, ops[i]? = some o ∧ s1 = ⟨ue ++ s.env, uh ++ s.heap⟩ ∧ (ue = [] ∨ ∃ t v, o.dst = some t ∧ ue = [(t, v)]) ∧ Upd (tab i).id (tab i).wr uh ∧
      ∀ s' : DSt, (∀ t ∈ o.looksAt ops, lookE s.env t = lookE s'.env t) → (∀ k, (tab i).id = some k → lookH s.heap k = lookH s'.heap k) →
        dStep P cf N n ops tab i s' = some (⟨ue ++ s'.env, uh ++ s'.heap⟩, c) := by
  unfold dStep at e
  split at e
  · cases e
  · rename_i o ho
    refine ⟨o, ?_⟩
    split at e
    · -- not wanted
      rename_i hN hw
      cases e
      refine ⟨(match o.dst with | some t => [(t, some (.tup []))] | none => []), [], ho, ?_, ?_, .inl rfl, fun s' h1 h2 => ?_⟩
      · cases o.dst <;> rfl
      · cases hd : o.dst with
        | none => exact .inl rfl
        | some t => exact .inr ⟨t, _, rfl, rfl⟩
      · unfold dStep
        simp only [ho, ← wanted_congr h1]
        rw [hN, hw]
        simp only
        cases o.dst <;> rfl
    · rename_i hN hw
      split at e
      · rename_i id wr hid
        split at e
        · rename_i htab
          split at e
          · rename_i v h1 c1 hst
            split at e
            · rename_i v2 c2 hlit
              split at e
              · rename_i env' hput
                cases e
                have htid : id = (tab i).id ∧ wr = (tab i).wr := by
                  simp only [Bool.and_eq_true, beq_iff_eq] at htab
                  refine ⟨?_, htab.2⟩
                  have h3 := htab.1
                  cases h4 : id <;> cases h5 : (tab i).id <;> rw [h4, h5] at h3 <;> simp [eqON] at h3 ⊢
                  exact h3
                have hue : ∃ ue : Env, (ue = [] ∨ ∃ t v, o.dst = some t ∧ ue = [(t, v)]) ∧ env' = ue ++ s.env ∧ ∀ E : Env, putA E o.dst v2 = some (ue ++ E) := by
                  unfold putA at hput
                  split at hput
                  · rename_i t v hd
                    cases hput
                    exact ⟨[(t, some v)], .inr ⟨t, _, hd, rfl⟩, rfl, fun E => by simp [hd, putA]⟩
                  · rename_i hd
                    cases hput
                    exact ⟨[], .inl rfl, rfl, fun E => by simp [hd, putA]⟩
                  · cases hput
                obtain ⟨ue, ue1, ue2, ue3⟩ := hue
                have hu := fun h' hh => stepD_heap (h' := h') hid hst hh
                obtain ⟨u0, u1, u2, _⟩ := hu s.heap (fun _ _ => rfl)
                refine ⟨ue, u0, ho, by rw [ue2, u2], ue1, htid.1 ▸ htid.2 ▸ u1, fun s' g1 g2 => ?_⟩
                obtain ⟨u', u1', u2', u3'⟩ := hu s'.heap (fun k hk => g2 k (htid.1 ▸ hk))
                have : u' = u0 := List.append_cancel_right (u2'.symm.trans u2)
                subst this
                unfold dStep
                simp only [ho, ← wanted_congr g1]
                rw [hN, hw]
                simp only [← dIds_congr (evA_looks g1), hid, htab, ← stepD_env (evA_looks g1), u3', hlit, ue3]
              · cases e
            · cases e
          · cases e
        · cases e
      · cases e
    · cases e

/-- Two states that answer alike. -/
def Eqv (s s' : DSt) : Prop := (∀ t, lookE s.env t = lookE s'.env t) ∧ ∀ k, lookH s.heap k = lookH s'.heap k

theorem Eqv.refl (s : DSt) : Eqv s s := ⟨fun _ => rfl, fun _ => rfl⟩
theorem Eqv.trans {a b c : DSt} (h : Eqv a b) (g : Eqv b c) : Eqv a c := ⟨fun t => (h.1 t).trans (g.1 t), fun k => (h.2 k).trans (g.2 k)⟩

theorem lookE_app (u e e' : Env) (h : ∀ t, lookE e t = lookE e' t) : ∀ t, lookE (u ++ e) t = lookE (u ++ e') t := by
  intro t
  induction u with
  | nil => exact h t
  | cons x r ih => obtain ⟨k, v⟩ := x; simp only [List.cons_append]; rw [lookE_cons, lookE_cons, ih]
theorem lookH_app (u e e' : Heap) (h : ∀ t, lookH e t = lookH e' t) : ∀ t, lookH (u ++ e) t = lookH (u ++ e') t := by
  intro t
  induction u with
  | nil => exact h t
  | cons x r ih => obtain ⟨k, v⟩ := x; simp only [List.cons_append]; rw [lookH_cons, lookH_cons, ih]

theorem dStep_eqv {cf : CallF} {N : Nat} {ops : Array Oper} {tab : Nat → DTab} {i : Nat} {s s' s1 : DSt} {c : Conds} (e : dStep P cf N n ops tab i s = some (s1, c)) (q : Eqv s s') :
    ∃ s1', dStep P cf N n ops tab i s' = some (s1', c) ∧ Eqv s1 s1' := by
  obtain ⟨o, ue, uh, h1, rfl, h3, h4, h5⟩ := dStep_eff e
  exact ⟨_, h5 s' (fun t _ => q.1 t) (fun k _ => q.2 k), lookE_app _ _ _ q.1, lookH_app _ _ _ q.2⟩

theorem dRun_eqv {cf : CallF} {N : Nat} {ops : Array Oper} {tab : Nat → DTab} : ∀ {l : List Nat} {s s' s1 : DSt} {c : Conds}, dRun P cf N n ops tab l s = some (s1, c) → Eqv s s' →
    ∃ s1', dRun P cf N n ops tab l s' = some (s1', c) ∧ Eqv s1 s1'
  | [], s, s', s1, c, e, q => by
    simp only [dRun] at e ⊢
    cases e
    exact ⟨_, rfl, q⟩
  | i :: l, s, s', s1, c, e, q => by
    simp only [dRun] at e
    split at e
    · rename_i s2 c1 hs
      obtain ⟨s2', g1, g2⟩ := dStep_eqv hs q
      split at e
      · rename_i s3 c2 hr
        cases e
        obtain ⟨s3', g3, g4⟩ := dRun_eqv hr g2
        exact ⟨s3', by simp only [dRun, g1, g3], g4⟩
      · cases e
    · cases e

/-- Two steps that are apart may be done the other way round. -/
theorem dStep_swap {cf : CallF} {N : Nat} {ops : Array Oper} {tab : Nat → DTab} {i j : Nat} {s sj sij : DSt} {cj ci : Conds} {x y : Oper} (hj : ops[j]? = some x) (hi : ops[i]? = some y)
    (hap : x.apart ops y = true) (hat : apartT (tab j) (tab i) = true) (e1 : dStep P cf N n ops tab j s = some (sj, cj)) (e2 : dStep P cf N n ops tab i sj = some (sij, ci)) :
    ∃ si sji, dStep P cf N n ops tab i s = some (si, ci) ∧ dStep P cf N n ops tab j si = some (sji, cj) ∧ Eqv sij sji := by
  obtain ⟨ox, uj, vj, h1, rfl, h3, h4, h5⟩ := dStep_eff e1
  obtain ⟨oy, ui, vi, g1, rfl, g3, g4, g5⟩ := dStep_eff e2
  rw [hj] at h1; cases h1
  rw [hi] at g1; cases g1
  obtain ⟨a1, a2, a3⟩ := Oper.apart_spec hap
  have neE : ∀ t ∈ y.looksAt ops, lookE (uj ++ s.env) t = lookE s.env t := by
    intro t ht
    rcases h3 with rfl | ⟨d, v, hd, rfl⟩
    · rfl
    · simp only [List.cons_append, List.nil_append]
      rw [lookE_cons, if_neg]
      rintro rfl
      exact a1 d hd ht
  have neH : ∀ k, (tab i).id = some k → lookH (vj ++ s.heap) k = lookH s.heap k := by
    intro k hk
    rcases h4 with rfl | ⟨hw, id, o, hid, rfl⟩
    · rfl
    · simp only [List.cons_append, List.nil_append]
      rw [lookH_cons, if_neg]
      rintro rfl
      simp [apartT, hid, hk, hw] at hat
  have si := g5 s neE neH
  have neE' : ∀ t ∈ x.looksAt ops, lookE s.env t = lookE (ui ++ s.env) t := by
    intro t ht
    rcases g3 with rfl | ⟨d, v, hd, rfl⟩
    · rfl
    · simp only [List.cons_append, List.nil_append]
      rw [lookE_cons, if_neg]
      rintro rfl
      exact a3 d hd ht
  have neH' : ∀ k, (tab j).id = some k → lookH s.heap k = lookH (vi ++ s.heap) k := by
    intro k hk
    rcases g4 with rfl | ⟨hw, id, o, hid, rfl⟩
    · rfl
    · simp only [List.cons_append, List.nil_append]
      rw [lookH_cons, if_neg]
      rintro rfl
      simp [apartT, hid, hk, hw] at hat
  have sji := h5 ⟨ui ++ s.env, vi ++ s.heap⟩ neE' neH'
  refine ⟨_, _, si, sji, ?_, ?_⟩
  · intro t
    simp only
    rcases h3 with rfl | ⟨d, v, hd, rfl⟩
    · rfl
    · rcases g3 with rfl | ⟨d', v', hd', rfl⟩
      · rfl
      · simp only [List.cons_append, List.nil_append]
        rw [lookE_cons, lookE_cons, lookE_cons, lookE_cons]
        have hne : d' ≠ d := fun h => a2 d hd (by rw [hd', h])
        by_cases q : d' = t
        · subst q
          simp [Ne.symm hne]
        · simp [q]
  · intro k
    simp only
    rcases h4 with rfl | ⟨hw, id, o, hid, rfl⟩
    · rfl
    · rcases g4 with rfl | ⟨hw', id', o', hid', rfl⟩
      · rfl
      · simp only [List.cons_append, List.nil_append]
        rw [lookH_cons, lookH_cons, lookH_cons, lookH_cons]
        have hne : id' ≠ id := by
          rintro rfl
          simp [apartT, hid, hid', hw] at hat
        by_cases q : id' = k
        · subst q
          simp [Ne.symm hne]
        · simp [q]

/-- One of them may be done first. -/
theorem dRun_move {cf : CallF} {N : Nat} {ops : Array Oper} {tab : Nat → DTab} {i : Nat} {y : Oper} (hi : ops[i]? = some y) {L2 : List Nat} : ∀ {L1 : List Nat} {s s1 : DSt} {c : Conds},
    (∀ j ∈ L1, ∃ x, ops[j]? = some x ∧ x.apart ops y = true ∧ apartT (tab j) (tab i) = true) → dRun P cf N n ops tab (L1 ++ i :: L2) s = some (s1, c) →
    ∃ si ci s1' c', dStep P cf N n ops tab i s = some (si, ci) ∧ dRun P cf N n ops tab (L1 ++ L2) si = some (s1', c') ∧ Eqv s1 s1' ∧ ∀ x, x ∈ ci ++ c' → x ∈ c
  | [], s, s1, c, _, e => by
    simp only [List.nil_append, dRun] at e
    split at e
    · rename_i s2 c1 hs
      split at e
      · rename_i s3 c2 hr
        cases e
        exact ⟨s2, c1, _, c2, hs, hr, .refl _, fun x hx => hx⟩
      · cases e
    · cases e
  | j :: L1, s, s1, c, h, e => by
    simp only [List.cons_append, dRun] at e
    split at e
    · rename_i sj cj hs
      split at e
      · rename_i s3 c2 hr
        cases e
        obtain ⟨sij, ci, s1', c', g1, g2, g3, g4⟩ := dRun_move hi (fun k hk => h k (by simp [hk])) hr
        obtain ⟨x, x1, x2, x3⟩ := h j (by simp)
        obtain ⟨si, sji, k1, k2, k3⟩ := dStep_swap x1 hi x2 x3 hs g1
        obtain ⟨s1'', m1, m2⟩ := dRun_eqv g2 k3
        refine ⟨si, ci, s1'', cj ++ c', k1, by simp only [List.cons_append, dRun, k2, m1], g3.trans m2, fun z hz => ?_⟩
        simp only [List.mem_append] at hz ⊢
        rcases hz with hz | hz | hz
        · exact .inr (g4 z (by simp [hz]))
        · exact .inl hz
        · exact .inr (g4 z (by simp [hz]))
      · cases e
    · cases e

/-- What has no address at all is so, wherever and whenever. -/
theorem bareCell_move {ρ ρ' : Nat → Option Loc} {RO RO' : Nat → Prop} {w w' : World} {a : AV} {v : Value} (hb : bareCell a = true) (h : VRel ρ RO w a v) : VRel ρ' RO' w' a v := by
  cases h <;> simp [bareCell] at hb <;> constructor

theorem bareA_move {ρ ρ' : Nat → Option Loc} {RO RO' : Nat → Prop} {w w' : World} {a : AV} {v : Value} (hb : bareA a = true) (h : VRel ρ RO w a v) : VRel ρ' RO' w' a v := by
  cases h with
  | agg e h1 h2 =>
    simp only [bareA, List.all_eq_true] at hb
    exact .agg e h1 fun i a v q1 q2 => bareCell_move (hb a (List.mem_of_getElem? q1)) (h2 i a v q1 q2)
  | iface h => exact .iface (bareCell_move (by simpa [bareA] using hb) h)
  | bool b => constructor
  | int => constructor
  | str => constructor
  | nilp => constructor
  | nils => constructor
  | nilm => constructor
  | nilfn => constructor
  | nili => constructor
  | _ => simp [bareA, bareCell] at hb

theorem bareV_move {ρ ρ' : Nat → Option Loc} {RO RO' : Nat → Prop} {w w' : World} {a : AV} {v : Value} (hb : bareV a = true) (h : VRel ρ RO w a v) : VRel ρ' RO' w' a v := by
  cases h with
  | tup e h2 =>
    simp only [bareV, List.all_eq_true] at hb
    exact .tup e fun i a v q1 q2 => bareA_move (hb a (List.mem_of_getElem? q1)) (h2 i a v q1 q2)
  | agg e h1 h2 => exact bareA_move (by simpa [bareV] using hb) (.agg e h1 h2)
  | iface h => exact bareA_move (by simpa [bareV] using hb) (.iface h)
  | bool b => constructor
  | int => constructor
  | str => constructor
  | nilp => constructor
  | nils => constructor
  | nilm => constructor
  | nilfn => constructor
  | nili => constructor
  | _ => simp [bareV, bareA, bareCell] at hb

theorem flatCell_flat {a : AV} {v : Value} (hb : flatCell a = true) (h : VRel ρ RO w a v) : Flat a := by
  cases h with
  | dsl hn vs hA h1 hf hv => exact .dsl hf
  | dptr vs hr hc h1 hf hv => exact .dptr hf
  | bool b => constructor
  | int => constructor
  | str => constructor
  | nilp => constructor
  | nils => constructor
  | nilm => constructor
  | nilfn => constructor
  | nili => constructor
  | _ => simp [flatCell] at hb

theorem flatA_flat {a : AV} {v : Value} (hb : flatA a = true) (h : VRel ρ RO w a v) : Flat a := by
  cases h with
  | agg e h1 h2 =>
    simp only [flatA, List.all_eq_true] at hb
    refine .agg fun a ha => ?_
    obtain ⟨i, hi⟩ := List.mem_iff_getElem?.1 ha
    obtain ⟨v, hv, _⟩ := VRels.get ⟨e, h2⟩ hi
    exact flatCell_flat (hb a ha) (h2 i a v hi hv)
  | iface h => exact .iface (flatCell_flat (by simpa [flatA] using hb) h)
  | dsl hn vs hA h1 hf hv => exact .dsl hf
  | dptr vs hr hc h1 hf hv => exact .dptr hf
  | bool b => constructor
  | int => constructor
  | str => constructor
  | nilp => constructor
  | nils => constructor
  | nilm => constructor
  | nilfn => constructor
  | nili => constructor
  | _ => simp [flatA, flatCell] at hb

theorem flatV_flat {a : AV} {v : Value} (hb : flatV a = true) (h : VRel ρ RO w a v) : Flat a := by
  cases h with
  | tup e h2 =>
    simp only [flatV, List.all_eq_true] at hb
    refine .tup fun a ha => ?_
    obtain ⟨i, hi⟩ := List.mem_iff_getElem?.1 ha
    obtain ⟨v, hv, _⟩ := VRels.get ⟨e, h2⟩ hi
    exact flatA_flat (hb a ha) (h2 i a v hi hv)
  | agg e h1 h2 => exact flatA_flat (by simpa [flatV] using hb) (.agg e h1 h2)
  | iface h => exact flatA_flat (by simpa [flatV] using hb) (.iface h)
  | dsl hn vs hA h1 hf hv => exact .dsl hf
  | dptr vs hr hc h1 hf hv => exact .dptr hf
  | bool b => constructor
  | int => constructor
  | str => constructor
  | nilp => constructor
  | nils => constructor
  | nilm => constructor
  | nilfn => constructor
  | nili => constructor
  | _ => simp [flatV, flatA, flatCell] at hb

theorem flat_all {l : List AV} {vs : List Value} (hb : l.all flatV = true) (h : VRels ρ RO w l vs) {ρ' : Nat → Option Loc} : VRels ρ' RO w l vs := by
  refine ⟨h.1, fun i a v q1 q2 => ?_⟩
  have hv := h.2 i a v q1 q2
  exact Flat.move (fun _ h => h) (fun _ _ => rfl) hv (flatV_flat (List.all_eq_true.1 hb a (List.mem_of_getElem? q1)) hv)

/-- Nothing of the world turned: it has only grown. -/
theorem HRel.grown {w' : World} (H : HRel w0 F h n ρ RO w) (f : Frame w (fun _ => False) w') : Ext ρ RO w ρ RO w' ∧ HRel w0 F h n ρ RO w' := by
  have same : ∀ k, k < w.heap.size → w'.heap[k]? = w.heap[k]? := fun k hk => f.block k hk (fun x => x)
  have ext : Ext ρ RO w ρ RO w' := ⟨fun _ _ e => e, fun _ e => e, fun b hb => same b (H.ro b hb)⟩
  refine ⟨ext, ⟨⟨f.os.trans H.frame.os, f.tape.trans H.frame.tape, f.output.trans H.frame.output, Nat.le_trans H.frame.size f.size, fun k hk hF => (same k (Nat.lt_of_lt_of_le hk H.frame.size)).trans (H.frame.block k hk hF), fun d => Nat.le_trans (H.frame.drawn d) (f.drawn d)⟩, ?_, H.dis, H.fresh, fun b hb => Nat.lt_of_lt_of_le (H.ro b hb) f.size⟩⟩
  intro id o hl
  obtain ⟨x, q1, q2⟩ := H.objs id o hl
  exact ⟨x, q1, q2.imp (fun g => g) (fun s => s.mono ext (same _ s.lt) f.size)⟩

theorem dStep_ok {cf : CallF} {N : Nat} {ops : Array Oper} {tab : Nat → DTab} {i : Nat} {s s1 : DSt} {c : Conds} (hP : NoNum P) (hcf : CfOk P cf) (e : dStep P cf N n ops tab i s = some (s1, c)) (hc : ∀ x ∈ c, x.1 = x.2)
    {a : Act} (H : HRel w0 F s.heap n ρ RO w) (A : ARel N ρ RO w s.env a) {K : Act → World → Prop} {Q : Exit → Act → World → Prop}
    (hk : ∀ ρ' a' w', Ext ρ RO w ρ' RO w' → HRel w0 F s1.heap n ρ' RO w' → ARel N ρ' RO w' s1.env a' → K a' w') : wpOp P ops Q i K a w := by
  unfold dStep at e
  split at e
  · cases e
  · rename_i o ho
    unfold wpOp
    simp only [ho]
    split at e
    · rename_i hN hw
      cases e
      rw [if_neg (by rw [wanted_ok A.env hw]; simp)]
      exact hk ρ _ w (.refl _ _ _) H A.lost
    · rename_i hN hw
      rw [if_pos (wanted_ok A.env hw)]
      left
      split at e
      · rename_i id wr hid
        split at e
        · split at e
          · rename_i v h1 c1 hst
            split at e
            · rename_i v2 c2 hlit
              split at e
              · rename_i env' hput
                cases e
                have hc1 : ∀ x ∈ c1, x.1 = x.2 := fun x hx => hc x (by simp [hx])
                have lit : ∀ (ρ' : Nat → Option Loc) (w' : World) (u : Value), (∀ av, v = some av → VRel ρ' RO w' av u) → ∀ av, v2 = some av → VRel ρ' RO w' av u := by
                  intro ρ' w' u hu av hav
                  unfold litA at hlit
                  split at hlit
                  · cases hlit; exact hu av hav
                  · split at hlit
                    · rename_i d _ _ b
                      cases hlit
                      have : b = d := (hc (d, b) (by simp)).symm
                      subst this
                      exact hu av hav
                    · cases hlit
                unfold stepD at hst
                split at hst
                · rename_i f args ts hop
                  split at hst
                  · rename_i k first cap l hcal hargs
                    split at hst
                    · rename_i r hfl hr
                      split at hst
                      · rename_i u hout
                        split at hst
                        · rename_i hbare
                          cases hst
                          obtain ⟨v1, v2', hf, r1, r2⟩ := callee_ok A.env hcal
                          have hvs := (r1.append (evAs_rel A.env hargs)).append r2
                          obtain ⟨⟨fn, hk', hb⟩, hcall⟩ := hcf _ _ _ _ _ _ hr hc1
                          unfold Oper.wp
                          rw [enter_run hP hop hf hk' hb, Oper.upon_enter]
                          have H0 : HRel w (fun _ => False) [] 0 (fun _ => none) RO w :=
                            ⟨.refl _ _, fun id o hl => by simp [lookH, look] at hl, fun id id' o o' x x' hne hl => by simp [lookH, look] at hl, fun _ _ => rfl, H.ro⟩
                          refine (hcall w (fun _ => False) (fun _ => none) RO w _ H0 (flat_all hfl hvs)).mono fun e w' he => ?_
                          obtain ⟨ρ', RO', p1, p2, p3⟩ := he
                          rw [hout] at p3
                          obtain ⟨z, rfl, hz⟩ := p3
                          obtain ⟨g1, g2⟩ := H.grown p2.frame
                          exact hk ρ _ w' g1 g2 ((A.mono g1).put hN hput (lit ρ w' z fun av hav => by cases hav; exact bareV_move hbare hz))
                        · cases hst
                      · cases hst
                    · cases hst
                  · cases hst
                · split at hst
                  · rename_i g hg
                    split at hst
                    · rename_i hn
                      cases hst
                      have hn := Nat.eq_of_beq_eq_true hn
                      refine wp_of_got (step_ok H A.env hg hc1) fun ρ' w' e1 e2 u hu => ?_
                      rw [hn] at e2
                      exact hk ρ' _ w' e1 e2 ((A.mono e1).put hN hput (lit ρ' w' u hu))
                    · cases hst
                  · cases hst
              · cases e
            · cases e
          · cases e
        · cases e
      · cases e
    · cases e

/-! ### All orders -/
/-- What an operation waits for is listed. -/
def Waited (ops : Array Oper) (S : Nat → Prop) (i : Nat) : Prop := ∀ o, ops[i]? = some o → ∀ e ∈ o.after, Region.binds .any e = true → S e.on

theorem befs_fold {acc : List Nat} {S : Nat → Prop} (hacc : ∀ i, i < acc.length → S i → ∀ j, (acc.getD i 0).testBit j = true → S j) : ∀ {l : List Edge} {b0 : Nat}, (∀ e ∈ l, Region.binds .any e = true → S e.on) → (∀ j, b0.testBit j = true → S j) →
    ∀ j, (l.foldl (fun s e => match Region.binds .any e with | true => s ||| 2 ^ e.on ||| acc.getD e.on 0 | false => s) b0).testBit j = true → S j
  | [], b0, _, h0, j, h => h0 j h
  | e :: l, b0, hl, h0, j, h => by
    simp only [List.foldl_cons] at h
    refine befs_fold hacc (fun e' he' => hl e' (by simp [he'])) ?_ j h
    intro k hk
    split at hk
    · rename_i hb
      have hS := hl e (by simp) hb
      simp only [Nat.testBit_or, Bool.or_eq_true] at hk
      rcases hk with (hk | hk) | hk
      · exact h0 k hk
      · rw [Nat.testBit_two_pow] at hk
        simp only [decide_eq_true_eq] at hk
        exact hk ▸ hS
      · by_cases hlt : e.on < acc.length
        · exact hacc _ hlt hS k hk
        · rw [List.getD_eq_getElem?_getD, List.getElem?_eq_none (by omega)] at hk
          simp at hk
    · exact h0 k hk

theorem befs_ok {ops : Array Oper} {S : Nat → Prop} (hS : ∀ i, S i → Waited ops S i) : ∀ {l : List Oper} {acc : List Nat}, ops.toList.drop acc.length = l →
    (∀ i, i < acc.length → Waited ops S i → ∀ j, (acc.getD i 0).testBit j = true → S j) → ∀ i, Waited ops S i → ∀ j, ((befs l acc).getD i 0).testBit j = true → S j
  | [], acc, hd, hacc, i, hi, j, h => by
    simp only [befs] at h
    by_cases hlt : i < acc.length
    · exact hacc i hlt hi j h
    · rw [List.getD_eq_getElem?_getD, List.getElem?_eq_none (by omega)] at h
      simp at h
  | o :: l, acc, hd, hacc, i, hi, j, h => by
    simp only [befs] at h
    have ho : ops[acc.length]? = some o := by
      have := congrArg (·[0]?) hd
      simpa using this
    refine befs_ok hS (acc := acc ++ [_]) (l := l) ?_ ?_ i hi j h
    · simp only [List.length_append, List.length_singleton]
      rw [← List.drop_drop, hd]; rfl
    · intro i hlt hi j h
      by_cases hlt' : i < acc.length
      · rw [List.getD_eq_getElem?_getD, List.getElem?_append_left hlt', ← List.getD_eq_getElem?_getD] at h
        exact hacc i hlt' hi j h
      · have : i = acc.length := by simp at hlt; omega
        subst this
        rw [List.getD_eq_getElem?_getD, List.getElem?_append_right (Nat.le_refl _), Nat.sub_self] at h
        simp only [List.getElem?_cons_zero, Option.getD_some] at h
        exact befs_fold (fun k hk hk' => hacc k hk (hS k hk')) (fun e he hb => hi o ho e (by simpa using he) hb) (fun j hj => by simp at hj) j h

theorem edgesOk_ok {ops : Array Oper} : ∀ {l : List Oper} {i : Nat}, ops.toList.drop i = l → edgesOk l i = true → ∀ k o, i ≤ k → ops[k]? = some o → ∀ e ∈ o.after, Region.binds .any e = true → e.on < k
  | [], i, hd, _, k, o, hik, ho, e, he, hb => by
    have h1 : k < ops.size := (Array.getElem?_eq_some_iff.1 ho).1
    have h2 := congrArg List.length hd
    simp at h2
    omega
  | o' :: l, i, hd, hok, k, o, hik, ho, e, he, hb => by
    simp only [edgesOk, Bool.and_eq_true] at hok
    by_cases hk : i = k
    · subst hk
      have ho' : ops[i]? = some o' := by
        have := congrArg (·[0]?) hd
        simpa using this
      rw [ho] at ho'; cases ho'
      have := List.all_eq_true.1 hok.1 e (by simpa using he)
      simp only [hb] at this
      have : (e.on + 1).ble i = true := this
      exact Nat.le_of_ble_eq_true this
    · exact edgesOk_ok (i := i + 1) (l := l) (by rw [← List.drop_drop, hd]; rfl) hok.2 k o (by omega) ho e he hb

theorem getD_unlisted {listed : Array Bool} {j : Nat} (h : listed.getD j true = false) : listed.getD j false = false ∧ j < listed.size := by
  rcases Nat.lt_or_ge j listed.size with h' | h'
  · simp [h'] at h ⊢; exact h
  · simp [Array.getElem?_eq_none h'] at h
theorem getD_listed {listed : Array Bool} {j : Nat} (h : listed.getD j true = true) (hj : j < listed.size) : listed.getD j false = true := by
  simp [hj] at h ⊢; exact h

theorem any_ok {cf : CallF} {N : Nat} {ops : Array Oper} {tab : Nat → DTab} (hP : NoNum P) (hcf : CfOk P cf) {m : Nat} (hm : m ≤ ops.size) (hpairs : pairsOk ops (befs ops.toList []) tab m = true) (hedges : edgesOk ops.toList 0 = true)
    (hfull : ∀ j, m ≤ j → j < ops.size → ∀ i, i < m → ((befs ops.toList []).getD j 0).testBit i = true)
    {ρ0 : Nat → Option Loc} {w1 : World} {Q : Exit → Act → World → Prop} {sF : DSt}
    (hQ : ∀ ρ' a' w' (listed : Array Bool), listed.size = ops.size → (∀ j, j < m → listed.getD j true = true) → (∀ j, m ≤ j → j < ops.size → listed.getD j true = false) → Ext ρ0 RO w1 ρ' RO w' → HRel w0 F sF.heap n ρ' RO w' → ARel N ρ' RO w' sF.env a' → wpAny P .any ops Q (ops.size - m) listed a' w') :
    ∀ (fuel : Nat) (listed : Array Bool) (L : List Nat) (s s1 : DSt) (c : Conds) (ρ : Nat → Option Loc) (a : Act) (w : World), listed.size = ops.size →
      (∀ i, listed.getD i false = true → Waited ops (fun j => listed.getD j false = true) i) → L.Pairwise (· < ·) → (∀ j, j ∈ L ↔ (j < m ∧ listed.getD j true = false)) → (∀ j, m ≤ j → j < ops.size → listed.getD j true = false) → L.length = fuel →
      dRun P cf N n ops tab L s = some (s1, c) → (∀ x ∈ c, x.1 = x.2) → Eqv s1 sF → Ext ρ0 RO w1 ρ RO w → HRel w0 F s.heap n ρ RO w → ARel N ρ RO w s.env a → wpAny P .any ops Q (fuel + (ops.size - m)) listed a w := by
  intro fuel
  induction fuel with
  | zero =>
    intro listed L s s1 c ρ a w hsz hcl hpw hL hsuf hlen e hc q x H A
    have hnil : L = [] := List.length_eq_zero_iff.1 hlen
    subst hnil
    simp only [dRun] at e
    cases e
    rw [Nat.zero_add]
    refine hQ ρ a w listed hsz (fun j hj => ?_) hsuf x (H.forget fun id o hl => by rw [q.2]; exact hl) ⟨A.size, A.defers, fun t v hl => A.env t v (by rw [q.1]; exact hl)⟩
    cases hx : listed.getD j true with
    | true => rfl
    | false => exact absurd ((hL j).2 ⟨hj, hx⟩) (by simp)
  | succ fuel ih =>
    intro listed L s s1 c ρ a w hsz hcl hpw hL hsuf hlen e hc q x H A
    rw [Nat.add_right_comm]
    refine ⟨fun hr => ?_, fun i hi => ?_⟩
    · -- something is ready
      cases L with
      | nil => simp at hlen
      | cons i L =>
        exfalso
        obtain ⟨him, hi⟩ := (hL i).1 (by simp)
        have hlt : i < ops.size := by omega
        have : i ∈ Region.ready .any ops listed := by
          refine mem_ready.2 ⟨hi, ops[i], Array.getElem?_eq_getElem hlt, fun ed he hb => ?_⟩
          have hlt2 := edgesOk_ok (i := 0) rfl hedges i _ (Nat.zero_le _) (Array.getElem?_eq_getElem hlt) ed he hb
          cases hx : listed.getD ed.on true with
          | true => exact getD_listed hx (by omega)
          | false =>
            exfalso
            have hmm := (hL ed.on).2 ⟨by omega, hx⟩
            simp only [List.mem_cons] at hmm
            rcases hmm with hmm | hmm
            · omega
            · have := (List.pairwise_cons.1 hpw).1 _ hmm
              omega
        rw [hr] at this
        cases this
    · obtain ⟨hun, oi, hoi, hall⟩ := mem_ready.1 hi
      have hlti : i < ops.size := hsz ▸ (getD_unlisted hun).2
      have hW : Waited ops (fun j => listed.getD j false = true) i := by
        intro o ho ed he hb
        rw [hoi] at ho; cases ho
        exact hall ed he hb
      have hbef := befs_ok (S := fun j => listed.getD j false = true) hcl (acc := []) rfl (fun i hi => by simp at hi) i hW
      have him : i < m := by
        by_cases hq : i < m
        · exact hq
        · exfalso
          cases L with
          | nil => simp at hlen
          | cons k L =>
            obtain ⟨hkm, hk⟩ := (hL k).1 (by simp)
            have := hbef k (hfull i (by omega) hlti k hkm)
            rw [(getD_unlisted hk).1] at this
            cases this
      obtain ⟨L1, L2, rfl⟩ := List.append_of_mem ((hL i).2 ⟨him, hun⟩)
      obtain ⟨pw1, pw2, pw3⟩ := List.pairwise_append.1 hpw
      have hap : ∀ j ∈ L1, ∃ x, ops[j]? = some x ∧ x.apart ops oi = true ∧ apartT (tab j) (tab i) = true := by
        intro j hj
        have hji : j < i := pw3 j hj i (by simp)
        have hunj := ((hL j).1 (by simp [hj])).2
        have hp : pairOk ops (befs ops.toList []) tab j i = true := by
          unfold pairsOk at hpairs
          exact List.all_eq_true.1 (List.all_eq_true.1 hpairs i (List.mem_range.2 him)) j (List.mem_range.2 hji)
        unfold pairOk at hp
        simp only [Bool.or_eq_true] at hp
        rcases hp with hp | hp
        · exfalso
          have := hbef j hp
          rw [(getD_unlisted hunj).1] at this
          cases this
        · split at hp
          · rename_i x y hx hy
            rw [hoi] at hy; cases hy
            simp only [Bool.and_eq_true] at hp
            exact ⟨x, hx, hp.1, hp.2⟩
          · cases hp
      obtain ⟨si, ci, s1', c', g1, g2, g3, g4⟩ := dRun_move hoi hap e
      refine dStep_ok hP hcf g1 (fun z hz => hc z (g4 z (by simp [hz]))) H A fun ρ' a' w' k1 k2 k3 => ?_
      refine ih (listed.setIfInBounds i true) (L1 ++ L2) si s1' c' ρ' a' w' (by simp [hsz]) ?_ ?_ ?_ ?_ ?_ g2 (fun z hz => hc z (g4 z (by simp [hz]))) ⟨fun t => (g3.1 t).symm.trans (q.1 t), fun t => (g3.2 t).symm.trans (q.2 t)⟩ (x.trans k1) k2 k3
      · intro k hk o ho ed he hb
        by_cases hki : i = k
        · subst hki
          exact getD_set_true (hW o ho ed he hb)
        · rw [getD_set_ne false hki] at hk
          exact getD_set_true (hcl k hk o ho ed he hb)
      · exact hpw.sublist (List.Sublist.append_left (List.sublist_cons_self i L2) L1)
      · intro j
        by_cases hji : i = j
        · subst hji
          have h1 : (listed.setIfInBounds i true).getD i true = true := by
            have hb : i < listed.size := hsz ▸ hlti
            simp [hb]
          rw [h1]
          simp only [Bool.true_eq_false, and_false, iff_false, List.mem_append, not_or]
          refine ⟨fun h => ?_, fun h => ?_⟩
          · exact Nat.lt_irrefl _ (pw3 i h i (by simp))
          · exact Nat.lt_irrefl _ ((List.pairwise_cons.1 pw2).1 i h)
        · rw [getD_set_ne true hji, ← hL j]
          simp only [List.mem_append, List.mem_cons]
          constructor
          · rintro (h | h)
            · exact .inl h
            · exact .inr (.inr h)
          · rintro (h | h | h)
            · exact .inl h
            · exact absurd h.symm hji
            · exact .inr h
      · intro j hj hjs
        rw [getD_set_ne true (by omega)]
        exact hsuf j hj hjs
      · simp only [List.length_append, List.length_cons] at hlen ⊢; omega

/-- Operations that stand in a row. -/
theorem any_of_list {ops : Array Oper} {Q : Exit → Act → World → Prop} {c : Nat} (hch : ∀ j, c ≤ j → j + 1 < ops.size → ∃ o, ops[j + 1]? = some o ∧ ∃ e ∈ o.after, Region.binds .any e = true ∧ e.on = j) (hedges : edgesOk ops.toList 0 = true) :
    ∀ (m k : Nat) (listed : Array Bool) (a : Act) (w : World), k + m = ops.size → c ≤ k → listed.size = ops.size → (∀ j, j < k → listed.getD j true = true) → (∀ j, k ≤ j → j < ops.size → listed.getD j true = false) →
      wpList P ops Q (ops.toList.drop k) a w → wpAny P .any ops Q m listed a w
  | 0, k, listed, a, w, hk, hck, hsz, h1, h2, hw => by
    refine ⟨?_, ?_⟩
    · rw [List.eq_nil_iff_forall_not_mem]
      intro i hi
      obtain ⟨hun, _⟩ := mem_ready.1 hi
      have := (getD_unlisted hun).2
      rw [h1 i (by omega)] at hun
      cases hun
    · rw [List.drop_eq_nil_of_le (by simp; omega)] at hw
      exact hw
  | m + 1, k, listed, a, w, hk, hck, hsz, h1, h2, hw => by
    have hkl : k < ops.size := by omega
    refine ⟨fun hr => ?_, fun i hi => ?_⟩
    · exfalso
      have : k ∈ Region.ready .any ops listed := by
        refine mem_ready.2 ⟨h2 k (Nat.le_refl _) hkl, ops[k], Array.getElem?_eq_getElem hkl, fun ed he hb => ?_⟩
        have hlt2 := edgesOk_ok (i := 0) rfl hedges k _ (Nat.zero_le _) (Array.getElem?_eq_getElem hkl) ed he hb
        exact getD_listed (h1 _ hlt2) (by omega)
      rw [hr] at this
      cases this
    · obtain ⟨hun, oi, hoi, hall⟩ := mem_ready.1 hi
      have hlti : i < ops.size := hsz ▸ (getD_unlisted hun).2
      have hki : i = k := by
        by_cases q : i < k
        · rw [h1 i q] at hun; cases hun
        · by_cases q2 : i = k
          · exact q2
          · exfalso
            obtain ⟨o, ho, e, he, hb, hon⟩ := hch (i - 1) (by omega) (by omega)
            rw [show i - 1 + 1 = i by omega, hoi] at ho
            cases ho
            have := hall e he hb
            rw [hon] at this
            have h3 := h2 (i - 1) (by omega) (by omega)
            rw [(getD_unlisted h3).1] at this
            cases this
      subst hki
      have hd : ops.toList.drop i = oi :: ops.toList.drop (i + 1) := by
        rw [List.drop_eq_getElem_cons (by simpa using hkl)]
        congr 1
        have := (Array.getElem?_eq_some_iff.1 hoi).2
        simpa using this
      rw [hd] at hw
      have next : ∀ a w, wpList P ops Q (ops.toList.drop (i + 1)) a w → wpAny P .any ops Q m (listed.setIfInBounds i true) a w := by
        intro a w hw
        refine any_of_list hch hedges m (i + 1) _ a w (by omega) (by omega) (by simp [hsz]) (fun j hj => ?_) (fun j hj hjs => ?_) hw
        · by_cases q : i = j
          · subst q
            have hb : i < listed.size := hsz ▸ hlti
            simp [hb]
          · rw [getD_set_ne true q]; exact h1 j (by omega)
        · rw [getD_set_ne true (by omega)]; exact h2 j (by omega) hjs
      unfold wpOp
      simp only [hoi]
      unfold wpList at hw
      split
      · rename_i hwa
        rw [if_pos hwa] at hw
        exact hw.imp (Oper.wp_mono next) id
      · rename_i hwa
        rw [if_neg hwa] at hw
        exact next _ _ hw

theorem chainOk_ok {ops : Array Oper} : ∀ {l : List Oper} {j : Nat}, ops.toList.drop (j + 1) = l → chainOk l j = true → ∀ k, j ≤ k → k + 1 < ops.size → ∃ o, ops[k + 1]? = some o ∧ ∃ e ∈ o.after, Region.binds .any e = true ∧ e.on = k
  | [], j, hd, _, k, hjk, hk => by
    have := congrArg List.length hd
    simp at this
    omega
  | o :: l, j, hd, hc, k, hjk, hk => by
    simp only [chainOk, Bool.and_eq_true] at hc
    by_cases q : j = k
    · subst q
      have ho : ops[j + 1]? = some o := by
        have := congrArg (·[0]?) hd
        simpa using this
      refine ⟨o, ho, ?_⟩
      have h1 := hc.1
      unfold hasEdge at h1
      obtain ⟨e, he, hb⟩ := List.any_eq_true.1 h1
      refine ⟨e, by simpa using he, ?_⟩
      split at hb
      · rename_i hbb; exact ⟨hbb, Nat.eq_of_beq_eq_true hb⟩
      · cases hb
    · refine chainOk_ok (l := l) (j := j + 1) ?_ hc.2 k (by omega) hk
      have := congrArg List.tail hd
      simpa using this

theorem fullOk_ok {B : List Nat} {c : Nat} (h : fullOk B c = true) {j : Nat} (hj : c ≤ j) (hl : j < B.length) {i : Nat} (hi : i < c) : (B.getD j 0).testBit i = true := by
  unfold fullOk at h
  have hm : B.getD j 0 ∈ B.drop c := by
    rw [List.mem_iff_getElem?]
    refine ⟨j - c, ?_⟩
    rw [List.getElem?_drop, show c + (j - c) = j by omega, List.getElem?_eq_getElem hl]
    simp [List.getD, hl]
  have := Nat.eq_of_beq_eq_true (List.all_eq_true.1 h _ hm)
  have h2 := congrArg (fun x => x.testBit i) this
  have h3 : (2 ^ c - 1).testBit i = true := by rw [Nat.testBit_two_pow_sub_one]; exact decide_eq_true hi
  have h4 : (Nat.land (B.getD j 0) (2 ^ c - 1)).testBit i = ((B.getD j 0).testBit i && (2 ^ c - 1).testBit i) := Nat.testBit_and _ _ _
  simp only [h3] at h2
  rw [h4, h3, Bool.and_true] at h2
  exact h2

theorem befs_length : ∀ (l : List Oper) (acc : List Nat), (befs l acc).length = acc.length + l.length
  | [], acc => by simp [befs]
  | o :: l, acc => by rw [befs, befs_length l]; simp; omega

theorem runDraw_ok {N : Nat} {cf : CallF} (hP : NoNum P) (hm : P.follows .mixedOrders = true) (hcf : CfOk P cf) {id : Nat} {ops : Array Oper} {env : Env} {h : Heap} {n : Nat} {ds : List Dec} {r : Came AOut} (e : runDraw P cf N ops env h n ds = some r) (hc : ∀ c ∈ r.conds, c.1 = c.2)
    {a : Act} (H : HRel w0 F h n ρ RO w) (A : ARel N ρ RO w env a) : (Code.region id ops true).wp P (Post w0 F N ρ RO w r.out.exit r.out.env r.heap r.next) a w := by
  unfold runDraw at e
  simp only at e
  split at e
  · rename_i ts ds' htab
    split at e
    · rename_i s c1 hp hr
      split at e
      · rename_i r1 hr1
        cases e
        simp only [Bool.and_eq_true] at hp
        obtain ⟨hle, ⟨hpairs, hedges⟩, hfull, hchain⟩ := hp
        have hle := Nat.le_of_ble_eq_true hle
        generalize splitGo ops.toList (befs ops.toList []) ops.size ops.size = m at *
        refine wp_region_any hm ?_
        have g := H.grown (w' := { w with drawn := w.drawn + 1 }) ⟨rfl, rfl, rfl, Nat.le_refl _, fun _ _ _ => rfl, fun _ => Nat.le_succ _⟩
        have key := any_ok (ρ0 := ρ) (w1 := w) (sF := s) (Q := Post w0 F N ρ RO w r1.out.exit r1.out.env r1.heap r1.next) hP hcf hle hpairs hedges (fun j hj hjs i hi => fullOk_ok hfull hj (by rw [befs_length]; simpa using hjs) hi)
          (fun ρ' a' w' listed z1 z2 z3 x1 x2 x3 => by
            refine any_of_list (c := m) (chainOk_ok rfl hchain) hedges (ops.size - m) m listed a' w' (by omega) (Nat.le_refl _) z1 z2 z3 ?_
            refine wpList_mono (fun x a' w'' q => q.trans x1) (runOps_ok hP hcf ops _ m s.env s.heap n ds' r1 hr1 (fun z hz => hc z (by simp [hz])) ρ' RO a' w' x2 x3))
          m (Array.replicate ops.size false) (List.range m) ⟨env, h⟩ s c1 ρ a { w with drawn := w.drawn + 1 } (by simp) ?_ List.pairwise_lt_range ?_ ?_ (by simp) hr (fun z hz => hc z (by simp [hz])) (.refl _) g.1 g.2 (A.mono g.1)
        · rw [show m + (ops.size - m) = ops.size by omega] at key
          exact key
        · intro i hi
          have : (Array.replicate ops.size false).getD i false = false := by
            simp [Array.getElem?_replicate]
            split <;> rfl
          rw [this] at hi; cases hi
        · intro j
          simp only [List.mem_range]
          constructor
          · intro hj; exact ⟨hj, by simp [show j < ops.size by omega]⟩
          · exact fun hj => hj.1
        · intro j hj hjs
          simp [hjs]
      · cases e
    · cases e
  · cases e

end Go.Eng
