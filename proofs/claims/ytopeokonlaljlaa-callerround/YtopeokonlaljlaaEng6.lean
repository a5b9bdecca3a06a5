/- The operations are sound, on: numbers, comparisons, appends; the whole step. -/
import Derived.Test.YtopeokonlaljlaaEng5
set_option linter.unusedVariables false
set_option linter.unusedSimpArgs false
set_option linter.unusedSectionVars false
namespace Go.Eng
variable [Dr]
open Go.RowKit

variable {P : Program} {w0 w : World} {F : Nat → Prop} {ρ : Nat → Option Loc} {RO : Nat → Prop} {h : Heap} {n : Nat}

theorem und_struct {t : TypeId} {fs : Array Field} (hu : P.underlying t = some (.struct fs)) : P.underlying t = some (.struct (P.fieldsOf t)) ∧ P.fieldsOf t = fs := by
  have : P.fieldsOf t = fs := by simp [Program.fieldsOf, hu]
  exact ⟨by rw [this]; exact hu, this⟩

theorem eqF_ok {eq : TypeId → AV → AV → Option Bool} {D : Nat} (ih : ∀ {t : TypeId} {x y : AV} {v u : Value} {q : Bool}, VRel ρ RO w x v → VRel ρ RO w y u → eq t x y = some q → (Op.equalIn D t v u).run P w = .ok q w) :
    ∀ {fs : List Field} {xs ys : List AV} {vs us : List Value} {q : Bool}, VRels ρ RO w xs vs → VRels ρ RO w ys us → (∀ x ∈ vs, x.oneCell' = true) → (∀ x ∈ us, x.oneCell' = true) → eqF P eq xs ys fs = some q → (Op.eqFields D vs.toArray us.toArray fs).run P w = .ok q w
  | [], xs, ys, vs, us, q, h1, h2, o1, o2, e => by simp [eqF] at e; subst e; simp [Op.eqFields]
  | f :: r, xs, ys, vs, us, q, h1, h2, o1, o2, e => by
    unfold eqF at e
    split at e
    · cases e
    · rename_i hname
      have hname : f.name ≠ "_" := by simpa using hname
      split at e
      · rename_i a b ha hb
        obtain ⟨va, p1, p2⟩ := part_ok (P := P) h1 o1 ha
        obtain ⟨vb, p3, p4⟩ := part_ok (P := P) h2 o2 hb
        split at e
        · rename_i q1 hq1
          have e1 := ih p2 p4 hq1
          rw [Op.eqFields, if_pos hname]
          simp only [Sem.run_bind, p1, p3, e1, Result.andThen_ok]
          split at e
          · cases e
            cases q <;> simp [Op.eqFields]
          · rename_i g r'
            split at e
            · rename_i s hs
              cases e
              have e2 := eqF_ok ih h1 h2 o1 o2 hs
              cases q1
              · simp
              · simp only [Bool.not_true, Bool.false_eq_true, if_false, Bool.true_and]
                exact e2
            · cases e
        · cases e
      · cases e

theorem eqA_ok : ∀ {d D : Nat} {t : TypeId} {x y : AV} {v u : Value} {q : Bool}, d ≤ D → VRel ρ RO w x v → VRel ρ RO w y u → eqA P d t x y = some q → (Op.equalIn D t v u).run P w = .ok q w
  | 0, D, t, x, y, v, u, q, hd, h1, h2, e => by cases e
  | d + 1, D, t, x, y, v, u, q, hd, h1, h2, e => by
    obtain ⟨D, rfl⟩ : ∃ k, D = k + 1 := ⟨D - 1, by omega⟩
    simp only [eqA] at e
    split at e
    · rename_i a b hu
      cases e; cases h1; cases h2
      exact run_equalIn_bool' w D t a b hu
    · rename_i k a k' b hu
      split at e
      · rename_i hk
        have : a = b → True := fun _ => trivial
        cases e
        cases h1; cases h2
        have hk := of_decide_eq_true hk
        subst hk
        exact run_equalIn_int w D t _ _ _ _ hu
      · cases e
    · rename_i a b hu
      cases e; cases h1; cases h2
      exact run_equalIn_string w D t a b hu
    · rename_i fs xs ys hu
      split at e
      · cases e
      · rename_i hst
        cases h1 with
        | agg e1 s1 r1 =>
        cases h2 with
        | agg e2 s2 r2 =>
        obtain ⟨hu', hfs⟩ := und_struct hu
        rw [run_equalIn_struct w D t _ _ hu' hst, hfs]
        exact eqF_ok (fun h1 h2 hq => eqA_ok (by omega) h1 h2 hq) ⟨e1, r1⟩ ⟨e2, r2⟩ s1 s2 e
    · cases e

theorem intA_ok {op : BinOp} {t : TypeId} {k : IntKind} {a b : Int} {av : AV} {c : Conds} (e : intA op k a b = some (av, c)) (hc : ∀ x ∈ c, x.1 = x.2) :
    ∃ v, (binOp op t (.int k a) (.int k b)).run P w = .ok v w ∧ VRel ρ RO w av v := by
  cases op
  case add => cases e; exact ⟨_, by rw [binOp_add]; rfl, .int _ _⟩
  case sub => cases e; exact ⟨_, by rw [binOp_sub]; rfl, .int _ _⟩
  case mul => cases e; exact ⟨_, by rw [binOp_mul]; rfl, .int _ _⟩
  case quo =>
    cases e
    have hb : b ≠ 0 := by simpa using hc (b == 0, false) (by simp)
    exact ⟨_, by rw [binOp_quo]; unfold Op.intDiv; rw [if_neg hb]; rfl, .int _ _⟩
  case rem =>
    cases e
    have hb : b ≠ 0 := by simpa using hc (b == 0, false) (by simp)
    exact ⟨_, by rw [binOp_rem]; unfold Op.intDiv; rw [if_neg hb]; rfl, .int _ _⟩
  case and => cases e; exact ⟨_, by rw [binOp_and]; rfl, .int _ _⟩
  case or => cases e; exact ⟨_, by rw [binOp_or]; rfl, .int _ _⟩
  case xor => cases e; exact ⟨_, by rw [binOp_xor]; rfl, .int _ _⟩
  case andNot => cases e; exact ⟨_, by rw [binOp_andNot]; rfl, .int _ _⟩
  case shl => cases e
  case shr => cases e
  case eql => cases e; exact ⟨_, by rw [binOp_eql]; rfl, .bool _⟩
  case neq => cases e; exact ⟨_, by rw [binOp_neq]; rfl, .bool _⟩
  case lss => cases e; exact ⟨_, by rw [binOp_lss]; rfl, .bool _⟩
  case leq => cases e; exact ⟨_, by rw [binOp_leq]; rfl, .bool _⟩
  case gtr => cases e; exact ⟨_, by rw [binOp_gtr]; rfl, .bool _⟩
  case geq => cases e; exact ⟨_, by rw [binOp_geq]; rfl, .bool _⟩

theorem strA_ok {op : BinOp} {t : TypeId} {a b : ByteArray} {av : AV} {c : Conds} (e : strA op a b = some (av, c)) (hc : ∀ x ∈ c, x.1 = x.2) :
    ∃ v, (binOp op t (.string a) (.string b)).run P w = .ok v w ∧ VRel ρ RO w av v := by
  cases op
  case add =>
    cases e
    have hb : a.size + b.size ≤ 9223372036854775807 := by simpa using hc (decide (a.size + b.size ≤ 9223372036854775807), true) (by simp)
    refine ⟨.string (a ++ b), ?_, .str _⟩
    simp only [binOp, Op.stringOp]
    rw [if_neg (by rw [IntKind.max_i64]; omega)]
    rfl
  case eql => cases e; exact ⟨_, rfl, .bool _⟩
  case neq => cases e; exact ⟨_, rfl, .bool _⟩
  case lss => cases e; exact ⟨_, rfl, .bool _⟩
  case leq => cases e; exact ⟨_, rfl, .bool _⟩
  case gtr => cases e; exact ⟨_, rfl, .bool _⟩
  case geq => cases e; exact ⟨_, rfl, .bool _⟩
  all_goals cases e

theorem bin_ok {op : BinOp} {t : TypeId} {x y : Operand} {a b : AV} {v u : Value} {av : AV} {c : Conds} (h1 : VRel ρ RO w a v) (h2 : VRel ρ RO w b u) (e : binA P op t a b = some (av, c)) (hc : ∀ x ∈ c, x.1 = x.2) :
    ∃ z, (do eqGuard op t x y v u; binOp op t v u : Sem Value).run P w = .ok z w ∧ VRel ρ RO w av z := by
  have guardOk : ∀ z : Value, (eqGuard op t x y v u).run P w = .ok () w → (binOp op t v u).run P w = .ok z w → (do eqGuard op t x y v u; binOp op t v u : Sem Value).run P w = .ok z w := by
    intro z g1 g2
    simp [Sem.run_bind, g1, g2]
  unfold binA at e
  split at e
  · rename_i k a k' b
    cases h1; cases h2
    cases e
    have hb : ¬ b < 0 := by simpa using hc (decide (b < 0), false) (by simp)
    exact ⟨_, guardOk _ (by rw [eqGuard_at_int]; rfl) (by simp [binOp, Op.shift, hb]), .int _ _⟩
  · rename_i k a k' b
    cases h1; cases h2
    cases e
    have hb : ¬ b < 0 := by simpa using hc (decide (b < 0), false) (by simp)
    exact ⟨_, guardOk _ (by rw [eqGuard_at_int]; rfl) (by simp [binOp, Op.shift, hb]), .int _ _⟩
  · rename_i op k a k' b _ _
    cases h1; cases h2
    split at e
    · rename_i hk
      have hk := of_decide_eq_true hk
      subst hk
      obtain ⟨z, z1, z2⟩ := intA_ok (P := P) (t := t) e hc
      exact ⟨z, guardOk _ (by rw [eqGuard_at_int]; rfl) z1, z2⟩
    · cases e
  · cases h1; cases h2
    obtain ⟨z, z1, z2⟩ := strA_ok (P := P) (t := t) e hc
    exact ⟨z, guardOk _ (by rw [eqGuard_at_string]; rfl) z1, z2⟩
  · rename_i a b
    cases h1; cases h2
    split at e
    · rename_i hu
      cases e
      exact ⟨_, guardOk _ (by rw [eqGuard_at_bool]; rfl) (run_eql_bool w t a b hu), .bool _⟩
    · cases e
  · rename_i a b
    cases h1; cases h2
    split at e
    · rename_i hu
      cases e
      exact ⟨_, guardOk _ (by rw [eqGuard_at_bool]; rfl) (run_neq_bool w t a b hu), .bool _⟩
    · cases e
  · rename_i xs ys
    split at e
    · rename_i q hg hq
      cases e
      have hrun := eqA_ok (D := 10000) (by omega) h1 h2 hq
      cases h1 with
      | agg e1 s1 r1 =>
      cases h2 with
      | agg e2 s2 r2 =>
      exact ⟨_, guardOk _ (run_eqGuard_agg w _ _ _ _ _ _ hg) (by rw [run_eql_struct, hrun]; rfl), .bool _⟩
    · cases e
  · rename_i xs ys
    split at e
    · rename_i q hg hq
      cases e
      have hrun := eqA_ok (D := 10000) (by omega) h1 h2 hq
      cases h1 with
      | agg e1 s1 r1 =>
      cases h2 with
      | agg e2 s2 r2 =>
      exact ⟨_, guardOk _ (run_eqGuard_agg w _ _ _ _ _ _ hg) (by rw [run_neq_struct, hrun]; rfl), .bool _⟩
    · cases e
  · cases e

theorem un_ok {op : UnOp} {a : AV} {v : Value} {av : AV} (h1 : VRel ρ RO w a v) (e : unA op a = some av) : ∃ z, (Op.unary op v).run P w = .ok z w ∧ VRel ρ RO w av z := by
  unfold unA at e
  split at e
  · cases h1; cases e; exact ⟨_, by simp [Op.unary], .bool _⟩
  · cases h1; cases e; exact ⟨_, by simp [Op.unary, Op.intArith], .int _ _⟩
  · cases e

theorem idxV_ok {t : TypeId} {x i : AV} {v u : Value} {av : AV} {c : Conds} (h1 : VRel ρ RO w x v) (h2 : VRel ρ RO w i u) (e : idxV P t x i = some (av, c)) (hc : ∀ x ∈ c, x.1 = x.2) :
    ∃ z, (Instr.index t v u).run P w = .ok z w ∧ VRel ρ RO w av z := by
  unfold idxV at e
  split at e
  · rename_i len e' cs k j hu
    split at e
    · rename_i s hs
      split at e
      · rename_i a ha
        cases e
        have hb : 0 ≤ j ∧ j < (len : Int) := by simpa using hc (decide (0 ≤ j ∧ j < (len : Int)), true) (by simp)
        cases h2
        cases h1 with
        | agg e1 s1 r1 =>
        obtain ⟨z, z1, z2⟩ := part_ok (P := P) ⟨e1, r1⟩ s1 ha
        refine ⟨z, ?_, z2⟩
        simp [Instr.index, asIntOf, run_underlying hu, hb, szT_run hs, z1]
      · cases e
    · cases e
  · rename_i s k j hu
    cases e
    have hb : 0 ≤ j ∧ j < (s.size : Int) := by simpa using hc (decide (0 ≤ j ∧ j < (s.size : Int)), true) (by simp)
    cases h2; cases h1
    have hlt : j.toNat < s.size := by omega
    refine ⟨.int .u8 (s.data.getD j.toNat 0).toNat, ?_, .int _ _⟩
    have hge : s[j.toNat]? = some s[j.toNat] := getElem?_pos s j.toNat hlt
    have hd : s.data.getD j.toNat 0 = s[j.toNat] := by
      rw [Array.getD_eq_getD_getElem?, Array.getElem?_eq_getElem (show j.toNat < s.data.size from hlt)]
      rfl
    simp [Instr.index, asIntOf, run_underlying hu, hb.1, hge, hd]
  · cases e

theorem len_ok {t : TypeId} {ty : TypeId} {x : AV} {v : Value} {av : AV} (H : HRel w0 F h n ρ RO w) (h1 : VRel ρ RO w x v) (e : lenA P h t x = some av) : ∃ z, (Builtin.len_ #[t] ty #[v]).run P w = .ok z w ∧ VRel ρ RO w av z := by
  unfold lenA at e
  split at e
  · rename_i hu
    cases e; cases h1
    exact ⟨_, by simp [Builtin.len_, run_underlying hu]; rfl, .int _ _⟩
  · rename_i hu
    cases e; cases h1
    exact ⟨_, by simp [Builtin.len_, run_underlying hu]; rfl, .int _ _⟩
  · rename_i hu
    cases e; cases h1
    exact ⟨_, by simp [Builtin.len_, run_underlying hu]; rfl, .int _ _⟩
  · rename_i hu
    cases e; cases h1
    exact ⟨_, by simp [Builtin.len_, run_underlying hu]; rfl, .int _ _⟩
  · rename_i hu
    cases e; cases h1
    exact ⟨_, by simp [Builtin.len_, run_underlying hu]; rfl, .int _ _⟩
  · rename_i id hu
    split at e
    · rename_i es hlk
      cases e
      cases h1 with
      | map hL =>
      obtain ⟨ms, clock, g1, g2, _⟩ := H.mapO hlk hL
      refine ⟨.int .i64 (es.length : Int), ?_, .int _ _⟩
      simp [Builtin.len_, run_underlying hu, getObj, Sem.run, g1, goInt, g2]
    · cases e
  · cases e

theorem cap_ok {t : TypeId} {ty : TypeId} {x : AV} {v : Value} {av : AV} (h1 : VRel ρ RO w x v) (e : capA P t x = some av) : ∃ z, (Builtin.cap_ #[t] ty #[v]).run P w = .ok z w ∧ VRel ρ RO w av z := by
  unfold capA at e
  split at e
  · rename_i hu
    cases e; cases h1
    exact ⟨_, by simp [Builtin.cap_, run_underlying hu]; rfl, .int _ _⟩
  · cases e

theorem minmax_ok {mx : Bool} {l : List AV} {vs : List Value} {ts : Array TypeId} {ty : TypeId} {av : AV} (h1 : VRels ρ RO w l vs) (e : minmaxA mx l = some av) :
    ∃ z, (if mx then Builtin.max_ ts ty vs.toArray else Builtin.min_ ts ty vs.toArray).run P w = .ok z w ∧ VRel ρ RO w av z := by
  unfold minmaxA at e
  split at e
  · rename_i k a k' b r
    split at e
    · rename_i hk
      have hk := of_decide_eq_true hk
      subst hk
      split at e
      · cases e
        obtain ⟨v1, t1, rfl, r1, h1⟩ := h1.inv_cons
        obtain ⟨v2, t2, rfl, r2, h1⟩ := h1.inv_cons
        obtain rfl := h1.inv_nil
        cases r1; cases r2
        cases mx
        · exact ⟨_, by simpa using run_min_int2 w ts ty k k a b, .int _ _⟩
        · exact ⟨_, by simpa using run_max_int2 w ts ty k k a b, .int _ _⟩
      · cases e
    · cases e
  · cases e

end Go.Eng
