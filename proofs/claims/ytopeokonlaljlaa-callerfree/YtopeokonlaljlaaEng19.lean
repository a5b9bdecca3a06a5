/- Runs whose numbers may be given anew, in functions; contracts of functions that lay rows of their own and are lent some. -/
import Derived.Test.YtopeokonlaljlaaEng18
set_option linter.unusedVariables false
set_option linter.unusedSimpArgs false
set_option linter.unusedSectionVars false
namespace Go.Eng
variable [Dr]
open Go.RowKit

variable {P : Program} {N : Nat}

def RunW (P : Program) (N : Nat) (c : Code) (f : Run) : Prop :=
  ∀ env h n ds r, f env h n ds = some r → (∀ c ∈ r.conds, c.1 = c.2) → WOk P N c env h n r.out.exit r.out.env r.heap r.next
theorem RunOk.toW {c : Code} {f : Run} (hf : RunOk P N c f) : RunW P N c f := fun env h n ds r e hc => (hf env h n ds r e hc).toW

theorem RunW.seq {c1 c2 : Code} {f g : Run} (hf : RunW P N c1 f) (hg : RunW P N c2 g) : RunW P N (.seq c1 c2) (cSeq f g) := by
  intro env h n ds r e hc w0 F ρ RO a w H A
  simp only [cSeq] at e
  split at e
  · rename_i r1 hr1
    split at e
    · rename_i hex
      split at e
      · rename_i s hs
        cases e
        refine wp_seq (wp_mono (hf _ _ _ _ _ hr1 (fun c hcc => hc c (by simp [hcc])) w0 F ρ RO a w H A) fun x' a' w' q => ?_)
        obtain ⟨ρ', RO', p1, p2, p3, p4⟩ := q
        rw [hex] at p3
        cases p3
        exact wp_mono (hg _ _ _ _ _ hs (fun c hcc => hc c (by simp [hcc])) w0 F ρ' RO' a' w' p2 p4) fun x'' a'' w'' q => q.trans p1
      · cases e
    · rename_i hex
      cases e
      refine wp_seq (wp_mono (hf _ _ _ _ _ hr1 hc w0 F ρ RO a w H A) fun x' a' w' q => ?_)
      have : x' ≠ .normal := by
        rintro rfl
        obtain ⟨ρ', RO', p1, p2, p3, p4⟩ := q
        exact hex (xrel_normal p3)
      cases x' <;> first | exact absurd rfl this | exact q
  · cases e

theorem RunW.cond {c : Operand} {x y : Code} {f g : Run} (hf : RunW P N x f) (hg : RunW P N y g) : RunW P N (.cond c x y) (cCond c f g) := by
  intro env h n ds r e hc w0 F ρ RO a w H A
  simp only [cCond] at e
  split at e
  · rename_i b hb
    have hbv := bool_inv (evA_rel A.env hb)
    split at e
    · rename_i ds1 c1 hde
      split at e
      · rename_i r1 hr1
        cases e
        have hbt := decideA_ok hde (fun c hcc => hc c (by simp [hcc]))
        subst hbt
        exact wp_cond_true hbv (hf _ _ _ _ _ hr1 (fun c hcc => hc c (by simp [hcc])) w0 F ρ RO a w H A)
      · cases e
    · rename_i ds1 c1 hde
      split at e
      · rename_i r1 hr1
        cases e
        have hbt := decideA_ok hde (fun c hcc => hc c (by simp [hcc]))
        subst hbt
        exact wp_cond_false hbv (hg _ _ _ _ _ hr1 (fun c hcc => hc c (by simp [hcc])) w0 F ρ RO a w H A)
      · cases e
    · cases e
  · cases e

theorem WOk.block {id : Nat} {c : Code} {env env' : Env} {h h' : Heap} {n n' : Nat} {x : AExit} (o : WOk P N c env h n x env' h' n') :
    WOk P N (.block id c) env h n (outBlock id x) env' h' n' := by
  intro w0 F ρ RO a w H A
  refine wp_block (wp_mono (o w0 F ρ RO a w H A) fun x' a' w' q => ?_)
  have q' := q
  obtain ⟨ρ', RO', p1, p2, p3, p4⟩ := q
  cases x with
  | exit id' =>
    cases p3
    cases hb : Nat.beq id' id with
    | true =>
      have := Nat.eq_of_beq_eq_true hb
      subst this
      simp only [Exit.inBlock, if_true, outBlock, hb]
      exact ⟨ρ', RO', p1, p2, rfl, p4⟩
    | false =>
      have hne : ¬ id' = id := by
        intro hh; subst hh
        simp at hb
      simp only [Exit.inBlock, hne, if_false, outBlock, hb]
      exact q'
  | normal => cases p3; exact q'
  | goto l => cases p3; exact q'
  | ret => cases p3; exact q'
  | panic v =>
    obtain ⟨u, rfl, hu⟩ := p3
    exact q'

theorem RunW.block {id : Nat} {c : Code} {f : Run} (hf : RunW P N c f) : RunW P N (.block id c) (cBlock id f) := by
  intro env h n ds r e hc
  simp only [cBlock] at e
  split at e
  · rename_i r1 hr1
    split at e
    · rename_i id' hex
      split at e
      · rename_i hid
        cases e
        have := (hf _ _ _ _ _ hr1 hc).block (id := id)
        simp only [hex, outBlock, hid] at this
        exact this
      · rename_i hid
        cases e
        have := (hf _ _ _ _ _ hr1 hc).block (id := id)
        simp only [hex, outBlock, hid] at this
        rw [hex]
        exact this
    · rename_i hex
      cases e
      have := (hf _ _ _ _ _ hr1 hc).block (id := id)
      have he : outBlock id r.out.exit = r.out.exit := by
        unfold outBlock
        split
        · rename_i h2; exact absurd h2 (hex _)
        · rfl
      rw [he] at this
      exact this
  · cases e

def LamW (P : Program) (N : Nat) (body : Code) (Λ : Lam) : Prop := ∀ id c, c ∈ blocksOf id body → RunW P N (.block id c) (Λ id)

theorem runC3_okW {cf : CallF} {fuel : Nat} {Λ : Lam} (hP : NoNum P) (hm : P.follows .mixedOrders = true) (hcf : CfOk P cf) :
    ∀ (c : Code), LamW P N c Λ → RunW P N c (runC3 P Λ N cf fuel c) := by
  intro c
  induction c with
  | seq a b iha ihb => exact fun hl => (iha fun id c hc => hl id c (by simp only [blocksOf, List.mem_append]; exact .inl hc)).seq (ihb fun id c hc => hl id c (by simp only [blocksOf, List.mem_append]; exact .inr hc))
  | cond k a b iha ihb => exact fun hl => (iha fun id c hc => hl id c (by simp only [blocksOf, List.mem_append]; exact .inl hc)).cond (ihb fun id c hc => hl id c (by simp only [blocksOf, List.mem_append]; exact .inr hc))
  | block id c ih =>
    intro hl env h n ds r e hc
    have e : cBlockL Λ id (runC3 P Λ N cf fuel c) env h n ds = some r := e
    unfold cBlockL at e
    split at e
    · rename_i r' hr
      cases e
      exact hl id c (by simp [blocksOf]) env h n ds r hr hc
    · exact (ih fun id' c' hc' => hl id' c' (by simp only [blocksOf, List.mem_append]; exact .inr hc')).block env h n ds r e hc
  | loop c _ => exact fun _ => (runC2_ok hP hm hcf (.loop c)).toW
  | skip => exact fun _ => (runC2_ok (fuel := fuel) hP hm hcf .skip).toW
  | label l => exact fun _ => (runC2_ok (fuel := fuel) hP hm hcf (.label l)).toW
  | exit id => exact fun _ => (runC2_ok (fuel := fuel) hP hm hcf (.exit id)).toW
  | ret => exact fun _ => (runC2_ok (fuel := fuel) hP hm hcf .ret).toW
  | region id ops draw => exact fun _ => (runC2_ok (fuel := fuel) hP hm hcf (.region id ops draw)).toW
  | rangeFunc f ps x y _ _ => exact fun _ => (runC2_ok (fuel := fuel) hP hm hcf (.rangeFunc f ps x y)).toW
  | scope c _ => exact fun _ => (runC2_ok (fuel := fuel) hP hm hcf (.scope c)).toW
  | goto l => exact fun _ => (runC2_ok (fuel := fuel) hP hm hcf (.goto l)).toW
  | refuse w => exact fun _ => (runC2_ok (fuel := fuel) hP hm hcf (.refuse w)).toW

/-- At a function's beginning there is no object: numbers may be given anew. -/
theorem RunW.start {c : Code} {f : Run} (hf : RunW P N c f) : RunOk P N c (fun env h n ds => match n with | 0 => f env h 0 ds | _ + 1 => none) := by
  intro env h n ds r e hc w0 F ρ RO a w H A
  cases n with
  | zero =>
    refine wp_mono (hf env h 0 ds r e hc w0 F ρ RO a w H A) fun x' a' w' q => ?_
    obtain ⟨ρ', RO', p1, p2⟩ := q
    exact ⟨ρ', RO', ⟨fun id x hx => absurd hx (by rw [H.fresh id (Nat.zero_le _)]; simp), p1.ro, p1.same⟩, p2⟩
  | succ n => cases e

theorem callLamW_ok {Λ : Lam} {cf : CallF} {fuel : Nat} {k : FuncId} {args : List AV} {h : Heap} {ds : List Dec} {r : Came AEnd} (hP : NoNum P) (hm : P.follows .mixedOrders = true) (hcf : CfOk P cf)
    (hl : ∀ fn c, P.funcs[k]? = some fn → fn.body = some c → LamW P fn.ntmps c Λ) (e : callLam P Λ fuel cf k args h 0 ds = some r) (hc : ∀ c ∈ r.conds, c.1 = c.2) : CallOk P k args h 0 r.out r.heap r.next := by
  unfold callLam at e
  split at e
  · rename_i fn hfn
    split at e
    · rename_i c hb
      split at e
      · rename_i hle
        exact call_of_run hfn hb (runC3_okW hP hm hcf c (hl fn c hfn hb)).start (Nat.le_of_ble_eq_true hle) e hc
      · cases e
    · cases e
  · cases e

theorem lamsW {body : Code} : ∀ {l : List (Nat × Run)}, (∀ x ∈ l, ∃ c, blocksOf x.1 body = [c] ∧ RunW P N (.block x.1 c) x.2) → LamW P N body (lams l)
  | [], _ => fun id c _ env h n ds r e => by cases e
  | (k, f) :: l, hx => by
    intro id c hc
    simp only [lams]
    cases hb : Nat.beq k id with
    | true =>
      have := Nat.eq_of_beq_eq_true hb
      subst this
      obtain ⟨c', h1, h2⟩ := hx (k, f) (by simp)
      rw [h1] at hc
      cases List.mem_singleton.1 hc
      exact h2
    | false => exact lamsW (fun x hxl => hx x (by simp [hxl])) id c hc

/-- A piece, seen otherwise: kept names, numbers given anew. -/
def cutR (T : Ren) (ts : List Nat) (r : Option (Came AOut)) : Option (AExit × Env × Heap × Conds) := match r with
  | some r => match renE T r.out.env ts, renH T r.heap T with
    | some env, some h => some (r.out.exit, env, h, r.conds)
    | _, _ => none
  | none => none
def flatR (T : Ren) (r : Option (Came AOut)) : Prop := match r with | some r => FlatH r.heap T | none => True

theorem pieceW {c : Code} {run : Run} {T : Ren} {ts : List Nat} {env env' : Env} {h h' : Heap} {n n' : Nat} {ds : List Dec} {x : AExit} {cs : Conds} (hr : RunW P N c run) (e : cutR T ts (run env h n ds) = some (x, env', h', cs)) (hx : plainX x = true)
    (ht : tOk T n' = true) (hf : flatR T (run env h n ds)) (hc : ∀ x ∈ cs, x.1 = x.2) : WOk P N c env h n x env' h' n' := by
  unfold cutR at e
  split at e
  · rename_i r hr'
    split at e
    · rename_i e1 h1 q1 q2
      simp only [Option.some.injEq, Prod.mk.injEq] at e
      obtain ⟨rfl, rfl, rfl, rfl⟩ := e
      rw [hr'] at hf
      exact (hr _ _ _ _ _ hr' hc).post hx (Sees.ren ht q1 q2 hf)
    · cases e
  · cases e

/-! ### A function's own new objects, at the caller's: numbers behind the caller's -/
def shC (n : Nat) : AV → Option AV
  | .ptr id i o => some (.ptr (n + id) i o)
  | .sl id o l c => some (.sl (n + id) o l c)
  | .map id => some (.map (n + id))
  | v => match bareCell v with | true => some v | false => none
def shCs (n : Nat) : List AV → Option (List AV)
  | [] => some []
  | v :: r => match shC n v, shCs n r with | some a, some l => some (a :: l) | _, _ => none
def shA (n : Nat) : AV → Option AV
  | .agg l => match shCs n l with | some l => some (.agg l) | none => none
  | .fn f a b => match shCs n a, shCs n b with | some a, some b => some (.fn f a b) | _, _ => none
  | .iface t v => match shC n v with | some v => some (.iface t v) | none => none
  | v => shC n v
def shAs (n : Nat) : List AV → Option (List AV)
  | [] => some []
  | v :: r => match shA n v, shAs n r with | some a, some l => some (a :: l) | _, _ => none
def shV (n : Nat) : AV → Option AV
  | .tup l => match shAs n l with | some l => some (.tup l) | none => none
  | v => shA n v

section
variable {n : Nat} {ρ ρ' : Nat → Option Loc} {RO RO' : Nat → Prop} {w : World}
theorem shC_ok (hρ : ∀ i x, ρ i = some x → ρ' (n + i) = some x) {a b : AV} {v : Value} (e : shC n a = some b) (hv : VRel ρ RO w a v) : VRel ρ' RO' w b v := by
  unfold shC at e
  split at e
  · cases e
    cases hv with
    | ptr h => exact .ptr (hρ _ _ h)
  · cases e
    cases hv with
    | sl h hl hc hA => exact .sl (hρ _ _ h) hl hc hA
  · cases e
    cases hv with
    | map h => exact .map (hρ _ _ h)
  · split at e
    · rename_i hf; cases e; exact bareCell_move hf hv
    · cases e
theorem shCs_ok (hρ : ∀ i x, ρ i = some x → ρ' (n + i) = some x) : ∀ {l l' : List AV} {vs : List Value}, shCs n l = some l' → VRels ρ RO w l vs → VRels ρ' RO' w l' vs
  | [], l', vs, e, h => by cases e; rw [h.inv_nil]; exact .nil
  | a :: r, l', vs, e, h => by
    simp only [shCs] at e
    split at e
    · rename_i a1 l1 ha hl
      cases e
      obtain ⟨v, t, rfl, h1, h2⟩ := h.inv_cons
      exact .cons (shC_ok hρ ha h1) (shCs_ok hρ hl h2)
    · cases e
theorem shA_ok (hρ : ∀ i x, ρ i = some x → ρ' (n + i) = some x) {a b : AV} {v : Value} (e : shA n a = some b) (hv : VRel ρ RO w a v) : VRel ρ' RO' w b v := by
  unfold shA at e
  split at e
  · split at e
    · rename_i hk; cases e
      cases hv with
      | agg he h1 h => obtain ⟨q1, q2⟩ := shCs_ok (RO' := RO') hρ hk ⟨he, h⟩; exact .agg q1 h1 q2
    · cases e
  · split at e
    · rename_i ha hb; cases e
      cases hv with
      | fn e1 e2 h1 h2 =>
        obtain ⟨q1, q2⟩ := shCs_ok (RO' := RO') hρ ha ⟨e1, h1⟩
        obtain ⟨q3, q4⟩ := shCs_ok (RO' := RO') hρ hb ⟨e2, h2⟩
        exact .fn q1 q3 q2 q4
    · cases e
  · split at e
    · rename_i hk; cases e
      cases hv with
      | iface h => exact .iface (shC_ok hρ hk h)
    · cases e
  · exact shC_ok hρ e hv
theorem shAs_ok (hρ : ∀ i x, ρ i = some x → ρ' (n + i) = some x) : ∀ {l l' : List AV} {vs : List Value}, shAs n l = some l' → VRels ρ RO w l vs → VRels ρ' RO' w l' vs
  | [], l', vs, e, h => by cases e; rw [h.inv_nil]; exact .nil
  | a :: r, l', vs, e, h => by
    simp only [shAs] at e
    split at e
    · rename_i a1 l1 ha hl
      cases e
      obtain ⟨v, t, rfl, h1, h2⟩ := h.inv_cons
      exact .cons (shA_ok hρ ha h1) (shAs_ok hρ hl h2)
    · cases e
theorem shV_ok (hρ : ∀ i x, ρ i = some x → ρ' (n + i) = some x) {a b : AV} {v : Value} (e : shV n a = some b) (hv : VRel ρ RO w a v) : VRel ρ' RO' w b v := by
  unfold shV at e
  split at e
  · split at e
    · rename_i hk; cases e
      cases hv with
      | tup he h => obtain ⟨q1, q2⟩ := shAs_ok (RO' := RO') hρ hk ⟨he, h⟩; exact .tup q1 q2
    · cases e
  · exact shA_ok hρ e hv
end

def shOb (n : Nat) : AObj → Option AObj
  | .box ty cs => match shCs n cs with | some l => some (.box ty l) | none => none
  | .row ty sz m el => some (.row ty sz m el)
  | .map _ => none
def BareOb : AObj → Prop
  | .row _ sz n el => ∀ i k, i < n → k < sz → bareCell (el i k) = true
  | _ => True
def shH (n : Nat) : Heap → Option Heap
  | [] => some []
  | (i, o) :: r => match shH n r with
    | some r' => match o with
      | some ob => match shOb n ob with | some ob' => some ((n + i, some ob') :: r') | none => none
      | none => some ((n + i, none) :: r')
    | none => none
def BareH : Heap → Prop
  | [] => True
  | (_, some o) :: r => BareOb o ∧ BareH r
  | (_, none) :: r => BareH r

theorem shOb_ok {n : Nat} {ρ ρ' : Nat → Option Loc} {RO RO' : Nat → Prop} {w : World} (hρ : ∀ i x, ρ i = some x → ρ' (n + i) = some x) {x : Loc} {o o' : AObj} (e : shOb n o = some o') (hf : BareOb o) (h : ORel ρ RO w x o) : ORel ρ' RO' w x o' := by
  cases o with
  | box ty cs =>
    simp only [shOb] at e
    split at e
    · rename_i l hl
      cases e
      obtain ⟨h0, h1, h2, vs, h3, h4, h5⟩ := h
      have h6 := shCs_ok (RO' := RO') hρ hl h5
      have : l.length = cs.length := h6.1.trans h5.1.symm
      exact ⟨h0, h1.trans this.symm, h2.trans this.symm, vs, h3, h4, h6⟩
    · cases e
  | row ty sz n el =>
    cases e
    obtain ⟨h1, cs, h3, h4, h5⟩ := h
    refine ⟨h1, cs, h3, h4, fun i k hi hk => ?_⟩
    obtain ⟨v, q1, q2, q3⟩ := h5 i k hi hk
    exact ⟨v, q1, q2, bareCell_move (hf i k hi hk) q3⟩
  | map es => cases e
theorem shOb_ghost {n : Nat} {x : Loc} {o o' : AObj} (e : shOb n o = some o') (g : Ghost x o) : Ghost x o' := by
  obtain ⟨ty, sz, el, rfl, h⟩ := g
  cases e
  exact ⟨ty, sz, el, rfl, h⟩

/-- What is found in both stores, one before the other. -/
theorem shH_look {n : Nat} {h : Heap} : ∀ {g g' : Heap}, shH n g = some g' → BareH g → ∀ k o', lookH (g' ++ h) k = some o' → (∃ i o, k = n + i ∧ lookH g i = some o ∧ shOb n o = some o' ∧ BareOb o) ∨ lookH h k = some o'
  | [], g', e, hb, k, o', hl => by cases e; exact .inr hl
  | (i, o) :: r, g', e, hb, k, o', hl => by
    simp only [shH] at e
    split at e
    · rename_i r' hr
      split at e
      · rename_i ob
        obtain ⟨b1, b2⟩ := hb
        split at e
        · rename_i ob' hob
          cases e
          rw [List.cons_append, lookH_cons] at hl
          by_cases q : n + i = k
          · rw [if_pos q] at hl
            cases hl
            exact .inl ⟨i, ob, q.symm, by rw [lookH_cons, if_pos rfl], hob, b1⟩
          · rw [if_neg q] at hl
            rcases shH_look hr b2 k o' hl with ⟨i', o2, q1, q2, q3⟩ | q1
            · refine .inl ⟨i', o2, q1, ?_, q3⟩
              rw [lookH_cons, if_neg (by omega)]
              exact q2
            · exact .inr q1
        · cases e
      · cases e
        rw [List.cons_append, lookH_cons] at hl
        by_cases q : n + i = k
        · rw [if_pos q] at hl; cases hl
        · rw [if_neg q] at hl
          rcases shH_look hr hb k o' hl with ⟨i', o2, q1, q2, q3⟩ | q1
          · refine .inl ⟨i', o2, q1, ?_, q3⟩
            rw [lookH_cons, if_neg (by omega)]
            exact q2
          · exact .inr q1
    · cases e

/-- A call of a function that only looks at what it is handed, and lays its own. -/
theorem lend_call {k : FuncId} {args args' : List AV} {v' v2 : AV} {g g2 : Heap} {m : Nat} (H0 : CallOk P k args' [] 0 (.ret v') g m) (h : Heap) (n : Nat)
    (hargs : ∀ (w0 : World) (F : Nat → Prop) (ρ : Nat → Option Loc) (RO : Nat → Prop) (w : World) (vs : List Value), HRel w0 F h n ρ RO w → VRels ρ RO w args vs → VRels (fun _ => none) (fun b => b < w.heap.size) w args' vs)
    (hv : shV n v' = some v2) (hg : shH n g = some g2) (hb : BareH g) : CallOk P k args h n (.ret v2) (g2 ++ h) (n + m) := by
  refine ⟨H0.1, fun w0 F ρ RO w vs H hvs => ?_⟩
  have Hs : HRel w (fun _ => False) [] 0 (fun _ => none) (fun b => b < w.heap.size) w :=
    ⟨.refl _ _, fun id o hl => by simp [lookH, look] at hl, fun id id' o o' x x' hne hl => by simp [lookH, look] at hl, fun _ _ => rfl, fun b hb => hb⟩
  refine (H0.2 w (fun _ => False) (fun _ => none) _ w vs Hs (hargs w0 F ρ RO w vs H hvs)).mono fun e w' he => ?_
  obtain ⟨ρ1, RO1, p1, p2, p3⟩ := he
  obtain ⟨z, rfl, hz⟩ := p3
  obtain ⟨g1, G⟩ := H.grown p2.frame
  let ρ2 : Nat → Option Loc := fun id => if id < n then ρ id else ρ1 (id - n)
  have hlt : ∀ id x, ρ id = some x → id < n := by
    intro id x hx
    by_cases q : id < n
    · exact q
    · rw [H.fresh id (by omega)] at hx; cases hx
  have hρ : ∀ i x, ρ1 i = some x → ρ2 (n + i) = some x := by
    intro i x hx
    show (if n + i < n then ρ (n + i) else ρ1 (n + i - n)) = some x
    rw [if_neg (by omega), Nat.add_sub_cancel_left]
    exact hx
  have hid : ∀ id x, ρ id = some x → ρ2 id = some x := by
    intro id x hx
    show (if id < n then ρ id else ρ1 (id - n)) = some x
    rw [if_pos (hlt id x hx)]
    exact hx
  have ext2 : Ext ρ RO w' ρ2 RO w' := ⟨hid, fun _ h => h, fun _ _ => rfl⟩
  have back : ∀ k o', lookH (g2 ++ h) k = some o' → (∃ i o x, k = n + i ∧ lookH g i = some o ∧ ρ1 i = some x ∧ ρ2 k = some x ∧ (Ghost x o' ∨ (w.heap.size ≤ x.blk ∧ Solid w0 F ρ2 RO w' x o'))) ∨
      (∃ x, lookH h k = some o' ∧ ρ k = some x ∧ ρ2 k = some x ∧ (Ghost x o' ∨ (x.blk < w.heap.size ∧ Solid w0 F ρ2 RO w' x o'))) := by
    intro k o' hl
    rcases shH_look hg hb k o' hl with ⟨i, o, rfl, q2, q3, q4⟩ | q
    · obtain ⟨x, r1, r2⟩ := p2.objs i o q2
      refine .inl ⟨i, o, x, rfl, q2, r1, hρ i x r1, r2.imp (shOb_ghost q3) fun s => ?_⟩
      have hsz : w.heap.size ≤ x.blk := s.own.resolve_right (fun h => h)
      exact ⟨hsz, shOb_ok hρ q3 q4 s.rel, s.lt, .inl (Nat.le_trans H.frame.size hsz), fun hr => by have := H.ro _ hr; omega⟩
    · obtain ⟨x, r1, r2⟩ := H.objs k o' q
      obtain ⟨x', r1', r2'⟩ := G.objs k o' q
      rw [r1] at r1'; cases r1'
      refine .inr ⟨x, q, r1, hid k x r1, ?_⟩
      rcases r2 with r2 | r2
      · exact .inl r2
      · exact r2'.imp (fun g => g) fun s => ⟨r2.lt, ⟨s.rel.mono ext2 rfl, s.lt, s.own, s.free⟩⟩
  refine ⟨ρ2, RO, ⟨hid, fun _ h => h, g1.same⟩, ⟨G.frame, fun k o' hl => ?_, fun i j o1 o2 x x' hne e1 e2 hx hx' => ?_, fun id hid => ?_, G.ro⟩, z, rfl, shV_ok hρ hv hz⟩
  · rcases back k o' hl with ⟨i, o, x, q1, q2, q3, q4, q5⟩ | ⟨x, q2, q3, q4, q5⟩
    · exact ⟨x, q4, q5.imp (fun g => g) fun s => s.2⟩
    · exact ⟨x, q4, q5.imp (fun g => g) fun s => s.2⟩
  · have b1 := back i o1 e1
    have b2 := back j o2 e2
    rcases b1 with ⟨i1, o1', y, q1, q2, q3, q4, q5⟩ | ⟨y, q2, q3, q4, q5⟩
    · rw [q4] at hx; cases hx
      rcases b2 with ⟨j1, o2', y', s1, s2, s3, s4, s5⟩ | ⟨y', s2, s3, s4, s5⟩
      · rw [s4] at hx'; cases hx'
        rcases shH_look hg hb i o1 e1 with ⟨i2, oo1, t1, t2, t3, t4⟩ | t
        · rcases shH_look hg hb j o2 e2 with ⟨j2, oo2, u1, u2, u3, u4⟩ | u
          · have ii : i1 = i2 := by omega
            have jj : j1 = j2 := by omega
            subst ii; subst jj
            rcases p2.dis i1 j1 oo1 oo2 _ _ (by omega) t2 u2 q3 s3 with d | d | d
            · exact .inl (shOb_ghost t3 d)
            · exact .inr (.inl (shOb_ghost u3 d))
            · exact .inr (.inr d)
          · obtain ⟨z1, z2, _⟩ := H.objs j o2 u
            have := hlt j z1 z2
            omega
        · obtain ⟨z1, z2, _⟩ := H.objs i o1 t
          have := hlt i z1 z2
          omega
      · rw [s4] at hx'; cases hx'
        rcases q5 with q5 | q5
        · exact .inl q5
        · rcases s5 with s5 | s5
          · exact .inr (.inl s5)
          · exact .inr (.inr (by have := q5.1; have := s5.1; omega))
    · rw [q4] at hx; cases hx
      rcases b2 with ⟨j1, o2', y', s1, s2, s3, s4, s5⟩ | ⟨y', s2, s3, s4, s5⟩
      · rw [s4] at hx'; cases hx'
        rcases q5 with q5 | q5
        · exact .inl q5
        · rcases s5 with s5 | s5
          · exact .inr (.inl s5)
          · exact .inr (.inr (by have := q5.1; have := s5.1; omega))
      · rw [s4] at hx'; cases hx'
        exact H.dis i j o1 o2 x x' hne q2 s2 q3 s3
  · show (if id < n then ρ id else ρ1 (id - n)) = none
    rw [if_neg (by omega)]
    exact p2.fresh _ (by omega)
end Go.Eng
