/- Loops whose rounds are not counted: pieces of code by themselves, and contracts for blocks. -/
import Derived.Test.YtopeokonlaljlaaEng14
set_option linter.unusedVariables false
set_option linter.unusedSimpArgs false
set_option linter.unusedSectionVars false
namespace Go.Eng
variable [Dr]
open Go.RowKit

variable {P : Program} {N : Nat}

/-- From any state that is so, the code comes to one that is so. -/
def COk (P : Program) (N : Nat) (c : Code) (env : Env) (h : Heap) (n : Nat) (x : AExit) (env' : Env) (h' : Heap) (n' : Nat) : Prop :=
  ∀ (w0 : World) (F : Nat → Prop) (ρ : Nat → Option Loc) (RO : Nat → Prop) (a : Act) (w : World), HRel w0 F h n ρ RO w → ARel N ρ RO w env a → c.wp P (Post w0 F N ρ RO w x env' h' n') a w

/-- Some rounds of a loop. -/
def ROk (P : Program) (N : Nat) (c : Code) (env : Env) (h : Heap) (n : Nat) (x : AExit) (env' : Env) (h' : Heap) (n' : Nat) : Prop :=
  ∃ k, ∀ (w0 : World) (F : Nat → Prop) (ρ : Nat → Option Loc) (RO : Nat → Prop) (a : Act) (w : World), HRel w0 F h n ρ RO w → ARel N ρ RO w env a → Code.rounds P c (Post w0 F N ρ RO w x env' h' n') k a w

def Sub (e e' : Env) : Prop := ∀ t v, lookE e t = some v → lookE e' t = some v
def SubH (h h' : Heap) : Prop := ∀ i o, lookH h i = some o → lookH h' i = some o

theorem ARel.sub {ρ : Nat → Option Loc} {RO : Nat → Prop} {w : World} {e e' : Env} {a : Act} (A : ARel N ρ RO w e' a) (s : Sub e e') : ARel N ρ RO w e a := ⟨A.size, A.defers, fun t v hl => A.env t v (s t v hl)⟩

theorem COk.weak {c : Code} {env env2 env' : Env} {h h2 h' : Heap} {n n2 n' : Nat} {x : AExit} (o : COk P N c env2 h2 n2 x env' h' n') (se : Sub env2 env) (sh : SubH h2 h) (hn : n ≤ n2) : COk P N c env h n x env' h' n' :=
  fun w0 F ρ RO a w H A => o w0 F ρ RO a w ((H.forget sh).more hn) (A.sub se)
theorem ROk.weak {c : Code} {env env2 env' : Env} {h h2 h' : Heap} {n n2 n' : Nat} {x : AExit} (o : ROk P N c env2 h2 n2 x env' h' n') (se : Sub env2 env) (sh : SubH h2 h) (hn : n ≤ n2) : ROk P N c env h n x env' h' n' := by
  obtain ⟨k, o⟩ := o
  exact ⟨k, fun w0 F ρ RO a w H A => o w0 F ρ RO a w ((H.forget sh).more hn) (A.sub se)⟩
theorem Post.weak {w0 w w' : World} {F : Nat → Prop} {ρ : Nat → Option Loc} {RO : Nat → Prop} {env env2 : Env} {h h2 : Heap} {n n2 : Nat} {x : AExit} {e : Exit} {a : Act} (p : Post w0 F N ρ RO w x env h n e a w') (se : Sub env2 env) (sh : SubH h2 h) (hn : n ≤ n2) : Post w0 F N ρ RO w x env2 h2 n2 e a w' := by
  obtain ⟨ρ', RO', p1, p2, p3, p4⟩ := p
  exact ⟨ρ', RO', p1, (p2.forget sh).more hn, p3, p4.sub se⟩
theorem COk.post {c : Code} {env env' env2 : Env} {h h' h2 : Heap} {n n' n2 : Nat} {x : AExit} (o : COk P N c env h n x env' h' n') (se : Sub env2 env') (sh : SubH h2 h') (hn : n' ≤ n2) : COk P N c env h n x env2 h2 n2 :=
  fun w0 F ρ RO a w H A => wp_mono (o w0 F ρ RO a w H A) fun x' a' w' q => q.weak se sh hn

theorem ROk.exit {c : Code} {env env' : Env} {h h' : Heap} {n n' : Nat} {x : AExit} (o : COk P N c env h n x env' h' n') (hx : x ≠ .normal) : ROk P N c env h n x env' h' n' := by
  refine ⟨1, fun w0 F ρ RO a w H A => ?_⟩
  rw [rounds_succ]
  refine wp_mono (o w0 F ρ RO a w H A) fun x' a' w' q => ?_
  have : x' ≠ .normal := by
    rintro rfl
    obtain ⟨ρ', RO', p1, p2, p3, p4⟩ := q
    exact hx (xrel_normal p3)
  cases x' <;> first | exact absurd rfl this | exact q

theorem ROk.step {c : Code} {env env1 env' : Env} {h h1 h' : Heap} {n n1 n' : Nat} {x : AExit} (o : COk P N c env h n .normal env1 h1 n1) (r : ROk P N c env1 h1 n1 x env' h' n') : ROk P N c env h n x env' h' n' := by
  obtain ⟨k, r⟩ := r
  refine ⟨k + 1, fun w0 F ρ RO a w H A => ?_⟩
  rw [rounds_succ]
  refine wp_mono (o w0 F ρ RO a w H A) fun x' a' w' q => ?_
  obtain ⟨ρ', RO', p1, p2, p3, p4⟩ := q
  cases p3
  exact rounds_mono (fun x'' a'' w'' q => q.trans p1) (r w0 F ρ' RO' a' w' p2 p4)

theorem ROk.loop {c : Code} {env env' : Env} {h h' : Heap} {n n' : Nat} {x : AExit} (r : ROk P N c env h n x env' h' n') : COk P N (.loop c) env h n x env' h' n' := by
  obtain ⟨k, r⟩ := r
  exact fun w0 F ρ RO a w H A => wp_loop_rounds k (r w0 F ρ RO a w H A)

/-- What a run says of a piece of code. -/
def RunOk (P : Program) (N : Nat) (c : Code) (f : Run) : Prop :=
  ∀ env h n ds r, f env h n ds = some r → (∀ c ∈ r.conds, c.1 = c.2) → COk P N c env h n r.out.exit r.out.env r.heap r.next

theorem runC2_ok {cf : CallF} {fuel : Nat} (hP : NoNum P) (hm : P.follows .mixedOrders = true) (hcf : CfOk P cf) (c : Code) : RunOk P N c (runC2 P N cf fuel c) := by
  intro env h n ds r e hc w0 F ρ RO a w H A
  rw [runC2_eq] at e
  exact runC_ok hP hm hcf c env h n ds r e hc ρ RO a w H A

theorem RunOk.seq {c1 c2 : Code} {f g : Run} (hf : RunOk P N c1 f) (hg : RunOk P N c2 g) : RunOk P N (.seq c1 c2) (cSeq f g) := by
  intro env h n ds r e hc w0 F ρ RO a w H A
  simp only [cSeq] at e
  split at e
  · rename_i r1 hr1
    split at e
    · rename_i hex
      split at e
      · rename_i s hs
        cases e
        refine wp_seq (wp_mono (hf _ _ _ _ _ hr1 (fun c hcc => hc c (by simp [hcc])) w0 F ρ RO a w H A) fun x' a' w' q => ?_)
        obtain ⟨ρ', RO', p1, p2, p3, p4⟩ := q
        rw [hex] at p3
        cases p3
        exact wp_mono (hg _ _ _ _ _ hs (fun c hcc => hc c (by simp [hcc])) w0 F ρ' RO' a' w' p2 p4) fun x'' a'' w'' q => q.trans p1
      · cases e
    · rename_i hex
      cases e
      refine wp_seq (wp_mono (hf _ _ _ _ _ hr1 hc w0 F ρ RO a w H A) fun x' a' w' q => ?_)
      have : x' ≠ .normal := by
        rintro rfl
        obtain ⟨ρ', RO', p1, p2, p3, p4⟩ := q
        exact hex (xrel_normal p3)
      cases x' <;> first | exact absurd rfl this | exact q
  · cases e

theorem RunOk.cond {c : Operand} {x y : Code} {f g : Run} (hf : RunOk P N x f) (hg : RunOk P N y g) : RunOk P N (.cond c x y) (cCond c f g) := by
  intro env h n ds r e hc w0 F ρ RO a w H A
  simp only [cCond] at e
  split at e
  · rename_i b hb
    have hbv := bool_inv (evA_rel A.env hb)
    split at e
    · rename_i ds1 c1 hde
      split at e
      · rename_i r1 hr1
        cases e
        have hbt := decideA_ok hde (fun c hcc => hc c (by simp [hcc]))
        subst hbt
        exact wp_cond_true hbv (hf _ _ _ _ _ hr1 (fun c hcc => hc c (by simp [hcc])) w0 F ρ RO a w H A)
      · cases e
    · rename_i ds1 c1 hde
      split at e
      · rename_i r1 hr1
        cases e
        have hbt := decideA_ok hde (fun c hcc => hc c (by simp [hcc]))
        subst hbt
        exact wp_cond_false hbv (hg _ _ _ _ _ hr1 (fun c hcc => hc c (by simp [hcc])) w0 F ρ RO a w H A)
      · cases e
    · cases e
  · cases e

def outBlock (id : Nat) : AExit → AExit
  | .exit id' => match Nat.beq id' id with | true => .normal | false => .exit id'
  | x => x

theorem COk.block {id : Nat} {c : Code} {env env' : Env} {h h' : Heap} {n n' : Nat} {x : AExit} (o : COk P N c env h n x env' h' n') :
    COk P N (.block id c) env h n (outBlock id x) env' h' n' := by
  intro w0 F ρ RO a w H A
  refine wp_block (wp_mono (o w0 F ρ RO a w H A) fun x' a' w' q => ?_)
  have q' := q
  obtain ⟨ρ', RO', p1, p2, p3, p4⟩ := q
  cases x with
  | exit id' =>
    cases p3
    cases hb : Nat.beq id' id with
    | true =>
      have := Nat.eq_of_beq_eq_true hb
      subst this
      simp only [Exit.inBlock, if_true, outBlock, hb]
      exact ⟨ρ', RO', p1, p2, rfl, p4⟩
    | false =>
      have hne : ¬ id' = id := by
        intro hh; subst hh
        simp at hb
      simp only [Exit.inBlock, hne, if_false, outBlock, hb]
      exact q'
  | normal => cases p3; exact q'
  | goto l => cases p3; exact q'
  | ret => cases p3; exact q'
  | panic v =>
    obtain ⟨u, rfl, hu⟩ := p3
    exact q'

theorem RunOk.block {id : Nat} {c : Code} {f : Run} (hf : RunOk P N c f) : RunOk P N (.block id c) (cBlock id f) := by
  intro env h n ds r e hc
  simp only [cBlock] at e
  split at e
  · rename_i r1 hr1
    split at e
    · rename_i id' hex
      split at e
      · rename_i hid
        cases e
        have := (hf _ _ _ _ _ hr1 hc).block (id := id)
        simp only [hex, outBlock, hid] at this
        exact this
      · rename_i hid
        cases e
        have := (hf _ _ _ _ _ hr1 hc).block (id := id)
        simp only [hex, outBlock, hid] at this
        rw [hex]
        exact this
    · rename_i hex
      cases e
      have := (hf _ _ _ _ _ hr1 hc).block (id := id)
      have he : outBlock id r.out.exit = r.out.exit := by
        unfold outBlock
        split
        · rename_i h2; exact absurd h2 (hex _)
        · rfl
      rw [he] at this
      exact this
  · cases e

/-! ### Contracts for blocks -/
abbrev Lam := Nat → Run

def blocksOf (id : Nat) : Code → List Code
  | .block k c => (match Nat.beq k id with | true => [c] | false => []) ++ blocksOf id c
  | .seq a b => blocksOf id a ++ blocksOf id b
  | .cond _ a b => blocksOf id a ++ blocksOf id b
  | .loop c => blocksOf id c
  | _ => []

def LamOk (P : Program) (N : Nat) (body : Code) (Λ : Lam) : Prop := ∀ id c, c ∈ blocksOf id body → RunOk P N (.block id c) (Λ id)

noncomputable def cBlockL (Λ : Lam) (id : Nat) (c : Run) : Run := fun env h n ds => match Λ id env h n ds with | some r => some r | none => cBlock id c env h n ds

noncomputable def runC3 (P : Program) (Λ : Lam) (N : Nat) (cf : CallF) (fuel : Nat) (c : Code) : Run :=
  Code.rec (motive := fun _ => Run) cSkip (fun _ ops draw => cRegion P N cf ops draw) (fun _ _ a b => cSeq a b) (fun c _ _ x y => cCond c x y) (fun id _ c => cBlockL Λ id c) (fun c _ => runC2 P N cf fuel (.loop c))
    (fun _ _ _ _ _ _ => cNone) (fun id => cExit (.exit id)) (fun _ _ => cNone) (fun _ => cSkip) (fun _ => cNone) (cExit .ret) (fun _ => cNone) c

theorem runC3_ok {cf : CallF} {fuel : Nat} {Λ : Lam} (hP : NoNum P) (hm : P.follows .mixedOrders = true) (hcf : CfOk P cf) :
    ∀ (c : Code), LamOk P N c Λ → RunOk P N c (runC3 P Λ N cf fuel c) := by
  intro c
  induction c with
  | seq a b iha ihb => exact fun hl => (iha fun id c hc => hl id c (by simp only [blocksOf, List.mem_append]; exact .inl hc)).seq (ihb fun id c hc => hl id c (by simp only [blocksOf, List.mem_append]; exact .inr hc))
  | cond k a b iha ihb => exact fun hl => (iha fun id c hc => hl id c (by simp only [blocksOf, List.mem_append]; exact .inl hc)).cond (ihb fun id c hc => hl id c (by simp only [blocksOf, List.mem_append]; exact .inr hc))
  | block id c ih =>
    intro hl env h n ds r e hc
    have e : cBlockL Λ id (runC3 P Λ N cf fuel c) env h n ds = some r := e
    unfold cBlockL at e
    split at e
    · rename_i r' hr
      cases e
      exact hl id c (by simp [blocksOf]) env h n ds r hr hc
    · exact (ih fun id' c' hc' => hl id' c' (by simp only [blocksOf, List.mem_append]; exact .inr hc')).block env h n ds r e hc
  | loop c _ => exact fun _ => runC2_ok hP hm hcf (.loop c)
  | skip => exact fun _ => runC2_ok (fuel := fuel) hP hm hcf .skip
  | label l => exact fun _ => runC2_ok (fuel := fuel) hP hm hcf (.label l)
  | exit id => exact fun _ => runC2_ok (fuel := fuel) hP hm hcf (.exit id)
  | ret => exact fun _ => runC2_ok (fuel := fuel) hP hm hcf .ret
  | region id ops draw => exact fun _ => runC2_ok (fuel := fuel) hP hm hcf (.region id ops draw)
  | rangeFunc f ps x y _ _ => exact fun _ => runC2_ok (fuel := fuel) hP hm hcf (.rangeFunc f ps x y)
  | scope c _ => exact fun _ => runC2_ok (fuel := fuel) hP hm hcf (.scope c)
  | goto l => exact fun _ => runC2_ok (fuel := fuel) hP hm hcf (.goto l)
  | refuse w => exact fun _ => runC2_ok (fuel := fuel) hP hm hcf (.refuse w)

/-! ### A call, with such contracts -/
noncomputable def callLam (P : Program) (Λ : Lam) (fuel : Nat) (cf : CallF) (f : FuncId) (args : List AV) (h : Heap) (n : Nat) (ds : List Dec) : Option (Came AEnd) :=
  match P.funcs[f]? with
  | some fn => match fn.body with
    | some c => match Nat.ble args.length fn.ntmps with
      | true => endOf P fn (runC3 P Λ fn.ntmps cf fuel c (params args 0) h n ds)
      | false => none
    | none => none
  | none => none

theorem call_of_run {k : FuncId} {fn : Func} {c : Code} {run : Run} {args : List AV} {h : Heap} {n : Nat} {ds : List Dec} {r : Came AEnd} (hfn : P.funcs[k]? = some fn) (hbody : fn.body = some c) (hrun : RunOk P fn.ntmps c run)
    (hle : args.length ≤ fn.ntmps) (e : endOf P fn (run (params args 0) h n ds) = some r) (hc : ∀ c ∈ r.conds, c.1 = c.2) : CallOk P k args h n r.out r.heap r.next := by
  refine ⟨⟨fn, hfn, by simp [hbody]⟩, fun w0 F ρ RO w vs H hvs => ?_⟩
  refine calls_of_wp hfn hbody ?_
  unfold endOf at e
  split at e
  · rename_i r1 hr1
    have A : ARel fn.ntmps ρ RO w (params args 0) { tmps := vs.toArray ++ Array.replicate (fn.ntmps - vs.toArray.size) undef, defers := [] } := by
      refine ⟨by have := hvs.1; simp; omega, rfl, fun t v hl => ?_⟩
      rw [params_look, if_pos (Nat.zero_le _), Nat.sub_zero] at hl
      obtain ⟨u, u1, u2⟩ := hvs.get hl
      have : (vs.toArray ++ Array.replicate (fn.ntmps - vs.toArray.size) undef).getD t undef = u := by
        have hlt : t < vs.length := (List.getElem?_eq_some_iff.1 u1).1
        rw [Array.getD_eq_getD_getElem?, Array.getElem?_append_left (by simpa using hlt)]
        simp [u1]
      rw [this]; exact u2
    have fin : ∀ (l : List AV) (e : Exit) (a' : Act) (w' : World), (e = .normal ∨ e = .ret) → resA P r1.out.env r1.heap r1.next fn.results.toList = some l → (∀ c ∈ r1.conds, c.1 = c.2) →
        Post w0 F fn.ntmps ρ RO w r1.out.exit r1.out.env r1.heap r1.next e a' w' →
        bodyPost P fn (fun e w' => ∃ ρ' RO', Ext ρ RO w ρ' RO' w' ∧ HRel w0 F r1.heap r1.next ρ' RO' w' ∧ EndRel ρ' RO' w' (.ret (oneOf l)) e) e a' w' := by
      intro l e a' w' hne hl hcc q
      obtain ⟨ρ', RO', p1, p2, p3, p4⟩ := q
      obtain ⟨us, q1, q2⟩ := resA_ok p2 p4.env hl
      have hres : (results fn a'.tmps).run P w' = .ok (if h : us.toArray.size = 1 then us.toArray[0] else .tuple us.toArray) w' := by
        unfold results
        have hm : (fn.results.mapM fun
            | .tmp t => pure (a'.tmps.getD t undef)
            | .cell x t => do loadVar t (← asAddr (a'.tmps.getD x undef)) : Sem (Array Value)).run P w' = .ok us.toArray w' := by
          have q1' : (fn.results.toList.mapM fun
            | .tmp t => pure (a'.tmps.getD t undef)
            | .cell x t => do loadVar t (← asAddr (a'.tmps.getD x undef)) : Sem (List Value)).run P w' = .ok us w' := q1
          rw [Array.mapM_eq_mapM_toList]
          simp only [Sem.run_map, q1']
          rfl
        rw [Sem.run_bind]
        exact congrArg (fun r : Result (Array Value) => r.andThen fun (a : Array Value) w' => (Pure.pure (if h : a.size = 1 then a[0] else .tuple a) : Sem Value).run P w') hm
      rcases hne with rfl | rfl
      · exact ⟨p4.defers, _, hres, ρ', RO', p1, p2, _, rfl, oneOf_ok q2 _ rfl⟩
      · exact ⟨p4.defers, _, hres, ρ', RO', p1, p2, _, rfl, oneOf_ok q2 _ rfl⟩
    split at e
    · rename_i hex
      split at e
      · rename_i l hl
        cases e
        refine wp_mono (hrun _ _ _ _ r1 hr1 hc w0 F ρ RO _ w H A) fun x' a' w' q => ?_
        have q' := q
        obtain ⟨ρ', RO', p1, p2, p3, p4⟩ := q
        rw [hex] at p3
        cases p3
        exact fin l _ a' w' (.inl rfl) hl hc q'
      · cases e
    · rename_i hex
      split at e
      · rename_i l hl
        cases e
        refine wp_mono (hrun _ _ _ _ r1 hr1 hc w0 F ρ RO _ w H A) fun x' a' w' q => ?_
        have q' := q
        obtain ⟨ρ', RO', p1, p2, p3, p4⟩ := q
        rw [hex] at p3
        cases p3
        exact fin l _ a' w' (.inr rfl) hl hc q'
      · cases e
    · rename_i v hex
      cases e
      refine wp_mono (hrun _ _ _ _ r1 hr1 hc w0 F ρ RO _ w H A) fun x' a' w' q => ?_
      obtain ⟨ρ', RO', p1, p2, p3, p4⟩ := q
      rw [hex] at p3
      obtain ⟨u, rfl, hu⟩ := p3
      exact ⟨p4.defers, ρ', RO', p1, p2, u, rfl, hu⟩
    · cases e
  · cases e

theorem callLam_ok {Λ : Lam} {cf : CallF} {fuel : Nat} {k : FuncId} {args : List AV} {h : Heap} {n : Nat} {ds : List Dec} {r : Came AEnd} (hP : NoNum P) (hm : P.follows .mixedOrders = true) (hcf : CfOk P cf)
    (hl : ∀ fn c, P.funcs[k]? = some fn → fn.body = some c → LamOk P fn.ntmps c Λ) (e : callLam P Λ fuel cf k args h n ds = some r) (hc : ∀ c ∈ r.conds, c.1 = c.2) : CallOk P k args h n r.out r.heap r.next := by
  unfold callLam at e
  split at e
  · rename_i fn hfn
    split at e
    · rename_i c hb
      split at e
      · rename_i hle
        exact call_of_run hfn hb (runC3_ok hP hm hcf c (hl fn c hfn hb)) (Nat.le_of_ble_eq_true hle) e hc
      · cases e
    · cases e
  · cases e

/-- A way of a call with contracts for its loops. -/
theorem wayL {Λ : Lam} {cf : CallF} {fuel : Nat} {k : FuncId} {args : List AV} {v : AV} {ds : List Dec} {c : Conds} (hP : NoNum P) (hm : P.follows .mixedOrders = true) (hcf : CfOk P cf)
    (hl : ∀ fn c, P.funcs[k]? = some fn → fn.body = some c → LamOk P fn.ntmps c Λ) (e : resOf (callLam P Λ fuel cf k args [] 0 ds) = some (.ret v, c)) (hc : ∀ x ∈ c, x.1 = x.2) (hf : args.all flatV = true) (hb : bareV v = true) (h : Heap) (n : Nat) :
    CallOk P k args h n (.ret v) h n := by
  unfold resOf at e
  split at e
  · rename_i r hr
    simp only [Option.some.injEq, Prod.mk.injEq] at e
    obtain ⟨hout, rfl⟩ := e
    have := callLam_ok hP hm hcf hl hr hc
    rw [hout] at this
    exact pure_call this hf hb h n
  · cases e

/-! ### One round of a loop, told by what is kept of it -/
def keepE (ts : List Nat) (e : Env) : Env := ts.filterMap fun t => match lookE e t with | some v => some (t, some v) | none => none

theorem keepE_sub (ts : List Nat) (e : Env) : Sub (keepE ts e) e := by
  intro t v hl
  induction ts with
  | nil => simp [keepE, lookE, look] at hl
  | cons t' r ih =>
    cases h : lookE e t' with
    | none =>
      have : keepE (t' :: r) e = keepE r e := by simp [keepE, h]
      rw [this] at hl
      exact ih hl
    | some u =>
      have : keepE (t' :: r) e = (t', some u) :: keepE r e := by simp [keepE, h]
      rw [this, lookE_cons] at hl
      by_cases q : t' = t
      · subst q
        rw [if_pos rfl] at hl
        cases hl; exact h
      · rw [if_neg q] at hl
        exact ih hl

/-- What came of a piece: its exit, what is kept of its names, its objects, what was taken for granted. -/
def cutOf (ts : List Nat) (r : Option (Came AOut)) : Option (AExit × Env × Heap × Nat × Conds) := match r with
  | some r => some (r.out.exit, keepE ts r.out.env, r.heap, r.next, r.conds)
  | none => none

theorem piece {c : Code} {run : Run} {ts : List Nat} {env env' : Env} {h h' : Heap} {n n' : Nat} {ds : List Dec} {x : AExit} {cs : Conds} (hr : RunOk P N c run) (e : cutOf ts (run env h n ds) = some (x, env', h', n', cs)) (hc : ∀ x ∈ cs, x.1 = x.2) : COk P N c env h n x env' h' n' := by
  unfold cutOf at e
  split at e
  · rename_i r hr'
    simp only [Option.some.injEq, Prod.mk.injEq] at e
    obtain ⟨rfl, rfl, rfl, rfl, rfl⟩ := e
    exact (hr _ _ _ _ _ hr' hc).post (keepE_sub _ _) (fun _ _ h => h) (Nat.le_refl _)
  · cases e

def loopOf : Code → Code
  | .loop c => c
  | .block _ c => loopOf c
  | c => c

/-- A function's code, and how many names it has. -/
def codeAt (P : Program) (k : FuncId) : Code := match P.funcs[k]? with
  | some f => match f.body with | some c => c | none => .skip
  | none => .skip
def tmpsAt (P : Program) (k : FuncId) : Nat := match P.funcs[k]? with | some f => f.ntmps | none => 0

theorem codeAt_eq {k : FuncId} {fn : Func} {c : Code} (hfn : P.funcs[k]? = some fn) (hb : fn.body = some c) : c = codeAt P k ∧ fn.ntmps = tmpsAt P k := by
  unfold codeAt tmpsAt
  rw [hfn]
  simp only [hb, and_self]

/-- Contracts for some blocks. -/
def lams : List (Nat × Run) → Lam
  | [], _ => fun _ _ _ _ => none
  | (k, f) :: l, id => match Nat.beq k id with | true => f | false => lams l id

theorem lams_ok {body : Code} : ∀ {l : List (Nat × Run)}, (∀ x ∈ l, ∃ c, blocksOf x.1 body = [c] ∧ RunOk P N (.block x.1 c) x.2) → LamOk P N body (lams l)
  | [], _ => fun id c _ env h n ds r e => by cases e
  | (k, f) :: l, hx => by
    intro id c hc
    simp only [lams]
    cases hb : Nat.beq k id with
    | true =>
      have := Nat.eq_of_beq_eq_true hb
      subst this
      obtain ⟨c', h1, h2⟩ := hx (k, f) (by simp)
      rw [h1] at hc
      cases List.mem_singleton.1 hc
      exact h2
    | false => exact lams_ok (fun x hxl => hx x (by simp [hxl])) id c hc

theorem Sub.of {e e' : Env} : Sub [] e := fun t v h => by simp [lookE, look] at h
theorem Sub.cons {t : Nat} {v : AV} {e e' : Env} (h : lookE e' t = some v) (s : Sub e e') : Sub ((t, some v) :: e) e' := by
  intro t' v' hl
  rw [lookE_cons] at hl
  by_cases q : t = t'
  · subst q; rw [if_pos rfl] at hl; cases hl; exact h
  · rw [if_neg q] at hl; exact s t' v' hl

/-- What is asked of the state at a block: these names hold these. -/
noncomputable def holdsB (l : List (Nat × AV)) (env : Env) : Bool := @decide (∀ x ∈ l, lookE env x.1 = some x.2) (Classical.propDecidable _)
theorem sub_of_all {env : Env} : ∀ {l : List (Nat × AV)}, (∀ x ∈ l, lookE env x.1 = some x.2) → Sub (l.map fun x => (x.1, some x.2)) env
  | [], _ => fun t v h => by simp [lookE, look] at h
  | x :: r, h => Sub.cons (h x (by simp)) (sub_of_all fun y hy => h y (by simp [hy]))
theorem holdsB_sub {l : List (Nat × AV)} {env : Env} (h : holdsB l env = true) : Sub (l.map fun x => (x.1, some x.2)) env :=
  sub_of_all ((@decide_eq_true_iff _ (Classical.propDecidable _)).1 h)
theorem holdsB_true {l : List (Nat × AV)} {env : Env} (h : ∀ x ∈ l, lookE env x.1 = some x.2) : holdsB l env = true :=
  (@decide_eq_true_iff _ (Classical.propDecidable _)).2 h

end Go.Eng
