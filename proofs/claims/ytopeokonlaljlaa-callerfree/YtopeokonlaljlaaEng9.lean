/- Code and calls: sound. -/
import Derived.Test.YtopeokonlaljlaaEng8
import Derived.LoopN
set_option linter.unusedVariables false
set_option linter.unusedSimpArgs false
set_option linter.unusedSectionVars false
namespace Go.Eng
variable [Dr]
open Go.RowKit

variable {P : Program} {w0 w : World} {F : Nat → Prop} {ρ : Nat → Option Loc} {RO : Nat → Prop} {h : Heap} {n : Nat}

/-- What a call ends with. -/
def EndRel (ρ : Nat → Option Loc) (RO : Nat → Prop) (w : World) : AEnd → Ending → Prop
  | .ret a, e => ∃ v, e = .returned v ∧ VRel ρ RO w a v
  | .pan a, e => ∃ v, e = .panicked [{ v, recovered := false }] ∧ VRel ρ RO w a v

/-- A call that was looked at in the abstract. -/
def CallOk (P : Program) (k : FuncId) (args : List AV) (h : Heap) (n : Nat) (out : AEnd) (h' : Heap) (n' : Nat) : Prop :=
  (∃ fn, P.funcs[k]? = some fn ∧ fn.body.isSome = true) ∧
  ∀ (w0 : World) (F : Nat → Prop) (ρ : Nat → Option Loc) (RO : Nat → Prop) (w : World) (vs : List Value), HRel w0 F h n ρ RO w → VRels ρ RO w args vs →
    Calls P k vs.toArray w fun e w' => ∃ ρ' RO', Ext ρ RO w ρ' RO' w' ∧ HRel w0 F h' n' ρ' RO' w' ∧ EndRel ρ' RO' w' out e

def CfOk (P : Program) (cf : CallF) : Prop :=
  ∀ k args h n ds r, cf k args h n ds = some r → (∀ c ∈ r.conds, c.1 = c.2) → CallOk P k args h n r.out r.heap r.next

def DeltaOk (P : Program) (Δ : Delta) : Prop :=
  ∀ k args h n e h' n' c, Δ k args h n = some (e, h', n', c) → (∀ x ∈ c, x.1 = x.2) → CallOk P k args h n e h' n'

/-- The program's functions with a body are none that the model answers by itself. -/
def NoNum (P : Program) : Prop := ∀ (k : Nat) (fn : Func), P.funcs[k]? = some fn → fn.body.isSome = true → (fn.name == "runtime.NumGoroutine") = false

theorem lookE_cons (k : Nat) (v : Option AV) (r : Env) (t : Nat) : lookE ((k, v) :: r) t = if k = t then v else lookE r t := by
  unfold lookE
  rw [look_cons]
  by_cases e : k = t
  · simp only [e, if_true]; cases v <;> rfl
  · simp only [e, if_false]

structure ARel (N : Nat) (ρ : Nat → Option Loc) (RO : Nat → Prop) (w : World) (env : Env) (a : Act) : Prop where
  size : a.tmps.size = N
  defers : a.defers = []
  env : ERel ρ RO w env a

theorem ARel.mono {N : Nat} {ρ' : Nat → Option Loc} {RO' : Nat → Prop} {w' : World} {env : Env} {a : Act} (e : Ext ρ RO w ρ' RO' w') (H : ARel N ρ RO w env a) : ARel N ρ' RO' w' env a := ⟨H.size, H.defers, H.env.mono e⟩

theorem ARel.put {N : Nat} {env env' : Env} {a : Act} {d : Option Tmp} {v : Option AV} {u : Value} (H : ARel N ρ RO w env a) (hd : (match d with | some t => Nat.blt t N | none => true) = true) (e : putA env d v = some env')
    (hv : ∀ av, v = some av → VRel ρ RO w av u) : ARel N ρ RO w env' (a.put d u) := by
  cases d with
  | none => simp only [putA] at e; cases e; exact H
  | some t =>
    cases v with
    | none => simp only [putA] at e; cases e
    | some av =>
      simp only [putA] at e
      cases e
      have ht : t < N := by
        have : (t + 1).ble N = true := hd
        exact Nat.le_of_ble_eq_true this
      refine ⟨by simp [Act.put, H.size], H.defers, fun t' v' hl => ?_⟩
      rw [lookE_cons] at hl
      by_cases htt : t = t'
      · subst htt
        simp only [if_true] at hl
        cases hl
        have : (a.put (some t) u).tmps.getD t undef = u := by
          simp only [Act.put, Array.getD_eq_getD_getElem?]
          rw [Array.getElem?_setIfInBounds_self_of_lt (by rw [H.size]; exact ht)]
          rfl
        rw [this]
        exact hv _ rfl
      · rw [if_neg htt] at hl
        have : (a.put (some t) u).tmps.getD t' undef = a.tmps.getD t' undef := by
          simp only [Act.put, Array.getD_eq_getD_getElem?]
          rw [Array.getElem?_setIfInBounds_ne htt]
        rw [this]
        exact H.env _ _ hl

theorem ARel.lost {N : Nat} {env : Env} {a : Act} {d : Option Tmp} (H : ARel N ρ RO w env a) : ARel N ρ RO w (lostA env d) (a.put d undef) := by
  cases d with
  | none => exact H
  | some t =>
    refine ⟨by simp [Act.put, H.size], H.defers, fun t' v' hl => ?_⟩
    simp only [lostA] at hl
    rw [lookE_cons] at hl
    by_cases htt : t = t'
    · subst htt
      simp only [if_true] at hl
      cases hl
      have : (a.put (some t) undef).tmps.getD t undef = undef := by
        simp only [Act.put, Array.getD_eq_getD_getElem?, Array.getElem?_setIfInBounds]
        split
        · split <;> rfl
        · rename_i hh; exact absurd trivial hh
      rw [this]
      exact .tup (vs := []) rfl (fun i a v h => by simp at h)
    · rw [if_neg htt] at hl
      have : (a.put (some t) undef).tmps.getD t' undef = a.tmps.getD t' undef := by
        simp only [Act.put, Array.getD_eq_getD_getElem?]
        rw [Array.getElem?_setIfInBounds_ne htt]
      rw [this]
      exact H.env _ _ hl

def XRel (ρ : Nat → Option Loc) (RO : Nat → Prop) (w : World) : AExit → Exit → Prop
  | .normal, e => e = .normal
  | .exit id, e => e = .exit id
  | .goto l, e => e = .goto l
  | .ret, e => e = .ret
  | .panic a, e => ∃ v, e = .panic [{ v, recovered := false }] ∧ VRel ρ RO w a v

/-- What a piece of code leaves. -/
def Post (w0 : World) (F : Nat → Prop) (N : Nat) (ρ : Nat → Option Loc) (RO : Nat → Prop) (w : World) (x : AExit) (env : Env) (h : Heap) (n : Nat) (e : Exit) (a' : Act) (w' : World) : Prop :=
  ∃ ρ' RO', Ext ρ RO w ρ' RO' w' ∧ HRel w0 F h n ρ' RO' w' ∧ XRel ρ' RO' w' x e ∧ ARel N ρ' RO' w' env a'

theorem Post.trans {N : Nat} {ρ1 : Nat → Option Loc} {RO1 : Nat → Prop} {w1 : World} {x : AExit} {env : Env} {h' : Heap} {n' : Nat} {e : Exit} {a' : Act} {w' : World} (ext : Ext ρ RO w ρ1 RO1 w1) (p : Post w0 F N ρ1 RO1 w1 x env h' n' e a' w') : Post w0 F N ρ RO w x env h' n' e a' w' := by
  obtain ⟨ρ', RO', e1, e2⟩ := p
  exact ⟨ρ', RO', ext.trans e1, e2⟩

theorem wanted_ok {env : Env} {a : Act} {ops : Array Oper} {o : Oper} {b : Bool} (he : ERel ρ RO w env a)
    (e : wantedA ops env o = some b) : Region.wanted o (yielded ops a.tmps) = b := by
  unfold Region.wanted
  unfold wantedA at e
  split at e
  · rename_i hg
    cases e
    simp [hg]
  · rename_i g want hg
    simp only [hg]
    split at e
    · rename_i t ht
      have key : ∀ q, lookE env t = some (.bool q) → yielded ops a.tmps g = some q := by
        intro q hq
        have h1 := bool_inv (he t _ hq)
        have h2 : a.tmps[t]? = some (.bool q) := by
          rw [Array.getD_eq_getD_getElem?] at h1
          cases hx : a.tmps[t]? with
          | none => rw [hx] at h1; simp [undef] at h1
          | some v => rw [hx] at h1; simpa using h1
        simp [yielded, ht, h2]
      split at e
      · rename_i hl
        rw [key _ hl]
        simp only [Option.some.injEq] at e
        subst e
        cases want <;> rfl
      · rename_i hl
        rw [key _ hl]
        simp only [Option.some.injEq] at e
        subst e
        cases want <;> rfl
      · rename_i l hl
        cases e
        obtain ⟨vs, hv, _⟩ := tup_inv (he t _ hl)
        have : yielded ops a.tmps g = none := by
          rw [Array.getD_eq_getD_getElem?] at hv
          cases hx : a.tmps[t]? with
          | none => simp [yielded, ht, hx]
          | some v =>
            rw [hx] at hv
            simp at hv
            subst hv
            simp [yielded, ht, hx]
        rw [this]
        rfl
      · cases e
    · cases e

theorem callee_ok {env : Env} {a : Act} {f : Operand} {k : FuncId} {first cap : List AV} (he : ERel ρ RO w env a) (e : calleeA env (.value f) = some (k, first, cap)) :
    ∃ v1 v2 : List Value, a.eval f = .func (.func k) v1.toArray v2.toArray ∧ VRels ρ RO w first v1 ∧ VRels ρ RO w cap v2 := by
  simp only [calleeA] at e
  split at e
  · rename_i k' f' c' hf
    cases e
    have hr := evA_rel he hf
    generalize a.eval f = v at hr
    cases hr with
    | fn e1 e2 h1 h2 => exact ⟨_, _, rfl, ⟨e1, h1⟩, ⟨e2, h2⟩⟩
  · cases e

theorem enter_run {f : Operand} {a : Act} {k : FuncId} {args : Array Operand} {ts : Array TypeId} {o : Oper} {v1 v2 : List Value} (hP : NoNum P) (ho : o.op = .call { callee := .value f, args := args, argTypes := ts })
    (hf : a.eval f = .func (.func k) v1.toArray v2.toArray) {fn : Func} (hk : P.funcs[k]? = some fn) (hb : fn.body.isSome = true) :
    (execOp a.eval o).run P w = .ok (.enter k (v1 ++ args.toList.map a.eval ++ v2).toArray) w := by
  have hnum := hP k fn hk hb
  have hbn : fn.body.isNone = false := by cases hx : fn.body <;> simp_all
  have harr : v1.toArray ++ Array.map a.eval args ++ v2.toArray = (v1 ++ (List.map a.eval args.toList ++ v2)).toArray := by
    apply Array.ext'; simp
  simp only [execOp, ho, resolve, hf, Deferred.ofValue, invoke, callFunc, Sem.run_bind, Sem.run_pure, Result.andThen_ok, run_program, hk, hnum, hbn, Bool.false_eq_true, if_false, harr, List.append_assoc]

/-- An operation that does not call, done. -/
theorem wp_of_got {o : Oper} {a : Act} {g : Got} {K : Act → World → Prop} {Q : Exit → Act → World → Prop} (hg : GotOk P w0 F ρ RO w (execOp a.eval o) g)
    (hk : ∀ ρ' w', Ext ρ RO w ρ' RO w' → HRel w0 F g.heap g.next ρ' RO w' → ∀ u, (∀ av, g.val = some av → VRel ρ' RO w' av u) → K (a.put o.dst u) w') : o.wp P a w K Q := by
  obtain ⟨ρ', w', e1, e2, e3⟩ := hg
  unfold Oper.wp
  split at e3
  · rename_i av hav
    obtain ⟨v, s1, s2⟩ := e3
    rw [s1, Oper.upon_value]
    exact hk ρ' w' e1 e2 v (fun av' h' => by rw [hav] at h'; cases h'; exact s2)
  · rename_i hav
    rw [e3, Oper.upon_skip]
    exact hk ρ' w' e1 e2 undef (fun av' h' => by rw [hav] at h'; cases h')

theorem letsOut_mono {Q Q' : Exit → Act → World → Prop} (hq : ∀ x a w, Q x a w → Q' x a w) (h : LetsOut Q) : LetsOut Q' := by
  obtain ⟨a, w, h⟩ := h
  exact ⟨a, w, hq _ _ _ h⟩

theorem upon_mono {o : Oper} {a : Act} {K K' : Act → World → Prop} {Q Q' : Exit → Act → World → Prop} (hk : ∀ a w, K a w → K' a w) (hq : ∀ x a w, Q x a w → Q' x a w) {r : Result Next} (h : o.upon P a K Q r) : o.upon P a K' Q' r := by
  unfold Oper.upon at h ⊢
  split at h
  · exact hk _ _ h
  · exact hk _ _ h
  · exact hk _ _ h
  · refine h.mono fun e w' he => ?_
    cases e with
    | returned v => exact hk _ _ he
    | panicked c => exact hq _ _ _ he
    | outgrown => exact letsOut_mono hq he
  · exact h.mono fun v w' he => hk _ _ he
  · exact hq _ _ _ h
  · exact h.elim

theorem wpList_mono {ops : Array Oper} {Q Q' : Exit → Act → World → Prop} (hq : ∀ x a w, Q x a w → Q' x a w) : ∀ {l : List Oper} {a : Act} {w : World}, wpList P ops Q l a w → wpList P ops Q' l a w
  | [], a, w, h => hq _ _ _ h
  | o :: rest, a, w, h => by
    unfold wpList at h ⊢
    split
    · rename_i hw
      rw [if_pos hw] at h
      rcases h with h | ⟨h1, h2⟩
      · exact .inl (upon_mono (fun a w h => wpList_mono hq h) hq h)
      · exact .inr ⟨h1, letsOut_mono hq h2⟩
    · rename_i hw
      rw [if_neg hw] at h
      exact wpList_mono hq h

theorem decideA_ok {ds ds' : List Dec} {b d : Bool} {c : Conds} (e : decideA ds b = some (d, ds', c)) (hc : ∀ x ∈ c, x.1 = x.2) : b = d := by
  unfold decideA at e
  split at e
  · cases e; rfl
  · split at e
    · cases e; exact (hc (_, _) (by simp)).symm
    · cases e; rfl
  · split at e
    · cases e
    · cases e; rfl

theorem runOps_ok {N : Nat} {cf : CallF} (hP : NoNum P) (hcf : CfOk P cf) (ops : Array Oper) :
    ∀ (l : List Oper) (j : Nat) (env : Env) (h : Heap) (n : Nat) (ds : List Dec) (r : Came AOut), runOps P N cf ops l j env h n ds = some r → (∀ c ∈ r.conds, c.1 = c.2) →
      ∀ (ρ : Nat → Option Loc) (RO : Nat → Prop) (a : Act) (w : World), HRel w0 F h n ρ RO w → ARel N ρ RO w env a → wpList P ops (Post w0 F N ρ RO w r.out.exit r.out.env r.heap r.next) l a w
  | [], j, env, h, n, ds, r, e, hc, ρ, RO, a, w, H, A => by
    simp only [runOps] at e
    cases e
    exact ⟨ρ, RO, .refl _ _ _, H, rfl, A⟩
  | o :: rest, j, env, h, n, ds, r, e, hc, ρ, RO, a, w, H, A => by
    unfold runOps at e
    simp only at e
    split at e
    · -- not wanted
      rename_i hdst hw
      have hw := wanted_ok A.env hw
      unfold wpList
      rw [if_neg (by rw [hw]; simp)]
      exact runOps_ok hP hcf ops rest (j + 1) _ h n ds r e hc ρ RO _ w H A.lost
    · rename_i hdst hw
      have hw := wanted_ok A.env hw
      -- what is put, and all that follows
      have put_ok : ∀ (v : Option AV) (h1 : Heap) (n1 : Nat) (ds1 : List Dec) (c1 : Conds) (r1 : Came AOut),
          (match isGuard ops j with
            | false => match putA env o.dst v with
              | some e => match runOps P N cf ops rest (j + 1) e h1 n1 ds1 with | some r => some (⟨r.out, r.heap, r.next, r.ds, c1 ++ r.conds⟩ : Came AOut) | none => none
              | none => none
            | true => match v with
              | some (.bool b) => match decideA ds1 b with
                | some (true, ds2, c2) => match putA env o.dst (some (.bool true)) with
                  | some e => match runOps P N cf ops rest (j + 1) e h1 n1 ds2 with | some r => some ⟨r.out, r.heap, r.next, r.ds, (c2 ++ c1) ++ r.conds⟩ | none => none
                  | none => none
                | some (false, ds2, c2) => match putA env o.dst (some (.bool false)) with
                  | some e => match runOps P N cf ops rest (j + 1) e h1 n1 ds2 with | some r => some ⟨r.out, r.heap, r.next, r.ds, (c2 ++ c1) ++ r.conds⟩ | none => none
                  | none => none
                | none => none
              | _ => none) = some r1 → (∀ c ∈ r1.conds, c.1 = c.2) →
          (∀ c ∈ c1, c ∈ r1.conds) ∧
          ∀ (ρ1 : Nat → Option Loc) (RO1 : Nat → Prop) (w1 : World) (u : Value), HRel w0 F h1 n1 ρ1 RO1 w1 → ARel N ρ1 RO1 w1 env a → (∀ av, v = some av → VRel ρ1 RO1 w1 av u) →
            wpList P ops (Post w0 F N ρ1 RO1 w1 r1.out.exit r1.out.env r1.heap r1.next) rest (a.put o.dst u) w1 := by
        intro v h1 n1 ds1 c1 r1 e1 hc1
        split at e1
        · split at e1
          · rename_i env' hput
            split at e1
            · rename_i r2 hr2
              cases e1
              refine ⟨fun c hcc => by simp [hcc], fun ρ1 RO1 w1 u H1 A1 hu => ?_⟩
              exact runOps_ok hP hcf ops rest (j + 1) env' h1 n1 ds1 r2 hr2 (fun c hcc => hc1 c (by simp [hcc])) ρ1 RO1 _ w1 H1 (A1.put hdst hput hu)
            · cases e1
          · cases e1
        · split at e1
          · rename_i b
            split at e1
            · rename_i ds2 c2 hde
              split at e1
              · rename_i env' hput
                split at e1
                · rename_i r2 hr2
                  cases e1
                  have hbd := decideA_ok hde (fun c hcc => hc1 c (by simp [hcc]))
                  subst hbd
                  refine ⟨fun c hcc => by simp [hcc], fun ρ1 RO1 w1 u H1 A1 hu => ?_⟩
                  exact runOps_ok hP hcf ops rest (j + 1) env' h1 n1 ds2 r2 hr2 (fun c hcc => hc1 c (by simp [hcc])) ρ1 RO1 _ w1 H1 (A1.put hdst hput hu)
                · cases e1
              · cases e1
            · rename_i ds2 c2 hde
              split at e1
              · rename_i env' hput
                split at e1
                · rename_i r2 hr2
                  cases e1
                  have hbd := decideA_ok hde (fun c hcc => hc1 c (by simp [hcc]))
                  subst hbd
                  refine ⟨fun c hcc => by simp [hcc], fun ρ1 RO1 w1 u H1 A1 hu => ?_⟩
                  exact runOps_ok hP hcf ops rest (j + 1) env' h1 n1 ds2 r2 hr2 (fun c hcc => hc1 c (by simp [hcc])) ρ1 RO1 _ w1 H1 (A1.put hdst hput hu)
                · cases e1
              · cases e1
            · cases e1
          · cases e1
      unfold wpList
      rw [if_pos hw]
      left
      split at e
      · -- a call
        rename_i f args ts hop
        split at e
        · rename_i k first cap l hcal hargs
          split at e
          · rename_i rc hrc
            obtain ⟨v1, v2, hf, r1, r2⟩ := callee_ok A.env hcal
            have hl := evAs_rel A.env hargs
            have hvs := (r1.append hl).append r2
            split at e
            · -- it returns
              rename_i v hout
              split at e
              · rename_i s hs
                cases e
                obtain ⟨hc1, hgo⟩ := put_ok _ _ _ _ _ _ hs (fun c hcc => hc c (by simp [hcc]))
                obtain ⟨⟨fn, hk, hb⟩, hcall⟩ := hcf _ _ _ _ _ _ hrc (fun c hcc => hc c (by simp [hcc]))
                unfold Oper.wp
                rw [enter_run hP hop hf hk hb, Oper.upon_enter]
                refine (hcall w0 F ρ RO w _ H hvs).mono fun e w' he => ?_
                obtain ⟨ρ', RO', p1, p2, p3⟩ := he
                rw [hout] at p3
                obtain ⟨u, rfl, hu⟩ := p3
                refine wpList_mono ?_ (hgo ρ' RO' w' u p2 (A.mono p1) (fun av hav => by cases hav; exact hu))
                exact fun x a' w'' q => q.trans p1
              · cases e
            · -- it panics
              rename_i v hout
              cases e
              obtain ⟨⟨fn, hk, hb⟩, hcall⟩ := hcf _ _ _ _ _ _ hrc hc
              unfold Oper.wp
              rw [enter_run hP hop hf hk hb, Oper.upon_enter]
              refine (hcall w0 F ρ RO w _ H hvs).mono fun e w' he => ?_
              obtain ⟨ρ', RO', p1, p2, p3⟩ := he
              rw [hout] at p3
              obtain ⟨u, rfl, hu⟩ := p3
              exact ⟨ρ', RO', p1, p2, ⟨u, rfl, hu⟩, A.mono p1⟩
          · cases e
        · cases e
      · -- a panic
        rename_i x hop
        split at e
        · rename_i t v hx
          cases e
          have hr := evA_rel A.env hx
          have hiv : ∃ u, a.eval x = .iface t u := by
            generalize a.eval x = z at hr
            cases hr; exact ⟨_, rfl⟩
          obtain ⟨u, hu⟩ := hiv
          unfold Oper.wp
          have : (execOp a.eval o).run P w = .halt (.panic (.iface t u)) w := by
            simp [execOp, hop, hu, Instr.panic]
          rw [this, Oper.upon_panic]
          exact ⟨ρ, RO, .refl _ _ _, H, ⟨_, rfl, hu ▸ hr⟩, A⟩
        · cases e
      · -- any other
        split at e
        · rename_i op _ _ g hg
          obtain ⟨hc1, hgo⟩ := put_ok _ _ _ _ _ _ e hc
          refine wp_of_got (step_ok H A.env hg (fun c hcc => hc c (hc1 c hcc))) fun ρ' w' e1 e2 u hu => ?_
          refine wpList_mono ?_ (hgo ρ' RO w' u e2 (A.mono e1) hu)
          exact fun x a' w'' q => q.trans e1
        · cases e
    · cases e

end Go.Eng
