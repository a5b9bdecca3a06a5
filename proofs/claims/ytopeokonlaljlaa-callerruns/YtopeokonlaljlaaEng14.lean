/- The same evaluator, typed so that Lean's kernel is quick with it. -/
import Derived.Test.YtopeokonlaljlaaEng13
set_option linter.unusedVariables false
set_option maxHeartbeats 40000
set_option linter.unusedSimpArgs false
set_option linter.unusedSectionVars false
namespace Go.Eng
variable [Dr]
open Go.RowKit

abbrev Run := Env → Heap → Nat → List Dec → Option (Came AOut)

section
variable (P : Program) (env : Env) (h : Heap) (n : Nat)
def sMove (x : Operand) : Option Got := Got.pure h n (evA env x)
def sAlloc (t : TypeId) : Option Got := match zeroT P t with | some z => boxA h n t z | none => none
def sBox (t : TypeId) (x : Operand) : Option Got := match evA env x with | some v => boxA h n t v | none => none
def sBuild (t : TypeId) (parts : Array (Nat × Operand)) : Option Got := match evParts env parts.toList with | some ps => Got.pure h n (buildA P t ps) | none => none
def sLoad (t : TypeId) (a : Operand) : Option Got := match evA env a with | some v => lodA P h n t v | none => none
def sStore (t : TypeId) (a x : Operand) : Option Got := match evA env a, evA env x with | some v, some u => stoA P h n t v u | _, _ => none
def sBin (op : BinOp) (t : TypeId) (x y : Operand) : Option Got := match evA env x, evA env y with | some a, some b => Got.pureC h n (binA P op t a b) | _, _ => none
def sUn (op : UnOp) (x : Operand) : Option Got := match evA env x with | some a => Got.pure h n (unA op a) | none => none
def sFieldAddr (s : TypeId) (x : Operand) (f : Nat) : Option Got := match evA env x with | some v => Got.pure h n (fldA P s v f) | none => none
def sField (s : TypeId) (x : Operand) (f : Nat) : Option Got := match evA env x, fieldT P s f with | some (.agg cs), some fd => Got.pure h n (partA P fd.type cs fd.offset) | _, _ => none
def sIndexAddr (t : TypeId) (x i : Operand) : Option Got := match evA env x, evA env i with | some v, some j => idxA P h n t v j | _, _ => none
def sExtract (x : Operand) (i : Nat) : Option Got := match evA env x with | some (.tup l) => Got.pure h n l[i]? | _ => none
end

def stepB (P : Program) (env : Env) (h : Heap) (n : Nat) (o : Op) : Option Got :=
  match o with
  | .move x => sMove env h n x
  | .assign x => sMove env h n x
  | .alloc t => sAlloc P h n t
  | .box t x => sBox env h n t x
  | .build t ps => sBuild P env h n t ps
  | .load t a => sLoad P env h n t a
  | .store t a x => sStore P env h n t a x
  | .binOp op t x y _ => sBin P env h n op t x y
  | .unOp op _ x => sUn env h n op x
  | .fieldAddr s x f => sFieldAddr P env h n s x f
  | .field s x f => sField P env h n s x f
  | .indexAddr t x i => sIndexAddr P env h n t x i
  | .extract x i => sExtract env h n x i
  | o => stepA P env h n o

theorem stepB_eq (P : Program) (env : Env) (h : Heap) (n : Nat) (o : Op) : stepB P env h n o = stepA P env h n o := by
  cases o <;> rfl

def opFin (k : Run) (env : Env) (h : Heap) (n : Nat) (ds : List Dec) (c : Conds) : Option (Came AOut) :=
  match k env h n ds with
  | some r => some ⟨r.out, r.heap, r.next, r.ds, c ++ r.conds⟩
  | none => none
def opPut (g : Bool) (dst : Option Tmp) (env : Env) (k : Run) (v : Option AV) (h : Heap) (n : Nat) (ds : List Dec) (c : Conds) : Option (Came AOut) :=
  match g with
  | false => match putA env dst v with | some e => opFin k e h n ds c | none => none
  | true => match v with
    | some (.bool b) => match decideA ds b with
      | some (true, ds, c2) => match putA env dst (some (.bool true)) with | some e => opFin k e h n ds (c2 ++ c) | none => none
      | some (false, ds, c2) => match putA env dst (some (.bool false)) with | some e => opFin k e h n ds (c2 ++ c) | none => none
      | none => none
    | _ => none
def opCall (cf : CallF) (g : Bool) (dst : Option Tmp) (k : Run) (f : Operand) (args : Array Operand) (env : Env) (h : Heap) (n : Nat) (ds : List Dec) : Option (Came AOut) :=
  match calleeA env (.value f), evAs env args.toList with
  | some (kk, first, cap), some l => match cf kk (first ++ l ++ cap) h n ds with
    | some r => match r.out with
      | .ret v => match opPut g dst env k (some v) r.heap r.next r.ds [] with
        | some s => some ⟨s.out, s.heap, s.next, s.ds, r.conds ++ s.conds⟩
        | none => none
      | .pan v => some ⟨⟨.panic v, env⟩, r.heap, r.next, r.ds, r.conds⟩
    | none => none
  | _, _ => none
def opPanic (x : Operand) (env : Env) (h : Heap) (n : Nat) (ds : List Dec) : Option (Came AOut) :=
  match evA env x with
  | some (.iface t v) => some ⟨⟨.panic (.iface t v), env⟩, h, n, ds, []⟩
  | _ => none
def opElse (P : Program) (g : Bool) (dst : Option Tmp) (k : Run) (op : Op) (env : Env) (h : Heap) (n : Nat) (ds : List Dec) : Option (Came AOut) :=
  match stepB P env h n op with
  | some g' => opPut g dst env k g'.val g'.heap g'.next ds g'.conds
  | none => none
def opDo (P : Program) (cf : CallF) (g : Bool) (dst : Option Tmp) (k : Run) (op : Op) (env : Env) (h : Heap) (n : Nat) (ds : List Dec) : Option (Came AOut) :=
  match op with
  | .call { callee := .value f, args := args, argTypes := _ } => opCall cf g dst k f args env h n ds
  | .panic x => opPanic x env h n ds
  | op => opElse P g dst k op env h n ds
def guardsOf : List Oper → List Nat
  | [] => []
  | o :: l => match o.guard with | some (k, _) => k :: guardsOf l | none => guardsOf l
def memG (j : Nat) : List Nat → Bool
  | [] => false
  | k :: l => match Nat.beq k j with | true => true | false => memG j l
def opStep (P : Program) (N : Nat) (cf : CallF) (ops : Array Oper) (o : Oper) (next : Nat → Run) (j : Nat) (env : Env) (h : Heap) (n : Nat) (ds : List Dec) : Option (Came AOut) :=
  match (match o.dst with | some t => Nat.blt t N | none => true), wantedA ops env o with
  | true, some false => next (j + 1) (lostA env o.dst) h n ds
  | true, some true => opDo P cf (memG j (guardsOf ops.toList)) o.dst (next (j + 1)) o.op env h n ds
  | _, _ => none
def opNil (j : Nat) (env : Env) (h : Heap) (n : Nat) (ds : List Dec) : Option (Came AOut) := some ⟨⟨.normal, env⟩, h, n, ds, []⟩
noncomputable def runOps2 (P : Program) (N : Nat) (cf : CallF) (ops : Array Oper) (l : List Oper) : Nat → Run :=
  List.rec (motive := fun _ => Nat → Run) opNil (fun o _ ih => opStep P N cf ops o ih) l

theorem memG_eq (j : Nat) : ∀ l : List Oper, memG j (guardsOf l) = isGuardL j l
  | [] => rfl
  | o :: l => by
    cases hg : o.guard with
    | none => simp only [guardsOf, isGuardL, hg, memG_eq j l]
    | some p => obtain ⟨k, b⟩ := p; simp only [guardsOf, isGuardL, hg, memG, memG_eq j l]; cases k.beq j <;> rfl

theorem runOps2_eq (P : Program) (N : Nat) (cf : CallF) (ops : Array Oper) : ∀ l, runOps2 P N cf ops l = runOps P N cf ops l := by
  intro l
  induction l with
  | nil => rfl
  | cons o rest ih =>
    funext j env h n ds
    show opStep P N cf ops o (runOps2 P N cf ops rest) j env h n ds = _
    rw [ih, runOps.eq_2]
    have hg : memG j (guardsOf ops.toList) = isGuard ops j := memG_eq j _
    unfold opStep
    rw [hg]
    generalize runOps P N cf ops rest = K
    cases hw : wantedA ops env o with
    | none =>
      cases hd : o.dst with
      | none => simp only
      | some t => simp only; generalize Nat.blt t N = q; cases q <;> simp only
    | some b =>
      cases hd : o.dst with
      | none =>
        cases b with
        | false => simp only
        | true =>
          simp only
          generalize o.op = op
          cases op
          case call c => obtain ⟨cal, args, ts⟩ := c; cases cal <;> simp only [opDo, opCall, opElse, stepB_eq, opPut, opFin] <;> rfl
          case panic x => simp only [opDo, opPanic]; rfl
          all_goals (simp only [opDo, opElse, stepB_eq, opPut, opFin]; rfl)
      | some t =>
        simp only
        generalize Nat.blt t N = q
        cases q with
        | false => simp only
        | true =>
          cases b with
          | false => simp only
          | true =>
            simp only
            generalize o.op = op
            cases op
            case call c => obtain ⟨cal, args, ts⟩ := c; cases cal <;> simp only [opDo, opCall, opElse, stepB_eq, opPut, opFin] <;> rfl
            case panic x => simp only [opDo, opPanic]; rfl
            all_goals (simp only [opDo, opElse, stepB_eq, opPut, opFin]; rfl)

/-! ### Code -/
def cSkip : Run := fun env h n ds => some ⟨⟨.normal, env⟩, h, n, ds, []⟩
noncomputable def cRegion (P : Program) (N : Nat) (cf : CallF) (ops : Array Oper) (draw : Bool) : Run := fun env h n ds =>
  match draw with
  | false => runOps2 P N cf ops ops.toList 0 env h n ds
  | true => runDraw P cf N ops env h n ds
def cSeq (a b : Run) : Run := fun env h n ds =>
  match a env h n ds with
  | some r => match r.out.exit with
    | .normal => match b r.out.env r.heap r.next r.ds with
      | some s => some ⟨s.out, s.heap, s.next, s.ds, r.conds ++ s.conds⟩
      | none => none
    | _ => some r
  | none => none
def cCond (c : Operand) (x y : Run) : Run := fun env h n ds =>
  match evA env c with
  | some (.bool b) => match decideA ds b with
    | some (true, ds, c1) => match x env h n ds with | some r => some ⟨r.out, r.heap, r.next, r.ds, c1 ++ r.conds⟩ | none => none
    | some (false, ds, c1) => match y env h n ds with | some r => some ⟨r.out, r.heap, r.next, r.ds, c1 ++ r.conds⟩ | none => none
    | none => none
  | _ => none
def cBlock (id : Nat) (c : Run) : Run := fun env h n ds =>
  match c env h n ds with
  | some r => match r.out.exit with
    | .exit id' => match Nat.beq id' id with
      | true => some ⟨⟨.normal, r.out.env⟩, r.heap, r.next, r.ds, r.conds⟩
      | false => some r
    | _ => some r
  | none => none
noncomputable def cLoop (fuel : Nat) (c : Run) : Run := runC.runLoop fuel c
def cExit (x : AExit) : Run := fun env h n ds => some ⟨⟨x, env⟩, h, n, ds, []⟩
def cNone : Run := fun _ _ _ _ => none

noncomputable def runC2 (P : Program) (N : Nat) (cf : CallF) (fuel : Nat) (c : Code) : Run :=
  Code.rec (motive := fun _ => Run) cSkip (fun _ ops draw => cRegion P N cf ops draw) (fun _ _ a b => cSeq a b) (fun c _ _ x y => cCond c x y) (fun id _ c => cBlock id c) (fun _ c => cLoop fuel c)
    (fun _ _ _ _ _ _ => cNone) (fun id => cExit (.exit id)) (fun _ _ => cNone) (fun _ => cSkip) (fun _ => cNone) (cExit .ret) (fun _ => cNone) c

theorem runC2_eq (P : Program) (N : Nat) (cf : CallF) (fuel : Nat) : ∀ c, runC2 P N cf fuel c = runC P N cf fuel c := by
  intro c
  induction c with
  | skip => rfl
  | label l => rfl
  | exit id => rfl
  | ret => rfl
  | region id ops draw =>
    funext env h n ds
    show cRegion P N cf ops draw env h n ds = _
    unfold cRegion
    cases draw with
    | true => rfl
    | false => simp only [runOps2_eq, runC]
  | seq a b iha ihb =>
    show cSeq (runC2 P N cf fuel a) (runC2 P N cf fuel b) = _
    rw [iha, ihb]
    funext env h n ds
    simp only [cSeq, runC]; rfl
  | cond c x y ihx ihy =>
    show cCond c (runC2 P N cf fuel x) (runC2 P N cf fuel y) = _
    rw [ihx, ihy]
    funext env h n ds
    simp only [cCond, runC]; rfl
  | block id c ih =>
    show cBlock id (runC2 P N cf fuel c) = _
    rw [ih]
    funext env h n ds
    simp only [cBlock, runC]; rfl
  | loop c ih =>
    show cLoop fuel (runC2 P N cf fuel c) = _
    rw [ih]
    funext env h n ds
    simp only [cLoop, runC]
  | rangeFunc f ps x y _ _ => funext env h n ds; simp only [runC]; rfl
  | scope c _ => funext env h n ds; simp only [runC]; rfl
  | goto l => funext env h n ds; simp only [runC]; rfl
  | refuse w => funext env h n ds; simp only [runC]; rfl

/-! ### Calls -/
def endOf (P : Program) (fn : Func) (r : Option (Came AOut)) : Option (Came AEnd) :=
  match r with
  | some r => match r.out.exit with
    | .normal => match resA P r.out.env r.heap r.next fn.results.toList with | some l => some ⟨.ret (oneOf l), r.heap, r.next, r.ds, r.conds⟩ | none => none
    | .ret => match resA P r.out.env r.heap r.next fn.results.toList with | some l => some ⟨.ret (oneOf l), r.heap, r.next, r.ds, r.conds⟩ | none => none
    | .panic v => some ⟨.pan v, r.heap, r.next, r.ds, r.conds⟩
    | _ => none
  | none => none
noncomputable def callIn (P : Program) (fuel : Nat) (cf : CallF) (f : FuncId) (args : List AV) (h : Heap) (n : Nat) (ds : List Dec) : Option (Came AEnd) :=
  match P.funcs[f]? with
  | some fn => match fn.body with
    | some c => match Nat.ble args.length fn.ntmps with
      | true => endOf P fn (runC2 P fn.ntmps cf fuel c (params args 0) h n ds)
      | false => none
    | none => none
  | none => none
noncomputable def callStep (P : Program) (Δ : Delta) (fuel : Nat) (cf : CallF) : CallF := fun f args h n ds =>
  match Δ f args h n with
  | some (e, h', n', c) => some ⟨e, h', n', ds, c⟩
  | none => callIn P fuel cf f args h n ds
noncomputable def runG (P : Program) (Δ : Delta) (fuel : Nat) (d : Nat) : CallF :=
  Nat.rec (motive := fun _ => CallF) (fun _ _ _ _ _ => none) (fun _ ih => callStep P Δ fuel ih) d

theorem runG_eq (P : Program) (Δ : Delta) (fuel : Nat) : ∀ d, runG P Δ fuel d = runF P Δ fuel d := by
  intro d
  induction d with
  | zero => rfl
  | succ d ih =>
    show callStep P Δ fuel (runG P Δ fuel d) = _
    rw [ih]
    funext f args h n ds
    rw [runF.eq_2]
    generalize runF P Δ fuel d = cf
    unfold callStep
    cases Δ f args h n with
    | some x => rfl
    | none =>
      simp only
      unfold callIn
      cases P.funcs[f]? with
      | none => rfl
      | some fn =>
        simp only
        cases fn.body with
        | none => rfl
        | some c =>
          simp only [runC2_eq]
          generalize Nat.ble args.length fn.ntmps = q
          cases q with
          | false => rfl
          | true =>
            simp only
            cases runC P fn.ntmps cf fuel c (params args 0) h n ds with
            | none => rfl
            | some r => rfl

theorem runG_ok {P : Program} {Δ : Delta} {fuel : Nat} (hP : NoNum P) (hm : P.follows .mixedOrders = true) (hΔ : DeltaOk P Δ) (d : Nat) : CfOk P (runG P Δ fuel d) := by
  rw [runG_eq]; exact runF_ok hP hm hΔ d

theorem fc_bool (b : Bool) : flatCell (.bool b) = true := rfl
theorem fc_int (k : IntKind) (n : Int) : flatCell (.int k n) = true := rfl
theorem fc_str (s : ByteArray) : flatCell (.str s) = true := rfl
theorem fc_dsl (sz n : Nat) (e : Nat → Nat → AV) : flatCell (.dsl sz n e) = true := rfl
theorem fc_dptr (sz : Nat) (e : Nat → AV) : flatCell (.dptr sz e) = true := rfl
theorem fv_agg (l : List AV) : flatV (.agg l) = l.all flatCell := rfl
theorem fv_bool (b : Bool) : flatV (.bool b) = true := rfl
theorem fv_int (k : IntKind) (n : Int) : flatV (.int k n) = true := rfl
theorem fv_str (s : ByteArray) : flatV (.str s) = true := rfl
theorem fv_dsl (sz n : Nat) (e : Nat → Nat → AV) : flatV (.dsl sz n e) = true := rfl
theorem all_c {α : Type} (f : α → Bool) (a : α) (l : List α) : (a :: l).all f = (f a && l.all f) := rfl
theorem all_n {α : Type} (f : α → Bool) : ([] : List α).all f = true := rfl

end Go.Eng
