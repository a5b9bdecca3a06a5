/- A body, piece by piece: each piece's ways by themselves. -/
import Derived.Test.YtopeokonlaljlaaEng24
set_option linter.unusedVariables false
set_option linter.unusedSectionVars false
namespace Go.Eng
variable [Dr]
open Go.RowKit

variable {P : Program} {N : Nat}

def seqs : Code → List Code
  | .seq a b => seqs a ++ seqs b
  | c => [c]

def wpL (P : Program) : List Code → (Exit → Act → World → Prop) → Act → World → Prop
  | [], Q, a, w => Q .normal a w
  | c :: r, Q, a, w => c.wp P (Exit.then (wpL P r Q) Q) a w

theorem then_mono {K K' : Act → World → Prop} {Q Q' : Exit → Act → World → Prop} (hk : ∀ a w, K a w → K' a w) (hq : ∀ x a w, Q x a w → Q' x a w) : ∀ x a w, Exit.then K Q x a w → Exit.then K' Q' x a w := by
  intro x a w h
  cases x <;> first | exact hk _ _ h | exact hq _ _ _ h

theorem wpL_split : ∀ {l1 l2 : List Code} {Q : Exit → Act → World → Prop} {a : Act} {w : World}, wpL P (l1 ++ l2) Q a w → wpL P l1 (Exit.then (wpL P l2 Q) Q) a w
  | [], l2, Q, a, w, h => h
  | c :: r, l2, Q, a, w, h => by
    have h : c.wp P (Exit.then (wpL P (r ++ l2) Q) Q) a w := h
    refine wp_mono h fun x a' w' q => ?_
    cases x <;> first | exact wpL_split q | exact q

theorem wp_of_seqs : ∀ {c : Code} {Q : Exit → Act → World → Prop} {a : Act} {w : World}, wpL P (seqs c) Q a w → c.wp P Q a w := by
  intro c
  induction c with
  | seq x y ihx ihy =>
    intro Q a w h
    refine wp_seq (wp_mono (ihx (wpL_split h)) fun e a' w' q => ?_)
    cases e <;> first | exact ihy q | exact q
  | _ =>
    intro Q a w h
    refine wp_mono h fun e a' w' q => ?_
    cases e <;> exact q

/-- What is known behind some pieces. -/
def WLOk (P : Program) (N : Nat) (l : List Code) (env : Env) (h : Heap) (n : Nat) (x : AExit) (env' : Env) (h' : Heap) (n' : Nat) : Prop :=
  ∀ (w0 : World) (F : Nat → Prop) (ρ : Nat → Option Loc) (RO : Nat → Prop) (a : Act) (w : World), HRel w0 F h n ρ RO w → ARel N ρ RO w env a → wpL P l (PostW w0 F N RO w x env' h' n') a w

theorem wpL_mono {Q Q' : Exit → Act → World → Prop} (hq : ∀ x a w, Q x a w → Q' x a w) : ∀ {l : List Code} {a : Act} {w : World}, wpL P l Q a w → wpL P l Q' a w
  | [], a, w, h => hq _ _ _ h
  | c :: r, a, w, h => by
    have h : c.wp P (Exit.then (wpL P r Q) Q) a w := h
    exact wp_mono h (then_mono (fun _ _ => wpL_mono hq) hq)

theorem WLOk.append {l1 l2 : List Code} {env env1 env' : Env} {h h1 h' : Heap} {n n1 n' : Nat} {x : AExit} (o1 : WLOk P N l1 env h n .normal env1 h1 n1) (o2 : WLOk P N l2 env1 h1 n1 x env' h' n') : WLOk P N (l1 ++ l2) env h n x env' h' n' := by
  intro w0 F ρ RO a w H A
  have key : ∀ (l : List Code) (a : Act) (w1 : World), wpL P l (PostW w0 F N RO w .normal env1 h1 n1) a w1 → wpL P (l ++ l2) (PostW w0 F N RO w x env' h' n') a w1 := by
    intro l
    induction l with
    | nil =>
      intro a w1 q
      obtain ⟨ρ', RO', p1, p2, p3, p4⟩ := q
      exact wpL_mono (fun x a' w' q => q.trans p1) (o2 w0 F ρ' RO' a w1 p2 p4)
    | cons c r ih =>
      intro a w1 q
      have q : c.wp P (Exit.then (wpL P r (PostW w0 F N RO w .normal env1 h1 n1)) (PostW w0 F N RO w .normal env1 h1 n1)) a w1 := q
      refine wp_mono q fun e a' w' q => ?_
      cases e with
      | normal => exact ih _ _ q
      | _ =>
        obtain ⟨ρ', RO', p1, p2, p3, p4⟩ := q
        cases p3
  exact key l1 a w (o1 w0 F ρ RO a w H A)

theorem WLOk.stop {l1 l2 : List Code} {env env' : Env} {h h' : Heap} {n n' : Nat} {x : AExit} (o1 : WLOk P N l1 env h n x env' h' n') (hx : x ≠ .normal) : WLOk P N (l1 ++ l2) env h n x env' h' n' := by
  intro w0 F ρ RO a w H A
  have key : ∀ (l : List Code) (a : Act) (w1 : World), wpL P l (PostW w0 F N RO w x env' h' n') a w1 → wpL P (l ++ l2) (PostW w0 F N RO w x env' h' n') a w1 := by
    intro l
    induction l with
    | nil =>
      intro a w1 q
      obtain ⟨ρ', RO', p1, p2, p3, p4⟩ := q
      exact absurd (xrel_normal p3) hx
    | cons c r ih =>
      intro a w1 q
      have q : c.wp P (Exit.then (wpL P r (PostW w0 F N RO w x env' h' n')) (PostW w0 F N RO w x env' h' n')) a w1 := q
      refine wp_mono q fun e a' w' q => ?_
      cases e with
      | normal => exact ih _ _ q
      | _ => exact q
  exact key l1 a w (o1 w0 F ρ RO a w H A)

theorem WLOk.pre {l : List Code} {env env2 env' : Env} {h h2 h' : Heap} {n n2 n' : Nat} {x : AExit} (s : Sees N env h n env2 h2 n2) (o : WLOk P N l env2 h2 n2 x env' h' n') : WLOk P N l env h n x env' h' n' := by
  intro w0 F ρ RO a w H A
  obtain ⟨ρ', H', A'⟩ := s w0 F ρ RO a w H A
  exact o w0 F ρ' RO a w H' A'
theorem WLOk.post {l : List Code} {env env' env2 : Env} {h h' h2 : Heap} {n n' n2 : Nat} {x : AExit} (o : WLOk P N l env h n x env' h' n') (hx : plainX x = true) (s : Sees N env' h' n' env2 h2 n2) : WLOk P N l env h n x env2 h2 n2 := by
  intro w0 F ρ RO a w H A
  refine wpL_mono (fun x' a' w' q => ?_) (o w0 F ρ RO a w H A)
  obtain ⟨ρ', RO', p1, p2, p3, p4⟩ := q
  obtain ⟨ρ2, H2, A2⟩ := s _ _ _ _ _ _ p2 p4
  exact ⟨ρ2, RO', p1, H2, p3.plain hx, A2⟩

/-- The run of some pieces. -/
noncomputable def runL (f : Code → Run) : List Code → Run
  | [] => cSkip
  | c :: r => cSeq (f c) (runL f r)
def RunWL (P : Program) (N : Nat) (l : List Code) (f : Run) : Prop :=
  ∀ env h n ds r, f env h n ds = some r → (∀ c ∈ r.conds, c.1 = c.2) → WLOk P N l env h n r.out.exit r.out.env r.heap r.next
theorem runL_ok {f : Code → Run} : ∀ (l : List Code), (∀ c ∈ l, RunW P N c (f c)) → RunWL P N l (runL f l)
  | [], _ => by
    intro env h n ds r e hc w0 F ρ RO a w H A
    simp only [runL, cSkip] at e
    cases e
    exact ⟨ρ, RO, .refl _ _, H, rfl, A⟩
  | c :: l, hf => by
    intro env h n ds r e hc
    simp only [runL, cSeq] at e
    split at e
    · rename_i r1 hr1
      split at e
      · rename_i hex
        split at e
        · rename_i s hs
          cases e
          have o1 := hf c (by simp) _ _ _ _ _ hr1 (fun c hcc => hc c (by simp [hcc]))
          rw [hex] at o1
          have o2 := runL_ok l (fun c hcc => hf c (by simp [hcc])) _ _ _ _ _ hs (fun c hcc => hc c (by simp [hcc]))
          intro w0 F ρ RO a w H A
          refine wp_mono (o1 w0 F ρ RO a w H A) fun x' a' w' q => ?_
          obtain ⟨ρ', RO', p1, p2, p3, p4⟩ := q
          cases p3
          exact wpL_mono (fun x a' w' q => q.trans p1) (o2 w0 F ρ' RO' a' w' p2 p4)
        · cases e
      · rename_i hex
        cases e
        have o1 := hf c (by simp) _ _ _ _ _ hr1 hc
        intro w0 F ρ RO a w H A
        refine wp_mono (o1 w0 F ρ RO a w H A) fun x' a' w' q => ?_
        have : x' ≠ .normal := by
          rintro rfl
          obtain ⟨ρ', RO', p1, p2, p3, p4⟩ := q
          exact hex (xrel_normal p3)
        cases x' <;> first | exact absurd rfl this | exact q
    · cases e

/-- A piece, seen otherwise. -/
theorem pieceL {l : List Code} {run : Run} {T : Ren} {ts : List Nat} {env env' : Env} {h h' : Heap} {n n' : Nat} {ds : List Dec} {x : AExit} {cs : Conds} (hr : RunWL P N l run) (e : cutR T ts (run env h n ds) = some (x, env', h', cs)) (hx : plainX x = true)
    (ht : tOk T n' = true) (hf : FlatHeap h') (hc : ∀ x ∈ cs, x.1 = x.2) : WLOk P N l env h n x env' h' n' := by
  unfold cutR at e
  split at e
  · rename_i r hr'
    split at e
    · rename_i e1 h1 q1 q2
      simp only [Option.some.injEq, Prod.mk.injEq] at e
      obtain ⟨rfl, rfl, rfl, rfl⟩ := e
      exact (hr _ _ _ _ _ hr' hc).post hx (Sees.ren ht q1 q2 (flat_ren q2 hf))
    · cases e
  · cases e

/-- A call, out of its body's pieces. -/
theorem call_of_pieces {k : FuncId} {fn : Func} {c : Code} {args : List AV} {env' : Env} {h' : Heap} {n' : Nat} {l : List AV} (hfn : P.funcs[k]? = some fn) (hbody : fn.body = some c) (hle : args.length ≤ fn.ntmps)
    (o : WLOk P fn.ntmps (seqs c) (params args 0) [] 0 .ret env' h' n') (hres : resA P env' h' n' fn.results.toList = some l) : CallOk P k args [] 0 (.ret (oneOf l)) h' n' := by
  let run : Run := fun env h n ds => match n with
    | 0 => @ite _ (env = params args 0 ∧ h = []) (Classical.propDecidable _) (some ⟨⟨.ret, env'⟩, h', n', ds, []⟩) none
    | _ + 1 => none
  have hrun : RunW P fn.ntmps c run := by
    intro env h n ds r e hc
    cases n with
    | zero =>
      simp only [run] at e
      split at e
      · rename_i hq
        obtain ⟨rfl, rfl⟩ := hq
        cases e
        exact fun w0 F ρ RO a w H A => wp_of_seqs (o w0 F ρ RO a w H A)
      · cases e
    | succ n => cases e
  have e1 : run (params args 0) [] 0 [] = some ⟨⟨.ret, env'⟩, h', n', [], []⟩ := by
    simp [run]
  refine call_of_run (run := fun env h n ds => match n with | 0 => run env h 0 ds | _ + 1 => none) (ds := []) (r := ⟨.ret (oneOf l), h', n', [], []⟩) hfn hbody hrun.start hle ?_ (fun c hc => by cases hc)
  show endOf P fn (run (params args 0) [] 0 []) = _
  rw [e1]
  simp only [endOf, hres]
end Go.Eng
