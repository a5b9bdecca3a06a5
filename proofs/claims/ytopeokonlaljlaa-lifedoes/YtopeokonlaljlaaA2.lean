/- The statement LifeDoes is proved: the call returns true for every input. No conditions. -/
import Derived.Test.YtopeokonlaljlaaA1
import Derived.Maps.RangeRun
import Derived.WalkKit
import Derived.ProofKit
import Derived.OpenShut
import Derived.ShutString
import Derived.ChangeOld
import Derived.Below
import Derived.SizedLaws
import Derived.Test.YtopeokonlaljlaaRows
set_option linter.unusedVariables false
set_option linter.unusedSimpArgs false
set_option linter.unusedSectionVars false
section
set_option linter.unusedVariables false
namespace Go.Proofs.Ytopeokonlaljlaa
open Go Go.Eng Go.Proofs
set_option maxHeartbeats 0
set_option maxRecDepth 100000
noncomputable abbrev PR : Program := Try.prog
abbrev Out := AExit × Env × Heap × Nat
noncomputable def kO : KX Out := fun x env h n => some (x, env, h, n)
noncomputable def noL : Nat → Option LamF := fun _ => none
theorem piece {cf : CallF} (hcf : CfOk PR cf) {N : Nat} {c : Code} {env env' : Env} {h h' : Heap} {n n' : Nat} {x : AExit} (e : evC Out PR N cf noL 200 c env h n kO = some (x, env', h', n')) : COk PR N c env h n x env' h' n' := by
  obtain ⟨x1, env1, u, n1, q1, q2⟩ := evC_ok noNum mixed hcf c (fun _ _ _ _ e => by cases e) Out env h n kO _ e
  cases q2
  exact q1
theorem upon_mono2 {o : Oper} {a : Act} {K K' : Act → World → Prop} {Q Q' : Exit → Act → World → Prop} (hk : ∀ a w, K a w → K' a w) (hq : ∀ c a w, Q (.panic c) a w → Q' (.panic c) a w) (hl : LetsOut Q → LetsOut Q') {r : Result Next} (h : o.upon PR a K Q r) : o.upon PR a K' Q' r := by
  unfold Oper.upon at h ⊢
  split at h
  · exact hk _ _ h
  · exact hk _ _ h
  · exact hk _ _ h
  · refine h.mono fun e w' he => ?_
    cases e with
    | returned v => exact hk _ _ he
    | panicked c => exact hq _ _ _ he
    | outgrown => exact hl he
  · exact h.mono fun v w' he => hk _ _ he
  · exact hq _ _ _ h
  · exact h.elim
theorem wpList_app {ops : Array Oper} {Q : Exit → Act → World → Prop} {l2 : List Oper} : ∀ {l1 : List Oper} {a : Act} {w : World}, wpList PR ops (Exit.then (wpList PR ops Q l2) Q) l1 a w → wpList PR ops Q (l1 ++ l2) a w
  | [], a, w, h => h
  | o :: r, a, w, h => by
    unfold wpList at h
    rw [List.cons_append]
    unfold wpList
    have hl : LetsOut (Exit.then (wpList PR ops Q l2) Q) → LetsOut Q := fun ⟨a, w, q⟩ => ⟨a, w, q⟩
    by_cases hw : Region.wanted o (yielded ops a.tmps) = true
    · rw [if_pos hw] at h ⊢
      rcases h with h | ⟨h1, h2⟩
      · exact .inl (upon_mono2 (fun a w q => wpList_app q) (fun c a w q => q) hl h)
      · exact .inr ⟨h1, hl h2⟩
    · rw [if_neg hw] at h ⊢
      exact wpList_app h
noncomputable def c38 : Code := match Try.f38.body with | some c => c | none => .skip
noncomputable def fstC : Code → Code | .seq a _ => a | c => c
noncomputable def sndC : Code → Code | .seq _ b => b | c => c
noncomputable def insC : Code → Code | .block _ c => c | .loop c => c | c => c
noncomputable def opsC : Code → Array Oper | .region _ ops _ => ops | _ => #[]
noncomputable def opC (c : Code) (i : Nat) : Oper := (opsC c).toList.getD i default
noncomputable def pA : Code := fstC c38
noncomputable def pX : Code := fstC (sndC c38)
noncomputable def p3 : Code := fstC (sndC (sndC c38))
noncomputable def p4 : Code := fstC (fstC (sndC (sndC (sndC c38))))
noncomputable def pB : Code := insC (insC (sndC (fstC (sndC (sndC (sndC c38))))))
noncomputable def pT : Code := sndC (sndC (sndC (sndC c38)))
noncomputable def p5 : Code := fstC pB
noncomputable def p6 : Code := fstC (insC (sndC (sndC pB)))
noncomputable def p7 : Code := sndC (insC (sndC (sndC pB)))
theorem body38 : Try.f38.body = some (.seq pA (.seq pX (.seq p3 (.seq (.seq p4 (.block 0 (.loop (.seq p5 (.seq (.cond (.tmp 12) .skip (.exit 0)) (.block 1 (.seq p6 p7)))))) ) pT)))) := by kernel_rfl
theorem p4_eq : p4 = .region 4 #[opC p4 0, opC p4 1, opC p4 2] false := by kernel_rfl
theorem p5_eq : p5 = .region 5 #[opC p5 0, opC p5 1] false := by kernel_rfl
theorem p6_eq : p6 = .region 6 #[opC p6 0, opC p6 1, opC p6 2] false := by kernel_rfl
theorem o42 : (opC p4 2).op = .range 81 (.tmp 9) ∧ (opC p4 2).dst = some 10 ∧ (opC p4 2).guard = none := by refine ⟨?_, ?_, ?_⟩ <;> kernel_rfl
theorem o50 : (opC p5 0).op = .next (.tmp 10) false ∧ (opC p5 0).dst = some 11 ∧ (opC p5 0).guard = none := by refine ⟨?_, ?_, ?_⟩ <;> kernel_rfl
theorem o51 : (opC p5 1).op = .extract (.tmp 11) 0 ∧ (opC p5 1).dst = some 12 ∧ (opC p5 1).guard = none := by refine ⟨?_, ?_, ?_⟩ <;> kernel_rfl
theorem o60 : (opC p6 0).op = .entry (.tmp 10) ∧ (opC p6 0).dst = some 13 ∧ (opC p6 0).guard = none := by refine ⟨?_, ?_, ?_⟩ <;> kernel_rfl
theorem o61 : (opC p6 1).op = .extract (.tmp 13) 0 ∧ (opC p6 1).dst = some 14 ∧ (opC p6 1).guard = none := by refine ⟨?_, ?_, ?_⟩ <;> kernel_rfl
theorem o62 : (opC p6 2).op = .assign (.tmp 14) ∧ (opC p6 2).dst = some 4 ∧ (opC p6 2).guard = none := by refine ⟨?_, ?_, ?_⟩ <;> kernel_rfl
theorem wanted0 {o : Oper} {y : Nat → Option Bool} (h : o.guard = none) : Region.wanted o y = true := by unfold Region.wanted; simp [h]
theorem op_value {ops : Array Oper} {Q : Exit → Act → World → Prop} {o : Oper} {rest : List Oper} {a : Act} {w w' : World} {v : Value} (hg : o.guard = none) (hr : (execOp a.eval o).run PR w = .ok (.value v) w') (h : wpList PR ops Q rest (a.put o.dst v) w') : wpList PR ops Q (o :: rest) a w := by
  unfold wpList
  rw [if_pos (wanted0 hg)]
  left
  unfold Oper.wp
  rw [hr, Oper.upon_value]
  exact h
theorem put_get {a : Act} {t t' : Nat} {v : Value} (h : t < a.tmps.size) : (a.put (some t) v).tmps.getD t' undef = if t = t' then v else a.tmps.getD t' undef := by
  simp only [Act.put, Array.getD_eq_getD_getElem?, Array.getElem?_setIfInBounds]
  by_cases e : t = t'
  · subst e; simp [h]
  · simp [e]
theorem put_size {a : Act} {t : Nat} {v : Value} : (a.put (some t) v).tmps.size = a.tmps.size := by simp [Act.put]
noncomputable def kInt : Value → Int
  | .int _ k => k
  | _ => 0
noncomputable def keysOf : List (AV × AV) → Option (List Int)
  | [] => some []
  | (.int .i64 k, _) :: r => (match keysOf r with | some l => some (k :: l) | none => none)
  | _ => none
theorem keys_rel {ρ : Nat → Option Eng.Loc} {RO : Nat → Prop} {w : World} : ∀ {es : List (AV × AV)} {ms : List MapEntry} {ks : List Int}, EsRel ρ RO w es ms → keysOf es = some ks → ms.map (fun m => kInt m.key) = ks ∧ ∀ m ∈ ms, m.key = .int .i64 (kInt m.key)
  | [], ms, ks, h, e => by
    rw [h.inv_nil]; simp only [keysOf] at e; cases e
    exact ⟨rfl, by simp⟩
  | x :: es, ms, ks, h, e => by
    obtain ⟨m, t, rfl, r1, r2, r3⟩ := h.inv_cons
    unfold keysOf at e
    split at e
    · rename_i q; cases q
    · rename_i k y r q
      cases q
      split at e
      · rename_i l hl
        cases e
        obtain ⟨i1, i2⟩ := keys_rel r3 hl
        have hk : m.key = .int .i64 k := by
          generalize m.key = v at r1
          cases r1; rfl
        refine ⟨by rw [List.map_cons, i1, hk]; rfl, fun z hz => ?_⟩
        rcases List.mem_cons.1 hz with rfl | hz
        · rw [hk]; rfl
        · exact i2 z hz
      · cases e
    · cases e
noncomputable def leftL (ms : List MapEntry) (seen : Array Nat) : List MapEntry := ms.filter fun e => !seen.contains e.born
theorem leftOf_toList (ms : List MapEntry) (seen : Array Nat) : (leftOf (List.toArray ms) seen).toList = leftL ms seen := by simp [leftOf, leftL]
theorem perm_out : ∀ {ms : List MapEntry} {e : MapEntry}, (ms.map (·.born)).Nodup → e ∈ ms → ms.Perm (e :: ms.filter fun x => !(x.born == e.born))
  | [], e, _, h => by simp at h
  | m :: ms, e, hn, h => by
    rw [List.map_cons, List.nodup_cons] at hn
    rcases List.mem_cons.1 h with rfl | h
    · have : ms.filter (fun x => !(x.born == e.born)) = ms := by
        refine List.filter_eq_self.2 fun x hx => ?_
        have : x.born ≠ e.born := fun q => hn.1 (List.mem_map.2 ⟨x, hx, q⟩)
        simp [this]
      simp [this]
    · have hne : m.born ≠ e.born := fun q => hn.1 (List.mem_map.2 ⟨e, h, q.symm⟩)
      rw [List.filter_cons, if_pos (by simp [hne])]
      exact ((perm_out hn.2 h).cons m).trans (List.Perm.swap e m _)
theorem leftL_push {ms : List MapEntry} {seen : Array Nat} {e : MapEntry} (hn : (ms.map (·.born)).Nodup) (he : e ∈ leftL ms seen) : (leftL ms seen).Perm (e :: leftL ms (seen.push e.born)) := by
  have h1 : ((leftL ms seen).map (·.born)).Nodup := (List.filter_sublist.map _).nodup hn
  refine (perm_out h1 he).trans (List.Perm.cons _ ?_)
  have : (leftL ms seen).filter (fun x => !(x.born == e.born)) = leftL ms (seen.push e.born) := by
    unfold leftL
    rw [List.filter_filter]
    apply List.filter_congr
    intro x _
    simp only [Array.contains_push, Bool.not_or]
    rw [Bool.and_comm]
  rw [this]
noncomputable def cfR : CallF := cf2 0
theorem cfR_ok : CfOk PR cfR := cf2_ok 0
noncomputable def s1 (v : Int) : Option Out := evC Out PR 22 cfR noL 200 pA (params [.int .i64 v] 0) [] 0 kO
noncomputable def s2 (v : Int) : Option Out := match s1 v with | some (.normal, env, h, n) => evC Out PR 22 cfR noL 200 pX env h n kO | _ => none
noncomputable def s3 (v : Int) : Option Out := match s2 v with | some (.normal, env, h, n) => evC Out PR 22 cfR noL 200 p3 env h n kO | _ => none
noncomputable def s4 (v : Int) : Option Out := match s3 v with | some (.normal, env, h, n) => evOps PR 22 cfR (opsC p4) [] [opC p4 0, opC p4 1] 0 env h n kO | _ => none
noncomputable def good (v : Int) : Bool := match s4 v with
  | some (.normal, env, h, _) => (match lookE env 9, lookE env 3 with
    | some (.map m), some .nils => (match lookH h m with
      | some (.map es) => (match keysOf es with | some ks => decide (sortLe ks = [0, 1, 2, 3, 4]) | none => false)
      | _ => false)
    | _, _ => false)
  | _ => false
theorem good0 : good 0 = true := by kernel_rfl
theorem good1 : good 1 = true := by kernel_rfl
theorem good2 : good 2 = true := by kernel_rfl
theorem good3 : good 3 = true := by kernel_rfl
theorem good4 : good 4 = true := by kernel_rfl
theorem run7 (l : List Int) (k : Int) : evC Out PR 22 cfR noL 200 p7 [(3, some (.slf 0)), (4, some (.int .i64 k))] [(0, some (.row 3 l))] 1 (fun x env h n => match canonS (fun _ => none) 0 [(3, .own 3)] env h n with
      | some (vc, Hc, c) => br c (some (x, zipE [(3, .own 3)] vc, Hc, 1)) none
      | none => none) = br (decide ((l.length + 1) * 8 ≤ 140737488355328)) (some (.normal, [(3, some (.slf 0))], [(0, some (.row 3 (l ++ [k])))], 1)) none := by kernel_rfl
theorem piece7 (l : List Int) (k : Int) (hl : l.length ≤ 5) : WOk PR 22 0 p7 [(3, some (.slf 0)), (4, some (.int .i64 k))] [(0, some (.row 3 l))] 1 .normal [(3, some (.slf 0))] [(0, some (.row 3 (l ++ [k])))] 1 := by
  have e := run7 l k
  rw [show decide ((l.length + 1) * 8 ≤ 140737488355328) = true by simp; omega, br_true] at e
  obtain ⟨x1, env1, u, n1, q1, q2⟩ := evC_ok noNum mixed cfR_ok p7 (fun _ _ _ _ e => by cases e) Out _ _ _ _ _ e
  split at q2
  · rename_i vc Hc c hcan
    obtain ⟨hc, q2⟩ := (br_some q2).resolve_right (fun q => by cases q.2)
    have hx : x1 = .normal := congrArg (fun r : Option Out => match r with | some r => r.1 | none => .ret) q2
    subst hx
    have := q1.toW (kb := 0) |>.canon (plan := fun _ => none) (ts := [(3, .own 3)]) rfl hcan hc
    have h1 : zipE [(3, Kd.own 3)] vc = [(3, some (.slf 0))] := congrArg (fun r : Option Out => match r with | some r => r.2.1 | none => []) q2
    have h2 : Hc = [(0, some (.row 3 (l ++ [k])))] := congrArg (fun r : Option Out => match r with | some r => r.2.2.1 | none => []) q2
    rw [h1, h2] at this
    exact this
  · cases q2
theorem runT (l : List Int) : evC Out PR 22 cfR noL 200 pT [(3, some (.slf 0))] [(0, some (.row 3 l))] 1 (fun x env h n => match x, canonS (fun _ => none) 0 [(2, .own 3)] env h n with
      | .ret, some (vc, Hc, c) => br c (some (x, zipE [(2, .own 3)] vc, Hc, 1)) none
      | _, _ => none) = bindO (fSort l) fun r => some (.ret, [(2, some (.slf 0))], [(0, some (.row 3 r))], 1) := by kernel_rfl
theorem pieceT (l : List Int) (hl : l.length ≤ 5) : WOk PR 22 0 pT [(3, some (.slf 0))] [(0, some (.row 3 l))] 1 .ret [(2, some (.slf 0))] [(0, some (.row 3 (sortLe l)))] 1 := by
  have e := runT l
  have hs : fSort l = some (sortLe l) := by
    unfold fSort
    rw [show decide (l.length < 4611686018427387904) = true by simp; omega, br_true]
  rw [hs] at e
  obtain ⟨x1, env1, u, n1, q1, q2⟩ := evC_ok noNum mixed cfR_ok pT (fun _ _ _ _ e => by cases e) Out _ _ _ _ _ e
  split at q2
  · rename_i vc Hc c hcan
    obtain ⟨hc, q2⟩ := (br_some q2).resolve_right (fun q => by cases q.2)
    have := q1.toW (kb := 0) |>.canon (plan := fun _ => none) (ts := [(2, .own 3)]) rfl hcan hc
    have h1 : zipE [(2, Kd.own 3)] vc = [(2, some (.slf 0))] := congrArg (fun r : Option Out => match r with | some r => r.2.1 | none => []) q2
    have h2 : Hc = [(0, some (.row 3 (sortLe l)))] := congrArg (fun r : Option Out => match r with | some r => r.2.2.1 | none => []) q2
    rw [h1, h2] at this
    exact this
  · cases q2
theorem here {w0 w : World} {F : Fr} {h : Heap} {n : Nat} {ρ : Nat → Option Eng.Loc} {RO : Nat → Prop} (H : HRel w0 F h n ρ RO w) : HRel w ⟨fun b => F b ∨ w0.heap.size ≤ b, RO⟩ h n ρ RO w := by
  refine ⟨.refl _ _, fun id o hl => ?_, H.dis, H.fresh, fun b hb => ⟨(H.ro b hb).1, .inl hb⟩, H.frz⟩
  obtain ⟨x, x1, x2⟩ := H.objs id o hl
  refine ⟨x, x1, x2.imp (fun g => g) fun s => ⟨s.rel, s.lt, ?_, s.free, s.real⟩⟩
  rcases s.own with q | q
  · exact .inr (.inr q)
  · exact .inr (.inl q)
theorem other {w w2 : World} {B : Nat → Prop} {h : Heap} {n r : Nat} {ρ : Nat → Option Eng.Loc} {RO : Nat → Prop} (H : HRel w ⟨B, RO⟩ h n ρ RO w) (hs : w2.heap.size = w.heap.size) (hsame : ∀ k, k ≠ r → w2.heap[k]? = w.heap[k]?) (hr : ¬ RO r)
    (ho : ∀ id o x, lookH h id = some o → ρ id = some x → Solid w ⟨B, RO⟩ ρ RO w x o → x.blk ≠ r) : Ext ρ RO w ρ RO w2 ∧ HRel w2 ⟨B, RO⟩ h n ρ RO w2 := by
  have ext : Ext ρ RO w ρ RO w2 := ⟨fun _ _ h => h, fun _ h => h, fun b hb => hsame b (fun q => hr (q ▸ hb))⟩
  refine ⟨ext, .refl _ _, fun id o hl => ?_, H.dis, H.fresh, fun b hb => ⟨by rw [hs]; exact (H.ro b hb).1, .inl hb⟩, fun id q hl => ?_⟩
  · obtain ⟨x, x1, x2⟩ := H.objs id o hl
    refine ⟨x, x1, x2.imp (fun g => g) fun s => ?_⟩
    have hb := ho id o x hl x1 s
    exact ⟨s.rel.mono ext (hsame _ hb), by rw [hs]; exact s.lt, by rw [hs]; exact s.own, s.free, s.real⟩
  · obtain ⟨x, x1, x2⟩ := H.frz id q hl
    exact ⟨x, x1, x2.mono ext⟩
structure Grew (w w' : World) : Prop where
  os : w'.os = w.os
  tape : w'.tape = w.tape
  output : w'.output = w.output
  size : w.heap.size < w'.heap.size
  same : ∀ k, k < w.heap.size → w'.heap[k]? = w.heap[k]?
structure Inv (w1 : World) (RO1 : Nat → Prop) (bm clock : Nat) (ms : List MapEntry) (ks : List Int) (a : Act) (w : World) (seen : Array Nat) (l : List Int) : Prop where
  size : a.tmps.size = 22
  defers : a.defers = []
  it : a.tmps.getD 10 undef = .pointer (some ⟨w1.heap.size, 0, none⟩)
  iter : w.heap[w1.heap.size]? = some (.mapIter (some bm) clock seen clock)
  grew : Grew w1 w
  row : ∃ ρ RO B, (∀ b, B b → w1.heap.size < b) ∧ (∀ b, RO1 b → RO b) ∧ (∀ b, RO b → RO1 b ∨ w1.heap.size < b) ∧ HRel w ⟨B, RO⟩ [(0, some (.row 3 l))] 1 ρ RO w ∧ VRel ρ RO w (.slf 0) (a.tmps.getD 3 undef)
  perm : (l ++ (leftL ms seen).map (fun m => kInt m.key)).Perm ks
noncomputable def pL : Code := .seq p5 (.seq (.cond (.tmp 12) .skip (.exit 0)) (.block 1 (.seq p6 p7)))
theorem writes7 : writesC p7 = [15, 16, 17, 18, 3] := by kernel_rfl
theorem loop38 {w1 : World} {RO1 : Nat → Prop} {bm clock : Nat} {ms : List MapEntry} {ks : List Int} (hm : w1.heap[bm]? = some (.map (List.toArray ms) clock)) (hb : ∀ m ∈ ms, m.born < clock) (hn : (ms.map (·.born)).Nodup) (hk : ∀ m ∈ ms, m.key = .int .i64 (kInt m.key)) (hlen : ks.length ≤ 5) (hro : ∀ b, RO1 b → b < w1.heap.size) :
    ∀ (d : Nat) (a : Act) (w : World) (seen : Array Nat) (l : List Int), Inv w1 RO1 bm clock ms ks a w seen l → (leftL ms seen).length < d →
      Code.rounds PR pL (fun e a w => e = .exit 0 ∧ ∃ seen l, Inv w1 RO1 bm clock ms ks a w seen l ∧ leftL ms seen = []) d a w
  | 0, a, w, seen, l, I, hd => by omega
  | d + 1, a, w, seen, l, I, hd => by
    have hbm : bm < w1.heap.size := (Array.getElem?_eq_some_iff.1 hm).1
    have hbw : w.heap[bm]? = some (.map (List.toArray ms) clock) := (I.grew.same bm hbm).trans hm
    rw [rounds_succ]
    unfold pL
    refine wp_seq ?_
    rw [p5_eq]
    refine wp_region_list ?_
    show wpList PR _ _ [opC p5 0, opC p5 1] a w
    have ext0 : ∀ (x : Value) (xs : List Value) (w : World), (Instr.extract (.tuple (List.toArray (x :: xs))) 0).run PR w = .ok x w := fun x xs w => by simp [Instr.extract]
    rcases run_next_at (P := PR) w (opC p5 0).type w1.heap.size bm clock clock seen (List.toArray ms) clock I.iter hbw (fun x hx => hb x (by simpa using hx)) (Nat.le_refl _) with ⟨h0, hrun⟩ | ⟨e, he, w', hw', hrun⟩
    ·
      refine op_value (v := .tuple #[.bool false]) (w' := w) o50.2.2 (by simp only [execOp, o50.1, Act.eval, I.it, Sem.run_bind, hrun, Result.andThen_ok, Sem.run_pure]) ?_
      rw [o50.2.1]
      refine op_value (v := .bool false) (w' := w) o51.2.2 (by
        have := ext0 (.bool false) [] w
        simp only [execOp, o51.1, Act.eval, put_get (show 11 < a.tmps.size by rw [I.size]; omega), if_true, Sem.run_bind, this, Result.andThen_ok, Sem.run_pure]) ?_
      rw [o51.2.1]
      show (Code.seq _ _).wp PR _ _ w
      have hs1 : (a.put (some 11) (.tuple #[.bool false])).tmps.size = 22 := by rw [put_size]; exact I.size
      refine wp_seq (wp_cond_false ?_ (wp_exit ?_))
      · simp only [Act.eval, put_get (show 12 < (a.put (some 11) (.tuple #[.bool false])).tmps.size by rw [hs1]; omega), if_true]
      · have hleft : leftL ms seen = [] := by
          have := leftOf_toList ms seen
          rw [Array.eq_empty_of_size_eq_zero h0] at this
          exact this.symm
        have g : ∀ t, t ≠ 11 → t ≠ 12 → ((a.put (some 11) (.tuple #[.bool false])).put (some 12) (.bool false)).tmps.getD t undef = a.tmps.getD t undef := by
          intro t h1 h2
          rw [put_get (by rw [hs1]; omega), if_neg (Ne.symm h2), put_get (by rw [I.size]; omega), if_neg (Ne.symm h1)]
        refine ⟨rfl, seen, l, ⟨by rw [put_size]; exact hs1, I.defers, (g 10 (by omega) (by omega)).trans I.it, I.iter, I.grew, ?_, I.perm⟩, hleft⟩
        rw [g 3 (by omega) (by omega)]; exact I.row
    ·
      have he' : e ∈ leftL ms seen := by rw [← leftOf_toList]; exact he
      have hem : e ∈ ms := (List.mem_filter.1 he').1
      let w2 : World := ChangeMaps.setBlock w' w1.heap.size (.mapIter (some bm) clock (seen.push e.born) clock)
      have hheap : w2.heap = w.heap.setIfInBounds w1.heap.size (.mapIter (some bm) clock (seen.push e.born) clock) := by
        rcases hw' with rfl | rfl <;> rfl
      have hr : w1.heap.size < w.heap.size := I.grew.size
      have hsame : ∀ k, k ≠ w1.heap.size → w2.heap[k]? = w.heap[k]? := fun k hk => by rw [hheap]; exact Array.getElem?_setIfInBounds_ne (Ne.symm hk)
      have hsz : w2.heap.size = w.heap.size := by rw [hheap]; simp
      have hit : w2.heap[w1.heap.size]? = some (.mapIter (some bm) clock (seen.push e.born) clock) := by rw [hheap]; simp [hr]
      refine op_value (v := .tuple #[.bool true, e.key, e.val]) (w' := w2) o50.2.2 (by simp only [execOp, o50.1, Act.eval, I.it, Sem.run_bind, hrun, Result.andThen_ok, Sem.run_pure]; rfl) ?_
      rw [o50.2.1]
      refine op_value (v := .bool true) (w' := w2) o51.2.2 (by
        have := ext0 (.bool true) [e.key, e.val] w2
        simp only [execOp, o51.1, Act.eval, put_get (show 11 < a.tmps.size by rw [I.size]; omega), if_true, Sem.run_bind, this, Result.andThen_ok, Sem.run_pure]) ?_
      rw [o51.2.1]
      show (Code.seq _ _).wp PR _ _ w2
      have hs1 : (a.put (some 11) (.tuple #[.bool true, e.key, e.val])).tmps.size = 22 := by rw [put_size]; exact I.size
      generalize ha2 : (a.put (some 11) (.tuple #[.bool true, e.key, e.val])).put (some 12) (.bool true) = a2
      have hs2 : a2.tmps.size = 22 := by rw [← ha2, put_size]; exact hs1
      have g2 : ∀ t, t ≠ 11 → t ≠ 12 → a2.tmps.getD t undef = a.tmps.getD t undef := by
        intro t h1 h2
        rw [← ha2, put_get (by rw [hs1]; omega), if_neg (Ne.symm h2), put_get (by rw [I.size]; omega), if_neg (Ne.symm h1)]
      have hd2 : a2.defers = [] := by rw [← ha2]; exact I.defers
      refine wp_seq (wp_cond_true ?_ (wp_skip ?_))
      · rw [← ha2]
        simp only [Act.eval, put_get (show 12 < (a.put (some 11) (.tuple #[.bool true, e.key, e.val])).tmps.size by rw [hs1]; omega), if_true]
      show (Code.block 1 _).wp PR _ a2 w2
      refine wp_block (wp_seq ?_)
      rw [p6_eq]
      refine wp_region_list ?_
      show wpList PR _ _ [opC p6 0, opC p6 1, opC p6 2] a2 w2
      have hbm2 : w2.heap[bm]? = some (.map (List.toArray ms) clock) := (hsame bm (by omega)).trans hbw
      have hent := run_entry_at (P := PR) w2 w1.heap.size bm clock seen (List.toArray ms) clock e hit hbm2 (by simpa using hem) (by simpa using hn)
      refine op_value (v := .tuple #[e.key, e.val]) (w' := w2) o60.2.2 (by simp only [execOp, o60.1, Act.eval, (g2 10 (by omega) (by omega)).trans I.it, Sem.run_bind, hent, Result.andThen_ok, Sem.run_pure]) ?_
      rw [o60.2.1]
      refine op_value (v := e.key) (w' := w2) o61.2.2 (by
        have := ext0 e.key [e.val] w2
        simp only [execOp, o61.1, Act.eval, put_get (show 13 < a2.tmps.size by rw [hs2]; omega), if_true, Sem.run_bind, this, Result.andThen_ok, Sem.run_pure]) ?_
      rw [o61.2.1]
      have hs3 : (a2.put (some 13) (.tuple #[e.key, e.val])).tmps.size = 22 := by rw [put_size]; exact hs2
      refine op_value (v := e.key) (w' := w2) o62.2.2 (by
        simp only [execOp, o62.1, Act.eval, put_get (show 14 < (a2.put (some 13) (.tuple #[e.key, e.val])).tmps.size by rw [hs3]; omega), if_true, Sem.run_pure]) ?_
      rw [o62.2.1]
      show p7.wp PR _ _ w2
      generalize ha5 : ((a2.put (some 13) (.tuple #[e.key, e.val])).put (some 14) e.key).put (some 4) e.key = a5
      have hs4 : ((a2.put (some 13) (.tuple #[e.key, e.val])).put (some 14) e.key).tmps.size = 22 := by rw [put_size]; exact hs3
      have hs5 : a5.tmps.size = 22 := by rw [← ha5, put_size]; exact hs4
      have g5 : ∀ t, t ≠ 11 → t ≠ 12 → t ≠ 13 → t ≠ 14 → t ≠ 4 → a5.tmps.getD t undef = a.tmps.getD t undef := by
        intro t h1 h2 h3 h4 h5
        rw [← ha5, put_get (by rw [hs4]; omega), if_neg (Ne.symm h5), put_get (by rw [hs3]; omega), if_neg (Ne.symm h4), put_get (by rw [hs2]; omega), if_neg (Ne.symm h3)]
        exact g2 t h1 h2
      have hkey : a5.tmps.getD 4 undef = .int .i64 (kInt e.key) := by
        rw [← ha5, put_get (by rw [hs4]; omega), if_pos rfl]; exact hk e hem
      have hd5 : a5.defers = [] := by rw [← ha5]; exact hd2
      obtain ⟨ρ, RO, B, b1, b2, b3, H, hv⟩ := I.row
      have hnr : ¬ RO w1.heap.size := fun q => by
        rcases b3 _ q with q | q
        · have := hro _ q; omega
        · omega
      obtain ⟨ext, H2⟩ := other H hsz hsame hnr (fun id o x hl hx s q => by
        rw [lookH_cons] at hl
        split at hl
        · cases hl
          obtain ⟨_, cs, q1, _⟩ := s.rel
          rw [q, I.iter] at q1; cases q1
        · cases hl)
      have hl5 : l.length ≤ 5 := by
        have := I.perm.length_eq
        rw [List.length_append] at this; omega
      have A : ARel 22 [] ρ RO w2 [(3, some (.slf 0)), (4, some (.int .i64 (kInt e.key)))] a5 := by
        refine ⟨hs5, hd5, fun t v hl => ?_⟩
        rw [lookE_cons] at hl
        split at hl
        · rename_i q; subst q; cases hl
          rw [g5 3 (by omega) (by omega) (by omega) (by omega) (by omega)]
          exact hv.mono ext
        · rw [lookE_cons] at hl
          split at hl
          · rename_i q; subst q; cases hl
            rw [hkey]; exact .int _ _
          · cases hl
      refine wp_mono (piece7 l (kInt e.key) hl5 w2 ⟨B, RO⟩ [] ρ RO a5 w2 H2 A) fun x a' w3 q => ?_
      obtain ⟨⟨ρ', RO', p1, _, p2, p3, p4⟩, k1⟩ := q
      cases p3
      show Code.rounds PR pL _ d a' w3
      have hB : ∀ k, k ≤ w1.heap.size → ¬ B k := fun k hk q => by have := b1 k q; omega
      have hperm := leftL_push hn he'
      refine loop38 hm hb hn hk hlen hro d a' w3 (seen.push e.born) (l ++ [kInt e.key]) ⟨p4.size, p4.defers, ?_, ?_, ⟨?_, ?_, ?_, ?_, fun k hk => ?_⟩, ?_, ?_⟩ ?_
      · rw [k1 10 (by rw [writes7]; decide), g5 10 (by omega) (by omega) (by omega) (by omega) (by omega)]; exact I.it
      · rw [p2.frame.block _ (by rw [hsz]; exact hr) (hB _ (Nat.le_refl _))]; exact hit
      · rw [p2.frame.os]; exact (by rcases hw' with rfl | rfl <;> rfl : w2.os = w.os).trans I.grew.os
      · rw [p2.frame.tape]; exact (by rcases hw' with rfl | rfl <;> rfl : w2.tape = w.tape).trans I.grew.tape
      · rw [p2.frame.output]; exact (by rcases hw' with rfl | rfl <;> rfl : w2.output = w.output).trans I.grew.output
      · have := p2.frame.size; omega
      · rw [p2.frame.block k (by omega) (hB k (by omega)), hsame k (by omega)]; exact I.grew.same k hk
      · refine ⟨ρ', RO', _, fun b hb => ?_, fun b hb => p1.ro b (b2 b hb), fun b hb => ?_, here p2, p4.env 3 _ rfl⟩
        · rcases hb with q | q
          · exact b1 b q
          · omega
        · rcases (p2.ro b hb).2 with q | q | q
          · exact b3 b q
          · exact .inr (by omega)
          · exact .inr (b1 b q)
      · refine List.Perm.trans ?_ I.perm
        rw [List.append_assoc]
        have hp : (kInt e.key :: (leftL ms (seen.push e.born)).map (fun m => kInt m.key)).Perm ((leftL ms seen).map (fun m => kInt m.key)) := (hperm.map (fun m : MapEntry => kInt m.key)).symm
        exact List.Perm.append_left l hp
      · have := hperm.length_eq
        rw [List.length_cons] at this; omega
def all5 : List Int := [0, 1, 2, 3, 4]
theorem reach_in {v : Int} (hg : good v = true) : CallOk PR 38 [.int .i64 v] [] 0 (.ret (.dsl 3 all5)) [] 0 := by
  refine ⟨⟨_, Try.func38, rfl⟩, fun w0 F ρ RO w vs H hvs => ?_⟩
  have hn : Try.f38.ntmps = 22 := by kernel_rfl
  refine calls_of_wp Try.func38 body38 ?_
  have A0 := params_arel (N := 22) hvs (by simp)
  rw [hn]
  unfold good at hg
  split at hg
  case h_2 => cases hg
  rename_i env4 h4 n4 e4
  split at hg
  case h_2 => cases hg
  rename_i m hm9 hm3
  split at hg
  case h_2 => cases hg
  rename_i es hes
  split at hg
  case h_2 => cases hg
  rename_i ks hks
  have hsort := of_decide_eq_true hg
  unfold s4 at e4
  split at e4
  case h_2 => cases e4
  rename_i env3 h3 n3 e3
  unfold s3 at e3
  split at e3
  case h_2 => cases e3
  rename_i env2 h2 n2 e2
  unfold s2 at e2
  split at e2
  case h_2 => cases e2
  rename_i env1 h1 n1 e1
  unfold s1 at e1
  have c1 := piece cfR_ok e1
  have c2 := piece cfR_ok e2
  have c3 := piece cfR_ok e3
  obtain ⟨x4, env4', h4', n4', c4, q4, _⟩ := evOps_ok noNum cfR_ok e4
  cases q4
  refine wp_seq (wp_mono (c1 w0 F [] ρ RO _ w H A0) fun x a1 w1 q => ?_)
  obtain ⟨⟨ρ1, RO1, z1, z2, z3, z4⟩, _⟩ := q
  cases z3
  refine wp_seq (wp_mono (c2 w0 F [] ρ1 RO1 a1 w1 z2 z4) fun x a2 w2 q => ?_)
  obtain ⟨⟨ρ2, RO2, r1, r2, r3, r4⟩, _⟩ := q
  cases r3
  refine wp_seq (wp_mono (c3 w0 F [] ρ2 RO2 a2 w2 r2 r4) fun x a3 w3 q => ?_)
  obtain ⟨⟨ρ3, RO3, t1, t2, t3, t4⟩, _⟩ := q
  cases t3
  refine wp_seq (wp_seq ?_)
  rw [p4_eq]
  refine wp_region_list ?_
  show wpList PR _ _ ([opC p4 0, opC p4 1] ++ [opC p4 2]) a3 w3
  refine wpList_app (wpList_mono (fun x a4 w4 q => ?_) (c4 w0 F [] ρ3 RO3 a3 w3 t2 t4))
  obtain ⟨⟨ρ4, RO4, u1, u2, u3, u4⟩, _⟩ := q
  cases u3
  show wpList PR _ _ [opC p4 2] a4 w4
  have ext4 : Ext ρ RO w ρ4 RO4 w4 := z1.trans (r1.trans (t1.trans u1))
  have hv9 := u4.env 9 _ hm9
  generalize h9 : a4.tmps.getD 9 undef = v9 at hv9
  cases hv9 with
  | @map _ L hL =>
  obtain ⟨ms, clock, g1, g2, gb, gn, g3⟩ := u2.mapO hes hL
  obtain ⟨k1, k2⟩ := keys_rel (ρ := ρ4) (RO := RO4) (w := w4) ⟨g2, g3⟩ hks
  have h81 : PR.underlying 81 = some (.map 3 45) := by kernel_rfl
  let w5 : World := w4.alloc (.mapIter (some L.blk) clock #[] clock)
  have hrng : (Instr.range 81 (.map (some L.blk))).run PR w4 = .ok (.pointer (some ⟨w4.heap.size, 0, none⟩)) w5 := by
    simp only [Instr.range, Sem.run_bind, run_underlying h81, Result.andThen_ok, MapKept.run_getObj_map g1, Sem.run_pure, run_newObj]
    rfl
  refine op_value (v := .pointer (some ⟨w4.heap.size, 0, none⟩)) (w' := w5) o42.2.2 (by simp only [execOp, o42.1, Act.eval, h9, Sem.run_bind, hrng, Result.andThen_ok, Sem.run_pure]) ?_
  rw [o42.2.1]
  show (Code.block 0 _).wp PR _ _ w5
  refine wp_block (wp_loop_rounds 9 ?_)
  have hlenk : ks.length = 5 := by
    have := (sortLe_perm ks).length_eq
    rw [hsort] at this; exact this.symm
  have hro4 : ∀ b, RO4 b → b < w4.heap.size := fun b hb => (u2.ro b hb).1
  have hgrew : Grew w4 w5 := by
    refine ⟨rfl, rfl, rfl, ?_, fun k hk => ?_⟩
    · show _ < (w4.heap.push _).size; simp
    · show (w4.heap.push _)[k]? = _
      rw [Array.getElem?_push, if_neg (by omega)]
  have hl0 : leftL ms #[] = ms := by simp [leftL]
  have hrow : ∃ ρ RO B, (∀ b, B b → w4.heap.size < b) ∧ (∀ b, RO4 b → RO b) ∧ (∀ b, RO b → RO4 b ∨ w4.heap.size < b) ∧ HRel w5 ⟨B, RO⟩ [(0, some (.row 3 [])) ] 1 ρ RO w5 ∧ VRel ρ RO w5 (.slf 0) ((a4.put (some 10) (.pointer (some ⟨w4.heap.size, 0, none⟩))).tmps.getD 3 undef) := by
    have h0 : HRel w5 ⟨fun _ => False, RO4⟩ [] 0 (fun _ => none) RO4 w5 := ⟨.refl _ _, (fun id o h => by cases h), (fun id id' o o' x x' _ h => by cases h), fun _ _ => rfl, fun b hb => ⟨by have := hro4 b hb; have := hgrew.size; omega, .inl hb⟩, (fun id r h => by cases h)⟩
    have hv3 : (a4.put (some 10) (.pointer (some ⟨w4.heap.size, 0, none⟩))).tmps.getD 3 undef = .slice none 0 0 := by
      rw [put_get (by rw [u4.size]; omega), if_neg (by omega)]
      have := u4.env 3 _ hm3
      generalize a4.tmps.getD 3 undef = v3 at this
      cases this; rfl
    rw [hv3]
    obtain ⟨ρ', q1, q2⟩ := ghost_add h0 3 ⟨none, rfl⟩
    exact ⟨ρ', RO4, fun _ => False, fun _ h => h.elim, fun _ h => h, fun _ h => .inl h, q1.rel, q2⟩
  refine rounds_mono (fun x a6 w6 q => ?_) (loop38 (RO1 := RO4) (ks := ks) g1 gb gn k2 (by omega) hro4 9 _ w5 #[] [] ⟨by rw [put_size]; exact u4.size, u4.defers, by rw [put_get (by rw [u4.size]; omega), if_pos rfl], ?_, hgrew, hrow, by rw [hl0, k1]; exact .refl _⟩ ?_)
  rotate_left
  · show (w4.heap.push _)[w4.heap.size]? = _
    simp
  · rw [hl0]
    have : (ms.map (fun m => kInt m.key)).length = ks.length := by rw [k1]
    rw [List.length_map] at this; omega
  · obtain ⟨rfl, seen, l, I, hl⟩ := q
    have hp : l.Perm ks := by have := I.perm; rw [hl] at this; simpa using this
    have hsl : sortLe l = all5 := by
      rw [show all5 = sortLe ks from hsort.symm]
      exact sorted_eq ((sortLe_perm l).trans (hp.trans (sortLe_perm ks).symm)) (sortLe_sorted l) (sortLe_sorted ks)
    show pT.wp PR _ a6 w6
    obtain ⟨ρ6, RO6, B, b1, b2, b3, H6, hv6⟩ := I.row
    have A6 : ARel 22 [] ρ6 RO6 w6 [(3, some (.slf 0))] a6 := by
      refine ⟨I.size, I.defers, fun t v hl => ?_⟩
      rw [lookE_cons] at hl
      split at hl
      · rename_i q; subst q; cases hl; exact hv6
      · cases hl
    refine wp_mono (pieceT l (by rw [hp.length_eq]; omega) w6 ⟨B, RO6⟩ [] ρ6 RO6 a6 w6 H6 A6) fun x a7 w7 q => ?_
    obtain ⟨⟨ρ7, RO7, x1, _, x2, x3, x4⟩, _⟩ := q
    cases x3
    have hv7 := x4.env 2 _ rfl
    rw [hsl] at x2
    have hlk : lookH ([(0, some (AObj.row 3 all5))] : Heap) 0 = some (.row 3 all5) := rfl
    obtain ⟨RO8, y1, y2, y3⟩ := x2.freeze hlk
    have hv8 := y3 0 5 5 _ (by decide) (x2.unslf hlk hv7)
    have hB : ∀ k, k ≤ w4.heap.size → ¬ B k := fun k hk q => by have := b1 k q; omega
    have hsame : ∀ k, k < w4.heap.size → w7.heap[k]? = w4.heap[k]? := fun k hk => by
      have := I.grew.size
      rw [x2.frame.block k (by omega) (hB k (by omega))]; exact I.grew.same k hk
    have hsz : w4.heap.size < w7.heap.size := by have := I.grew.size; have := x2.frame.size; omega
    have hro8 : ∀ b, RO8 b → b < w7.heap.size ∧ (RO4 b ∨ w4.heap.size ≤ b) := fun b hb => by
      refine ⟨(y2.ro b hb).1, ?_⟩
      rcases (y2.ro b hb).2 with q | q | q
      · rcases b3 b q with q | q
        · exact .inl q
        · exact .inr (by omega)
      · have := I.grew.size; exact .inr (by omega)
      · have := b1 b q; exact .inr (by omega)
    have hv8 : VRel ρ7 RO8 w7 (.dsl 3 all5) (a7.tmps.getD 2 undef) := hv8
    have hv : VRel ρ RO8 w7 (.dsl 3 all5) (a7.tmps.getD 2 undef) := flat_ren .dsl hv8
    refine ⟨x4.defers, _, results_tmp rfl _ _ _, ρ, RO8, ⟨fun _ _ h => h, fun b hb => y1.ro _ (x1.ro _ (b2 _ (ext4.ro _ hb))), fun b hb => ?_⟩, ⟨⟨?_, ?_, ?_, ?_, fun k hk hF => ?_⟩, (fun id o h => by cases h), (fun id id' o o' x x' _ h => by cases h), H.fresh, fun b hb => ?_, (fun id r h => by cases h)⟩, _, rfl, hv⟩
    · rw [hsame b (hro4 b (ext4.ro _ hb))]; exact ext4.same b hb
    · rw [x2.frame.os, I.grew.os]; exact u2.frame.os
    · rw [x2.frame.tape, I.grew.tape]; exact u2.frame.tape
    · rw [x2.frame.output, I.grew.output]; exact u2.frame.output
    · have := u2.frame.size; omega
    · rw [hsame k (by have := u2.frame.size; omega)]; exact u2.frame.block k hk hF
    · obtain ⟨q1, q2⟩ := hro8 b hb
      refine ⟨q1, ?_⟩
      rcases q2 with q | q
      · exact (u2.ro b q).2
      · exact .inr (.inl (by have := u2.frame.size; omega))
theorem reach_all {x : Int} (h : 0 ≤ x ∧ x < 5) : CallOk PR 38 [.int .i64 x] [] 0 (.ret (.dsl 3 all5)) [] 0 := by
  have : x = 0 ∨ x = 1 ∨ x = 2 ∨ x = 3 ∨ x = 4 := by omega
  rcases this with rfl | rfl | rfl | rfl | rfl
  · exact reach_in good0
  · exact reach_in good1
  · exact reach_in good2
  · exact reach_in good3
  · exact reach_in good4
noncomputable def orc : CallF := fun R f args h n K => match Nat.beq f 38 with
  | true => (match args, h, n with
    | [.int .i64 x], [], 0 => br (decide (0 ≤ x ∧ x < 5)) (K (.ret (.dsl 3 all5)) [] 0) none
    | _, _, _ => none)
  | false => none
theorem orc_ok : CfOk PR orc := by
  intro R f args h n K r e
  unfold orc at e
  split at e
  · rename_i hf
    have hf := Nat.eq_of_beq_eq_true hf
    subst hf
    split at e
    · obtain ⟨h1, e⟩ := (br_some e).resolve_right (fun q => by cases q.2)
      exact ⟨_, [], 0, reach_all (of_decide_eq_true h1), e⟩
    · cases e
  · cases e
noncomputable def r38 (o : AEnd) (u : Heap) (n : Nat) : Option (List (Den.den 3)) := match o, u, n with
  | .ret b, [], 0 => dslD 3 b
  | _, _, _ => none
theorem r38_ok (o : AEnd) (u : Heap) (n : Nat) (r : List (Den.den 3)) (h : r38 o u n = some r) : o = .ret (.dsl 3 r) ∧ u = [] ∧ n = 0 := by
  unfold r38 at h
  split at h
  · have q := dslD_ok h
    subst q
    exact ⟨rfl, rfl, rfl⟩
  · cases h
noncomputable def cfo38 : CallF := evF Try.prog (dNone 56 (Dl2 0)) (Lm2 0) 200 12
theorem cfo38_ok : CfOk PR cfo38 := evF_ok noNum mixed (dNone_ok 56 (Dl2_ok 0)) (Lm2_ok 0) 12
theorem out38 (x : Int) : cfo38 (List (Den.den 3)) 38 [.int .i64 x] [] 0 (endR (fun _ => none) (.ro 3) [] 0 r38) = br (decide (x ≥ 0)) (br (!decide (x < 5)) (some []) none) (some []) := by kernel_rfl
theorem in38 (x : Int) : orc (List (Den.den 3)) 38 [.int .i64 x] [] 0 (endR (fun _ => none) (.ro 3) [] 0 r38) = br (decide (0 ≤ x ∧ x < 5)) (some all5) none := by kernel_rfl
theorem d38_ok (a : List AV) (H : Heap) (p : Int) (h : d38 a H = some p) : a = [.int .i64 p] ∧ H = [] := by
  unfold d38 at h
  split at h
  · cases h; exact ⟨rfl, rfl⟩
  · cases h
theorem g38_ok : CallSOk PR 38 g38 := entry_le (Hp := fun _ => []) (plan := fun _ => none) (kd := .ro 3) (dead := []) (decR := fun _ => r38) (oR := fun _ r => .ret (.dsl 3 r)) (uR := fun _ _ => []) (nR := fun _ _ => 0) d38_ok (fun _ => r38_ok) (hel := elAll_ok) (fun p z h => by
  by_cases hp : 0 ≤ p ∧ p < 5
  · refine ⟨orc, orc_ok, ?_⟩
    have h1 : f38 p = some all5 := by unfold f38 reachL; rw [decide_eq_true hp]; rfl
    rw [show (some z : Option (List (Den.den 3))) = some all5 from h.symm.trans h1]
    exact (in38 p).trans (by rw [decide_eq_true hp]; rfl)
  · refine ⟨cfo38, cfo38_ok, ?_⟩
    have h1 : f38 p = some [] := by unfold f38 reachL; rw [decide_eq_false hp]
    rw [show (some z : Option (List (Den.den 3))) = some [] from h.symm.trans h1]
    refine (out38 p).trans ?_
    by_cases h0 : p ≥ 0
    · rw [decide_eq_true h0, show decide (p < 5) = false from decide_eq_false (fun q => hp ⟨h0, q⟩)]; rfl
    · rw [decide_eq_false h0]; rfl)
end Go.Proofs.Ytopeokonlaljlaa

end
section
set_option linter.unusedVariables false
open Go Go.Eng Go.Proofs
namespace Go.Proofs.Ytopeokonlaljlaa
set_option maxHeartbeats 0
set_option maxRecDepth 100000
noncomputable section
abbrev P32 := Int × Int
def A32 (p : P32) : List AV := [.int .i64 p.1, .int .i64 p.2]
def d32 (a : List AV) (H : Heap) : Option P32 := match a, H with
  | [.int .i64 a0, .int .i64 a1], [] => some (a0, a1)
  | _, _ => none
theorem d32_ok (a : List AV) (H : Heap) (p : P32) (h : d32 a H = some p) : a = A32 p ∧ H = [] := by
  unfold d32 at h
  split at h
  · skip
    cases h; exact ⟨rfl, rfl⟩
  · cases h
abbrev R32 := List Int × Bool
def o32 (r : R32) : AEnd := .ret (.tup [.dsl 3 r.1, .bool r.2])
def u32 (r : R32) : Heap := []
def n32 (_ : R32) : Nat := 0
def r32 (o : AEnd) (u : Heap) (n : Nat) : Option R32 := match o, u, n with
  | .ret (.tup [ba0, .bool a1]), [], 0 => (match (dslD 3 ba0 : Option (List Int)) with | some a0 => some (a0, a1) | none => none)
  | _, _, _ => none
theorem r32_ok (p : P32) (o : AEnd) (u : Heap) (n : Nat) (r : R32) (h : r32 o u n = some r) : o = o32 r ∧ u = u32 r ∧ n = n32 r := by
  unfold r32 at h
  split at h
  · skip
    split at h
    · rename_i q
      have q := dslD_ok q
      subst q
      cases h; exact ⟨rfl, rfl, rfl⟩
    · cases h
  · cases h
def f32_0 (k : Nat) (x1 : Int) : Option R32 :=
  br (decide (x1 ≥ (0 : Int)))
   (br (!decide (x1 < (5 : Int)))
    (some ([], false))
    (br (x1 == (0 : Int))
     (some ([], true))
     (br (x1 == (1 : Int))
      (some ([] ++ [] ++ [(1 : Int)], true))
      (br (x1 == (2 : Int))
       (some ([] ++ ([] ++ [] ++ [(1 : Int)]) ++ [(2 : Int)], true))
       (br (x1 == (3 : Int))
        (some ([] ++ ([] ++ [] ++ [(1 : Int)]) ++ [(3 : Int)], true))
        (br (x1 == (4 : Int))
         (some ([] ++ ([] ++ [] ++ [(1 : Int)]) ++ [(4 : Int)], true))
         (some ([], false))))))))
   (some ([], false))
theorem f32_0_run (k : Nat) (x1 : Int) : cf2 k R32 32 (A32 ((0), x1)) [] 0 (endR planR (.agg [.ro 3, .any]) [] 0 r32) = f32_0 k x1 := by kernel_rfl
def f32_1 (k : Nat) (x1 : Int) : Option R32 :=
  br (decide (x1 ≥ (0 : Int)))
   (br (!decide (x1 < (5 : Int)))
    (some ([], false))
    (br (x1 == (1 : Int))
     (some ([], true))
     (br (x1 == (2 : Int))
      (some ([] ++ [] ++ [(2 : Int)], true))
      (br (x1 == (3 : Int))
       (some ([] ++ [] ++ [(3 : Int)], true))
       (br (x1 == (4 : Int))
        (some ([] ++ [] ++ [(4 : Int)], true))
        (br (x1 == (0 : Int))
         (some ([] ++ [] ++ [(5 : Int)], true))
         (some ([], false))))))))
   (some ([], false))
theorem f32_1_run (k : Nat) (x1 : Int) : cf2 k R32 32 (A32 ((1), x1)) [] 0 (endR planR (.agg [.ro 3, .any]) [] 0 r32) = f32_1 k x1 := by kernel_rfl
def f32_2 (k : Nat) (x1 : Int) : Option R32 :=
  br (decide (x1 ≥ (0 : Int)))
   (br (!decide (x1 < (5 : Int)))
    (some ([], false))
    (br (x1 == (2 : Int))
     (some ([], true))
     (br (x1 == (3 : Int))
      (some ([] ++ [] ++ [(3 : Int)], true))
      (br (x1 == (4 : Int))
       (some ([] ++ [] ++ [(4 : Int)], true))
       (br (x1 == (0 : Int))
        (some ([] ++ [] ++ [(5 : Int)], true))
        (br (x1 == (1 : Int))
         (some ([] ++ ([] ++ [] ++ [(3 : Int)]) ++ [(1 : Int)], true))
         (some ([], false))))))))
   (some ([], false))
theorem f32_2_run (k : Nat) (x1 : Int) : cf2 k R32 32 (A32 ((2), x1)) [] 0 (endR planR (.agg [.ro 3, .any]) [] 0 r32) = f32_2 k x1 := by kernel_rfl
def f32_3 (k : Nat) (x1 : Int) : Option R32 :=
  br (decide (x1 ≥ (0 : Int)))
   (br (!decide (x1 < (5 : Int)))
    (some ([], false))
    (br (x1 == (3 : Int))
     (some ([], true))
     (br (x1 == (1 : Int))
      (some ([] ++ [] ++ [(1 : Int)], true))
      (br (x1 == (4 : Int))
       (some ([] ++ [] ++ [(4 : Int)], true))
       (br (x1 == (0 : Int))
        (some ([] ++ [] ++ [(5 : Int)], true))
        (br (x1 == (2 : Int))
         (some ([] ++ ([] ++ [] ++ [(1 : Int)]) ++ [(2 : Int)], true))
         (some ([], false))))))))
   (some ([], false))
theorem f32_3_run (k : Nat) (x1 : Int) : cf2 k R32 32 (A32 ((3), x1)) [] 0 (endR planR (.agg [.ro 3, .any]) [] 0 r32) = f32_3 k x1 := by kernel_rfl
def f32_4 (k : Nat) (x1 : Int) : Option R32 :=
  br (decide (x1 ≥ (0 : Int)))
   (br (!decide (x1 < (5 : Int)))
    (some ([], false))
    (br (x1 == (4 : Int))
     (some ([], true))
     (br (x1 == (3 : Int))
      (some ([] ++ [] ++ [(3 : Int)], true))
      (br (x1 == (0 : Int))
       (some ([] ++ [] ++ [(5 : Int)], true))
       (br (x1 == (1 : Int))
        (some ([] ++ [] ++ [(6 : Int)], true))
        (br (x1 == (2 : Int))
         (some ([] ++ ([] ++ [] ++ [(6 : Int)]) ++ [(2 : Int)], true))
         (some ([], false))))))))
   (some ([], false))
theorem f32_4_run (k : Nat) (x1 : Int) : cf2 k R32 32 (A32 ((4), x1)) [] 0 (endR planR (.agg [.ro 3, .any]) [] 0 r32) = f32_4 k x1 := by kernel_rfl
abbrev cfo32 (k : Nat) : CallF := evF Try.prog (dNone 56 (Dl2 k)) (Lm2 k) 200 12
theorem cfo32_ok (k : Nat) : CfOk Try.prog (cfo32 k) := evF_ok noNum mixed (dNone_ok 56 (Dl2_ok k)) (Lm2_ok k) 12
def f32_o (k : Nat) (x0 : Int) (x1 : Int) : Option R32 :=
  br (decide (x0 ≥ (0 : Int)))
   (br (!decide (x0 < (5 : Int)))
    (some ([], false))
    (br (decide (x1 ≥ (0 : Int)))
     (br (!decide (x1 < (5 : Int)))
      (some ([], false))
      (none))
     (some ([], false))))
   (some ([], false))
theorem f32_o_run (k : Nat) (x0 : Int) (x1 : Int) : cfo32 k R32 32 (A32 (x0, x1)) [] 0 (endR planR (.agg [.ro 3, .any]) [] 0 r32) = f32_o k x0 x1 := by kernel_rfl
def f32 (k : Nat) (x0 : Int) (x1 : Int) : Option R32 :=
  br (x0 == 0) (f32_0 k x1) (br (x0 == 1) (f32_1 k x1) (br (x0 == 2) (f32_2 k x1) (br (x0 == 3) (f32_3 k x1) (br (x0 == 4) (f32_4 k x1) (f32_o k x0 x1)))))
def g32 (k : Nat) : CallS := entT d32 (fun p => f32 k p.1 p.2) (elAll _) (fun _ => o32) (fun _ => u32) (fun _ => n32)
theorem g32_ok (k : Nat) : CallSOk Try.prog 32 (g32 k) := entry_le (Hp := fun _ => []) (plan := planR) (kd := .agg [.ro 3, .any]) (dead := []) (decR := fun _ => r32) (oR := fun _ => o32) (uR := fun _ => u32) (nR := fun _ => n32) d32_ok r32_ok (hel := elAll_ok) (by
  intro p z h
  obtain ⟨x0, x1⟩ := p
  replace h : f32 k x0 x1 = some z := h
  unfold f32 at h
  rcases br_some h with ⟨hb, h⟩ | ⟨_, h⟩
  · have hb : x0 = 0 := by simpa using hb
    subst hb
    exact ⟨_, cf2_ok k, (f32_0_run k x1).trans h⟩
  rcases br_some h with ⟨hb, h⟩ | ⟨_, h⟩
  · have hb : x0 = 1 := by simpa using hb
    subst hb
    exact ⟨_, cf2_ok k, (f32_1_run k x1).trans h⟩
  rcases br_some h with ⟨hb, h⟩ | ⟨_, h⟩
  · have hb : x0 = 2 := by simpa using hb
    subst hb
    exact ⟨_, cf2_ok k, (f32_2_run k x1).trans h⟩
  rcases br_some h with ⟨hb, h⟩ | ⟨_, h⟩
  · have hb : x0 = 3 := by simpa using hb
    subst hb
    exact ⟨_, cf2_ok k, (f32_3_run k x1).trans h⟩
  rcases br_some h with ⟨hb, h⟩ | ⟨_, h⟩
  · have hb : x0 = 4 := by simpa using hb
    subst hb
    exact ⟨_, cf2_ok k, (f32_4_run k x1).trans h⟩
  exact ⟨_, cfo32_ok k, (f32_o_run k x0 x1).trans h⟩)
def Dl3 (k : Nat) : Delta := dCons 32 (callAt plan [.any, .any] (g32 k)) (Dl2 k)
def Lm3 (k : Nat) : FuncId → Nat → Option LamF := Lm2 k
theorem Dl3_ok (k : Nat) : DeltaOk Try.prog (Dl3 k) := dCons_ok (Dl2_ok k) (g32_ok k)
theorem Lm3_ok (k : Nat) : LamsOk Try.prog (Lm3 k) := Lm2_ok k
abbrev cf3 (k : Nat) : CallF := evF Try.prog (Dl3 k) (Lm3 k) 200 12
theorem cf3_ok (k : Nat) : CfOk Try.prog (cf3 k) := evF_ok noNum mixed (Dl3_ok k) (Lm3_ok k) 12
abbrev P33 := Int × Int
def A33 (p : P33) : List AV := [.int .i64 p.1, .int .i64 p.2]
def d33 (a : List AV) (H : Heap) : Option P33 := match a, H with
  | [.int .i64 a0, .int .i64 a1], [] => some (a0, a1)
  | _, _ => none
theorem d33_ok (a : List AV) (H : Heap) (p : P33) (h : d33 a H = some p) : a = A33 p ∧ H = [] := by
  unfold d33 at h
  split at h
  · skip
    cases h; exact ⟨rfl, rfl⟩
  · cases h
abbrev R33 := List Int × Bool
def o33 (r : R33) : AEnd := .ret (.tup [.dsl 3 r.1, .bool r.2])
def u33 (r : R33) : Heap := []
def n33 (_ : R33) : Nat := 0
def r33 (o : AEnd) (u : Heap) (n : Nat) : Option R33 := match o, u, n with
  | .ret (.tup [ba0, .bool a1]), [], 0 => (match (dslD 3 ba0 : Option (List Int)) with | some a0 => some (a0, a1) | none => none)
  | _, _, _ => none
theorem r33_ok (p : P33) (o : AEnd) (u : Heap) (n : Nat) (r : R33) (h : r33 o u n = some r) : o = o33 r ∧ u = u33 r ∧ n = n33 r := by
  unfold r33 at h
  split at h
  · skip
    split at h
    · rename_i q
      have q := dslD_ok q
      subst q
      cases h; exact ⟨rfl, rfl, rfl⟩
    · cases h
  · cases h
def f33_0_0 (k : Nat) : Option R33 :=
  some ([], true)
theorem f33_0_0_run (k : Nat) : cf3 k R33 33 (A33 ((0), (0))) [] 0 (endR planR (.agg [.ro 3, .any]) [] 0 r33) = f33_0_0 k  := by kernel_rfl
def f33_0_1 (k : Nat) : Option R33 :=
  some ([] ++ [(1 : Int)], true)
theorem f33_0_1_run (k : Nat) : cf3 k R33 33 (A33 ((0), (1))) [] 0 (endR planR (.agg [.ro 3, .any]) [] 0 r33) = f33_0_1 k  := by kernel_rfl
def f33_0_2 (k : Nat) : Option R33 :=
  some ([] ++ [(1 : Int)] ++ [(2 : Int)], true)
theorem f33_0_2_run (k : Nat) : cf3 k R33 33 (A33 ((0), (2))) [] 0 (endR planR (.agg [.ro 3, .any]) [] 0 r33) = f33_0_2 k  := by kernel_rfl
def f33_0_3 (k : Nat) : Option R33 :=
  some ([] ++ [(1 : Int)] ++ [(3 : Int)], true)
theorem f33_0_3_run (k : Nat) : cf3 k R33 33 (A33 ((0), (3))) [] 0 (endR planR (.agg [.ro 3, .any]) [] 0 r33) = f33_0_3 k  := by kernel_rfl
def f33_0_4 (k : Nat) : Option R33 :=
  some ([] ++ [(1 : Int)] ++ [(4 : Int)], true)
theorem f33_0_4_run (k : Nat) : cf3 k R33 33 (A33 ((0), (4))) [] 0 (endR planR (.agg [.ro 3, .any]) [] 0 r33) = f33_0_4 k  := by kernel_rfl
def f33_1_0 (k : Nat) : Option R33 :=
  some ([] ++ [(5 : Int)], true)
theorem f33_1_0_run (k : Nat) : cf3 k R33 33 (A33 ((1), (0))) [] 0 (endR planR (.agg [.ro 3, .any]) [] 0 r33) = f33_1_0 k  := by kernel_rfl
def f33_1_1 (k : Nat) : Option R33 :=
  some ([], true)
theorem f33_1_1_run (k : Nat) : cf3 k R33 33 (A33 ((1), (1))) [] 0 (endR planR (.agg [.ro 3, .any]) [] 0 r33) = f33_1_1 k  := by kernel_rfl
def f33_1_2 (k : Nat) : Option R33 :=
  some ([] ++ [(2 : Int)], true)
theorem f33_1_2_run (k : Nat) : cf3 k R33 33 (A33 ((1), (2))) [] 0 (endR planR (.agg [.ro 3, .any]) [] 0 r33) = f33_1_2 k  := by kernel_rfl
def f33_1_3 (k : Nat) : Option R33 :=
  some ([] ++ [(3 : Int)], true)
theorem f33_1_3_run (k : Nat) : cf3 k R33 33 (A33 ((1), (3))) [] 0 (endR planR (.agg [.ro 3, .any]) [] 0 r33) = f33_1_3 k  := by kernel_rfl
def f33_1_4 (k : Nat) : Option R33 :=
  some ([] ++ [(4 : Int)], true)
theorem f33_1_4_run (k : Nat) : cf3 k R33 33 (A33 ((1), (4))) [] 0 (endR planR (.agg [.ro 3, .any]) [] 0 r33) = f33_1_4 k  := by kernel_rfl
def f33_2_0 (k : Nat) : Option R33 :=
  some ([] ++ [(5 : Int)], true)
theorem f33_2_0_run (k : Nat) : cf3 k R33 33 (A33 ((2), (0))) [] 0 (endR planR (.agg [.ro 3, .any]) [] 0 r33) = f33_2_0 k  := by kernel_rfl
def f33_2_1 (k : Nat) : Option R33 :=
  some ([] ++ [(3 : Int)] ++ [(1 : Int)], true)
theorem f33_2_1_run (k : Nat) : cf3 k R33 33 (A33 ((2), (1))) [] 0 (endR planR (.agg [.ro 3, .any]) [] 0 r33) = f33_2_1 k  := by kernel_rfl
def f33_2_2 (k : Nat) : Option R33 :=
  some ([], true)
theorem f33_2_2_run (k : Nat) : cf3 k R33 33 (A33 ((2), (2))) [] 0 (endR planR (.agg [.ro 3, .any]) [] 0 r33) = f33_2_2 k  := by kernel_rfl
def f33_2_3 (k : Nat) : Option R33 :=
  some ([] ++ [(3 : Int)], true)
theorem f33_2_3_run (k : Nat) : cf3 k R33 33 (A33 ((2), (3))) [] 0 (endR planR (.agg [.ro 3, .any]) [] 0 r33) = f33_2_3 k  := by kernel_rfl
def f33_2_4 (k : Nat) : Option R33 :=
  some ([] ++ [(4 : Int)], true)
theorem f33_2_4_run (k : Nat) : cf3 k R33 33 (A33 ((2), (4))) [] 0 (endR planR (.agg [.ro 3, .any]) [] 0 r33) = f33_2_4 k  := by kernel_rfl
def f33_3_0 (k : Nat) : Option R33 :=
  some ([] ++ [(5 : Int)], true)
theorem f33_3_0_run (k : Nat) : cf3 k R33 33 (A33 ((3), (0))) [] 0 (endR planR (.agg [.ro 3, .any]) [] 0 r33) = f33_3_0 k  := by kernel_rfl
def f33_3_1 (k : Nat) : Option R33 :=
  some ([] ++ [(1 : Int)], true)
theorem f33_3_1_run (k : Nat) : cf3 k R33 33 (A33 ((3), (1))) [] 0 (endR planR (.agg [.ro 3, .any]) [] 0 r33) = f33_3_1 k  := by kernel_rfl
def f33_3_2 (k : Nat) : Option R33 :=
  some ([] ++ [(1 : Int)] ++ [(2 : Int)], true)
theorem f33_3_2_run (k : Nat) : cf3 k R33 33 (A33 ((3), (2))) [] 0 (endR planR (.agg [.ro 3, .any]) [] 0 r33) = f33_3_2 k  := by kernel_rfl
def f33_3_3 (k : Nat) : Option R33 :=
  some ([], true)
theorem f33_3_3_run (k : Nat) : cf3 k R33 33 (A33 ((3), (3))) [] 0 (endR planR (.agg [.ro 3, .any]) [] 0 r33) = f33_3_3 k  := by kernel_rfl
def f33_3_4 (k : Nat) : Option R33 :=
  some ([] ++ [(4 : Int)], true)
theorem f33_3_4_run (k : Nat) : cf3 k R33 33 (A33 ((3), (4))) [] 0 (endR planR (.agg [.ro 3, .any]) [] 0 r33) = f33_3_4 k  := by kernel_rfl
def f33_4_0 (k : Nat) : Option R33 :=
  some ([] ++ [(5 : Int)], true)
theorem f33_4_0_run (k : Nat) : cf3 k R33 33 (A33 ((4), (0))) [] 0 (endR planR (.agg [.ro 3, .any]) [] 0 r33) = f33_4_0 k  := by kernel_rfl
def f33_4_1 (k : Nat) : Option R33 :=
  some ([] ++ [(6 : Int)], true)
theorem f33_4_1_run (k : Nat) : cf3 k R33 33 (A33 ((4), (1))) [] 0 (endR planR (.agg [.ro 3, .any]) [] 0 r33) = f33_4_1 k  := by kernel_rfl
def f33_4_2 (k : Nat) : Option R33 :=
  some ([] ++ [(6 : Int)] ++ [(2 : Int)], true)
theorem f33_4_2_run (k : Nat) : cf3 k R33 33 (A33 ((4), (2))) [] 0 (endR planR (.agg [.ro 3, .any]) [] 0 r33) = f33_4_2 k  := by kernel_rfl
def f33_4_3 (k : Nat) : Option R33 :=
  some ([] ++ [(3 : Int)], true)
theorem f33_4_3_run (k : Nat) : cf3 k R33 33 (A33 ((4), (3))) [] 0 (endR planR (.agg [.ro 3, .any]) [] 0 r33) = f33_4_3 k  := by kernel_rfl
def f33_4_4 (k : Nat) : Option R33 :=
  some ([], true)
theorem f33_4_4_run (k : Nat) : cf3 k R33 33 (A33 ((4), (4))) [] 0 (endR planR (.agg [.ro 3, .any]) [] 0 r33) = f33_4_4 k  := by kernel_rfl
abbrev cfo33 (k : Nat) : CallF := evF Try.prog (dNone 57 (Dl3 k)) (Lm3 k) 200 12
theorem cfo33_ok (k : Nat) : CfOk Try.prog (cfo33 k) := evF_ok noNum mixed (dNone_ok 57 (Dl3_ok k)) (Lm3_ok k) 12
def f33_o (k : Nat) (x0 : Int) (x1 : Int) : Option R33 :=
  br (decide (x0 < (0 : Int)))
   (some ([], false))
   (br (decide (x0 > (4 : Int)))
    (some ([], false))
    (br (decide (x1 < (0 : Int)))
     (some ([], false))
     (br (decide (x1 > (4 : Int)))
      (some ([], false))
      (none))))
theorem f33_o_run (k : Nat) (x0 : Int) (x1 : Int) : cfo33 k R33 33 (A33 (x0, x1)) [] 0 (endR planR (.agg [.ro 3, .any]) [] 0 r33) = f33_o k x0 x1 := by kernel_rfl
def f33 (k : Nat) (x0 : Int) (x1 : Int) : Option R33 :=
  br (x0 == 0 && x1 == 0) (f33_0_0 k ) (br (x0 == 0 && x1 == 1) (f33_0_1 k ) (br (x0 == 0 && x1 == 2) (f33_0_2 k ) (br (x0 == 0 && x1 == 3) (f33_0_3 k ) (br (x0 == 0 && x1 == 4) (f33_0_4 k ) (br (x0 == 1 && x1 == 0) (f33_1_0 k ) (br (x0 == 1 && x1 == 1) (f33_1_1 k ) (br (x0 == 1 && x1 == 2) (f33_1_2 k ) (br (x0 == 1 && x1 == 3) (f33_1_3 k ) (br (x0 == 1 && x1 == 4) (f33_1_4 k ) (br (x0 == 2 && x1 == 0) (f33_2_0 k ) (br (x0 == 2 && x1 == 1) (f33_2_1 k ) (br (x0 == 2 && x1 == 2) (f33_2_2 k ) (br (x0 == 2 && x1 == 3) (f33_2_3 k ) (br (x0 == 2 && x1 == 4) (f33_2_4 k ) (br (x0 == 3 && x1 == 0) (f33_3_0 k ) (br (x0 == 3 && x1 == 1) (f33_3_1 k ) (br (x0 == 3 && x1 == 2) (f33_3_2 k ) (br (x0 == 3 && x1 == 3) (f33_3_3 k ) (br (x0 == 3 && x1 == 4) (f33_3_4 k ) (br (x0 == 4 && x1 == 0) (f33_4_0 k ) (br (x0 == 4 && x1 == 1) (f33_4_1 k ) (br (x0 == 4 && x1 == 2) (f33_4_2 k ) (br (x0 == 4 && x1 == 3) (f33_4_3 k ) (br (x0 == 4 && x1 == 4) (f33_4_4 k ) (f33_o k x0 x1)))))))))))))))))))))))))
def g33 (k : Nat) : CallS := entT d33 (fun p => f33 k p.1 p.2) (elAll _) (fun _ => o33) (fun _ => u33) (fun _ => n33)
theorem g33_ok (k : Nat) : CallSOk Try.prog 33 (g33 k) := entry_le (Hp := fun _ => []) (plan := planR) (kd := .agg [.ro 3, .any]) (dead := []) (decR := fun _ => r33) (oR := fun _ => o33) (uR := fun _ => u33) (nR := fun _ => n33) d33_ok r33_ok (hel := elAll_ok) (by
  intro p z h
  obtain ⟨x0, x1⟩ := p
  replace h : f33 k x0 x1 = some z := h
  unfold f33 at h
  rcases br_some h with ⟨hb, h⟩ | ⟨_, h⟩
  · have hb : x0 = 0 ∧ x1 = 0 := by simpa using hb
    obtain ⟨rfl, rfl⟩ := hb
    exact ⟨_, cf3_ok k, (f33_0_0_run k ).trans h⟩
  rcases br_some h with ⟨hb, h⟩ | ⟨_, h⟩
  · have hb : x0 = 0 ∧ x1 = 1 := by simpa using hb
    obtain ⟨rfl, rfl⟩ := hb
    exact ⟨_, cf3_ok k, (f33_0_1_run k ).trans h⟩
  rcases br_some h with ⟨hb, h⟩ | ⟨_, h⟩
  · have hb : x0 = 0 ∧ x1 = 2 := by simpa using hb
    obtain ⟨rfl, rfl⟩ := hb
    exact ⟨_, cf3_ok k, (f33_0_2_run k ).trans h⟩
  rcases br_some h with ⟨hb, h⟩ | ⟨_, h⟩
  · have hb : x0 = 0 ∧ x1 = 3 := by simpa using hb
    obtain ⟨rfl, rfl⟩ := hb
    exact ⟨_, cf3_ok k, (f33_0_3_run k ).trans h⟩
  rcases br_some h with ⟨hb, h⟩ | ⟨_, h⟩
  · have hb : x0 = 0 ∧ x1 = 4 := by simpa using hb
    obtain ⟨rfl, rfl⟩ := hb
    exact ⟨_, cf3_ok k, (f33_0_4_run k ).trans h⟩
  rcases br_some h with ⟨hb, h⟩ | ⟨_, h⟩
  · have hb : x0 = 1 ∧ x1 = 0 := by simpa using hb
    obtain ⟨rfl, rfl⟩ := hb
    exact ⟨_, cf3_ok k, (f33_1_0_run k ).trans h⟩
  rcases br_some h with ⟨hb, h⟩ | ⟨_, h⟩
  · have hb : x0 = 1 ∧ x1 = 1 := by simpa using hb
    obtain ⟨rfl, rfl⟩ := hb
    exact ⟨_, cf3_ok k, (f33_1_1_run k ).trans h⟩
  rcases br_some h with ⟨hb, h⟩ | ⟨_, h⟩
  · have hb : x0 = 1 ∧ x1 = 2 := by simpa using hb
    obtain ⟨rfl, rfl⟩ := hb
    exact ⟨_, cf3_ok k, (f33_1_2_run k ).trans h⟩
  rcases br_some h with ⟨hb, h⟩ | ⟨_, h⟩
  · have hb : x0 = 1 ∧ x1 = 3 := by simpa using hb
    obtain ⟨rfl, rfl⟩ := hb
    exact ⟨_, cf3_ok k, (f33_1_3_run k ).trans h⟩
  rcases br_some h with ⟨hb, h⟩ | ⟨_, h⟩
  · have hb : x0 = 1 ∧ x1 = 4 := by simpa using hb
    obtain ⟨rfl, rfl⟩ := hb
    exact ⟨_, cf3_ok k, (f33_1_4_run k ).trans h⟩
  rcases br_some h with ⟨hb, h⟩ | ⟨_, h⟩
  · have hb : x0 = 2 ∧ x1 = 0 := by simpa using hb
    obtain ⟨rfl, rfl⟩ := hb
    exact ⟨_, cf3_ok k, (f33_2_0_run k ).trans h⟩
  rcases br_some h with ⟨hb, h⟩ | ⟨_, h⟩
  · have hb : x0 = 2 ∧ x1 = 1 := by simpa using hb
    obtain ⟨rfl, rfl⟩ := hb
    exact ⟨_, cf3_ok k, (f33_2_1_run k ).trans h⟩
  rcases br_some h with ⟨hb, h⟩ | ⟨_, h⟩
  · have hb : x0 = 2 ∧ x1 = 2 := by simpa using hb
    obtain ⟨rfl, rfl⟩ := hb
    exact ⟨_, cf3_ok k, (f33_2_2_run k ).trans h⟩
  rcases br_some h with ⟨hb, h⟩ | ⟨_, h⟩
  · have hb : x0 = 2 ∧ x1 = 3 := by simpa using hb
    obtain ⟨rfl, rfl⟩ := hb
    exact ⟨_, cf3_ok k, (f33_2_3_run k ).trans h⟩
  rcases br_some h with ⟨hb, h⟩ | ⟨_, h⟩
  · have hb : x0 = 2 ∧ x1 = 4 := by simpa using hb
    obtain ⟨rfl, rfl⟩ := hb
    exact ⟨_, cf3_ok k, (f33_2_4_run k ).trans h⟩
  rcases br_some h with ⟨hb, h⟩ | ⟨_, h⟩
  · have hb : x0 = 3 ∧ x1 = 0 := by simpa using hb
    obtain ⟨rfl, rfl⟩ := hb
    exact ⟨_, cf3_ok k, (f33_3_0_run k ).trans h⟩
  rcases br_some h with ⟨hb, h⟩ | ⟨_, h⟩
  · have hb : x0 = 3 ∧ x1 = 1 := by simpa using hb
    obtain ⟨rfl, rfl⟩ := hb
    exact ⟨_, cf3_ok k, (f33_3_1_run k ).trans h⟩
  rcases br_some h with ⟨hb, h⟩ | ⟨_, h⟩
  · have hb : x0 = 3 ∧ x1 = 2 := by simpa using hb
    obtain ⟨rfl, rfl⟩ := hb
    exact ⟨_, cf3_ok k, (f33_3_2_run k ).trans h⟩
  rcases br_some h with ⟨hb, h⟩ | ⟨_, h⟩
  · have hb : x0 = 3 ∧ x1 = 3 := by simpa using hb
    obtain ⟨rfl, rfl⟩ := hb
    exact ⟨_, cf3_ok k, (f33_3_3_run k ).trans h⟩
  rcases br_some h with ⟨hb, h⟩ | ⟨_, h⟩
  · have hb : x0 = 3 ∧ x1 = 4 := by simpa using hb
    obtain ⟨rfl, rfl⟩ := hb
    exact ⟨_, cf3_ok k, (f33_3_4_run k ).trans h⟩
  rcases br_some h with ⟨hb, h⟩ | ⟨_, h⟩
  · have hb : x0 = 4 ∧ x1 = 0 := by simpa using hb
    obtain ⟨rfl, rfl⟩ := hb
    exact ⟨_, cf3_ok k, (f33_4_0_run k ).trans h⟩
  rcases br_some h with ⟨hb, h⟩ | ⟨_, h⟩
  · have hb : x0 = 4 ∧ x1 = 1 := by simpa using hb
    obtain ⟨rfl, rfl⟩ := hb
    exact ⟨_, cf3_ok k, (f33_4_1_run k ).trans h⟩
  rcases br_some h with ⟨hb, h⟩ | ⟨_, h⟩
  · have hb : x0 = 4 ∧ x1 = 2 := by simpa using hb
    obtain ⟨rfl, rfl⟩ := hb
    exact ⟨_, cf3_ok k, (f33_4_2_run k ).trans h⟩
  rcases br_some h with ⟨hb, h⟩ | ⟨_, h⟩
  · have hb : x0 = 4 ∧ x1 = 3 := by simpa using hb
    obtain ⟨rfl, rfl⟩ := hb
    exact ⟨_, cf3_ok k, (f33_4_3_run k ).trans h⟩
  rcases br_some h with ⟨hb, h⟩ | ⟨_, h⟩
  · have hb : x0 = 4 ∧ x1 = 4 := by simpa using hb
    obtain ⟨rfl, rfl⟩ := hb
    exact ⟨_, cf3_ok k, (f33_4_4_run k ).trans h⟩
  exact ⟨_, cfo33_ok k, (f33_o_run k x0 x1).trans h⟩)
def Dl4 (k : Nat) : Delta := dCons 33 (callAt plan [.any, .any] (g33 k)) (Dl3 k)
def Lm4 (k : Nat) : FuncId → Nat → Option LamF := Lm3 k
theorem Dl4_ok (k : Nat) : DeltaOk Try.prog (Dl4 k) := dCons_ok (Dl3_ok k) (g33_ok k)
theorem Lm4_ok (k : Nat) : LamsOk Try.prog (Lm4 k) := Lm3_ok k
abbrev cf4 (k : Nat) : CallF := evF Try.prog (Dl4 k) (Lm4 k) 200 12
theorem cf4_ok (k : Nat) : CfOk Try.prog (cf4 k) := evF_ok noNum mixed (Dl4_ok k) (Lm4_ok k) 12
def Dl5 (k : Nat) : Delta := dCons 38 (callAt plan [.any] (g38)) (Dl4 k)
def Lm5 (k : Nat) : FuncId → Nat → Option LamF := Lm4 k
theorem Dl5_ok (k : Nat) : DeltaOk Try.prog (Dl5 k) := dCons_ok (Dl4_ok k) (g38_ok)
theorem Lm5_ok (k : Nat) : LamsOk Try.prog (Lm5 k) := Lm4_ok k
abbrev cf5 (k : Nat) : CallF := evF Try.prog (Dl5 k) (Lm5 k) 200 12
theorem cf5_ok (k : Nat) : CfOk Try.prog (cf5 k) := evF_ok noNum mixed (Dl5_ok k) (Lm5_ok k) 12
abbrev P27 := List Int
def A27 (p : P27) : List AV := [.dsl 3 p]
def d27 (a : List AV) (H : Heap) : Option P27 := match a, H with
  | [ba0], [] => (match (dslD 3 ba0 : Option (List Int)) with | some a0 => some (a0) | none => none)
  | _, _ => none
theorem d27_ok (a : List AV) (H : Heap) (p : P27) (h : d27 a H = some p) : a = A27 p ∧ H = [] := by
  unfold d27 at h
  split at h
  · skip
    split at h
    · rename_i q
      have q := dslD_ok q
      subst q
      cases h; exact ⟨rfl, rfl⟩
    · cases h
  · cases h
abbrev R27 := List Int
def o27 (r : R27) : AEnd := .ret (.dsl 3 r)
def u27 (r : R27) : Heap := []
def n27 (_ : R27) : Nat := 0
def r27 (o : AEnd) (u : Heap) (n : Nat) : Option R27 := match o, u, n with
  | .ret ba0, [], 0 => (match (dslD 3 ba0 : Option (List Int)) with | some a0 => some (a0) | none => none)
  | _, _, _ => none
theorem r27_ok (p : P27) (o : AEnd) (u : Heap) (n : Nat) (r : R27) (h : r27 o u n = some r) : o = o27 r ∧ u = u27 r ∧ n = n27 r := by
  unfold r27 at h
  split at h
  · skip
    split at h
    · rename_i q
      have q := dslD_ok q
      subst q
      cases h; exact ⟨rfl, rfl, rfl⟩
    · cases h
  · cases h
def f27 (k : Nat) (x0 : List Int) : Option R27 :=
  br (true && decide (List.length x0 * (8 : Nat) ≤ (140737488355328 : Nat)))
   (some x0)
   (none)
theorem f27_run (k : Nat) (x0 : List Int) : cf5 k R27 27 (A27 (x0)) [] 0 (endR planR (.ro 3) [] 0 r27) = f27 k x0 := by kernel_rfl
def g27 (k : Nat) : CallS := entT d27 (fun p => f27 k p) (elAll _) (fun _ => o27) (fun _ => u27) (fun _ => n27)
theorem g27_ok (k : Nat) : CallSOk Try.prog 27 (g27 k) := entry_ok (Hp := fun _ => []) (oR := fun _ => o27) (uR := fun _ => u27) (nR := fun _ => n27) (cf5_ok k) d27_ok r27_ok (hel := elAll_ok) (fun p => f27_run k p)
def Dl6 (k : Nat) : Delta := dCons 27 (callAt plan [.rd 3] (g27 k)) (Dl5 k)
def Lm6 (k : Nat) : FuncId → Nat → Option LamF := Lm5 k
theorem Dl6_ok (k : Nat) : DeltaOk Try.prog (Dl6 k) := dCons_ok (Dl5_ok k) (g27_ok k)
theorem Lm6_ok (k : Nat) : LamsOk Try.prog (Lm6 k) := Lm5_ok k
abbrev cf6 (k : Nat) : CallF := evF Try.prog (Dl6 k) (Lm6 k) 200 12
theorem cf6_ok (k : Nat) : CfOk Try.prog (cf6 k) := evF_ok noNum mixed (Dl6_ok k) (Lm6_ok k) 12
abbrev P28 := Int × Int
def A28 (p : P28) : List AV := [.int .i64 p.1, .int .i64 p.2]
def d28 (a : List AV) (H : Heap) : Option P28 := match a, H with
  | [.int .i64 a0, .int .i64 a1], [] => some (a0, a1)
  | _, _ => none
theorem d28_ok (a : List AV) (H : Heap) (p : P28) (h : d28 a H = some p) : a = A28 p ∧ H = [] := by
  unfold d28 at h
  split at h
  · skip
    cases h; exact ⟨rfl, rfl⟩
  · cases h
abbrev R28 := Int × Bool
def o28 (r : R28) : AEnd := .ret (.tup [.int .i64 r.1, .bool r.2])
def u28 (r : R28) : Heap := []
def n28 (_ : R28) : Nat := 0
def r28 (o : AEnd) (u : Heap) (n : Nat) : Option R28 := match o, u, n with
  | .ret (.tup [.int .i64 a0, .bool a1]), [], 0 => some (a0, a1)
  | _, _, _ => none
theorem r28_ok (p : P28) (o : AEnd) (u : Heap) (n : Nat) (r : R28) (h : r28 o u n = some r) : o = o28 r ∧ u = u28 r ∧ n = n28 r := by
  unfold r28 at h
  split at h
  · skip
    cases h; exact ⟨rfl, rfl, rfl⟩
  · cases h
def f28 (k : Nat) (x0 : Int) (x1 : Int) : Option R28 :=
  br (decide (x0 ≥ (0 : Int)))
   (br (!decide (x0 < (5 : Int)))
    (some ((0 : Int), false))
    (br (decide (x1 < (1 : Int)))
     (some ((0 : Int), false))
     (br (decide (x1 ≥ (7 : Int)))
      (some ((0 : Int), false))
      (br (decide ((0 : Int) ≤ x0 ∧ x0 < (5 : Int)))
       (br (decide ((0 : Int) ≤ x1 ∧ x1 < (7 : Int)))
        (br (List.getD [List.getD [(-1 : Int), (1 : Int), (-1 : Int), (-1 : Int), (-1 : Int), (-1 : Int), (-1 : Int), (-1 : Int), (1 : Int), (2 : Int), (3 : Int), (4 : Int), (0 : Int), (-1 : Int), (-1 : Int), (2 : Int), (-1 : Int), (3 : Int), (4 : Int), (0 : Int), (-1 : Int), (-1 : Int), (1 : Int), (-1 : Int), (-1 : Int), (4 : Int), (0 : Int), (-1 : Int), (-1 : Int), (4 : Int), (-1 : Int), (3 : Int), (-1 : Int), (0 : Int), (1 : Int)] (Int.toNat x0 * (7 : Nat) + nat_lit 0) (0 : Int), List.getD [(-1 : Int), (1 : Int), (-1 : Int), (-1 : Int), (-1 : Int), (-1 : Int), (-1 : Int), (-1 : Int), (1 : Int), (2 : Int), (3 : Int), (4 : Int), (0 : Int), (-1 : Int), (-1 : Int), (2 : Int), (-1 : Int), (3 : Int), (4 : Int), (0 : Int), (-1 : Int), (-1 : Int), (1 : Int), (-1 : Int), (-1 : Int), (4 : Int), (0 : Int), (-1 : Int), (-1 : Int), (4 : Int), (-1 : Int), (3 : Int), (-1 : Int), (0 : Int), (1 : Int)] (Int.toNat x0 * (7 : Nat) + nat_lit 1) (0 : Int), List.getD [(-1 : Int), (1 : Int), (-1 : Int), (-1 : Int), (-1 : Int), (-1 : Int), (-1 : Int), (-1 : Int), (1 : Int), (2 : Int), (3 : Int), (4 : Int), (0 : Int), (-1 : Int), (-1 : Int), (2 : Int), (-1 : Int), (3 : Int), (4 : Int), (0 : Int), (-1 : Int), (-1 : Int), (1 : Int), (-1 : Int), (-1 : Int), (4 : Int), (0 : Int), (-1 : Int), (-1 : Int), (4 : Int), (-1 : Int), (3 : Int), (-1 : Int), (0 : Int), (1 : Int)] (Int.toNat x0 * (7 : Nat) + nat_lit 2) (0 : Int), List.getD [(-1 : Int), (1 : Int), (-1 : Int), (-1 : Int), (-1 : Int), (-1 : Int), (-1 : Int), (-1 : Int), (1 : Int), (2 : Int), (3 : Int), (4 : Int), (0 : Int), (-1 : Int), (-1 : Int), (2 : Int), (-1 : Int), (3 : Int), (4 : Int), (0 : Int), (-1 : Int), (-1 : Int), (1 : Int), (-1 : Int), (-1 : Int), (4 : Int), (0 : Int), (-1 : Int), (-1 : Int), (4 : Int), (-1 : Int), (3 : Int), (-1 : Int), (0 : Int), (1 : Int)] (Int.toNat x0 * (7 : Nat) + nat_lit 3) (0 : Int), List.getD [(-1 : Int), (1 : Int), (-1 : Int), (-1 : Int), (-1 : Int), (-1 : Int), (-1 : Int), (-1 : Int), (1 : Int), (2 : Int), (3 : Int), (4 : Int), (0 : Int), (-1 : Int), (-1 : Int), (2 : Int), (-1 : Int), (3 : Int), (4 : Int), (0 : Int), (-1 : Int), (-1 : Int), (1 : Int), (-1 : Int), (-1 : Int), (4 : Int), (0 : Int), (-1 : Int), (-1 : Int), (4 : Int), (-1 : Int), (3 : Int), (-1 : Int), (0 : Int), (1 : Int)] (Int.toNat x0 * (7 : Nat) + nat_lit 4) (0 : Int), List.getD [(-1 : Int), (1 : Int), (-1 : Int), (-1 : Int), (-1 : Int), (-1 : Int), (-1 : Int), (-1 : Int), (1 : Int), (2 : Int), (3 : Int), (4 : Int), (0 : Int), (-1 : Int), (-1 : Int), (2 : Int), (-1 : Int), (3 : Int), (4 : Int), (0 : Int), (-1 : Int), (-1 : Int), (1 : Int), (-1 : Int), (-1 : Int), (4 : Int), (0 : Int), (-1 : Int), (-1 : Int), (4 : Int), (-1 : Int), (3 : Int), (-1 : Int), (0 : Int), (1 : Int)] (Int.toNat x0 * (7 : Nat) + nat_lit 5) (0 : Int), List.getD [(-1 : Int), (1 : Int), (-1 : Int), (-1 : Int), (-1 : Int), (-1 : Int), (-1 : Int), (-1 : Int), (1 : Int), (2 : Int), (3 : Int), (4 : Int), (0 : Int), (-1 : Int), (-1 : Int), (2 : Int), (-1 : Int), (3 : Int), (4 : Int), (0 : Int), (-1 : Int), (-1 : Int), (1 : Int), (-1 : Int), (-1 : Int), (4 : Int), (0 : Int), (-1 : Int), (-1 : Int), (4 : Int), (-1 : Int), (3 : Int), (-1 : Int), (0 : Int), (1 : Int)] (Int.toNat x0 * (7 : Nat) + nat_lit 6) (0 : Int)] (Int.toNat x1 * (1 : Nat) + nat_lit 0) (0 : Int) != (-1 : Int))
         (some (List.getD [List.getD [(-1 : Int), (1 : Int), (-1 : Int), (-1 : Int), (-1 : Int), (-1 : Int), (-1 : Int), (-1 : Int), (1 : Int), (2 : Int), (3 : Int), (4 : Int), (0 : Int), (-1 : Int), (-1 : Int), (2 : Int), (-1 : Int), (3 : Int), (4 : Int), (0 : Int), (-1 : Int), (-1 : Int), (1 : Int), (-1 : Int), (-1 : Int), (4 : Int), (0 : Int), (-1 : Int), (-1 : Int), (4 : Int), (-1 : Int), (3 : Int), (-1 : Int), (0 : Int), (1 : Int)] (Int.toNat x0 * (7 : Nat) + nat_lit 0) (0 : Int), List.getD [(-1 : Int), (1 : Int), (-1 : Int), (-1 : Int), (-1 : Int), (-1 : Int), (-1 : Int), (-1 : Int), (1 : Int), (2 : Int), (3 : Int), (4 : Int), (0 : Int), (-1 : Int), (-1 : Int), (2 : Int), (-1 : Int), (3 : Int), (4 : Int), (0 : Int), (-1 : Int), (-1 : Int), (1 : Int), (-1 : Int), (-1 : Int), (4 : Int), (0 : Int), (-1 : Int), (-1 : Int), (4 : Int), (-1 : Int), (3 : Int), (-1 : Int), (0 : Int), (1 : Int)] (Int.toNat x0 * (7 : Nat) + nat_lit 1) (0 : Int), List.getD [(-1 : Int), (1 : Int), (-1 : Int), (-1 : Int), (-1 : Int), (-1 : Int), (-1 : Int), (-1 : Int), (1 : Int), (2 : Int), (3 : Int), (4 : Int), (0 : Int), (-1 : Int), (-1 : Int), (2 : Int), (-1 : Int), (3 : Int), (4 : Int), (0 : Int), (-1 : Int), (-1 : Int), (1 : Int), (-1 : Int), (-1 : Int), (4 : Int), (0 : Int), (-1 : Int), (-1 : Int), (4 : Int), (-1 : Int), (3 : Int), (-1 : Int), (0 : Int), (1 : Int)] (Int.toNat x0 * (7 : Nat) + nat_lit 2) (0 : Int), List.getD [(-1 : Int), (1 : Int), (-1 : Int), (-1 : Int), (-1 : Int), (-1 : Int), (-1 : Int), (-1 : Int), (1 : Int), (2 : Int), (3 : Int), (4 : Int), (0 : Int), (-1 : Int), (-1 : Int), (2 : Int), (-1 : Int), (3 : Int), (4 : Int), (0 : Int), (-1 : Int), (-1 : Int), (1 : Int), (-1 : Int), (-1 : Int), (4 : Int), (0 : Int), (-1 : Int), (-1 : Int), (4 : Int), (-1 : Int), (3 : Int), (-1 : Int), (0 : Int), (1 : Int)] (Int.toNat x0 * (7 : Nat) + nat_lit 3) (0 : Int), List.getD [(-1 : Int), (1 : Int), (-1 : Int), (-1 : Int), (-1 : Int), (-1 : Int), (-1 : Int), (-1 : Int), (1 : Int), (2 : Int), (3 : Int), (4 : Int), (0 : Int), (-1 : Int), (-1 : Int), (2 : Int), (-1 : Int), (3 : Int), (4 : Int), (0 : Int), (-1 : Int), (-1 : Int), (1 : Int), (-1 : Int), (-1 : Int), (4 : Int), (0 : Int), (-1 : Int), (-1 : Int), (4 : Int), (-1 : Int), (3 : Int), (-1 : Int), (0 : Int), (1 : Int)] (Int.toNat x0 * (7 : Nat) + nat_lit 4) (0 : Int), List.getD [(-1 : Int), (1 : Int), (-1 : Int), (-1 : Int), (-1 : Int), (-1 : Int), (-1 : Int), (-1 : Int), (1 : Int), (2 : Int), (3 : Int), (4 : Int), (0 : Int), (-1 : Int), (-1 : Int), (2 : Int), (-1 : Int), (3 : Int), (4 : Int), (0 : Int), (-1 : Int), (-1 : Int), (1 : Int), (-1 : Int), (-1 : Int), (4 : Int), (0 : Int), (-1 : Int), (-1 : Int), (4 : Int), (-1 : Int), (3 : Int), (-1 : Int), (0 : Int), (1 : Int)] (Int.toNat x0 * (7 : Nat) + nat_lit 5) (0 : Int), List.getD [(-1 : Int), (1 : Int), (-1 : Int), (-1 : Int), (-1 : Int), (-1 : Int), (-1 : Int), (-1 : Int), (1 : Int), (2 : Int), (3 : Int), (4 : Int), (0 : Int), (-1 : Int), (-1 : Int), (2 : Int), (-1 : Int), (3 : Int), (4 : Int), (0 : Int), (-1 : Int), (-1 : Int), (1 : Int), (-1 : Int), (-1 : Int), (4 : Int), (0 : Int), (-1 : Int), (-1 : Int), (4 : Int), (-1 : Int), (3 : Int), (-1 : Int), (0 : Int), (1 : Int)] (Int.toNat x0 * (7 : Nat) + nat_lit 6) (0 : Int)] (Int.toNat x1 * (1 : Nat) + nat_lit 0) (0 : Int), true))
         (some ((0 : Int), false)))
        (none))
       (none)))))
   (some ((0 : Int), false))
theorem f28_run (k : Nat) (x0 : Int) (x1 : Int) : cf6 k R28 28 (A28 (x0, x1)) [] 0 (endR planR (.any) [] 0 r28) = f28 k x0 x1 := by kernel_rfl
def g28 (k : Nat) : CallS := entT d28 (fun p => f28 k p.1 p.2) (elAll _) (fun _ => o28) (fun _ => u28) (fun _ => n28)
theorem g28_ok (k : Nat) : CallSOk Try.prog 28 (g28 k) := entry_ok (Hp := fun _ => []) (oR := fun _ => o28) (uR := fun _ => u28) (nR := fun _ => n28) (cf6_ok k) d28_ok r28_ok (hel := elAll_ok) (fun p => f28_run k p.1 p.2)
def Dl7 (k : Nat) : Delta := dCons 28 (callAt plan [.any, .any] (g28 k)) (Dl6 k)
def Lm7 (k : Nat) : FuncId → Nat → Option LamF := Lm6 k
theorem Dl7_ok (k : Nat) : DeltaOk Try.prog (Dl7 k) := dCons_ok (Dl6_ok k) (g28_ok k)
theorem Lm7_ok (k : Nat) : LamsOk Try.prog (Lm7 k) := Lm6_ok k
abbrev cf7 (k : Nat) : CallF := evF Try.prog (Dl7 k) (Lm7 k) 200 12
theorem cf7_ok (k : Nat) : CfOk Try.prog (cf7 k) := evF_ok noNum mixed (Dl7_ok k) (Lm7_ok k) 12
abbrev P29 := Int × Int
def A29 (p : P29) : List AV := [.int .i64 p.1, .int .i64 p.2]
def d29 (a : List AV) (H : Heap) : Option P29 := match a, H with
  | [.int .i64 a0, .int .i64 a1], [] => some (a0, a1)
  | _, _ => none
theorem d29_ok (a : List AV) (H : Heap) (p : P29) (h : d29 a H = some p) : a = A29 p ∧ H = [] := by
  unfold d29 at h
  split at h
  · skip
    cases h; exact ⟨rfl, rfl⟩
  · cases h
abbrev R29 := Int × Bool
def o29 (r : R29) : AEnd := .ret (.tup [.int .i64 r.1, .bool r.2])
def u29 (r : R29) : Heap := []
def n29 (_ : R29) : Nat := 0
def r29 (o : AEnd) (u : Heap) (n : Nat) : Option R29 := match o, u, n with
  | .ret (.tup [.int .i64 a0, .bool a1]), [], 0 => some (a0, a1)
  | _, _, _ => none
theorem r29_ok (p : P29) (o : AEnd) (u : Heap) (n : Nat) (r : R29) (h : r29 o u n = some r) : o = o29 r ∧ u = u29 r ∧ n = n29 r := by
  unfold r29 at h
  split at h
  · skip
    cases h; exact ⟨rfl, rfl, rfl⟩
  · cases h
def f29 (k : Nat) (x0 : Int) (x1 : Int) : Option R29 :=
  br (decide (x0 < (0 : Int)))
   (some ((0 : Int), false))
   (br (decide (x0 > (4 : Int)))
    (some ((0 : Int), false))
    (br (x1 == (1 : Int))
     (br (x0 == (2 : Int))
      (some (x0, true))
      (br (x0 == (4 : Int))
       (some (x0, true))
       (some ((1 : Int), true))))
     (br (x1 == (2 : Int))
      (br (x0 == (1 : Int))
       (some ((2 : Int), true))
       (some ((0 : Int), false)))
      (br (x1 == (3 : Int))
       (br (x0 == (1 : Int))
        (some ((3 : Int), true))
        (br (x0 == (2 : Int))
         (some ((3 : Int), true))
         (br (x0 == (4 : Int))
          (some ((3 : Int), true))
          (some ((0 : Int), false)))))
       (br (x1 == (4 : Int))
        (br (x0 == (1 : Int))
         (some ((4 : Int), true))
         (br (x0 == (2 : Int))
          (some ((4 : Int), true))
          (br (x0 == (3 : Int))
           (some ((4 : Int), true))
           (some ((0 : Int), false)))))
        (br (x1 == (5 : Int))
         (some ((0 : Int), x0 != (0 : Int)))
         (br (x1 == (6 : Int))
          (br (x0 == (4 : Int))
           (some ((1 : Int), true))
           (some ((0 : Int), false)))
          (some ((0 : Int), false)))))))))
theorem f29_run (k : Nat) (x0 : Int) (x1 : Int) : cf7 k R29 29 (A29 (x0, x1)) [] 0 (endR planR (.any) [] 0 r29) = f29 k x0 x1 := by kernel_rfl
def g29 (k : Nat) : CallS := entT d29 (fun p => f29 k p.1 p.2) (elAll _) (fun _ => o29) (fun _ => u29) (fun _ => n29)
theorem g29_ok (k : Nat) : CallSOk Try.prog 29 (g29 k) := entry_ok (Hp := fun _ => []) (oR := fun _ => o29) (uR := fun _ => u29) (nR := fun _ => n29) (cf7_ok k) d29_ok r29_ok (hel := elAll_ok) (fun p => f29_run k p.1 p.2)
def Dl8 (k : Nat) : Delta := dCons 29 (callAt plan [.any, .any] (g29 k)) (Dl7 k)
def Lm8 (k : Nat) : FuncId → Nat → Option LamF := Lm7 k
theorem Dl8_ok (k : Nat) : DeltaOk Try.prog (Dl8 k) := dCons_ok (Dl7_ok k) (g29_ok k)
theorem Lm8_ok (k : Nat) : LamsOk Try.prog (Lm8 k) := Lm7_ok k
abbrev cf8 (k : Nat) : CallF := evF Try.prog (Dl8 k) (Lm8 k) 200 12
theorem cf8_ok (k : Nat) : CfOk Try.prog (cf8 k) := evF_ok noNum mixed (Dl8_ok k) (Lm8_ok k) 12
abbrev P30 := Int × List Int
def A30 (p : P30) : List AV := [.int .i64 p.1, .dsl 3 p.2]
def d30 (a : List AV) (H : Heap) : Option P30 := match a, H with
  | [.int .i64 a0, ba1], [] => (match (dslD 3 ba1 : Option (List Int)) with | some a1 => some (a0, a1) | none => none)
  | _, _ => none
theorem d30_ok (a : List AV) (H : Heap) (p : P30) (h : d30 a H = some p) : a = A30 p ∧ H = [] := by
  unfold d30 at h
  split at h
  · skip
    split at h
    · rename_i q
      have q := dslD_ok q
      subst q
      cases h; exact ⟨rfl, rfl⟩
    · cases h
  · cases h
abbrev R30 := Int × Int
def o30 (r : R30) : AEnd := .ret (.tup [.int .i64 r.1, .int .i64 r.2])
def u30 (r : R30) : Heap := []
def n30 (_ : R30) : Nat := 0
def r30 (o : AEnd) (u : Heap) (n : Nat) : Option R30 := match o, u, n with
  | .ret (.tup [.int .i64 a0, .int .i64 a1]), [], 0 => some (a0, a1)
  | _, _, _ => none
theorem r30_ok (p : P30) (o : AEnd) (u : Heap) (n : Nat) (r : R30) (h : r30 o u n = some r) : o = o30 r ∧ u = u30 r ∧ n = n30 r := by
  unfold r30 at h
  split at h
  · skip
    cases h; exact ⟨rfl, rfl, rfl⟩
  · cases h
structure S30_0 where
  mk ::
  x0 : Int
  x6 : Int
  x11 : List Int
  x12 : Int
  x13 : Int
def VS30_0 (s : S30_0) : List AV := [.int .i64 s.x0, .int .i64 s.x6, .dsl 3 s.x11, .int .i64 s.x12, .int .i64 s.x13]
def HS30_0 (s : S30_0) : Heap := []
def dS30_0 (vs : List AV) (H : Heap) : Option S30_0 := match vs, H with
  | [.int .i64 x0, .int .i64 x6, bx11, .int .i64 x12, .int .i64 x13], [] => (match (dslD 3 bx11 : Option (List Int)) with | some x11 => some (⟨x0, x6, x11, x12, x13⟩ : S30_0) | none => none)
  | _, _ => none
theorem dS30_0_ok (vs : List AV) (H : Heap) (s : S30_0) (h : dS30_0 vs H = some s) : vs = VS30_0 s ∧ H = HS30_0 s := by
  unfold dS30_0 at h
  split at h
  · skip
    split at h
    · rename_i q
      have q := dslD_ok q
      subst q
      cases h; exact ⟨rfl, rfl⟩
    · cases h
  · cases h
def tS30_0 : AExit → List (Nat × Kd) := fun x => match x with
  | .normal => [(0, .any), (6, .any), (11, .rd 3), (12, .any), (13, .any)]
  | .exit i => (match i with | 0 => [(0, .any), (6, .any)] | _ => [])
  | .ret => [(4, .any), (5, .any)]
  | _ => []
structure E30_0 where
  mk ::
  x0 : Int
  x6 : Int
def VE30_0 (s : E30_0) : List AV := [.int .i64 s.x0, .int .i64 s.x6]
def HE30_0 (s : E30_0) : Heap := []
def dE30_0 (x : AExit) (vs : List AV) (H : Heap) : Option E30_0 := match x, vs, H with
  | .exit 0, [.int .i64 x0, .int .i64 x6], [] => some (⟨x0, x6⟩ : E30_0)
  | _, _, _ => none
theorem dE30_0_ok (x : AExit) (vs : List AV) (H : Heap) (s : E30_0) (h : dE30_0 x vs H = some s) : x = .exit 0 ∧ vs = VE30_0 s ∧ H = HE30_0 s := by
  unfold dE30_0 at h
  split at h
  · skip
    cases h; exact ⟨rfl, rfl, rfl⟩
  · cases h
def xE30_0 (_ : E30_0) : AExit := .exit 0
def pS30_0 (k : Nat) (s : S30_0) : Option (S30_0 ⊕ E30_0) :=
  br (decide (S30_0.x13 s < S30_0.x12 s))
   (br (decide ((0 : Int) ≤ S30_0.x13 s ∧ S30_0.x13 s < (↑(List.length (S30_0.x11 s)) : Int)))
    (bindO (f28 k (S30_0.x0 s) (List.getD (S30_0.x11 s) (Int.toNat (S30_0.x13 s)) (0 : Int))) fun r1500 =>
     br (Prod.snd r1500)
      (some (Sum.inl (S30_0.mk (Prod.fst r1500) (IntKind.wrap IntKind.i64 (S30_0.x6 s + (1 : Int))) (S30_0.x11 s) (S30_0.x12 s) (IntKind.wrap IntKind.i64 (S30_0.x13 s + (1 : Int))))))
      (some (Sum.inl (S30_0.mk (S30_0.x0 s) (S30_0.x6 s) (S30_0.x11 s) (S30_0.x12 s) (IntKind.wrap IntKind.i64 (S30_0.x13 s + (1 : Int)))))))
    (none))
   (some (Sum.inr (E30_0.mk (S30_0.x0 s) (S30_0.x6 s))))
theorem pS30_0_run (k : Nat) (s : S30_0) : evC (S30_0 ⊕ E30_0) Try.prog (ntmpsAt Try.prog 30) (cf8 k) ((Lm8 k) 30) 200 (loopAt Try.prog 30 0) (zipE [(0, .any), (6, .any), (11, .rd 3), (12, .any), (13, .any)] (VS30_0 s)) (HS30_0 s) (List.length (HS30_0 s)) (cutS plan 0 tS30_0 (rndT dS30_0 dE30_0)) = pS30_0 k s := by kernel_rfl
def l30_0 (k : Nat) (s : S30_0) : Option E30_0 := iterT (pS30_0 k) k s
def m30_0 (k : Nat) : LamS := lamT 0 dS30_0 (l30_0 k) (elAll _) tS30_0 xE30_0 VE30_0 HE30_0
theorem loop30_0 : isLoopAt Try.prog 30 0 = true := by kernel_rfl
theorem m30_0_ok (k : Nat) : LamSOk Try.prog (ntmpsAt Try.prog 30) 0 (.block 0 (.loop (loopAt Try.prog 30 0))) [(0, .any), (6, .any), (11, .rd 3), (12, .any), (13, .any)] (m30_0 k) := lamT_ok (plan := plan) (kb := 0) (body_run noNum mixed (cf8_ok k) (Lm8_ok k) loop30_0) rfl dS30_0_ok dE30_0_ok (hel := elAll_ok) (pS30_0_run k) k
def Dl9 (k : Nat) : Delta := Dl8 k
def Lm9 (k : Nat) : FuncId → Nat → Option LamF := lCons 30 0 (lamBy plan [14, 15, 16, 8, 18, 19, 20, 17, 21, 22, 9, 10, 23, 24, 0, 25, 26, 6, 27, 13] [(0, .any), (6, .any), (11, .rd 3), (12, .any), (13, .any)] 0 (m30_0 k)) (Lm8 k)
theorem Dl9_ok (k : Nat) : DeltaOk Try.prog (Dl9 k) := Dl8_ok k
theorem Lm9_ok (k : Nat) : LamsOk Try.prog (Lm9 k) := lCons_ok (Lm8_ok k) loop30_0 (lamBy_ok (m30_0_ok k) (by kernel_rfl))
abbrev cf9 (k : Nat) : CallF := evF Try.prog (Dl9 k) (Lm9 k) 200 12
theorem cf9_ok (k : Nat) : CfOk Try.prog (cf9 k) := evF_ok noNum mixed (Dl9_ok k) (Lm9_ok k) 12
def f30 (k : Nat) (x0 : Int) (x1 : List Int) : Option R30 :=
  bindO (l30_0 k (S30_0.mk x0 (0 : Int) x1 (↑(List.length x1) : Int) (0 : Int))) fun r3000 =>
   some (E30_0.x0 r3000, E30_0.x6 r3000)
theorem f30_run (k : Nat) (x0 : Int) (x1 : List Int) : cf9 k R30 30 (A30 (x0, x1)) [] 0 (endR planR (.any) [] 0 r30) = f30 k x0 x1 := by kernel_rfl
def g30 (k : Nat) : CallS := entT d30 (fun p => f30 k p.1 p.2) (elAll _) (fun _ => o30) (fun _ => u30) (fun _ => n30)
theorem g30_ok (k : Nat) : CallSOk Try.prog 30 (g30 k) := entry_ok (Hp := fun _ => []) (oR := fun _ => o30) (uR := fun _ => u30) (nR := fun _ => n30) (cf9_ok k) d30_ok r30_ok (hel := elAll_ok) (fun p => f30_run k p.1 p.2)
def Dl10 (k : Nat) : Delta := dCons 30 (callAt plan [.any, .rd 3] (g30 k)) (Dl9 k)
def Lm10 (k : Nat) : FuncId → Nat → Option LamF := Lm9 k
theorem Dl10_ok (k : Nat) : DeltaOk Try.prog (Dl10 k) := dCons_ok (Dl9_ok k) (g30_ok k)
theorem Lm10_ok (k : Nat) : LamsOk Try.prog (Lm10 k) := Lm9_ok k
abbrev cf10 (k : Nat) : CallF := evF Try.prog (Dl10 k) (Lm10 k) 200 12
theorem cf10_ok (k : Nat) : CfOk Try.prog (cf10 k) := evF_ok noNum mixed (Dl10_ok k) (Lm10_ok k) 12
abbrev P31 := Int × List Int
def A31 (p : P31) : List AV := [.int .i64 p.1, .dsl 3 p.2]
def d31 (a : List AV) (H : Heap) : Option P31 := match a, H with
  | [.int .i64 a0, ba1], [] => (match (dslD 3 ba1 : Option (List Int)) with | some a1 => some (a0, a1) | none => none)
  | _, _ => none
theorem d31_ok (a : List AV) (H : Heap) (p : P31) (h : d31 a H = some p) : a = A31 p ∧ H = [] := by
  unfold d31 at h
  split at h
  · skip
    split at h
    · rename_i q
      have q := dslD_ok q
      subst q
      cases h; exact ⟨rfl, rfl⟩
    · cases h
  · cases h
abbrev R31 := Int × Int
def o31 (r : R31) : AEnd := .ret (.tup [.int .i64 r.1, .int .i64 r.2])
def u31 (r : R31) : Heap := []
def n31 (_ : R31) : Nat := 0
def r31 (o : AEnd) (u : Heap) (n : Nat) : Option R31 := match o, u, n with
  | .ret (.tup [.int .i64 a0, .int .i64 a1]), [], 0 => some (a0, a1)
  | _, _, _ => none
theorem r31_ok (p : P31) (o : AEnd) (u : Heap) (n : Nat) (r : R31) (h : r31 o u n = some r) : o = o31 r ∧ u = u31 r ∧ n = n31 r := by
  unfold r31 at h
  split at h
  · skip
    cases h; exact ⟨rfl, rfl, rfl⟩
  · cases h
structure S31_0 where
  mk ::
  x0 : Int
  x1 : List Int
  x6 : Int
  x7 : Int
def VS31_0 (s : S31_0) : List AV := [.int .i64 s.x0, .dsl 3 s.x1, .int .i64 s.x6, .int .i64 s.x7]
def HS31_0 (s : S31_0) : Heap := []
def dS31_0 (vs : List AV) (H : Heap) : Option S31_0 := match vs, H with
  | [.int .i64 x0, bx1, .int .i64 x6, .int .i64 x7], [] => (match (dslD 3 bx1 : Option (List Int)) with | some x1 => some (⟨x0, x1, x6, x7⟩ : S31_0) | none => none)
  | _, _ => none
theorem dS31_0_ok (vs : List AV) (H : Heap) (s : S31_0) (h : dS31_0 vs H = some s) : vs = VS31_0 s ∧ H = HS31_0 s := by
  unfold dS31_0 at h
  split at h
  · skip
    split at h
    · rename_i q
      have q := dslD_ok q
      subst q
      cases h; exact ⟨rfl, rfl⟩
    · cases h
  · cases h
def tS31_0 : AExit → List (Nat × Kd) := fun x => match x with
  | .normal => [(0, .any), (1, .rd 3), (6, .any), (7, .any)]
  | .exit i => (match i with | 0 => [(0, .any), (6, .any)] | _ => [])
  | .ret => [(4, .any), (5, .any)]
  | _ => []
structure E31_0 where
  mk ::
  x0 : Int
  x6 : Int
def VE31_0 (s : E31_0) : List AV := [.int .i64 s.x0, .int .i64 s.x6]
def HE31_0 (s : E31_0) : Heap := []
def dE31_0 (x : AExit) (vs : List AV) (H : Heap) : Option E31_0 := match x, vs, H with
  | .exit 0, [.int .i64 x0, .int .i64 x6], [] => some (⟨x0, x6⟩ : E31_0)
  | _, _, _ => none
theorem dE31_0_ok (x : AExit) (vs : List AV) (H : Heap) (s : E31_0) (h : dE31_0 x vs H = some s) : x = .exit 0 ∧ vs = VE31_0 s ∧ H = HE31_0 s := by
  unfold dE31_0 at h
  split at h
  · skip
    cases h; exact ⟨rfl, rfl, rfl⟩
  · cases h
def xE31_0 (_ : E31_0) : AExit := .exit 0
def pS31_0 (k : Nat) (s : S31_0) : Option (S31_0 ⊕ E31_0) :=
  br (decide (S31_0.x7 s < (↑(List.length (S31_0.x1 s)) : Int)))
   (br (decide ((0 : Int) ≤ S31_0.x7 s ∧ S31_0.x7 s < (↑(List.length (S31_0.x1 s)) : Int)))
    (bindO (f29 k (S31_0.x0 s) (List.getD (S31_0.x1 s) (Int.toNat (S31_0.x7 s)) (0 : Int))) fun r1500 =>
     br (Prod.snd r1500)
      (some (Sum.inl (S31_0.mk (Prod.fst r1500) (S31_0.x1 s) (IntKind.wrap IntKind.i64 (S31_0.x6 s + (1 : Int))) (IntKind.wrap IntKind.i64 (S31_0.x7 s + (1 : Int))))))
      (some (Sum.inl (S31_0.mk (S31_0.x0 s) (S31_0.x1 s) (S31_0.x6 s) (IntKind.wrap IntKind.i64 (S31_0.x7 s + (1 : Int)))))))
    (none))
   (some (Sum.inr (E31_0.mk (S31_0.x0 s) (S31_0.x6 s))))
theorem pS31_0_run (k : Nat) (s : S31_0) : evC (S31_0 ⊕ E31_0) Try.prog (ntmpsAt Try.prog 31) (cf10 k) ((Lm10 k) 31) 200 (loopAt Try.prog 31 0) (zipE [(0, .any), (1, .rd 3), (6, .any), (7, .any)] (VS31_0 s)) (HS31_0 s) (List.length (HS31_0 s)) (cutS plan 0 tS31_0 (rndT dS31_0 dE31_0)) = pS31_0 k s := by kernel_rfl
def l31_0 (k : Nat) (s : S31_0) : Option E31_0 := iterT (pS31_0 k) k s
def m31_0 (k : Nat) : LamS := lamT 0 dS31_0 (l31_0 k) (elAll _) tS31_0 xE31_0 VE31_0 HE31_0
theorem loop31_0 : isLoopAt Try.prog 31 0 = true := by kernel_rfl
theorem m31_0_ok (k : Nat) : LamSOk Try.prog (ntmpsAt Try.prog 31) 0 (.block 0 (.loop (loopAt Try.prog 31 0))) [(0, .any), (1, .rd 3), (6, .any), (7, .any)] (m31_0 k) := lamT_ok (plan := plan) (kb := 0) (body_run noNum mixed (cf10_ok k) (Lm10_ok k) loop31_0) rfl dS31_0_ok dE31_0_ok (hel := elAll_ok) (pS31_0_run k) k
def Dl11 (k : Nat) : Delta := Dl10 k
def Lm11 (k : Nat) : FuncId → Nat → Option LamF := lCons 31 0 (lamBy plan [10, 11, 12, 13, 17, 18, 19, 20, 21, 22, 16, 23, 24, 8, 9, 25, 26, 0, 27, 28, 6, 14, 15, 7] [(0, .any), (1, .rd 3), (6, .any), (7, .any)] 0 (m31_0 k)) (Lm10 k)
theorem Dl11_ok (k : Nat) : DeltaOk Try.prog (Dl11 k) := Dl10_ok k
theorem Lm11_ok (k : Nat) : LamsOk Try.prog (Lm11 k) := lCons_ok (Lm10_ok k) loop31_0 (lamBy_ok (m31_0_ok k) (by kernel_rfl))
abbrev cf11 (k : Nat) : CallF := evF Try.prog (Dl11 k) (Lm11 k) 200 12
theorem cf11_ok (k : Nat) : CfOk Try.prog (cf11 k) := evF_ok noNum mixed (Dl11_ok k) (Lm11_ok k) 12
def f31 (k : Nat) (x0 : Int) (x1 : List Int) : Option R31 :=
  bindO (l31_0 k (S31_0.mk x0 x1 (0 : Int) (0 : Int))) fun r3000 =>
   some (E31_0.x0 r3000, E31_0.x6 r3000)
theorem f31_run (k : Nat) (x0 : Int) (x1 : List Int) : cf11 k R31 31 (A31 (x0, x1)) [] 0 (endR planR (.any) [] 0 r31) = f31 k x0 x1 := by kernel_rfl
def g31 (k : Nat) : CallS := entT d31 (fun p => f31 k p.1 p.2) (elAll _) (fun _ => o31) (fun _ => u31) (fun _ => n31)
theorem g31_ok (k : Nat) : CallSOk Try.prog 31 (g31 k) := entry_ok (Hp := fun _ => []) (oR := fun _ => o31) (uR := fun _ => u31) (nR := fun _ => n31) (cf11_ok k) d31_ok r31_ok (hel := elAll_ok) (fun p => f31_run k p.1 p.2)
def Dl12 (k : Nat) : Delta := dCons 31 (callAt plan [.any, .rd 3] (g31 k)) (Dl11 k)
def Lm12 (k : Nat) : FuncId → Nat → Option LamF := Lm11 k
theorem Dl12_ok (k : Nat) : DeltaOk Try.prog (Dl12 k) := dCons_ok (Dl11_ok k) (g31_ok k)
theorem Lm12_ok (k : Nat) : LamsOk Try.prog (Lm12 k) := Lm11_ok k
abbrev cf12 (k : Nat) : CallF := evF Try.prog (Dl12 k) (Lm12 k) 200 12
theorem cf12_ok (k : Nat) : CfOk Try.prog (cf12 k) := evF_ok noNum mixed (Dl12_ok k) (Lm12_ok k) 12
abbrev P34 := Int
def A34 (p : P34) : List AV := [.int .i64 p]
def d34 (a : List AV) (H : Heap) : Option P34 := match a, H with
  | [.int .i64 a0], [] => some (a0)
  | _, _ => none
theorem d34_ok (a : List AV) (H : Heap) (p : P34) (h : d34 a H = some p) : a = A34 p ∧ H = [] := by
  unfold d34 at h
  split at h
  · skip
    cases h; exact ⟨rfl, rfl⟩
  · cases h
abbrev R34 := ByteArray × Bool
def o34 (r : R34) : AEnd := .ret (.tup [.str r.1, .bool r.2])
def u34 (r : R34) : Heap := []
def n34 (_ : R34) : Nat := 0
def r34 (o : AEnd) (u : Heap) (n : Nat) : Option R34 := match o, u, n with
  | .ret (.tup [.str a0, .bool a1]), [], 0 => some (a0, a1)
  | _, _, _ => none
theorem r34_ok (p : P34) (o : AEnd) (u : Heap) (n : Nat) (r : R34) (h : r34 o u n = some r) : o = o34 r ∧ u = u34 r ∧ n = n34 r := by
  unfold r34 at h
  split at h
  · skip
    cases h; exact ⟨rfl, rfl, rfl⟩
  · cases h
def f34 (k : Nat) (x0 : Int) : Option R34 :=
  br (decide (x0 ≥ (0 : Int)))
   (br (!decide (x0 < (5 : Int)))
    (some (ByteArray.mk #[], false))
    (br (decide ((0 : Int) ≤ x0 ∧ x0 < (5 : Int)))
     (some (List.getD [ByteArray.mk #[(113 : UInt8), (117 : UInt8), (105 : UInt8), (101 : UInt8), (116 : UInt8)], ByteArray.mk #[(114 : UInt8), (97 : UInt8), (105 : UInt8), (115 : UInt8), (101 : UInt8), (100 : UInt8)], ByteArray.mk #[(101 : UInt8), (115 : UInt8), (99 : UInt8), (97 : UInt8), (108 : UInt8), (97 : UInt8), (116 : UInt8), (101 : UInt8), (100 : UInt8)], ByteArray.mk #[(97 : UInt8), (99 : UInt8), (107 : UInt8), (101 : UInt8), (100 : UInt8)], ByteArray.mk #[(115 : UInt8), (105 : UInt8), (108 : UInt8), (101 : UInt8), (110 : UInt8), (99 : UInt8), (101 : UInt8), (100 : UInt8)]] (Int.toNat x0 * (1 : Nat) + nat_lit 0) default, true))
     (none)))
   (some (ByteArray.mk #[], false))
theorem f34_run (k : Nat) (x0 : Int) : cf12 k R34 34 (A34 (x0)) [] 0 (endR planR (.any) [] 0 r34) = f34 k x0 := by kernel_rfl
def g34 (k : Nat) : CallS := entT d34 (fun p => f34 k p) (elAll _) (fun _ => o34) (fun _ => u34) (fun _ => n34)
theorem g34_ok (k : Nat) : CallSOk Try.prog 34 (g34 k) := entry_ok (Hp := fun _ => []) (oR := fun _ => o34) (uR := fun _ => u34) (nR := fun _ => n34) (cf12_ok k) d34_ok r34_ok (hel := elAll_ok) (fun p => f34_run k p)
def Dl13 (k : Nat) : Delta := dCons 34 (callAt plan [.any] (g34 k)) (Dl12 k)
def Lm13 (k : Nat) : FuncId → Nat → Option LamF := Lm12 k
theorem Dl13_ok (k : Nat) : DeltaOk Try.prog (Dl13 k) := dCons_ok (Dl12_ok k) (g34_ok k)
theorem Lm13_ok (k : Nat) : LamsOk Try.prog (Lm13 k) := Lm12_ok k
abbrev cf13 (k : Nat) : CallF := evF Try.prog (Dl13 k) (Lm13 k) 200 12
theorem cf13_ok (k : Nat) : CfOk Try.prog (cf13 k) := evF_ok noNum mixed (Dl13_ok k) (Lm13_ok k) 12
abbrev P35 := Int
def A35 (p : P35) : List AV := [.int .i64 p]
def d35 (a : List AV) (H : Heap) : Option P35 := match a, H with
  | [.int .i64 a0], [] => some (a0)
  | _, _ => none
theorem d35_ok (a : List AV) (H : Heap) (p : P35) (h : d35 a H = some p) : a = A35 p ∧ H = [] := by
  unfold d35 at h
  split at h
  · skip
    cases h; exact ⟨rfl, rfl⟩
  · cases h
abbrev R35 := ByteArray × Bool
def o35 (r : R35) : AEnd := .ret (.tup [.str r.1, .bool r.2])
def u35 (r : R35) : Heap := []
def n35 (_ : R35) : Nat := 0
def r35 (o : AEnd) (u : Heap) (n : Nat) : Option R35 := match o, u, n with
  | .ret (.tup [.str a0, .bool a1]), [], 0 => some (a0, a1)
  | _, _, _ => none
theorem r35_ok (p : P35) (o : AEnd) (u : Heap) (n : Nat) (r : R35) (h : r35 o u n = some r) : o = o35 r ∧ u = u35 r ∧ n = n35 r := by
  unfold r35 at h
  split at h
  · skip
    cases h; exact ⟨rfl, rfl, rfl⟩
  · cases h
def f35 (k : Nat) (x0 : Int) : Option R35 :=
  br (decide (x0 < (0 : Int)))
   (some (ByteArray.mk #[], false))
   (br (decide (x0 ≥ (5 : Int)))
    (some (ByteArray.mk #[], false))
    (br (decide ((0 : Int) ≤ x0 ∧ x0 < (5 : Int)))
     (br (decide (Int.toNat x0 < (5 : Nat)))
      (some (List.getD [ByteArray.mk #[(113 : UInt8), (117 : UInt8), (105 : UInt8), (101 : UInt8), (116 : UInt8)], ByteArray.mk #[(114 : UInt8), (97 : UInt8), (105 : UInt8), (115 : UInt8), (101 : UInt8), (100 : UInt8)], ByteArray.mk #[(101 : UInt8), (115 : UInt8), (99 : UInt8), (97 : UInt8), (108 : UInt8), (97 : UInt8), (116 : UInt8), (101 : UInt8), (100 : UInt8)], ByteArray.mk #[(97 : UInt8), (99 : UInt8), (107 : UInt8), (101 : UInt8), (100 : UInt8)], ByteArray.mk #[(115 : UInt8), (105 : UInt8), (108 : UInt8), (101 : UInt8), (110 : UInt8), (99 : UInt8), (101 : UInt8), (100 : UInt8)]] (Int.toNat x0) default, true))
      (none))
     (none)))
theorem f35_run (k : Nat) (x0 : Int) : cf13 k R35 35 (A35 (x0)) [] 0 (endR planR (.any) [] 0 r35) = f35 k x0 := by kernel_rfl
def g35 (k : Nat) : CallS := entT d35 (fun p => f35 k p) (elAll _) (fun _ => o35) (fun _ => u35) (fun _ => n35)
theorem g35_ok (k : Nat) : CallSOk Try.prog 35 (g35 k) := entry_ok (Hp := fun _ => []) (oR := fun _ => o35) (uR := fun _ => u35) (nR := fun _ => n35) (cf13_ok k) d35_ok r35_ok (hel := elAll_ok) (fun p => f35_run k p)
def Dl14 (k : Nat) : Delta := dCons 35 (callAt plan [.any] (g35 k)) (Dl13 k)
def Lm14 (k : Nat) : FuncId → Nat → Option LamF := Lm13 k
theorem Dl14_ok (k : Nat) : DeltaOk Try.prog (Dl14 k) := dCons_ok (Dl13_ok k) (g35_ok k)
theorem Lm14_ok (k : Nat) : LamsOk Try.prog (Lm14 k) := Lm13_ok k
abbrev cf14 (k : Nat) : CallF := evF Try.prog (Dl14 k) (Lm14 k) 200 12
theorem cf14_ok (k : Nat) : CfOk Try.prog (cf14 k) := evF_ok noNum mixed (Dl14_ok k) (Lm14_ok k) 12
abbrev P36 := List Int × List Int
def A36 (p : P36) : List AV := [.dsl 3 p.1, .dsl 3 p.2]
def d36 (a : List AV) (H : Heap) : Option P36 := match a, H with
  | [ba0, ba1], [] => (match (dslD 3 ba0 : Option (List Int)) with | some a0 => (match (dslD 3 ba1 : Option (List Int)) with | some a1 => some (a0, a1) | none => none) | none => none)
  | _, _ => none
theorem d36_ok (a : List AV) (H : Heap) (p : P36) (h : d36 a H = some p) : a = A36 p ∧ H = [] := by
  unfold d36 at h
  split at h
  · skip
    split at h
    · rename_i q
      have q := dslD_ok q
      subst q
      split at h
      · rename_i q
        have q := dslD_ok q
        subst q
        cases h; exact ⟨rfl, rfl⟩
      · cases h
    · cases h
  · cases h
abbrev R36 := Bool
def o36 (r : R36) : AEnd := .ret (.bool r)
def u36 (r : R36) : Heap := []
def n36 (_ : R36) : Nat := 0
def r36 (o : AEnd) (u : Heap) (n : Nat) : Option R36 := match o, u, n with
  | .ret (.bool a0), [], 0 => some (a0)
  | _, _, _ => none
theorem r36_ok (p : P36) (o : AEnd) (u : Heap) (n : Nat) (r : R36) (h : r36 o u n = some r) : o = o36 r ∧ u = u36 r ∧ n = n36 r := by
  unfold r36 at h
  split at h
  · skip
    cases h; exact ⟨rfl, rfl, rfl⟩
  · cases h
structure S36_0 where
  mk ::
  x0 : List Int
  x1 : List Int
  x5 : Int
def VS36_0 (s : S36_0) : List AV := [.dsl 3 s.x0, .dsl 3 s.x1, .int .i64 s.x5]
def HS36_0 (s : S36_0) : Heap := []
def dS36_0 (vs : List AV) (H : Heap) : Option S36_0 := match vs, H with
  | [bx0, bx1, .int .i64 x5], [] => (match (dslD 3 bx0 : Option (List Int)) with | some x0 => (match (dslD 3 bx1 : Option (List Int)) with | some x1 => some (⟨x0, x1, x5⟩ : S36_0) | none => none) | none => none)
  | _, _ => none
theorem dS36_0_ok (vs : List AV) (H : Heap) (s : S36_0) (h : dS36_0 vs H = some s) : vs = VS36_0 s ∧ H = HS36_0 s := by
  unfold dS36_0 at h
  split at h
  · skip
    split at h
    · rename_i q
      have q := dslD_ok q
      subst q
      split at h
      · rename_i q
        have q := dslD_ok q
        subst q
        cases h; exact ⟨rfl, rfl⟩
      · cases h
    · cases h
  · cases h
def tS36_0 : AExit → List (Nat × Kd) := fun x => match x with
  | .normal => [(0, .rd 3), (1, .rd 3), (5, .any)]
  | .exit i => (match i with | 0 => [] | _ => [])
  | .ret => [(4, .any)]
  | _ => []
structure E36_0 where
  mk ::
  x4 : Bool
def VE36_0 (s : E36_0) : List AV := [.bool s.x4]
def HE36_0 (s : E36_0) : Heap := []
def dE36_0 (x : AExit) (vs : List AV) (H : Heap) : Option E36_0 := match x, vs, H with
  | .ret, [.bool x4], [] => some (⟨x4⟩ : E36_0)
  | _, _, _ => none
theorem dE36_0_ok (x : AExit) (vs : List AV) (H : Heap) (s : E36_0) (h : dE36_0 x vs H = some s) : x = .ret ∧ vs = VE36_0 s ∧ H = HE36_0 s := by
  unfold dE36_0 at h
  split at h
  · skip
    cases h; exact ⟨rfl, rfl, rfl⟩
  · cases h
structure E36_0b where
  mk ::
def VE36_0b (s : E36_0b) : List AV := []
def HE36_0b (s : E36_0b) : Heap := []
def dE36_0b (x : AExit) (vs : List AV) (H : Heap) : Option E36_0b := match x, vs, H with
  | .exit 0, [], [] => some (⟨⟩ : E36_0b)
  | _, _, _ => none
theorem dE36_0b_ok (x : AExit) (vs : List AV) (H : Heap) (s : E36_0b) (h : dE36_0b x vs H = some s) : x = .exit 0 ∧ vs = VE36_0b s ∧ H = HE36_0b s := by
  unfold dE36_0b at h
  split at h
  · skip
    cases h; exact ⟨rfl, rfl, rfl⟩
  · cases h
abbrev EE36_0 := E36_0 ⊕ E36_0b
def xEE36_0 (e : EE36_0) : AExit := match e with | .inl _ => .ret | .inr _ => .exit 0
def VEE36_0 (e : EE36_0) : List AV := match e with | .inl s => VE36_0 s | .inr s => VE36_0b s
def HEE36_0 (e : EE36_0) : Heap := match e with | .inl s => HE36_0 s | .inr s => HE36_0b s
def dEE36_0 (x : AExit) (vs : List AV) (H : Heap) : Option EE36_0 := match dE36_0 x vs H with | some s => some (.inl s) | none => (match dE36_0b x vs H with | some s => some (.inr s) | none => none)
theorem dEE36_0_ok (x : AExit) (vs : List AV) (H : Heap) (s : EE36_0) (h : dEE36_0 x vs H = some s) : x = xEE36_0 s ∧ vs = VEE36_0 s ∧ H = HEE36_0 s := by
  unfold dEE36_0 at h
  split at h
  · rename_i q; cases h; exact dE36_0_ok _ _ _ _ q
  · split at h
    · rename_i q; cases h; exact dE36_0b_ok _ _ _ _ q
    · cases h
def pS36_0 (k : Nat) (s : S36_0) : Option (S36_0 ⊕ EE36_0) :=
  br (decide (S36_0.x5 s < (↑(List.length (S36_0.x0 s)) : Int)))
   (br (decide ((0 : Int) ≤ S36_0.x5 s ∧ S36_0.x5 s < (↑(List.length (S36_0.x0 s)) : Int)))
    (br (decide ((0 : Int) ≤ S36_0.x5 s ∧ S36_0.x5 s < (↑(List.length (S36_0.x1 s)) : Int)))
     (br (List.getD (S36_0.x0 s) (Int.toNat (S36_0.x5 s)) (0 : Int) != List.getD (S36_0.x1 s) (Int.toNat (S36_0.x5 s)) (0 : Int))
      (some (Sum.inr (Sum.inl (E36_0.mk false))))
      (some (Sum.inl (S36_0.mk (S36_0.x0 s) (S36_0.x1 s) (IntKind.wrap IntKind.i64 (S36_0.x5 s + (1 : Int)))))))
     (none))
    (none))
   (some (Sum.inr (Sum.inr E36_0b.mk)))
theorem pS36_0_run (k : Nat) (s : S36_0) : evC (S36_0 ⊕ EE36_0) Try.prog (ntmpsAt Try.prog 36) (cf14 k) ((Lm14 k) 36) 200 (loopAt Try.prog 36 0) (zipE [(0, .rd 3), (1, .rd 3), (5, .any)] (VS36_0 s)) (HS36_0 s) (List.length (HS36_0 s)) (cutS plan 0 tS36_0 (rndT dS36_0 dEE36_0)) = pS36_0 k s := by kernel_rfl
def l36_0 (k : Nat) (s : S36_0) : Option EE36_0 := iterT (pS36_0 k) k s
def m36_0 (k : Nat) : LamS := lamT 0 dS36_0 (l36_0 k) (elSum (elAll _) (elAll _)) tS36_0 xEE36_0 VEE36_0 HEE36_0
theorem loop36_0 : isLoopAt Try.prog 36 0 = true := by kernel_rfl
theorem m36_0_ok (k : Nat) : LamSOk Try.prog (ntmpsAt Try.prog 36) 0 (.block 0 (.loop (loopAt Try.prog 36 0))) [(0, .rd 3), (1, .rd 3), (5, .any)] (m36_0 k) := lamT_ok (plan := plan) (kb := 0) (body_run noNum mixed (cf14_ok k) (Lm14_ok k) loop36_0) rfl dS36_0_ok dEE36_0_ok (hel := (elSum_ok elAll_ok elAll_ok)) (pS36_0_run k) k
def Dl15 (k : Nat) : Delta := Dl14 k
def Lm15 (k : Nat) : FuncId → Nat → Option LamF := lCons 36 0 (lamBy plan [11, 12, 13, 14, 17, 18, 19, 20, 21, 22, 23, 24, 25, 4, 15, 16, 5] [(0, .rd 3), (1, .rd 3), (5, .any)] 0 (m36_0 k)) (Lm14 k)
theorem Dl15_ok (k : Nat) : DeltaOk Try.prog (Dl15 k) := Dl14_ok k
theorem Lm15_ok (k : Nat) : LamsOk Try.prog (Lm15 k) := lCons_ok (Lm14_ok k) loop36_0 (lamBy_ok (m36_0_ok k) (by kernel_rfl))
abbrev cf15 (k : Nat) : CallF := evF Try.prog (Dl15 k) (Lm15 k) 200 12
theorem cf15_ok (k : Nat) : CfOk Try.prog (cf15 k) := evF_ok noNum mixed (Dl15_ok k) (Lm15_ok k) 12
def f36 (k : Nat) (x0 : List Int) (x1 : List Int) : Option R36 :=
  br ((↑(List.length x0) : Int) != (↑(List.length x1) : Int))
   (some false)
   (bindO (l36_0 k (S36_0.mk x0 x1 (0 : Int))) fun r2999 =>
    match r2999 with
    | .inl c2998 => some (E36_0.x4 c2998)
    | .inr c2998 => some true)
theorem f36_run (k : Nat) (x0 : List Int) (x1 : List Int) : cf15 k R36 36 (A36 (x0, x1)) [] 0 (endR planR (.any) [] 0 r36) = f36 k x0 x1 := by kernel_rfl
def g36 (k : Nat) : CallS := entT d36 (fun p => f36 k p.1 p.2) (elAll _) (fun _ => o36) (fun _ => u36) (fun _ => n36)
theorem g36_ok (k : Nat) : CallSOk Try.prog 36 (g36 k) := entry_ok (Hp := fun _ => []) (oR := fun _ => o36) (uR := fun _ => u36) (nR := fun _ => n36) (cf15_ok k) d36_ok r36_ok (hel := elAll_ok) (fun p => f36_run k p.1 p.2)
def Dl16 (k : Nat) : Delta := dCons 36 (callAt plan [.rd 3, .rd 3] (g36 k)) (Dl15 k)
def Lm16 (k : Nat) : FuncId → Nat → Option LamF := Lm15 k
theorem Dl16_ok (k : Nat) : DeltaOk Try.prog (Dl16 k) := dCons_ok (Dl15_ok k) (g36_ok k)
theorem Lm16_ok (k : Nat) : LamsOk Try.prog (Lm16 k) := Lm15_ok k
abbrev cf16 (k : Nat) : CallF := evF Try.prog (Dl16 k) (Lm16 k) 200 12
theorem cf16_ok (k : Nat) : CfOk Try.prog (cf16 k) := evF_ok noNum mixed (Dl16_ok k) (Lm16_ok k) 12
abbrev P39 := Int
def A39 (p : P39) : List AV := [.int .i64 p]
def d39 (a : List AV) (H : Heap) : Option P39 := match a, H with
  | [.int .i64 a0], [] => some (a0)
  | _, _ => none
theorem d39_ok (a : List AV) (H : Heap) (p : P39) (h : d39 a H = some p) : a = A39 p ∧ H = [] := by
  unfold d39 at h
  split at h
  · skip
    cases h; exact ⟨rfl, rfl⟩
  · cases h
abbrev R39 := List Int
def o39 (r : R39) : AEnd := .ret (.dsl 3 r)
def u39 (r : R39) : Heap := []
def n39 (_ : R39) : Nat := 0
def r39 (o : AEnd) (u : Heap) (n : Nat) : Option R39 := match o, u, n with
  | .ret ba0, [], 0 => (match (dslD 3 ba0 : Option (List Int)) with | some a0 => some (a0) | none => none)
  | _, _, _ => none
theorem r39_ok (p : P39) (o : AEnd) (u : Heap) (n : Nat) (r : R39) (h : r39 o u n = some r) : o = o39 r ∧ u = u39 r ∧ n = n39 r := by
  unfold r39 at h
  split at h
  · skip
    split at h
    · rename_i q
      have q := dslD_ok q
      subst q
      cases h; exact ⟨rfl, rfl, rfl⟩
    · cases h
  · cases h
def f39_0 (k : Nat) : Option R39 :=
  some [0, 1, 2, 3, 4]
theorem f39_0_run (k : Nat) : cf16 k R39 39 (A39 ((0))) [] 0 (endR planR (.ro 3) [] 0 r39) = f39_0 k  := by kernel_rfl
def f39_1 (k : Nat) : Option R39 :=
  some [0, 1, 2, 3, 4]
theorem f39_1_run (k : Nat) : cf16 k R39 39 (A39 ((1))) [] 0 (endR planR (.ro 3) [] 0 r39) = f39_1 k  := by kernel_rfl
def f39_2 (k : Nat) : Option R39 :=
  some [0, 1, 2, 3, 4]
theorem f39_2_run (k : Nat) : cf16 k R39 39 (A39 ((2))) [] 0 (endR planR (.ro 3) [] 0 r39) = f39_2 k  := by kernel_rfl
def f39_3 (k : Nat) : Option R39 :=
  some [0, 1, 2, 3, 4]
theorem f39_3_run (k : Nat) : cf16 k R39 39 (A39 ((3))) [] 0 (endR planR (.ro 3) [] 0 r39) = f39_3 k  := by kernel_rfl
def f39_4 (k : Nat) : Option R39 :=
  some [0, 1, 2, 3, 4]
theorem f39_4_run (k : Nat) : cf16 k R39 39 (A39 ((4))) [] 0 (endR planR (.ro 3) [] 0 r39) = f39_4 k  := by kernel_rfl
abbrev cfo39 (k : Nat) : CallF := evF Try.prog (Dl16 k) (Lm16 k) 200 12
theorem cfo39_ok (k : Nat) : CfOk Try.prog (cfo39 k) := evF_ok noNum mixed (Dl16_ok k) (Lm16_ok k) 12
def f39_o (k : Nat) (x0 : Int) : Option R39 :=
  bindO (f33 k x0 (0 : Int)) fun r3000 =>
   br (Prod.snd r3000)
    (bindO (f33 k x0 (1 : Int)) fun r2999 =>
     br (Prod.snd r2999)
      (bindO (f33 k x0 (2 : Int)) fun r2998 =>
       br (Prod.snd r2998)
        (bindO (f33 k x0 (3 : Int)) fun r2997 =>
         br (Prod.snd r2997)
          (bindO (f33 k x0 (4 : Int)) fun r2996 =>
           br (Prod.snd r2996)
            (some ([(0 : Int)] ++ [(1 : Int)] ++ [(2 : Int)] ++ [(3 : Int)] ++ [(4 : Int)]))
            (some ([(0 : Int)] ++ [(1 : Int)] ++ [(2 : Int)] ++ [(3 : Int)])))
          (bindO (f33 k x0 (4 : Int)) fun r2993 =>
           br (Prod.snd r2993)
            (some ([(0 : Int)] ++ [(1 : Int)] ++ [(2 : Int)] ++ [(4 : Int)]))
            (some ([(0 : Int)] ++ [(1 : Int)] ++ [(2 : Int)]))))
        (bindO (f33 k x0 (3 : Int)) fun r2990 =>
         br (Prod.snd r2990)
          (bindO (f33 k x0 (4 : Int)) fun r2989 =>
           br (Prod.snd r2989)
            (some ([(0 : Int)] ++ [(1 : Int)] ++ [(3 : Int)] ++ [(4 : Int)]))
            (some ([(0 : Int)] ++ [(1 : Int)] ++ [(3 : Int)])))
          (bindO (f33 k x0 (4 : Int)) fun r2986 =>
           br (Prod.snd r2986)
            (some ([(0 : Int)] ++ [(1 : Int)] ++ [(4 : Int)]))
            (some ([(0 : Int)] ++ [(1 : Int)])))))
      (bindO (f33 k x0 (2 : Int)) fun r2983 =>
       br (Prod.snd r2983)
        (bindO (f33 k x0 (3 : Int)) fun r2982 =>
         br (Prod.snd r2982)
          (bindO (f33 k x0 (4 : Int)) fun r2981 =>
           br (Prod.snd r2981)
            (some ([(0 : Int)] ++ [(2 : Int)] ++ [(3 : Int)] ++ [(4 : Int)]))
            (some ([(0 : Int)] ++ [(2 : Int)] ++ [(3 : Int)])))
          (bindO (f33 k x0 (4 : Int)) fun r2978 =>
           br (Prod.snd r2978)
            (some ([(0 : Int)] ++ [(2 : Int)] ++ [(4 : Int)]))
            (some ([(0 : Int)] ++ [(2 : Int)]))))
        (bindO (f33 k x0 (3 : Int)) fun r2975 =>
         br (Prod.snd r2975)
          (bindO (f33 k x0 (4 : Int)) fun r2974 =>
           br (Prod.snd r2974)
            (some ([(0 : Int)] ++ [(3 : Int)] ++ [(4 : Int)]))
            (some ([(0 : Int)] ++ [(3 : Int)])))
          (bindO (f33 k x0 (4 : Int)) fun r2971 =>
           br (Prod.snd r2971)
            (some ([(0 : Int)] ++ [(4 : Int)]))
            (some [(0 : Int)])))))
    (bindO (f33 k x0 (1 : Int)) fun r2968 =>
     br (Prod.snd r2968)
      (bindO (f33 k x0 (2 : Int)) fun r2967 =>
       br (Prod.snd r2967)
        (bindO (f33 k x0 (3 : Int)) fun r2966 =>
         br (Prod.snd r2966)
          (bindO (f33 k x0 (4 : Int)) fun r2965 =>
           br (Prod.snd r2965)
            (some ([(1 : Int)] ++ [(2 : Int)] ++ [(3 : Int)] ++ [(4 : Int)]))
            (some ([(1 : Int)] ++ [(2 : Int)] ++ [(3 : Int)])))
          (bindO (f33 k x0 (4 : Int)) fun r2962 =>
           br (Prod.snd r2962)
            (some ([(1 : Int)] ++ [(2 : Int)] ++ [(4 : Int)]))
            (some ([(1 : Int)] ++ [(2 : Int)]))))
        (bindO (f33 k x0 (3 : Int)) fun r2959 =>
         br (Prod.snd r2959)
          (bindO (f33 k x0 (4 : Int)) fun r2958 =>
           br (Prod.snd r2958)
            (some ([(1 : Int)] ++ [(3 : Int)] ++ [(4 : Int)]))
            (some ([(1 : Int)] ++ [(3 : Int)])))
          (bindO (f33 k x0 (4 : Int)) fun r2955 =>
           br (Prod.snd r2955)
            (some ([(1 : Int)] ++ [(4 : Int)]))
            (some [(1 : Int)]))))
      (bindO (f33 k x0 (2 : Int)) fun r2952 =>
       br (Prod.snd r2952)
        (bindO (f33 k x0 (3 : Int)) fun r2951 =>
         br (Prod.snd r2951)
          (bindO (f33 k x0 (4 : Int)) fun r2950 =>
           br (Prod.snd r2950)
            (some ([(2 : Int)] ++ [(3 : Int)] ++ [(4 : Int)]))
            (some ([(2 : Int)] ++ [(3 : Int)])))
          (bindO (f33 k x0 (4 : Int)) fun r2947 =>
           br (Prod.snd r2947)
            (some ([(2 : Int)] ++ [(4 : Int)]))
            (some [(2 : Int)])))
        (bindO (f33 k x0 (3 : Int)) fun r2944 =>
         br (Prod.snd r2944)
          (bindO (f33 k x0 (4 : Int)) fun r2943 =>
           br (Prod.snd r2943)
            (some ([(3 : Int)] ++ [(4 : Int)]))
            (some [(3 : Int)]))
          (bindO (f33 k x0 (4 : Int)) fun r2940 =>
           br (Prod.snd r2940)
            (some [(4 : Int)])
            (some [])))))
theorem f39_o_run (k : Nat) (x0 : Int) : cfo39 k R39 39 (A39 (x0)) [] 0 (endR planR (.ro 3) [] 0 r39) = f39_o k x0 := by kernel_rfl
def f39 (k : Nat) (x0 : Int) : Option R39 :=
  br (x0 == 0) (f39_0 k ) (br (x0 == 1) (f39_1 k ) (br (x0 == 2) (f39_2 k ) (br (x0 == 3) (f39_3 k ) (br (x0 == 4) (f39_4 k ) (f39_o k x0)))))
def g39 (k : Nat) : CallS := entT d39 (fun p => f39 k p) (elAll _) (fun _ => o39) (fun _ => u39) (fun _ => n39)
theorem g39_ok (k : Nat) : CallSOk Try.prog 39 (g39 k) := entry_le (Hp := fun _ => []) (plan := planR) (kd := .ro 3) (dead := []) (decR := fun _ => r39) (oR := fun _ => o39) (uR := fun _ => u39) (nR := fun _ => n39) d39_ok r39_ok (hel := elAll_ok) (by
  intro p z h
  generalize p = x0 at h ⊢
  replace h : f39 k x0 = some z := h
  unfold f39 at h
  rcases br_some h with ⟨hb, h⟩ | ⟨_, h⟩
  · have hb : x0 = 0 := by simpa using hb
    subst hb
    exact ⟨_, cf16_ok k, (f39_0_run k ).trans h⟩
  rcases br_some h with ⟨hb, h⟩ | ⟨_, h⟩
  · have hb : x0 = 1 := by simpa using hb
    subst hb
    exact ⟨_, cf16_ok k, (f39_1_run k ).trans h⟩
  rcases br_some h with ⟨hb, h⟩ | ⟨_, h⟩
  · have hb : x0 = 2 := by simpa using hb
    subst hb
    exact ⟨_, cf16_ok k, (f39_2_run k ).trans h⟩
  rcases br_some h with ⟨hb, h⟩ | ⟨_, h⟩
  · have hb : x0 = 3 := by simpa using hb
    subst hb
    exact ⟨_, cf16_ok k, (f39_3_run k ).trans h⟩
  rcases br_some h with ⟨hb, h⟩ | ⟨_, h⟩
  · have hb : x0 = 4 := by simpa using hb
    subst hb
    exact ⟨_, cf16_ok k, (f39_4_run k ).trans h⟩
  exact ⟨_, cfo39_ok k, (f39_o_run k x0).trans h⟩)
def Dl17 (k : Nat) : Delta := dCons 39 (callAt plan [.any] (g39 k)) (Dl16 k)
def Lm17 (k : Nat) : FuncId → Nat → Option LamF := Lm16 k
theorem Dl17_ok (k : Nat) : DeltaOk Try.prog (Dl17 k) := dCons_ok (Dl16_ok k) (g39_ok k)
theorem Lm17_ok (k : Nat) : LamsOk Try.prog (Lm17 k) := Lm16_ok k
abbrev cf17 (k : Nat) : CallF := evF Try.prog (Dl17 k) (Lm17 k) 200 12
theorem cf17_ok (k : Nat) : CfOk Try.prog (cf17 k) := evF_ok noNum mixed (Dl17_ok k) (Lm17_ok k) 12
abbrev P37 := Unit
def A37 (p : P37) : List AV := []
def d37 (a : List AV) (H : Heap) : Option P37 := match a, H with
  | [], [] => some ()
  | _, _ => none
theorem d37_ok (a : List AV) (H : Heap) (p : P37) (h : d37 a H = some p) : a = A37 p ∧ H = [] := by
  unfold d37 at h
  split at h
  · skip
    cases h; exact ⟨rfl, rfl⟩
  · cases h
abbrev R37 := Bool
def o37 (r : R37) : AEnd := .ret (.bool r)
def u37 (r : R37) : Heap := []
def n37 (_ : R37) : Nat := 0
def r37 (o : AEnd) (u : Heap) (n : Nat) : Option R37 := match o, u, n with
  | .ret (.bool a0), [], 0 => some (a0)
  | _, _, _ => none
theorem r37_ok (p : P37) (o : AEnd) (u : Heap) (n : Nat) (r : R37) (h : r37 o u n = some r) : o = o37 r ∧ u = u37 r ∧ n = n37 r := by
  unfold r37 at h
  split at h
  · skip
    cases h; exact ⟨rfl, rfl, rfl⟩
  · cases h
def f37 (k : Nat) : Option R37 := some true
theorem f37_run : cf17 60 R37 37 (A37 ()) [] 0 (endR planR (.any) [] 0 r37) = some true := by kernel_rfl
def g37 (k : Nat) : CallS := entT d37 (fun p => f37 k ) (elAll _) (fun _ => o37) (fun _ => u37) (fun _ => n37)
theorem g37_ok (k : Nat) : CallSOk Try.prog 37 (g37 k) := entry_le (Hp := fun _ => []) (plan := planR) (kd := .any) (dead := []) (decR := fun _ => r37) (oR := fun _ => o37) (uR := fun _ => u37) (nR := fun _ => n37) d37_ok r37_ok (hel := elAll_ok) (fun p z h => ⟨cf17 60, cf17_ok 60, f37_run.trans h⟩)
def Dl18 (k : Nat) : Delta := dCons 37 (callAt plan [] (g37 k)) (Dl17 k)
def Lm18 (k : Nat) : FuncId → Nat → Option LamF := Lm17 k
theorem Dl18_ok (k : Nat) : DeltaOk Try.prog (Dl18 k) := dCons_ok (Dl17_ok k) (g37_ok k)
theorem Lm18_ok (k : Nat) : LamsOk Try.prog (Lm18 k) := Lm17_ok k
abbrev cf18 (k : Nat) : CallF := evF Try.prog (Dl18 k) (Lm18 k) 200 12
theorem cf18_ok (k : Nat) : CfOk Try.prog (cf18 k) := evF_ok noNum mixed (Dl18_ok k) (Lm18_ok k) 12
abbrev P9 := Int × List Int × List Int
def A9 (p : P9) : List AV := [.int .i64 p.1, .dsl 3 p.2.1, .dsl 3 p.2.2]
def d9 (a : List AV) (H : Heap) : Option P9 := match a, H with
  | [.int .i64 a0, ba1, ba2], [] => (match (dslD 3 ba1 : Option (List Int)) with | some a1 => (match (dslD 3 ba2 : Option (List Int)) with | some a2 => some (a0, a1, a2) | none => none) | none => none)
  | _, _ => none
theorem d9_ok (a : List AV) (H : Heap) (p : P9) (h : d9 a H = some p) : a = A9 p ∧ H = [] := by
  unfold d9 at h
  split at h
  · skip
    split at h
    · rename_i q
      have q := dslD_ok q
      subst q
      split at h
      · rename_i q
        have q := dslD_ok q
        subst q
        cases h; exact ⟨rfl, rfl⟩
      · cases h
    · cases h
  · cases h
abbrev R9 := Bool
def o9 (r : R9) : AEnd := .ret (.bool r)
def u9 (r : R9) : Heap := []
def n9 (_ : R9) : Nat := 0
def r9 (o : AEnd) (u : Heap) (n : Nat) : Option R9 := match o, u, n with
  | .ret (.bool a0), [], 0 => some (a0)
  | _, _, _ => none
theorem r9_ok (p : P9) (o : AEnd) (u : Heap) (n : Nat) (r : R9) (h : r9 o u n = some r) : o = o9 r ∧ u = u9 r ∧ n = n9 r := by
  unfold r9 at h
  split at h
  · skip
    cases h; exact ⟨rfl, rfl, rfl⟩
  · cases h
def f9 (k : Nat) (x0 : Int) (x1 : List Int) (x2 : List Int) : Option R9 :=
  br (decide ((↑(List.length x1) : Int) > (100 : Int)))
   (some true)
   (br (decide ((↑(List.length x2) : Int) > (100 : Int)))
    (some true)
    (bindO (f30 k x0 x1) fun r2998 =>
     bindO (f30 k (Prod.fst r2998) x2) fun r2997 =>
      br (true && decide (List.length x1 * (8 : Nat) ≤ (140737488355328 : Nat)))
       (br (true && decide ((List.length x1 + List.length x2) * (8 : Nat) ≤ (140737488355328 : Nat)))
        (bindO (f30 k x0 (x1 ++ x2)) fun r2996 =>
         br (Prod.fst r2997 == Prod.fst r2996)
          (some (IntKind.wrap IntKind.i64 (Prod.snd r2998 + Prod.snd r2997) == Prod.snd r2996))
          (some false))
        (none))
       (none)))
theorem f9_run (k : Nat) (x0 : Int) (x1 : List Int) (x2 : List Int) : cf18 k R9 9 (A9 (x0, x1, x2)) [] 0 (endR planR (.any) [] 0 r9) = f9 k x0 x1 x2 := by kernel_rfl
def g9 (k : Nat) : CallS := entT d9 (fun p => f9 k p.1 p.2.1 p.2.2) (elAll _) (fun _ => o9) (fun _ => u9) (fun _ => n9)
theorem g9_ok (k : Nat) : CallSOk Try.prog 9 (g9 k) := entry_ok (Hp := fun _ => []) (oR := fun _ => o9) (uR := fun _ => u9) (nR := fun _ => n9) (cf18_ok k) d9_ok r9_ok (hel := elAll_ok) (fun p => f9_run k p.1 p.2.1 p.2.2)
def Dl19 (k : Nat) : Delta := dCons 9 (callAt plan [.any, .rd 3, .rd 3] (g9 k)) (Dl18 k)
def Lm19 (k : Nat) : FuncId → Nat → Option LamF := Lm18 k
theorem Dl19_ok (k : Nat) : DeltaOk Try.prog (Dl19 k) := dCons_ok (Dl18_ok k) (g9_ok k)
theorem Lm19_ok (k : Nat) : LamsOk Try.prog (Lm19 k) := Lm18_ok k
abbrev cf19 (k : Nat) : CallF := evF Try.prog (Dl19 k) (Lm19 k) 200 12
theorem cf19_ok (k : Nat) : CfOk Try.prog (cf19 k) := evF_ok noNum mixed (Dl19_ok k) (Lm19_ok k) 12
abbrev P11 := Int × Int
def A11 (p : P11) : List AV := [.int .i64 p.1, .int .i64 p.2]
def d11 (a : List AV) (H : Heap) : Option P11 := match a, H with
  | [.int .i64 a0, .int .i64 a1], [] => some (a0, a1)
  | _, _ => none
theorem d11_ok (a : List AV) (H : Heap) (p : P11) (h : d11 a H = some p) : a = A11 p ∧ H = [] := by
  unfold d11 at h
  split at h
  · skip
    cases h; exact ⟨rfl, rfl⟩
  · cases h
abbrev R11 := Bool
def o11 (r : R11) : AEnd := .ret (.bool r)
def u11 (r : R11) : Heap := []
def n11 (_ : R11) : Nat := 0
def r11 (o : AEnd) (u : Heap) (n : Nat) : Option R11 := match o, u, n with
  | .ret (.bool a0), [], 0 => some (a0)
  | _, _, _ => none
theorem r11_ok (p : P11) (o : AEnd) (u : Heap) (n : Nat) (r : R11) (h : r11 o u n = some r) : o = o11 r ∧ u = u11 r ∧ n = n11 r := by
  unfold r11 at h
  split at h
  · skip
    cases h; exact ⟨rfl, rfl, rfl⟩
  · cases h
def f11 (k : Nat) (x0 : Int) (x1 : Int) : Option R11 :=
  bindO (f28 k x0 (5 : Int)) fun r3000 =>
   bindO (f28 k (0 : Int) x1) fun r2999 =>
    bindO (f34 k x0) fun r2998 =>
     br (Prod.fst r3000 == (0 : Int))
      (br (Prod.snd r2998)
       (br (Prod.snd r3000 == (x0 != (0 : Int)))
        (br (Prod.snd r2999 == (x1 == (1 : Int)))
         (br (!Prod.snd r2999)
          (some true)
          (some (Prod.fst r2999 == (1 : Int))))
         (some false))
        (some false))
       (br (Prod.snd r3000 == false)
        (br (Prod.snd r2999 == (x1 == (1 : Int)))
         (br (!Prod.snd r2999)
          (some true)
          (some (Prod.fst r2999 == (1 : Int))))
         (some false))
        (some false)))
      (some false)
theorem f11_run (k : Nat) (x0 : Int) (x1 : Int) : cf19 k R11 11 (A11 (x0, x1)) [] 0 (endR planR (.any) [] 0 r11) = f11 k x0 x1 := by kernel_rfl
def g11 (k : Nat) : CallS := entT d11 (fun p => f11 k p.1 p.2) (elAll _) (fun _ => o11) (fun _ => u11) (fun _ => n11)
theorem g11_ok (k : Nat) : CallSOk Try.prog 11 (g11 k) := entry_ok (Hp := fun _ => []) (oR := fun _ => o11) (uR := fun _ => u11) (nR := fun _ => n11) (cf19_ok k) d11_ok r11_ok (hel := elAll_ok) (fun p => f11_run k p.1 p.2)
def Dl20 (k : Nat) : Delta := dCons 11 (callAt plan [.any, .any] (g11 k)) (Dl19 k)
def Lm20 (k : Nat) : FuncId → Nat → Option LamF := Lm19 k
theorem Dl20_ok (k : Nat) : DeltaOk Try.prog (Dl20 k) := dCons_ok (Dl19_ok k) (g11_ok k)
theorem Lm20_ok (k : Nat) : LamsOk Try.prog (Lm20 k) := Lm19_ok k
abbrev cf20 (k : Nat) : CallF := evF Try.prog (Dl20 k) (Lm20 k) 200 12
theorem cf20_ok (k : Nat) : CfOk Try.prog (cf20 k) := evF_ok noNum mixed (Dl20_ok k) (Lm20_ok k) 12
abbrev P12 := Int × List Int
def A12 (p : P12) : List AV := [.int .i64 p.1, .dsl 3 p.2]
def d12 (a : List AV) (H : Heap) : Option P12 := match a, H with
  | [.int .i64 a0, ba1], [] => (match (dslD 3 ba1 : Option (List Int)) with | some a1 => some (a0, a1) | none => none)
  | _, _ => none
theorem d12_ok (a : List AV) (H : Heap) (p : P12) (h : d12 a H = some p) : a = A12 p ∧ H = [] := by
  unfold d12 at h
  split at h
  · skip
    split at h
    · rename_i q
      have q := dslD_ok q
      subst q
      cases h; exact ⟨rfl, rfl⟩
    · cases h
  · cases h
abbrev R12 := Bool
def o12 (r : R12) : AEnd := .ret (.bool r)
def u12 (r : R12) : Heap := []
def n12 (_ : R12) : Nat := 0
def r12 (o : AEnd) (u : Heap) (n : Nat) : Option R12 := match o, u, n with
  | .ret (.bool a0), [], 0 => some (a0)
  | _, _, _ => none
theorem r12_ok (p : P12) (o : AEnd) (u : Heap) (n : Nat) (r : R12) (h : r12 o u n = some r) : o = o12 r ∧ u = u12 r ∧ n = n12 r := by
  unfold r12 at h
  split at h
  · skip
    cases h; exact ⟨rfl, rfl, rfl⟩
  · cases h
structure S12_0 where
  mk ::
  x0 : Int
  x1 : List Int
  x5 : Bool
  x6 : Bool
  x7 : Int
def VS12_0 (s : S12_0) : List AV := [.int .i64 s.x0, .dsl 3 s.x1, .bool s.x5, .bool s.x6, .int .i64 s.x7]
def HS12_0 (s : S12_0) : Heap := []
def dS12_0 (vs : List AV) (H : Heap) : Option S12_0 := match vs, H with
  | [.int .i64 x0, bx1, .bool x5, .bool x6, .int .i64 x7], [] => (match (dslD 3 bx1 : Option (List Int)) with | some x1 => some (⟨x0, x1, x5, x6, x7⟩ : S12_0) | none => none)
  | _, _ => none
theorem dS12_0_ok (vs : List AV) (H : Heap) (s : S12_0) (h : dS12_0 vs H = some s) : vs = VS12_0 s ∧ H = HS12_0 s := by
  unfold dS12_0 at h
  split at h
  · skip
    split at h
    · rename_i q
      have q := dslD_ok q
      subst q
      cases h; exact ⟨rfl, rfl⟩
    · cases h
  · cases h
def tS12_0 : AExit → List (Nat × Kd) := fun x => match x with
  | .normal => [(0, .any), (1, .rd 3), (5, .any), (6, .any), (7, .any)]
  | .exit i => (match i with | 0 => [(0, .any), (1, .rd 3), (5, .any), (6, .any)] | _ => [])
  | .ret => [(4, .any)]
  | _ => []
structure E12_0 where
  mk ::
  x0 : Int
  x1 : List Int
  x5 : Bool
  x6 : Bool
def VE12_0 (s : E12_0) : List AV := [.int .i64 s.x0, .dsl 3 s.x1, .bool s.x5, .bool s.x6]
def HE12_0 (s : E12_0) : Heap := []
def dE12_0 (x : AExit) (vs : List AV) (H : Heap) : Option E12_0 := match x, vs, H with
  | .exit 0, [.int .i64 x0, bx1, .bool x5, .bool x6], [] => (match (dslD 3 bx1 : Option (List Int)) with | some x1 => some (⟨x0, x1, x5, x6⟩ : E12_0) | none => none)
  | _, _, _ => none
theorem dE12_0_ok (x : AExit) (vs : List AV) (H : Heap) (s : E12_0) (h : dE12_0 x vs H = some s) : x = .exit 0 ∧ vs = VE12_0 s ∧ H = HE12_0 s := by
  unfold dE12_0 at h
  split at h
  · skip
    split at h
    · rename_i q
      have q := dslD_ok q
      subst q
      cases h; exact ⟨rfl, rfl, rfl⟩
    · cases h
  · cases h
def xE12_0 (_ : E12_0) : AExit := .exit 0
def pS12_0 (k : Nat) (s : S12_0) : Option (S12_0 ⊕ E12_0) :=
  br (decide (S12_0.x7 s < (↑(List.length (S12_0.x1 s)) : Int)))
   (br (S12_0.x5 s)
    (br (decide ((0 : Int) ≤ S12_0.x7 s ∧ S12_0.x7 s < (↑(List.length (S12_0.x1 s)) : Int)))
     (br (List.getD (S12_0.x1 s) (Int.toNat (S12_0.x7 s)) (0 : Int) != (1 : Int))
      (br (decide ((0 : Int) ≤ S12_0.x7 s ∧ S12_0.x7 s < (↑(List.length (S12_0.x1 s)) : Int)))
       (br (S12_0.x6 s)
        (br (decide ((0 : Int) ≤ S12_0.x7 s ∧ S12_0.x7 s < (↑(List.length (S12_0.x1 s)) : Int)))
         (some (Sum.inl (S12_0.mk (S12_0.x0 s) (S12_0.x1 s) (List.getD (S12_0.x1 s) (Int.toNat (S12_0.x7 s)) (0 : Int) != (6 : Int)) (List.getD (S12_0.x1 s) (Int.toNat (S12_0.x7 s)) (0 : Int) != (4 : Int)) (IntKind.wrap IntKind.i64 (S12_0.x7 s + (1 : Int))))))
         (none))
        (some (Sum.inl (S12_0.mk (S12_0.x0 s) (S12_0.x1 s) (List.getD (S12_0.x1 s) (Int.toNat (S12_0.x7 s)) (0 : Int) != (6 : Int)) false (IntKind.wrap IntKind.i64 (S12_0.x7 s + (1 : Int)))))))
       (none))
      (br (S12_0.x6 s)
       (br (decide ((0 : Int) ≤ S12_0.x7 s ∧ S12_0.x7 s < (↑(List.length (S12_0.x1 s)) : Int)))
        (some (Sum.inl (S12_0.mk (S12_0.x0 s) (S12_0.x1 s) false (List.getD (S12_0.x1 s) (Int.toNat (S12_0.x7 s)) (0 : Int) != (4 : Int)) (IntKind.wrap IntKind.i64 (S12_0.x7 s + (1 : Int))))))
        (none))
       (some (Sum.inl (S12_0.mk (S12_0.x0 s) (S12_0.x1 s) false false (IntKind.wrap IntKind.i64 (S12_0.x7 s + (1 : Int))))))))
     (none))
    (br (S12_0.x6 s)
     (br (decide ((0 : Int) ≤ S12_0.x7 s ∧ S12_0.x7 s < (↑(List.length (S12_0.x1 s)) : Int)))
      (some (Sum.inl (S12_0.mk (S12_0.x0 s) (S12_0.x1 s) false (List.getD (S12_0.x1 s) (Int.toNat (S12_0.x7 s)) (0 : Int) != (4 : Int)) (IntKind.wrap IntKind.i64 (S12_0.x7 s + (1 : Int))))))
      (none))
     (some (Sum.inl (S12_0.mk (S12_0.x0 s) (S12_0.x1 s) false false (IntKind.wrap IntKind.i64 (S12_0.x7 s + (1 : Int))))))))
   (some (Sum.inr (E12_0.mk (S12_0.x0 s) (S12_0.x1 s) (S12_0.x5 s) (S12_0.x6 s))))
theorem pS12_0_run (k : Nat) (s : S12_0) : evC (S12_0 ⊕ E12_0) Try.prog (ntmpsAt Try.prog 12) (cf20 k) ((Lm20 k) 12) 200 (loopAt Try.prog 12 0) (zipE [(0, .any), (1, .rd 3), (5, .any), (6, .any), (7, .any)] (VS12_0 s)) (HS12_0 s) (List.length (HS12_0 s)) (cutS plan 0 tS12_0 (rndT dS12_0 dE12_0)) = pS12_0 k s := by kernel_rfl
def l12_0 (k : Nat) (s : S12_0) : Option E12_0 := iterT (pS12_0 k) k s
def m12_0 (k : Nat) : LamS := lamT 0 dS12_0 (l12_0 k) (elAll _) tS12_0 xE12_0 VE12_0 HE12_0
theorem loop12_0 : isLoopAt Try.prog 12 0 = true := by kernel_rfl
theorem m12_0_ok (k : Nat) : LamSOk Try.prog (ntmpsAt Try.prog 12) 0 (.block 0 (.loop (loopAt Try.prog 12 0))) [(0, .any), (1, .rd 3), (5, .any), (6, .any), (7, .any)] (m12_0 k) := lamT_ok (plan := plan) (kb := 0) (body_run noNum mixed (cf20_ok k) (Lm20_ok k) loop12_0) rfl dS12_0_ok dE12_0_ok (hel := elAll_ok) (pS12_0_run k) k
def Dl21 (k : Nat) : Delta := Dl20 k
def Lm21 (k : Nat) : FuncId → Nat → Option LamF := lCons 12 0 (lamBy plan [25, 26, 27, 28, 31, 32, 33, 34, 35, 36, 37, 38, 39, 40, 41, 42, 43, 44, 45, 5, 46, 47, 48, 49, 50, 51, 52, 53, 6, 29, 30, 7] [(0, .any), (1, .rd 3), (5, .any), (6, .any), (7, .any)] 0 (m12_0 k)) (Lm20 k)
theorem Dl21_ok (k : Nat) : DeltaOk Try.prog (Dl21 k) := Dl20_ok k
theorem Lm21_ok (k : Nat) : LamsOk Try.prog (Lm21 k) := lCons_ok (Lm20_ok k) loop12_0 (lamBy_ok (m12_0_ok k) (by kernel_rfl))
abbrev cf21 (k : Nat) : CallF := evF Try.prog (Dl21 k) (Lm21 k) 200 12
theorem cf21_ok (k : Nat) : CfOk Try.prog (cf21 k) := evF_ok noNum mixed (Dl21_ok k) (Lm21_ok k) 12
def f12 (k : Nat) (x0 : Int) (x1 : List Int) : Option R12 :=
  br (decide ((↑(List.length x1) : Int) > (200 : Int)))
   (some true)
   (br (x0 == (0 : Int))
    (bindO (l12_0 k (S12_0.mk x0 x1 true (x0 != (4 : Int)) (0 : Int))) fun r2999 =>
     bindO (f30 k (E12_0.x0 r2999) (E12_0.x1 r2999)) fun r2998 =>
      br (decide (Prod.snd r2998 ≤ (↑(List.length (E12_0.x1 r2999)) : Int)))
       (br (!E12_0.x5 r2999)
        (br (!E12_0.x6 r2999)
         (some true)
         (some (Prod.fst r2998 != (4 : Int))))
        (br (Prod.fst r2998 != (1 : Int))
         (br (Prod.fst r2998 != (2 : Int))
          (br (!E12_0.x6 r2999)
           (some true)
           (some (Prod.fst r2998 != (4 : Int))))
          (some false))
         (some false)))
       (some false))
    (br (x0 == (3 : Int))
     (bindO (l12_0 k (S12_0.mk x0 x1 true (x0 != (4 : Int)) (0 : Int))) fun r2990 =>
      bindO (f30 k (E12_0.x0 r2990) (E12_0.x1 r2990)) fun r2989 =>
       br (decide (Prod.snd r2989 ≤ (↑(List.length (E12_0.x1 r2990)) : Int)))
        (br (!E12_0.x5 r2990)
         (br (!E12_0.x6 r2990)
          (some true)
          (some (Prod.fst r2989 != (4 : Int))))
         (br (Prod.fst r2989 != (1 : Int))
          (br (Prod.fst r2989 != (2 : Int))
           (br (!E12_0.x6 r2990)
            (some true)
            (some (Prod.fst r2989 != (4 : Int))))
           (some false))
          (some false)))
        (some false))
     (bindO (l12_0 k (S12_0.mk x0 x1 (x0 == (4 : Int)) (x0 != (4 : Int)) (0 : Int))) fun r2981 =>
      bindO (f30 k (E12_0.x0 r2981) (E12_0.x1 r2981)) fun r2980 =>
       br (decide (Prod.snd r2980 ≤ (↑(List.length (E12_0.x1 r2981)) : Int)))
        (br (!E12_0.x5 r2981)
         (br (!E12_0.x6 r2981)
          (some true)
          (some (Prod.fst r2980 != (4 : Int))))
         (br (Prod.fst r2980 != (1 : Int))
          (br (Prod.fst r2980 != (2 : Int))
           (br (!E12_0.x6 r2981)
            (some true)
            (some (Prod.fst r2980 != (4 : Int))))
           (some false))
          (some false)))
        (some false))))
theorem f12_run (k : Nat) (x0 : Int) (x1 : List Int) : cf21 k R12 12 (A12 (x0, x1)) [] 0 (endR planR (.any) [] 0 r12) = f12 k x0 x1 := by kernel_rfl
def g12 (k : Nat) : CallS := entT d12 (fun p => f12 k p.1 p.2) (elAll _) (fun _ => o12) (fun _ => u12) (fun _ => n12)
theorem g12_ok (k : Nat) : CallSOk Try.prog 12 (g12 k) := entry_ok (Hp := fun _ => []) (oR := fun _ => o12) (uR := fun _ => u12) (nR := fun _ => n12) (cf21_ok k) d12_ok r12_ok (hel := elAll_ok) (fun p => f12_run k p.1 p.2)
def Dl22 (k : Nat) : Delta := dCons 12 (callAt plan [.any, .rd 3] (g12 k)) (Dl21 k)
def Lm22 (k : Nat) : FuncId → Nat → Option LamF := Lm21 k
theorem Dl22_ok (k : Nat) : DeltaOk Try.prog (Dl22 k) := dCons_ok (Dl21_ok k) (g12_ok k)
theorem Lm22_ok (k : Nat) : LamsOk Try.prog (Lm22 k) := Lm21_ok k
abbrev cf22 (k : Nat) : CallF := evF Try.prog (Dl22 k) (Lm22 k) 200 12
theorem cf22_ok (k : Nat) : CfOk Try.prog (cf22 k) := evF_ok noNum mixed (Dl22_ok k) (Lm22_ok k) 12
abbrev P10 := Int × Int × Int × Int
def A10 (p : P10) : List AV := [.int .i64 p.1, .int .i64 p.2.1, .int .i64 p.2.2.1, .int .i64 p.2.2.2]
def d10 (a : List AV) (H : Heap) : Option P10 := match a, H with
  | [.int .i64 a0, .int .i64 a1, .int .i64 a2, .int .i64 a3], [] => some (a0, a1, a2, a3)
  | _, _ => none
theorem d10_ok (a : List AV) (H : Heap) (p : P10) (h : d10 a H = some p) : a = A10 p ∧ H = [] := by
  unfold d10 at h
  split at h
  · skip
    cases h; exact ⟨rfl, rfl⟩
  · cases h
abbrev R10 := Bool
def o10 (r : R10) : AEnd := .ret (.bool r)
def u10 (r : R10) : Heap := []
def n10 (_ : R10) : Nat := 0
def r10 (o : AEnd) (u : Heap) (n : Nat) : Option R10 := match o, u, n with
  | .ret (.bool a0), [], 0 => some (a0)
  | _, _, _ => none
theorem r10_ok (p : P10) (o : AEnd) (u : Heap) (n : Nat) (r : R10) (h : r10 o u n = some r) : o = o10 r ∧ u = u10 r ∧ n = n10 r := by
  unfold r10 at h
  split at h
  · skip
    cases h; exact ⟨rfl, rfl, rfl⟩
  · cases h
def f10 (k : Nat) (x0 : Int) (x1 : Int) (x2 : Int) (x3 : Int) : Option R10 :=
  bindO (f32 k x0 x1) fun r3000 =>
   bindO (f30 k x0 (Prod.fst r3000)) fun r2999 =>
    br (decide (x0 ≥ (0 : Int)))
     (br (decide (x0 ≤ (4 : Int)))
      (br (decide (x1 ≥ (0 : Int)))
       (br (!Prod.snd r3000 == decide (x1 ≤ (4 : Int)))
        (br (Prod.snd r3000 == decide (x1 ≤ (4 : Int)))
         (some true)
         (some false))
        (br (!decide (x1 ≤ (4 : Int)))
         (br (Prod.snd r3000 == decide (x1 ≤ (4 : Int)))
          (some true)
          (some false))
         (br (Prod.fst r2999 != x1)
          (some false)
          (br (Prod.snd r2999 != (↑(List.length (Prod.fst r3000)) : Int))
           (some false)
           (br (decide ((↑(List.length (Prod.fst r3000)) : Int) > (3 : Int)))
            (some false)
            (br (!((↑(List.length (Prod.fst r3000)) : Int) == (0 : Int)) == (x0 == x1))
             (some false)
             (bindO (f28 k x0 x2) fun r2990 =>
              bindO (f28 k (Prod.fst r2990) x3) fun r2989 =>
               br (!Prod.snd r2990)
                (br (!Prod.snd r2990)
                 (some true)
                 (br (!Prod.snd r2989)
                  (some true)
                  (br (Prod.fst r2989 != x1)
                   (some true)
                   (some (decide ((↑(List.length (Prod.fst r3000)) : Int) ≤ (2 : Int)))))))
                (br (Prod.fst r2990 != x1)
                 (br (!Prod.snd r2990)
                  (some true)
                  (br (!Prod.snd r2989)
                   (some true)
                   (br (Prod.fst r2989 != x1)
                    (some true)
                    (some (decide ((↑(List.length (Prod.fst r3000)) : Int) ≤ (2 : Int)))))))
                 (br (decide ((↑(List.length (Prod.fst r3000)) : Int) ≤ (1 : Int)))
                  (br (!Prod.snd r2990)
                   (some true)
                   (br (!Prod.snd r2989)
                    (some true)
                    (br (Prod.fst r2989 != x1)
                     (some true)
                     (some (decide ((↑(List.length (Prod.fst r3000)) : Int) ≤ (2 : Int)))))))
                  (some false))))))))))
       (br (!Prod.snd r3000 == false)
        (br (Prod.snd r3000 == false)
         (some true)
         (some false))
        (br (Prod.snd r3000 == false)
         (some true)
         (some false))))
      (br (!Prod.snd r3000 == false)
       (br (Prod.snd r3000 == false)
        (some true)
        (some false))
       (br (Prod.snd r3000 == false)
        (some true)
        (some false))))
     (br (!Prod.snd r3000 == false)
      (br (Prod.snd r3000 == false)
       (some true)
       (some false))
      (br (Prod.snd r3000 == false)
       (some true)
       (some false)))
theorem f10_run (k : Nat) (x0 : Int) (x1 : Int) (x2 : Int) (x3 : Int) : cf22 k R10 10 (A10 (x0, x1, x2, x3)) [] 0 (endR planR (.any) [] 0 r10) = f10 k x0 x1 x2 x3 := by kernel_rfl
def g10 (k : Nat) : CallS := entT d10 (fun p => f10 k p.1 p.2.1 p.2.2.1 p.2.2.2) (elAll _) (fun _ => o10) (fun _ => u10) (fun _ => n10)
theorem g10_ok (k : Nat) : CallSOk Try.prog 10 (g10 k) := entry_ok (Hp := fun _ => []) (oR := fun _ => o10) (uR := fun _ => u10) (nR := fun _ => n10) (cf22_ok k) d10_ok r10_ok (hel := elAll_ok) (fun p => f10_run k p.1 p.2.1 p.2.2.1 p.2.2.2)
def Dl23 (k : Nat) : Delta := dCons 10 (callAt plan [.any, .any, .any, .any] (g10 k)) (Dl22 k)
def Lm23 (k : Nat) : FuncId → Nat → Option LamF := Lm22 k
theorem Dl23_ok (k : Nat) : DeltaOk Try.prog (Dl23 k) := dCons_ok (Dl22_ok k) (g10_ok k)
theorem Lm23_ok (k : Nat) : LamsOk Try.prog (Lm23 k) := Lm22_ok k
abbrev cf23 (k : Nat) : CallF := evF Try.prog (Dl23 k) (Lm23 k) 200 12
theorem cf23_ok (k : Nat) : CfOk Try.prog (cf23 k) := evF_ok noNum mixed (Dl23_ok k) (Lm23_ok k) 12
abbrev P8 := Int × Int × Int × List Int
def A8 (p : P8) : List AV := [.int .i64 p.1, .int .i64 p.2.1, .int .i64 p.2.2.1, .dsl 3 p.2.2.2]
def d8 (a : List AV) (H : Heap) : Option P8 := match a, H with
  | [.int .i64 a0, .int .i64 a1, .int .i64 a2, ba3], [] => (match (dslD 3 ba3 : Option (List Int)) with | some a3 => some (a0, a1, a2, a3) | none => none)
  | _, _ => none
theorem d8_ok (a : List AV) (H : Heap) (p : P8) (h : d8 a H = some p) : a = A8 p ∧ H = [] := by
  unfold d8 at h
  split at h
  · skip
    split at h
    · rename_i q
      have q := dslD_ok q
      subst q
      cases h; exact ⟨rfl, rfl⟩
    · cases h
  · cases h
abbrev R8 := Bool
def o8 (r : R8) : AEnd := .ret (.bool r)
def u8 (r : R8) : Heap := []
def n8 (_ : R8) : Nat := 0
def r8 (o : AEnd) (u : Heap) (n : Nat) : Option R8 := match o, u, n with
  | .ret (.bool a0), [], 0 => some (a0)
  | _, _, _ => none
theorem r8_ok (p : P8) (o : AEnd) (u : Heap) (n : Nat) (r : R8) (h : r8 o u n = some r) : o = o8 r ∧ u = u8 r ∧ n = n8 r := by
  unfold r8 at h
  split at h
  · skip
    cases h; exact ⟨rfl, rfl, rfl⟩
  · cases h
def f8 (k : Nat) (x0 : Int) (x1 : Int) (x2 : Int) (x3 : List Int) : Option R8 :=
  br (decide ((↑(List.length x3) : Int) > (200 : Int)))
   (some true)
   (bindO (f27 k x3) fun r2999 =>
    bindO (f28 k x0 x1) fun r2998 =>
     bindO (f29 k x0 x1) fun r2997 =>
      bindO (f30 k x0 x3) fun r2996 =>
       bindO (f31 k x0 r2999) fun r2995 =>
        bindO (f32 k x0 x2) fun r2994 =>
         bindO (f33 k x0 x2) fun r2993 =>
          bindO (f34 k x0) fun r2992 =>
           bindO (f35 k x0) fun r2991 =>
            br (Prod.fst r2998 == Prod.fst r2997)
             (br (Prod.snd r2998 == Prod.snd r2997)
              (br (Prod.fst r2996 == Prod.fst r2995)
               (br (Prod.snd r2996 == Prod.snd r2995)
                (bindO (f36 k (Prod.fst r2994) (Prod.fst r2993)) fun r2990 =>
                 br r2990
                  (br (Prod.snd r2994 == Prod.snd r2993)
                   (br (ByteArray.toList (Prod.fst r2992) == ByteArray.toList (Prod.fst r2991))
                    (br (Prod.snd r2992 == Prod.snd r2991)
                     (bindO (f39 k x0) fun r2989 =>
                      bindO (f36 k (reachL x0) r2989) fun r2988 =>
                       br r2988
                        (bindO (f36 k x3 r2999) fun r2987 =>
                         some r2987)
                        (some false))
                     (some false))
                    (some false))
                   (some false))
                  (some false))
                (some false))
               (some false))
              (some false))
             (some false))
theorem f8_run (k : Nat) (x0 : Int) (x1 : Int) (x2 : Int) (x3 : List Int) : cf23 k R8 8 (A8 (x0, x1, x2, x3)) [] 0 (endR planR (.any) [] 0 r8) = f8 k x0 x1 x2 x3 := by kernel_rfl
def g8 (k : Nat) : CallS := entT d8 (fun p => f8 k p.1 p.2.1 p.2.2.1 p.2.2.2) (elAll _) (fun _ => o8) (fun _ => u8) (fun _ => n8)
theorem g8_ok (k : Nat) : CallSOk Try.prog 8 (g8 k) := entry_ok (Hp := fun _ => []) (oR := fun _ => o8) (uR := fun _ => u8) (nR := fun _ => n8) (cf23_ok k) d8_ok r8_ok (hel := elAll_ok) (fun p => f8_run k p.1 p.2.1 p.2.2.1 p.2.2.2)
def Dl24 (k : Nat) : Delta := dCons 8 (callAt plan [.any, .any, .any, .rd 3] (g8 k)) (Dl23 k)
def Lm24 (k : Nat) : FuncId → Nat → Option LamF := Lm23 k
theorem Dl24_ok (k : Nat) : DeltaOk Try.prog (Dl24 k) := dCons_ok (Dl23_ok k) (g8_ok k)
theorem Lm24_ok (k : Nat) : LamsOk Try.prog (Lm24 k) := Lm23_ok k
abbrev cf24 (k : Nat) : CallF := evF Try.prog (Dl24 k) (Lm24 k) 200 12
theorem cf24_ok (k : Nat) : CfOk Try.prog (cf24 k) := evF_ok noNum mixed (Dl24_ok k) (Lm24_ok k) 12
end
end Go.Proofs.Ytopeokonlaljlaa

end
section
set_option linter.unusedVariables false
set_option linter.unusedSimpArgs false
namespace Go.Proofs.Ytopeokonlaljlaa
open Go Go.Eng
theorem bindO_some {α R : Type} (x : α) (f : α → Option R) : bindO (some x) f = f x := rfl
theorem br_if {R : Type} (b : Bool) (x y : Option R) : br b x y = if b = true then x else y := by cases b <;> rfl
theorem wrap_ok {n : Int} (h0 : 0 ≤ n) (h1 : n ≤ 9223372036854775807) : IntKind.wrap .i64 n = n := by
  unfold IntKind.wrap
  have hb : IntKind.bits .i64 = 64 := rfl
  have hs : IntKind.signed .i64 = true := rfl
  simp only [hb, hs]
  have : n % (2 ^ 64 : Int) = n := Int.emod_eq_of_lt h0 (by omega)
  rw [this]
  simp
  intro h; omega
def chk (f : Int → Int → Bool) : Bool := [0, 1, 2, 3, 4].all fun p => [1, 2, 3, 4, 5, 6].all fun d => f p d
theorem chk_in {f : Int → Int → Bool} (h : chk f = true) {p d : Int} (hp : 0 ≤ p ∧ p < 5) (hd : 1 ≤ d ∧ d < 7) : f p d = true := by
  have h1 : p ∈ ([0, 1, 2, 3, 4] : List Int) := by simp; omega
  have h2 : d ∈ ([1, 2, 3, 4, 5, 6] : List Int) := by simp; omega
  exact List.all_eq_true.1 (List.all_eq_true.1 h p h1) d h2
noncomputable def nx (p d : Int) : Int × Bool := (f28 0 p d).getD (0, false)
theorem f28_out (k : Nat) {p d : Int} (h : ¬ ((0 ≤ p ∧ p < 5) ∧ 1 ≤ d ∧ d < 7)) : f28 k p d = some (0, false) := by
  unfold f28
  by_cases a : p ≥ 0 <;> by_cases b : p < 5 <;> by_cases c : d < 1 <;> by_cases e : d ≥ 7 <;> simp [br_if, a, b, c, e] <;> omega
theorem f28_some (k : Nat) (p d : Int) : f28 k p d = some (nx p d) := by
  by_cases h : (0 ≤ p ∧ p < 5) ∧ 1 ≤ d ∧ d < 7
  · have := chk_in (f := fun p d => (f28 0 p d).isSome) (by kernel_rfl) h.1 h.2
    show f28 0 p d = _
    unfold nx
    cases hq : f28 0 p d with
    | none => simp [hq] at this
    | some r => rfl
  · unfold nx; rw [f28_out k h, f28_out 0 h]; rfl
theorem nx_out {p d : Int} (h : ¬ ((0 ≤ p ∧ p < 5) ∧ 1 ≤ d ∧ d < 7)) : nx p d = (0, false) := by
  unfold nx; rw [f28_out 0 h]; rfl
theorem f29_out (k : Nat) {p d : Int} (h : ¬ ((0 ≤ p ∧ p < 5) ∧ 1 ≤ d ∧ d < 7)) : f29 k p d = some (0, false) := by
  unfold f29
  by_cases a : p < 0
  · simp [br_if, a]
  · by_cases b : p > 4
    · simp [br_if, a, b]
    · have h1 : d ≠ 1 := by omega
      have h2 : d ≠ 2 := by omega
      have h3 : d ≠ 3 := by omega
      have h4 : d ≠ 4 := by omega
      have h5 : d ≠ 5 := by omega
      have h6 : d ≠ 6 := by omega
      simp [br_if, a, b, h1, h2, h3, h4, h5, h6]
theorem f29_some (k : Nat) (p d : Int) : f29 k p d = some (nx p d) := by
  by_cases h : (0 ≤ p ∧ p < 5) ∧ 1 ≤ d ∧ d < 7
  · have := chk_in (f := fun p d => decide (f29 0 p d = some (nx p d))) (by kernel_rfl) h.1 h.2
    exact of_decide_eq_true this
  · rw [f29_out k h, nx_out h]
noncomputable def rn : Int → Int → List Int → Int × Int
  | p, n, [] => (p, n)
  | p, n, d :: r => rn (if (nx p d).2 = true then (nx p d).1 else p) (if (nx p d).2 = true then n + 1 else n) r
theorem getD_mid (pre r : List Int) (d : Int) : (pre ++ d :: r).getD (Int.toNat (pre.length : Int)) 0 = d := by simp [List.getD_eq_getElem?_getD]
theorem l30_ok (k : Nat) : ∀ (r pre : List Int) (p n : Int) (j : Nat), r.length < j → pre.length + r.length ≤ 1000000 → 0 ≤ n → n ≤ (pre.length : Int) →
    iterT (pS30_0 k) j ⟨p, n, pre ++ r, ((pre ++ r).length : Int), (pre.length : Int)⟩ = some ⟨(rn p n r).1, (rn p n r).2⟩
  | [], pre, p, n, 0, h, _, _, _ => by simp at h
  | [], pre, p, n, j + 1, h, hb, h0, h1 => by
    have hc : decide ((pre.length : Int) < ((pre ++ ([] : List Int)).length : Int)) = false := by simp
    simp only [iterT, pS30_0, hc, br_false, rn]
  | d :: r, pre, p, n, 0, h, _, _, _ => by simp at h
  | d :: r, pre, p, n, j + 1, h, hb, h0, h1 => by
    simp only [List.length_cons] at h hb
    have hc : decide ((pre.length : Int) < ((pre ++ d :: r).length : Int)) = true := by simp; omega
    have hi : decide ((0 : Int) ≤ (pre.length : Int) ∧ (pre.length : Int) < ((pre ++ d :: r).length : Int)) = true := by simp; omega
    have hw : IntKind.wrap .i64 ((pre.length : Int) + 1) = ((pre ++ [d]).length : Int) := by rw [wrap_ok (by omega) (by omega)]; simp
    have hl : pre ++ d :: r = (pre ++ [d]) ++ r := by simp
    have hn : IntKind.wrap .i64 (n + 1) = n + 1 := wrap_ok (by omega) (by omega)
    have ih := l30_ok k r (pre ++ [d])
    have e : iterT (pS30_0 k) (j + 1) ⟨p, n, pre ++ d :: r, ((pre ++ d :: r).length : Int), (pre.length : Int)⟩ = iterT (pS30_0 k) j ⟨if (nx p d).2 = true then (nx p d).1 else p, if (nx p d).2 = true then n + 1 else n, pre ++ d :: r, ((pre ++ d :: r).length : Int), ((pre ++ [d]).length : Int)⟩ := by
      simp only [iterT, pS30_0, hc, hi, br_true, getD_mid, f28_some, bindO_some, hw, hn]
      cases hx : (nx p d).2 <;> simp [hx, br_true, br_false]
    rw [e, hl, rn]
    refine ih _ _ j (by omega) (by simp; omega) (by split <;> omega) (by simp; split <;> omega)
theorem f30_ok {k : Nat} {l : List Int} (hk : l.length < k) (hl : l.length ≤ 1000000) (p : Int) : f30 k p l = some (rn p 0 l) := by
  unfold f30 l30_0
  have := l30_ok k l [] p 0 k hk (by simpa using hl) (Int.le_refl 0) (by simp)
  simp only [List.nil_append, List.length_nil] at this
  rw [show ((0 : Nat) : Int) = 0 from rfl] at this
  rw [this, bindO_some]
theorem l31_ok (k : Nat) : ∀ (r pre : List Int) (p n : Int) (j : Nat), r.length < j → pre.length + r.length ≤ 1000000 → 0 ≤ n → n ≤ (pre.length : Int) →
    iterT (pS31_0 k) j ⟨p, pre ++ r, n, (pre.length : Int)⟩ = some ⟨(rn p n r).1, (rn p n r).2⟩
  | [], pre, p, n, 0, h, _, _, _ => by simp at h
  | [], pre, p, n, j + 1, h, hb, h0, h1 => by
    have hc : decide ((pre.length : Int) < ((pre ++ ([] : List Int)).length : Int)) = false := by simp
    simp only [iterT, pS31_0, hc, br_false, rn]
  | d :: r, pre, p, n, 0, h, _, _, _ => by simp at h
  | d :: r, pre, p, n, j + 1, h, hb, h0, h1 => by
    simp only [List.length_cons] at h hb
    have hc : decide ((pre.length : Int) < ((pre ++ d :: r).length : Int)) = true := by simp; omega
    have hi : decide ((0 : Int) ≤ (pre.length : Int) ∧ (pre.length : Int) < ((pre ++ d :: r).length : Int)) = true := by simp; omega
    have hw : IntKind.wrap .i64 ((pre.length : Int) + 1) = ((pre ++ [d]).length : Int) := by rw [wrap_ok (by omega) (by omega)]; simp
    have hl : pre ++ d :: r = (pre ++ [d]) ++ r := by simp
    have hn : IntKind.wrap .i64 (n + 1) = n + 1 := wrap_ok (by omega) (by omega)
    have ih := l31_ok k r (pre ++ [d])
    have e : iterT (pS31_0 k) (j + 1) ⟨p, pre ++ d :: r, n, (pre.length : Int)⟩ = iterT (pS31_0 k) j ⟨if (nx p d).2 = true then (nx p d).1 else p, pre ++ d :: r, if (nx p d).2 = true then n + 1 else n, ((pre ++ [d]).length : Int)⟩ := by
      simp only [iterT, pS31_0, hc, hi, br_true, getD_mid, f29_some, bindO_some, hw, hn]
      cases hx : (nx p d).2 <;> simp [hx, br_true, br_false]
    rw [e, hl, rn]
    refine ih _ _ j (by omega) (by simp; omega) (by split <;> omega) (by simp; split <;> omega)
theorem f31_ok {k : Nat} {l : List Int} (hk : l.length < k) (hl : l.length ≤ 1000000) (p : Int) : f31 k p l = some (rn p 0 l) := by
  unfold f31 l31_0
  have := l31_ok k l [] p 0 k hk (by simpa using hl) (Int.le_refl 0) (by simp)
  simp only [List.nil_append, List.length_nil] at this
  rw [show ((0 : Nat) : Int) = 0 from rfl] at this
  rw [this, bindO_some]
theorem l36_ok (k : Nat) : ∀ (r pre : List Int) (j : Nat), r.length < j → pre.length + r.length ≤ 1000000 → iterT (pS36_0 k) j ⟨pre ++ r, pre ++ r, (pre.length : Int)⟩ = some (.inr E36_0b.mk)
  | [], pre, 0, h, _ => by simp at h
  | [], pre, j + 1, h, hb => by
    have hc : decide ((pre.length : Int) < ((pre ++ ([] : List Int)).length : Int)) = false := by simp
    simp only [iterT, pS36_0, hc, br_false]
  | d :: r, pre, 0, h, _ => by simp at h
  | d :: r, pre, j + 1, h, hb => by
    simp only [List.length_cons] at h hb
    have hc : decide ((pre.length : Int) < ((pre ++ d :: r).length : Int)) = true := by simp; omega
    have hi : decide ((0 : Int) ≤ (pre.length : Int) ∧ (pre.length : Int) < ((pre ++ d :: r).length : Int)) = true := by simp; omega
    have hw : IntKind.wrap .i64 ((pre.length : Int) + 1) = ((pre ++ [d]).length : Int) := by rw [wrap_ok (by omega) (by omega)]; simp
    have hl : pre ++ d :: r = (pre ++ [d]) ++ r := by simp
    have hne : ((pre ++ d :: r).getD (Int.toNat (pre.length : Int)) 0 != (pre ++ d :: r).getD (Int.toNat (pre.length : Int)) 0) = false := by simp
    have ih := l36_ok k r (pre ++ [d]) j (by omega) (by simp; omega)
    rw [← hl] at ih
    simp only [iterT, pS36_0, hc, hi, br_true, hne, br_false, hw]
    exact ih
theorem f36_ok {k : Nat} {l : List Int} (hk : l.length < k) (hl : l.length ≤ 1000000) : f36 k l l = some true := by
  unfold f36 l36_0
  have := l36_ok k l [] k hk (by simpa using hl)
  simp only [List.nil_append, List.length_nil] at this
  rw [show ((0 : Nat) : Int) = 0 from rfl] at this
  have hne : ((l.length : Int) != (l.length : Int)) = false := by simp
  rw [hne, br_false, this, bindO_some]
theorem f27_ok {k : Nat} {l : List Int} (hl : l.length ≤ 1000000) : f27 k l = some l := by
  unfold f27
  have : (true && decide (l.length * 8 ≤ 140737488355328)) = true := by simp; omega
  rw [this, br_true]
end Go.Proofs.Ytopeokonlaljlaa

end
section
set_option linter.unusedVariables false
set_option linter.unusedSimpArgs false
namespace Go.Proofs.Ytopeokonlaljlaa
open Go Go.Eng
def all5L : List Int := [0, 1, 2, 3, 4]
theorem mem5 {p : Int} (h : 0 ≤ p ∧ p < 5) : p ∈ all5L := by unfold all5L; simp; omega
theorem f32_out (k : Nat) {x0 x1 : Int} (h : ¬ ((0 ≤ x0 ∧ x0 < 5) ∧ 0 ≤ x1 ∧ x1 < 5)) : f32 k x0 x1 = some ([], false) := by
  unfold f32
  by_cases h0 : 0 ≤ x0 ∧ x0 < 5
  · have hx : x0 = 0 ∨ x0 = 1 ∨ x0 = 2 ∨ x0 = 3 ∨ x0 = 4 := by omega
    by_cases a : x1 ≥ 0
    · have b : ¬ x1 < 5 := fun b => h ⟨h0, a, b⟩
      rcases hx with rfl | rfl | rfl | rfl | rfl <;> simp [f32_0, f32_1, f32_2, f32_3, f32_4, br_if, a, b]
    · rcases hx with rfl | rfl | rfl | rfl | rfl <;> simp [f32_0, f32_1, f32_2, f32_3, f32_4, br_if, a]
  · have n0 : x0 ≠ 0 := by omega
    have n1 : x0 ≠ 1 := by omega
    have n2 : x0 ≠ 2 := by omega
    have n3 : x0 ≠ 3 := by omega
    have n4 : x0 ≠ 4 := by omega
    by_cases a : x0 ≥ 0
    · have b : ¬ x0 < 5 := fun b => h0 ⟨a, b⟩
      simp [f32_o, br_if, n0, n1, n2, n3, n4, a, b]
    · simp [f32_o, br_if, n0, n1, n2, n3, n4, a]
theorem f33_out (k : Nat) {x0 x1 : Int} (h : ¬ ((0 ≤ x0 ∧ x0 < 5) ∧ 0 ≤ x1 ∧ x1 < 5)) : f33 k x0 x1 = some ([], false) := by
  have e : f33 k x0 x1 = f33_o k x0 x1 := by
    unfold f33
    have : ∀ a b : Int, (0 ≤ a ∧ a < 5) → (0 ≤ b ∧ b < 5) → (x0 == a && x1 == b) = false := by
      intro a b ha hb
      cases hq : (x0 == a && x1 == b) with
      | false => rfl
      | true => simp at hq; exact absurd ⟨by omega, by omega⟩ h
    simp only [this 0 0 (by decide) (by decide), this 0 1 (by decide) (by decide), this 0 2 (by decide) (by decide), this 0 3 (by decide) (by decide), this 0 4 (by decide) (by decide), this 1 0 (by decide) (by decide), this 1 1 (by decide) (by decide), this 1 2 (by decide) (by decide), this 1 3 (by decide) (by decide), this 1 4 (by decide) (by decide),
      this 2 0 (by decide) (by decide), this 2 1 (by decide) (by decide), this 2 2 (by decide) (by decide), this 2 3 (by decide) (by decide), this 2 4 (by decide) (by decide), this 3 0 (by decide) (by decide), this 3 1 (by decide) (by decide), this 3 2 (by decide) (by decide), this 3 3 (by decide) (by decide), this 3 4 (by decide) (by decide),
      this 4 0 (by decide) (by decide), this 4 1 (by decide) (by decide), this 4 2 (by decide) (by decide), this 4 3 (by decide) (by decide), this 4 4 (by decide) (by decide), br_false]
  rw [e]
  unfold f33_o
  by_cases a : x0 < 0
  · simp [br_if, a]
  · by_cases b : x0 > 4
    · simp [br_if, a, b]
    · by_cases c : x1 < 0
      · simp [br_if, a, b, c]
      · have d : x1 > 4 := by omega
        simp [br_if, a, b, c, d]
theorem way_in : (all5L.all fun a => all5L.all fun b => decide (f32 0 a b = f33 0 a b) && (match f32 0 a b with | some r => decide (r.1.length ≤ 4) | none => false)) = true := by kernel_rfl
theorem way_same (k : Nat) (x0 x1 : Int) : ∃ r : List Int × Bool, f32 k x0 x1 = some r ∧ f33 k x0 x1 = some r ∧ r.1.length ≤ 4 := by
  by_cases h : (0 ≤ x0 ∧ x0 < 5) ∧ 0 ≤ x1 ∧ x1 < 5
  · have := List.all_eq_true.1 (List.all_eq_true.1 way_in x0 (mem5 h.1)) x1 (mem5 h.2)
    rw [Bool.and_eq_true] at this
    have h1 := of_decide_eq_true this.1
    have h2 := this.2
    split at h2
    · rename_i r hr
      exact ⟨r, hr, h1.symm.trans hr, of_decide_eq_true h2⟩
    · cases h2
  · exact ⟨([], false), f32_out k h, f33_out k h, by simp⟩
theorem name_same (k : Nat) (x0 : Int) : ∃ r : ByteArray × Bool, f34 k x0 = some r ∧ f35 k x0 = some r := by
  by_cases h : 0 ≤ x0 ∧ x0 < 5
  · have hx : x0 = 0 ∨ x0 = 1 ∨ x0 = 2 ∨ x0 = 3 ∨ x0 = 4 := by omega
    rcases hx with rfl | rfl | rfl | rfl | rfl
    · exact ⟨(f34 0 0).getD (ByteArray.mk #[], false), by kernel_rfl, by kernel_rfl⟩
    · exact ⟨(f34 0 1).getD (ByteArray.mk #[], false), by kernel_rfl, by kernel_rfl⟩
    · exact ⟨(f34 0 2).getD (ByteArray.mk #[], false), by kernel_rfl, by kernel_rfl⟩
    · exact ⟨(f34 0 3).getD (ByteArray.mk #[], false), by kernel_rfl, by kernel_rfl⟩
    · exact ⟨(f34 0 4).getD (ByteArray.mk #[], false), by kernel_rfl, by kernel_rfl⟩
  · refine ⟨(ByteArray.mk #[], false), ?_, ?_⟩
    · unfold f34
      by_cases a : x0 ≥ 0
      · have b : ¬ x0 < 5 := fun b => h ⟨a, b⟩
        simp [br_if, a, b]
      · simp [br_if, a]
    · unfold f35
      by_cases a : x0 < 0
      · simp [br_if, a]
      · have b : x0 ≥ 5 := by omega
        simp [br_if, a, b]
theorem f39_ok (k : Nat) (x0 : Int) : f39 k x0 = some (reachL x0) := by
  by_cases h : 0 ≤ x0 ∧ x0 < 5
  · have hx : x0 = 0 ∨ x0 = 1 ∨ x0 = 2 ∨ x0 = 3 ∨ x0 = 4 := by omega
    rcases hx with rfl | rfl | rfl | rfl | rfl <;> rfl
  · have hr : reachL x0 = [] := by unfold reachL; rw [decide_eq_false h]
    rw [hr]
    have ho : ∀ b, f33 k x0 b = some ([], false) := fun b => f33_out k (fun q => h q.1)
    have n0 : (x0 == 0) = false := by simp; omega
    have n1 : (x0 == 1) = false := by simp; omega
    have n2 : (x0 == 2) = false := by simp; omega
    have n3 : (x0 == 3) = false := by simp; omega
    have n4 : (x0 == 4) = false := by simp; omega
    unfold f39
    rw [n0, n1, n2, n3, n4]
    simp only [br_false]
    unfold f39_o
    simp only [ho, bindO_some, br_false]
theorem reachL_len (x : Int) : (reachL x).length ≤ 5 := by unfold reachL; split <;> simp
theorem lifeDoes_true (x0 x1 x2 : Int) (x3 : List Int) (g0 : (Lit.int .i64 x0).wf = true) (g1 : (Lit.int .i64 x1).wf = true) (g2 : (Lit.int .i64 x2).wf = true) (g3 : x3.length ≤ maxLen ∧ ∀ x0 ∈ x3, (Lit.int .i64 x0).wf = true) : ∃ k, f8 k x0 x1 x2 x3 = some true := by
  refine ⟨1000, ?_⟩
  unfold f8
  by_cases h1 : (x3.length : Int) > 200
  · rw [decide_eq_true h1]; rfl
  rw [decide_eq_false h1, br_false]
  obtain ⟨w, w1, w2, w3⟩ := way_same 1000 x0 x2
  obtain ⟨s, s1, s2⟩ := name_same 1000 x0
  have hk : x3.length < 1000 := by omega
  have hl : x3.length ≤ 1000000 := by omega
  have hr : f36 1000 (reachL x0) (reachL x0) = some true := f36_ok (by have := reachL_len x0; omega) (by have := reachL_len x0; omega)
  simp only [f27_ok hl, f28_some, f29_some, f30_ok hk hl, f31_ok hk hl, w1, w2, s1, s2, f39_ok, bindO_some, beq_self_eq_true, br_true, f36_ok (l := w.1) (k := 1000) (by omega) (by omega), f36_ok hk hl, hr]
end Go.Proofs.Ytopeokonlaljlaa

end
section
set_option linter.unusedVariables false
namespace Go.Proofs.Ytopeokonlaljlaa.lifeDoes
open Go.Eng Go.Proofs.Ytopeokonlaljlaa
open Go.ChangeShapes Go.WideShapes Go.ChangeAt Go.RowKit
open Go.ChangeMaps (open_string shut_string)
theorem own : ownKnob Try.prog.godebug = none := by kernel_rfl
theorem laidOut : laidOutB Try.prog = true := by kernel_rfl
theorem rd3 {H : Type} {enc : TypeId × Value → H} {W : World} : RdL enc Try.prog W (fun x : Int => [.int .i64 x]) 3 (fun x => (Lit.int .i64 x).wf = true) := RdL.int Try.underlying3
theorem rd45 {H : Type} {enc : TypeId × Value → H} {W : World} : RdL enc Try.prog W (fun x : List Int => [.dsl 3 x]) 45 (fun x => x.length ≤ maxLen ∧ ∀ x0 ∈ x, (Lit.int .i64 x0).wf = true) := RdL.slice Try.underlying45 (by kernel_rfl) (RdL.iso rd3 (fun x => x) (fun _ => rfl) (fun _ h => h))
set_option maxRecDepth 100000 in
theorem lifted (os : Os) (started : os.Started) (H : Type) (enc : TypeId × Value → H) :
    ReturnsInHanded {} Try.checked os 8 .any (Rows.lifeDoesSpec.pre6 enc Try.prog Try.f8 Rows.lifeDoesRow.domain false) (Rows.lifeDoesSpec.post enc Try.prog Try.f8 false true false false) := by
  refine returnsInHanded_of_change_sized (C := Try.checked) own started (by kernel_rfl) Try.func8
    (ChangeSpec.witness6 (enc := enc) (C := Try.checked) false ⟨#[], #[.int .i64 0, .int .i64 0, .int .i64 0, .slice none 0 0], []⟩ 8 (by kernel_rfl) (by kernel_rfl) (by kernel_rfl) (by kernel_rfl)) ?_
  intro W base args ds gs before hval0 hW hcnd hsz0 _
  have hval : ∀ (j : Nat) t v, Try.f8.params[j]? = some t → args[j]? = some v → Value.okWide Try.prog W .any base t v := hval0
  have hW' := hW
  obtain ⟨p, q, hA0, hV, rfl, hfz, hnd⟩ := hW
  have hA : DataW.TrodAll enc Try.prog W 0 (fun _ => true) true Try.f8.params.toList args.toList ds p := hA0
  rw [Try.params8] at hA hval
  obtain ⟨v0, vs0, d0, ds0, p0, q0, hargs, rfl, rfl, h0, r0⟩ := trodAll_cons hA
  obtain ⟨v1, vs1, d1, ds1, p1, q1, rfl, rfl, rfl, h1, r1⟩ := trodAll_cons r0
  obtain ⟨v2, vs2, d2, ds2, p2, q2, rfl, rfl, rfl, h2, r2⟩ := trodAll_cons r1
  obtain ⟨v3, vs3, d3, ds3, p3, q3, rfl, rfl, rfl, h3, r3⟩ := trodAll_cons r2
  obtain ⟨rfl, rfl, rfl⟩ := trodAll_nil r3
  obtain rfl : args = #[v0, v1, v2, v3] := by cases args; simp_all
  obtain ⟨rfl, rfl⟩ := trodVars_none hV
  have k0 := h0
  have lt0 : ∀ x ∈ p0, x.block < W.heap.size := by obtain ⟨m, hm⟩ := k0; exact DataW.trod_lt m _ _ _ hm
  obtain ⟨a0, rfl, rfl, rfl, g0⟩ := open_int Try.underlying3 (hval 0 3 v0 rfl rfl) h0
  have e0 : rel0 W (.int .i64 a0) (.int .i64 a0) := .int _ _
  have k1 := h1
  have lt1 : ∀ x ∈ p1, x.block < W.heap.size := by obtain ⟨m, hm⟩ := k1; exact DataW.trod_lt m _ _ _ hm
  obtain ⟨a1, rfl, rfl, rfl, g1⟩ := open_int Try.underlying3 (hval 1 3 v1 rfl rfl) h1
  have e1 : rel0 W (.int .i64 a1) (.int .i64 a1) := .int _ _
  have k2 := h2
  have lt2 : ∀ x ∈ p2, x.block < W.heap.size := by obtain ⟨m, hm⟩ := k2; exact DataW.trod_lt m _ _ _ hm
  obtain ⟨a2, rfl, rfl, rfl, g2⟩ := open_int Try.underlying3 (hval 2 3 v2 rfl rfl) h2
  have e2 : rel0 W (.int .i64 a2) (.int .i64 a2) := .int _ _
  have k3 := h3
  have lt3 : ∀ x ∈ p3, x.block < W.heap.size := by obtain ⟨m, hm⟩ := k3; exact DataW.trod_lt m _ _ _ hm
  obtain ⟨sa3, sl3, sc3, rfl⟩ := okWide_slice Try.underlying45 (hval 3 45 v3 rfl rfl)
  obtain ⟨a3, g3, c3⟩ := rd45 _ (Read.of h3) (by simp [Value.cells]; kernel_rfl)
  have e3 := (c3.2 0 _ _ rfl rfl).2
  clear hA0 hval0 hsz0
  obtain ⟨k, hk⟩ := lifeDoes_true a0 a1 a2 a3 g0 g1 g2 g3
  have hc : CallOk Try.prog 8 (A8 (a0, a1, a2, a3)) [] 0 (.ret (.bool true)) _ _ := entry_call elAll_ok (g8_ok k) (show d8 (A8 (a0, a1, a2, a3)) [] = some (a0, a1, a2, a3) by kernel_rfl) hk
  have hv : VRels (fun _ => none) (ro0 W) W (A8 (a0, a1, a2, a3)) [_, _, _, _] := .cons e0 (.cons e1 (.cons e2 (.cons e3 (VRels.nil))))
  refine (law_call hc hv).mono fun e W' he => ?_
  obtain ⟨rfl, bel⟩ := he
  exact ⟨_, rfl, _, _, _, [], _, [], hW', trodAll_mk1 (shut_bool Try.underlying4 _), (trodAll_cons_mk (Below.trod laidOut (by kernel_rfl) (of_decide_eq_true (by kernel_rfl)) k0 bel lt0) (trodAll_cons_mk (Below.trod laidOut (by kernel_rfl) (of_decide_eq_true (by kernel_rfl)) k1 bel lt1) (trodAll_cons_mk (Below.trod laidOut (by kernel_rfl) (of_decide_eq_true (by kernel_rfl)) k2 bel lt2) (trodAll_cons_mk (Below.trod laidOut (by kernel_rfl) (of_decide_eq_true (by kernel_rfl)) k3 bel lt3) trodAll_mk0)))), rfl, bel.frame _, fun h => by cases h⟩
theorem over : Rows.lifeDoesRow.holds Try.pinned (OpenSpec.ofChange Rows.lifeDoesSpec) :=
  OpenClaim.holds_of_wide 8 Try.f8 rfl rfl rfl rfl rfl rfl rfl ⟨rfl, rfl, rfl, rfl, rfl⟩ rfl rfl rfl rfl rfl (by kernel_rfl) Try.func8 (by kernel_rfl)
    (of_decide_eq_true (by kernel_rfl)) (by unfold Func.isWrapper; first | (rw [if_pos (by decide +kernel)]; kernel_rfl) | (rw [if_neg (by decide +kernel)]; exact ⟨rfl, rfl⟩))
    (fun os started H enc _ => lifted os started H enc)
end Go.Proofs.Ytopeokonlaljlaa.lifeDoes
namespace Go.Proofs.Ytopeokonlaljlaa
theorem lifeDoes_holds : Rows.LifeDoesSaid := lifeDoes.over
end Go.Proofs.Ytopeokonlaljlaa

end
