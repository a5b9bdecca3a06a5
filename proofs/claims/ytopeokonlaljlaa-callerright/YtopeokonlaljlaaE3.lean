/- CallerRound: its call returns true. -/
import Derived.Test.YtopeokonlaljlaaE2
set_option linter.unusedVariables false
namespace Go.Proofs.Ytopeokonlaljlaa
open Go.Eng Go.Proofs

noncomputable def bd5e : Code := loopOf ((blocksOf 4 (codeAt Try.prog 5)).headD .skip)
theorem lp5e_eq : blocksOf 4 (codeAt Try.prog 5) = [.loop bd5e] := by kernel_rfl
noncomputable def run5e : Run := runC2 Try.prog (tmpsAt Try.prog 5) cfTf 60 bd5e
theorem run5e_ok : RunW Try.prog (tmpsAt Try.prog 5) bd5e run5e := (runC2_ok noNum mixed cfT _).toW
abbrev env5e (m : Nat) (i : Int) : Env := [(1, some (.ptr 0 0 0)), (3, some (.ptr 1 0 0)), (4, some (.ptr 2 0 0)), (5, some (.sl 3 0 m m)), (15, some (.int .i64 i))]
theorem s5e_go (c b d : Caller) (m : Nat) (l : List Int) (i : Int) : cutR T5 [1, 3, 4, 5, 15] (run5e (env5e m i) (heap5 c b d m (elI l)) 4 [.go 0 true, .go 0 false]) =
    some (.normal, env5e m (IntKind.i64.wrap (i + 1)), heap5 c b d m (elI l), [(true, decide (i < c.n)), (decide (0 ≤ i ∧ i < (m : Int)), true), (decide (0 + i.toNat < m), true), (false, l.getD (0 + i.toNat) 0 != 1)]) := by kernel_rfl
theorem s5e_end (c b d : Caller) (m : Nat) (l : List Int) (i : Int) : cutR T5 [1, 3, 4, 5] (run5e (env5e m i) (heap5 c b d m (elI l)) 4 [.go 0 false]) =
    some (.exit 4, fin5 m, heap5 c b d m (elI l), [(false, decide (i < c.n))]) := by kernel_rfl

theorem rounds5e {c : Caller} (b d : Caller) (R : Right c) : ∀ (k j : Nat), c.n.toNat - j = k → j ≤ c.n.toNat →
    WRok Try.prog (tmpsAt Try.prog 5) bd5e (env5e c.n.toNat j) (heap5 c b d c.n.toNat (elI (cntC c c.n.toNat))) 4 (.exit 4) (fin5 c.n.toNat) (heap5 c b d c.n.toNat (elI (cntC c c.n.toNat))) 4
  | 0, j, hk, hj => by
    have h1 := R.n
    exact .exit (pieceF (T := T5) (n' := 4) run5e_ok (s5e_end c b d _ _ _) rfl rfl (flat_h5 fun _ _ _ _ => .int _ _) (conds_cons (decide_eq_false (by omega)).symm conds_nil)) (by simp)
  | k + 1, j, hk, hj => by
    have h1 := R.n
    have e := s5e_go c b d c.n.toNat (cntC c c.n.toNat) j
    have hg : (cntC c c.n.toNat).getD (0 + (j : Int).toNat) 0 = 1 := by rw [Nat.zero_add, Int.toNat_natCast]; exact cnt_end R j (by omega)
    rw [wrap_sub (by omega), hg] at e
    have st := pieceF (T := T5) (n' := 4) run5e_ok e rfl rfl (flat_h5 fun _ _ _ _ => .int _ _) (conds_cons (decide_eq_true (by omega)).symm (conds_cons (decide_eq_true (by omega)) (conds_cons (decide_eq_true (by omega)) (conds_cons rfl conds_nil))))
    exact .step st (rounds5e b d R k (j + 1) (by omega) (by omega))

/-- A row as it is made. -/
abbrev ef0 : Nat → Nat → AV := fun _ k => ([.int .i64 0] : List AV).getD k .nilp
noncomputable def good5 (c : Caller) : Bool := @decide (Right c ∧ c.busy = true) (Classical.propDecidable _)
theorem good5_iff {c : Caller} : good5 c = true ↔ (Right c ∧ c.busy = true) := @decide_eq_true_iff _ (Classical.propDecidable _)

noncomputable def lam50 (c : Caller) : Run := lamOf T5 [1, 3, 4, 5, 6] (env5 c.n.toNat 0) (heap5 c c c c.n.toNat ef0) .normal (fin5 c.n.toNat) (heap5 c (bAt c c.n.toNat) (bAt c c.n.toNat) c.n.toNat (elI (cntC c c.n.toNat))) 4 (good5 c)
theorem lam50_ok (c : Caller) : RunW Try.prog (tmpsAt Try.prog 5) (.block 0 (.loop bd5)) (lam50 c) := by
  refine lamOf_ok (n0 := 4) rfl (flat_h5 fun i k hi hk => by have : k = 0 := by omega
                                                             subst this; exact .int _ _) fun hg => ?_
  obtain ⟨R, hb⟩ := good5_iff.1 hg
  have r := rounds5 R hb c.n.toNat 0 rfl (Nat.zero_le _)
  rw [bAt_zero R] at r
  refine WOk.pre (Sees.ref ?_) (r.loop.block (id := 0))
  refine .cons rfl (ORef.refl _) (.cons rfl (ORef.refl _) (.cons rfl (ORef.refl _) (.cons rfl ?_ .nil)))
  refine ⟨_, _, rfl, Nat.le_refl _, fun i k hi hk => ?_⟩
  have : k = 0 := by omega
  subst this
  rw [cnt_zero c R]
  simp [elI, hi]
noncomputable def lam54 (c : Caller) : Run := lamOf T5 [1, 3, 4, 5, 15] (env5e c.n.toNat 0) (heap5 c (bAt c c.n.toNat) (bAt c c.n.toNat) c.n.toNat (elI (cntC c c.n.toNat))) .normal (fin5 c.n.toNat) (heap5 c (bAt c c.n.toNat) (bAt c c.n.toNat) c.n.toNat (elI (cntC c c.n.toNat))) 4 (good5 c)
theorem lam54_ok (c : Caller) : RunW Try.prog (tmpsAt Try.prog 5) (.block 4 (.loop bd5e)) (lam54 c) := by
  refine lamOf_ok (n0 := 4) rfl (flat_h5 fun _ _ _ _ => .int _ _) fun hg => ?_
  obtain ⟨R, hb⟩ := good5_iff.1 hg
  have r := rounds5e (bAt c c.n.toNat) (bAt c c.n.toNat) R c.n.toNat 0 rfl (Nat.zero_le _)
  exact r.loop.block (id := 4)

noncomputable abbrev cfLf : CallF := runG Try.prog (entΔ [conEnt conisC, knowEnt 24 gCalled]) 60 4
theorem cfL : CfOk Try.prog cfLf := runG_ok noNum mixed (entΔ_ok (List.forall_mem_cons.2 ⟨conEnt_ok conisC_ok, List.forall_mem_cons.2 ⟨eCalled, List.forall_mem_nil _⟩⟩)) _
theorem lams5 (c : Caller) (fn : Func) (cd : Code) (hfn : Try.prog.funcs[5]? = some fn) (hb : fn.body = some cd) : LamW Try.prog fn.ntmps cd (lams [(0, lam50 c), (4, lam54 c)]) := by
  obtain ⟨rfl, h2⟩ := codeAt_eq hfn hb
  rw [h2]
  exact lamsW (List.forall_mem_cons.2 ⟨⟨_, lp5_eq, lam50_ok c⟩, List.forall_mem_cons.2 ⟨⟨_, lp5e_eq, lam54_ok c⟩, List.forall_mem_nil _⟩⟩)
noncomputable abbrev call5 (c : Caller) (ds : List Dec) : Option (Came AEnd) := callLam Try.prog (lams [(0, lam50 c), (4, lam54 c)]) 60 cfLf 5 [.agg c.cells] [] 0 ds
end Go.Proofs.Ytopeokonlaljlaa
