/- CallerRuns: its loop, and its call. -/
import Derived.Test.YtopeokonlaljlaaF3
set_option linter.unusedVariables false
namespace Go.Proofs.Ytopeokonlaljlaa
open Go.Eng Go.Proofs

theorem or6 (l : List StepS) (hl : l.length ≤ 60) : ∀ (k j : Nat) (c : Caller), Right c → l.length - j = k → j ≤ l.length → WR6 l c j (.exit 0) [] ∨ WR6 l c j .ret [(6, some (.bool true))]
  | 0, j, c, R, hk, hj => .inl (.exit (pieceF (T := []) (n' := 0) (run6_ok default) (s6_end c c.request j c.busy l default) rfl rfl True.intro (conds_cons (decide_eq_false (by omega)).symm conds_nil)) (by simp))
  | k + 1, j, c, R, hk, hj => by
    rcases step6 l R (i := j) (by omega) (by omega) with ⟨c', R', st⟩ | st
    · have hw : IntKind.i64.wrap ((j : Int) + 1) = ((j + 1 : Nat) : Int) := by rw [wrap_sub (by omega)]; rfl
      rw [hw] at st
      rcases or6 l hl k (j + 1) c' R' (by omega) (by omega) with r | r
      · exact .inl (.step st r)
      · exact .inr (.step st r)
    · exact .inr (.exit st (by simp))

noncomputable def ends6 (l : List StepS) (c : Caller) : Bool := @decide (WR6 l c 0 (.exit 0) []) (Classical.propDecidable _)
theorem ends6_iff {l : List StepS} {c : Caller} : ends6 l c = true ↔ WR6 l c 0 (.exit 0) [] := @decide_eq_true_iff _ (Classical.propDecidable _)
noncomputable def good6 (l : List StepS) (c : Caller) : Bool := @decide (l.length ≤ 60 ∧ Right c ∧ c.busy = false ∧ c.request = 0) (Classical.propDecidable _)
theorem good6_iff {l : List StepS} {c : Caller} : good6 l c = true ↔ (l.length ≤ 60 ∧ Right c ∧ c.busy = false ∧ c.request = 0) := @decide_eq_true_iff _ (Classical.propDecidable _)
noncomputable def lam6 (l : List StepS) (c : Caller) : Run := lamIf [(0, 0)] [2, 7, 9, 10, 11] (env6 l 0 false 0) (heap6 c) (ends6 l c) .normal [] [] .ret [(6, some (.bool true))] [] 0 (good6 l c)
theorem lam6_ok (l : List StepS) (c : Caller) : RunW Try.prog (tmpsAt Try.prog 6) (.block 0 (.loop bd6)) (lam6 l c) := by
  refine lamIf_ok (n0 := 1) rfl ⟨True.intro, True.intro⟩ (fun hg hb => ?_) (fun hg hb => ?_)
  · obtain ⟨h1, R, h2, h3⟩ := good6_iff.1 hg
    have r := ends6_iff.1 hb
    have r := r.loop.block (id := 0)
    rw [h2, h3] at r
    exact r
  · obtain ⟨h1, R, h2, h3⟩ := good6_iff.1 hg
    have hn : ¬ WR6 l c 0 (.exit 0) [] := fun h => by rw [ends6_iff.2 h] at hb; cases hb
    rcases or6 l h1 l.length 0 c R rfl (Nat.zero_le _) with r | r
    · exact absurd r hn
    · have r := r.loop.block (id := 0)
      rw [h2, h3] at r
      exact r

noncomputable abbrev cfNf : CallF := runG Try.prog (entΔ [conEnt connewC, knowEnt 24 gCalled]) 60 4
theorem cfN : CfOk Try.prog cfNf := runG_ok noNum mixed (entΔ_ok (List.forall_mem_cons.2 ⟨conEnt_ok connewC_ok, List.forall_mem_cons.2 ⟨eCalled, List.forall_mem_nil _⟩⟩)) _
theorem lams6 (l : List StepS) (c : Caller) (fn : Func) (cd : Code) (hfn : Try.prog.funcs[6]? = some fn) (hb : fn.body = some cd) : LamW Try.prog fn.ntmps cd (lams [(0, lam6 l c)]) := by
  obtain ⟨rfl, h2⟩ := codeAt_eq hfn hb
  rw [h2]
  exact lamsW (List.forall_mem_cons.2 ⟨⟨_, lp6_eq, lam6_ok l c⟩, List.forall_mem_nil _⟩)
noncomputable abbrev call6 (n w : Int) (l : List StepS) (ds : List Dec) : Option (Came AEnd) := callLam Try.prog (lams [(0, lam6 l (newC n w).1)]) 60 cfNf 6 [.int .i64 n, .int .i64 w, scriptA l] [] 0 ds
theorem w6a (n w : Int) (l : List StepS) : resOf (call6 n w l [.go 0 true]) = some (.ret (.bool true), [(true, (newC n w).2 != 0)]) := by kernel_rfl
theorem w6b (n w : Int) (l : List StepS) : resOf (call6 n w l [.go 0 false, .go 0 true]) = some (.ret (.bool true), [(false, (newC n w).2 != 0), (true, decide ((l.length : Int) > 60))]) := by kernel_rfl
theorem w6c (n w : Int) (l : List StepS) : resOf (call6 n w l [.go 0 false, .go 0 false, .go 0 true]) = some (.ret (.bool true), [(false, (newC n w).2 != 0), (false, decide ((l.length : Int) > 60)), (true, ends6 l (newC n w).1),
    (eqO (some (env6 l 0 false 0)) (some (env6 l 0 false 0)), true), (eqO (some (heap6 (newC n w).1)) (some (heap6 (newC n w).1)), true), (good6 l (newC n w).1, true)]) := by kernel_rfl
theorem w6d (n w : Int) (l : List StepS) : resOf (call6 n w l [.go 0 false, .go 0 false, .go 0 false]) = some (.ret (.bool true), [(false, (newC n w).2 != 0), (false, decide ((l.length : Int) > 60)), (false, ends6 l (newC n w).1),
    (eqO (some (env6 l 0 false 0)) (some (env6 l 0 false 0)), true), (eqO (some (heap6 (newC n w).1)) (some (heap6 (newC n w).1)), true), (good6 l (newC n w).1, true)]) := by kernel_rfl

theorem new_right {n w : Int} (h : (newC n w).2 = 0) : Right (newC n w).1 ∧ (newC n w).1.busy = false ∧ (newC n w).1.request = 0 := by
  rw [newC_eq] at *
  unfold rNewC at *
  simp only [r26in_eq, Bool.cond_eq_ite] at *
  split at h
  · cases h
  · rename_i h1
    split at h
    · cases h
    · rename_i h2
      rw [if_neg h1, if_neg h2]
      simp at h1 h2
      exact ⟨⟨h1, ⟨Int.le_refl _, by show (0 : Int) ≤ n - 1; omega⟩, h2, ⟨Int.le_refl _, by show (0 : Int) ≤ w; omega⟩, ⟨Int.le_refl _, by show (0 : Int) ≤ _; omega⟩, ⟨Int.le_refl _, by show (0 : Int) ≤ _; omega⟩, fun h => absurd h (by simp), fun _ => ⟨rfl, rfl⟩⟩, rfl, rfl⟩

theorem runs_ok (n w : Int) (l : List StepS) (h : Heap) (k : Nat) : CallOk Try.prog 6 [.int .i64 n, .int .i64 w, scriptA l] h k (.ret (.bool true)) h k := by
  have hf : ([.int .i64 n, .int .i64 w, scriptA l] : List AV).all flatV = true := rfl
  by_cases he : (newC n w).2 = 0
  · obtain ⟨R, h2, h3⟩ := new_right he
    by_cases hl : l.length ≤ 60
    · have hg := good6_iff.2 ⟨hl, R, h2, h3⟩
      have c1 : false = ((newC n w).2 != 0) := by rw [he]; rfl
      have c2 : false = decide ((l.length : Int) > 60) := (decide_eq_false (by omega)).symm
      rcases Bool.eq_false_or_eq_true (ends6 l (newC n w).1) with hb | hb
      · exact wayW noNum mixed cfN (lams6 l _) (w6c n w l) (conds_cons c1 (conds_cons c2 (conds_cons hb.symm (conds_cons (eqO_self _) (conds_cons (eqO_self _) (conds_cons hg conds_nil)))))) hf rfl h k
      · exact wayW noNum mixed cfN (lams6 l _) (w6d n w l) (conds_cons c1 (conds_cons c2 (conds_cons hb.symm (conds_cons (eqO_self _) (conds_cons (eqO_self _) (conds_cons hg conds_nil)))))) hf rfl h k
    · exact wayW noNum mixed cfN (lams6 l (newC n w).1) (w6b n w l) (conds_cons (by rw [he]; rfl) (conds_cons (decide_eq_true (by omega)).symm conds_nil)) hf rfl h k
  · exact wayW noNum mixed cfN (lams6 l (newC n w).1) (w6a n w l) (conds_cons (by simp [he]) conds_nil) hf rfl h k
end Go.Proofs.Ytopeokonlaljlaa
