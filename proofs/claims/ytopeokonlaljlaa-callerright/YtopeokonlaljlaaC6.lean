/- Short texts: a loop over the lines of an answer. -/
import Derived.Test.YtopeokonlaljlaaC5
import Derived.Test.YtopeokonlaljlaaEng15
set_option linter.unusedVariables false
namespace Go.Proofs.Ytopeokonlaljlaa
open Go.Eng Go.Proofs

/-- A row of texts that nobody writes. -/
abbrev strsA (l : List ByteArray) : AV := .dsl 1 l.length (fun i _ => .str (l.getD i .empty))

noncomputable def lp40 : Code := (blocksOf 0 (codeAt Try.prog 40)).headD .skip
noncomputable def bd40 : Code := loopOf lp40
theorem lp40_eq : blocksOf 0 (codeAt Try.prog 40) = [.loop bd40] := by kernel_rfl

noncomputable abbrev run40 : Run := runC2 Try.prog (tmpsAt Try.prog 40) (runG Try.prog (conΔ []) 60 4) 60 bd40
abbrev env40 (l : List ByteArray) (i : Nat) : Env := [(0, some (strsA l)), (3, some (.int .i64 (i : Int)))]

theorem s40_out (l : List ByteArray) (i : Nat) (h : Heap) (n : Nat) : cutOf [0] (run40 (env40 l i) h n [.go 0 false]) = some (.exit 0, [(0, some (strsA l))], h, n, [(false, decide ((i : Int) < (l.length : Int)))]) := by kernel_rfl
theorem s40_go (l : List ByteArray) (i : Nat) (h : Heap) (n : Nat) : cutOf [0, 3] (run40 (env40 l i) h n [.go 0 true, .go 0 false]) =
    some (.normal, [(0, some (strsA l)), (3, some (.int .i64 (IntKind.i64.wrap ((i : Int) + 1))))], h, n, [(true, decide ((i : Int) < (l.length : Int))), (decide (0 ≤ (i : Int) ∧ (i : Int) < (l.length : Int)), true), (false, decide (((l.getD i .empty).size : Int) > 300))]) := by kernel_rfl
theorem s40_ret (l : List ByteArray) (i : Nat) (h : Heap) (n : Nat) : cutOf [2] (run40 (env40 l i) h n [.go 0 true, .go 0 true]) =
    some (.ret, [(2, some (.bool false))], h, n, [(true, decide ((i : Int) < (l.length : Int))), (decide (0 ≤ (i : Int) ∧ (i : Int) < (l.length : Int)), true), (true, decide (((l.getD i .empty).size : Int) > 300))]) := by kernel_rfl

theorem cf40 : CfOk Try.prog (runG Try.prog (conΔ []) 60 4) := runG_ok noNum mixed (conΔ_ok fun c hc => by cases hc) _
theorem run40_ok : RunOk Try.prog (tmpsAt Try.prog 40) bd40 run40 := runC2_ok noNum mixed cf40 _

/-- Are all texts from here on short enough? -/
def shortFrom (l : List ByteArray) (i : Nat) : Bool := (l.drop i).all fun s => decide ((s.size : Int) ≤ 300)

theorem shortFrom_step (l : List ByteArray) (i : Nat) (hi : i < l.length) : shortFrom l i = (decide (((l.getD i .empty).size : Int) ≤ 300) && shortFrom l (i + 1)) := by
  unfold shortFrom
  rw [List.drop_eq_getElem_cons hi, List.all_cons]
  simp [hi]
theorem shortFrom_end (l : List ByteArray) (i : Nat) (hi : l.length ≤ i) : shortFrom l i = true := by
  unfold shortFrom
  rw [List.drop_eq_nil_of_le hi]
  rfl

theorem rounds40 (l : List ByteArray) (hl : l.length ≤ 1000000) (h : Heap) (n : Nat) : ∀ (k i : Nat), l.length - i = k → i ≤ l.length →
    (shortFrom l i = true → ROk Try.prog (tmpsAt Try.prog 40) bd40 (env40 l i) h n (.exit 0) [(0, some (strsA l))] h n) ∧
    (shortFrom l i = false → ROk Try.prog (tmpsAt Try.prog 40) bd40 (env40 l i) h n .ret [(2, some (.bool false))] h n)
  | 0, i, hk, hi => by
    have he : l.length ≤ i := by omega
    refine ⟨fun _ => .exit (piece run40_ok (s40_out l i h n) (conds_cons (decide_eq_false (by omega)).symm conds_nil)) (by simp), fun hs => ?_⟩
    rw [shortFrom_end l i he] at hs; cases hs
  | k + 1, i, hk, hi => by
    have hlt : i < l.length := by omega
    have d1 : true = decide ((i : Int) < (l.length : Int)) := (decide_eq_true (by omega)).symm
    have d2 : decide (0 ≤ (i : Int) ∧ (i : Int) < (l.length : Int)) = true := decide_eq_true (by omega)
    by_cases hs : ((l.getD i .empty).size : Int) ≤ 300
    · have d3 : false = decide (((l.getD i .empty).size : Int) > 300) := (decide_eq_false (by omega)).symm
      have st := piece run40_ok (s40_go l i h n) (conds_cons d1 (conds_cons d2 (conds_cons d3 conds_nil)))
      have hw : IntKind.i64.wrap ((i : Int) + 1) = ((i + 1 : Nat) : Int) := by rw [wrap_sub (by omega)]; rfl
      rw [hw] at st
      obtain ⟨r1, r2⟩ := rounds40 l hl h n k (i + 1) (by omega) (by omega)
      rw [shortFrom_step l i hlt, decide_eq_true hs, Bool.true_and]
      exact ⟨fun q => .step st (r1 q), fun q => .step st (r2 q)⟩
    · have d3 : true = decide (((l.getD i .empty).size : Int) > 300) := (decide_eq_true (by omega)).symm
      have st := piece run40_ok (s40_ret l i h n) (conds_cons d1 (conds_cons d2 (conds_cons d3 conds_nil)))
      rw [shortFrom_step l i hlt, decide_eq_false hs, Bool.false_and]
      exact ⟨fun q => (by cases q), fun _ => .exit st (by simp)⟩

/-- The loop's block, as one step. -/
noncomputable def lam40 (l : List ByteArray) : Run := fun env h n ds =>
  match decideA ds (shortFrom l 0) with
  | some (true, ds, c) => some ⟨⟨.normal, [(0, some (strsA l))]⟩, h, n, ds, c ++ [(holdsB [(0, strsA l), (3, .int .i64 0)] env, true)]⟩
  | some (false, ds, c) => some ⟨⟨.ret, [(2, some (.bool false))]⟩, h, n, ds, c ++ [(holdsB [(0, strsA l), (3, .int .i64 0)] env, true)]⟩
  | none => none

theorem lam40_ok (l : List ByteArray) (hl : l.length ≤ 1000000) : RunOk Try.prog (tmpsAt Try.prog 40) (.block 0 (.loop bd40)) (lam40 l) := by
  intro env h n ds r e hc
  obtain ⟨r1, r2⟩ := rounds40 l hl h n _ 0 rfl (Nat.zero_le _)
  unfold lam40 at e
  split at e
  · rename_i ds' c hd
    cases e
    have hs := decideA_ok hd fun x hx => hc x (by simp [hx])
    have hh := holdsB_sub (hc (holdsB [(0, strsA l), (3, .int .i64 0)] env, true) (List.mem_append_right _ (List.mem_singleton.2 rfl)))
    exact ((r1 hs).loop.block (id := 0)).weak hh (fun _ _ h => h) (Nat.le_refl _)
  · rename_i ds' c hd
    cases e
    have hs := decideA_ok hd fun x hx => hc x (by simp [hx])
    have hh := holdsB_sub (hc (holdsB [(0, strsA l), (3, .int .i64 0)] env, true) (List.mem_append_right _ (List.mem_singleton.2 rfl)))
    exact ((r2 hs).loop.block (id := 0)).weak hh (fun _ _ h => h) (Nat.le_refl _)
  · cases e

theorem lams40 (l : List ByteArray) (hl : l.length ≤ 1000000) (fn : Func) (c : Code) (hfn : Try.prog.funcs[40]? = some fn) (hb : fn.body = some c) : LamOk Try.prog fn.ntmps c (lams [(0, lam40 l)]) := by
  obtain ⟨rfl, h2⟩ := codeAt_eq hfn hb
  rw [h2]
  exact lams_ok (List.forall_mem_cons.2 ⟨⟨_, lp40_eq, lam40_ok l hl⟩, List.forall_mem_nil _⟩)

def shortS (l : List ByteArray) : Bool := shortFrom l 0 && decide ((l.length : Int) ≤ 60)

noncomputable abbrev call40 (l : List ByteArray) (ds : List Dec) : Option (Came AEnd) := callLam Try.prog (lams [(0, lam40 l)]) 60 (runG Try.prog (conΔ []) 60 4) 40 [strsA l] [] 0 ds
theorem w40a (l : List ByteArray) : resOf (call40 l [.go 0 true]) = some (.ret (.bool (decide ((l.length : Int) ≤ 60))), [(true, shortFrom l 0), (holdsB [(0, strsA l), (3, .int .i64 0)] [(3, some (.int .i64 0)), (2, some (.bool false)), (0, some (strsA l))], true)]) := by kernel_rfl
theorem w40b (l : List ByteArray) : resOf (call40 l [.go 0 false]) = some (.ret (.bool false), [(false, shortFrom l 0), (holdsB [(0, strsA l), (3, .int .i64 0)] [(3, some (.int .i64 0)), (2, some (.bool false)), (0, some (strsA l))], true)]) := by kernel_rfl

theorem short_ok (l : List ByteArray) (hl : l.length ≤ 1000000) (h : Heap) (n : Nat) : CallOk Try.prog 40 [strsA l] h n (.ret (.bool (shortS l))) h n := by
  have hh : holdsB [(0, strsA l), (3, .int .i64 0)] [(3, some (.int .i64 0)), (2, some (.bool false)), (0, some (strsA l))] = true := by
    refine holdsB_true fun x hx => ?_
    simp only [List.mem_cons, List.not_mem_nil, or_false] at hx
    rcases hx with rfl | rfl <;> rfl
  rcases Bool.eq_false_or_eq_true (shortFrom l 0) with hs | hs
  · have e : shortS l = decide ((l.length : Int) ≤ 60) := by simp only [shortS, hs, Bool.true_and]
    rw [e]
    exact wayL noNum mixed cf40 (lams40 l hl) (w40a l) (conds_cons hs.symm (conds_cons hh conds_nil)) rfl rfl h n
  · have e : shortS l = false := by simp only [shortS, hs, Bool.false_and]
    rw [e]
    exact wayL noNum mixed cf40 (lams40 l hl) (w40b l) (conds_cons hs.symm (conds_cons hh conds_nil)) rfl rfl h n
end Go.Proofs.Ytopeokonlaljlaa
