/- CallerRound: the inner loop: ticks until one is late. -/
import Derived.Test.YtopeokonlaljlaaD2
import Derived.Test.YtopeokonlaljlaaEng21
set_option linter.unusedVariables false
namespace Go.Proofs.Ytopeokonlaljlaa
open Go.Eng Go.Proofs

noncomputable abbrev entsT : List Ent := [knowEnt 25 gIs, knowEnt 18 gDeny, knowEnt 20 gTick, knowEnt 24 gCalled]
noncomputable abbrev cfTf : CallF := runG Try.prog (entΔ entsT) 60 4
theorem cfT : CfOk Try.prog cfTf := runG_ok noNum mixed (entΔ_ok
  (List.forall_mem_cons.2 ⟨eIs, List.forall_mem_cons.2 ⟨eDeny, List.forall_mem_cons.2 ⟨eTick, List.forall_mem_cons.2 ⟨eCalled, List.forall_mem_nil _⟩⟩⟩⟩)) _

noncomputable def lp5c : Code := (blocksOf 2 (codeAt Try.prog 5)).headD .skip
noncomputable def bd5c : Code := loopOf lp5c
theorem lp5c_eq : blocksOf 2 (codeAt Try.prog 5) = [.loop bd5c] := by kernel_rfl
noncomputable def run5c : Run := runC2 Try.prog (tmpsAt Try.prog 5) cfTf 60 bd5c
theorem run5c_ok : RunW Try.prog (tmpsAt Try.prog 5) bd5c run5c := (runC2_ok noNum mixed cfT _).toW

abbrev env5 (m : Nat) (i : Int) : Env := [(1, some (.ptr 0 0 0)), (3, some (.ptr 1 0 0)), (4, some (.ptr 2 0 0)), (5, some (.sl 3 0 m m)), (6, some (.int .i64 i))]
abbrev env5b (m : Nat) (i : Int) (tb : Bool) : Env := [(1, some (.ptr 0 0 0)), (3, some (.ptr 1 0 0)), (4, some (.ptr 2 0 0)), (5, some (.sl 3 0 m m)), (6, some (.int .i64 i)), (10, some (.bool tb))]
abbrev env5c (m : Nat) (i k : Int) (tb : Bool) : Env := [(1, some (.ptr 0 0 0)), (3, some (.ptr 1 0 0)), (4, some (.ptr 2 0 0)), (5, some (.sl 3 0 m m)), (6, some (.int .i64 i)), (10, some (.bool tb)), (11, some (.int .i64 k))]
abbrev heap5 (c b d : Caller) (m : Nat) (ef : Nat → Nat → AV) : Heap := [(0, some (.box 27 c.cells)), (1, some (.box 27 b.cells)), (2, some (.box 27 d.cells)), (3, some (.row 3 1 m ef))]
abbrev T5 : Ren := [(0, 0), (1, 1), (2, 2), (3, 3)]

theorem s5c_late (c b d : Caller) (m : Nat) (ef : Nat → Nat → AV) (i k : Int) : cutR T5 [1, 3, 4, 5, 6, 10] (run5c (env5c m i k false) (heap5 c b d m ef) 4 [.go 0 true, .go 1 true, .go 2 true]) =
    some (.exit 2, env5b m i (tick d).2.1, heap5 c b (tick d).1 m ef, [(true, decide (k < c.wait)), ((tick d).2.2 == 0, true), (true, (tick d).2.1), (true, (tick d).2.1)]) := by kernel_rfl
theorem s5c_soon (c b d : Caller) (m : Nat) (ef : Nat → Nat → AV) (i k : Int) : cutR T5 [1, 3, 4, 5, 6, 10, 11] (run5c (env5c m i k false) (heap5 c b d m ef) 4 [.go 0 true, .go 1 false, .go 2 false]) =
    some (.normal, env5c m i (IntKind.i64.wrap (k + 1)) (tick d).2.1, heap5 c b (tick d).1 m ef, [(true, decide (k < c.wait)), ((tick d).2.2 == 0, true), (false, (tick d).2.1), (false, (tick d).2.1)]) := by kernel_rfl

theorem flat_h5 {c b d : Caller} {m : Nat} {ef : Nat → Nat → AV} (hf : FlatRow m 1 ef) : FlatHeap (heap5 c b d m ef) := ⟨True.intro, True.intro, True.intro, hf, True.intro⟩

/-- A caller that turned to the next one. -/
def turnC (d : Caller) : Caller := ⟨d.session, d.request, d.busy, d.cmd, if d.to + 1 = d.n then 0 else d.to + 1, d.n, d.wait, d.wait⟩

theorem right_dec {d : Caller} (R : Right d) (hb : d.busy = true) (h2 : 2 ≤ d.left) : Right ⟨d.session, d.request, d.busy, d.cmd, d.to, d.n, d.wait, d.left - 1⟩ :=
  ⟨R.n, R.to, R.wait, ⟨by show 0 ≤ d.left - 1; omega, by have := R.left; show d.left - 1 ≤ d.wait; omega⟩, R.session, R.request, fun _ => ⟨by show 1 ≤ d.left - 1; omega, (R.busy hb).2⟩, fun h => absurd h (by show ¬ d.busy = false; simp [hb])⟩
theorem right_turn {d : Caller} (R : Right d) (hb : d.busy = true) : Right (turnC d) := by
  have h1 := R.n; have h2 := R.to; have h3 := R.wait
  refine ⟨h1, ?_, h3, ⟨by show 0 ≤ d.wait; omega, Int.le_refl _⟩, R.session, R.request, fun _ => ⟨h3.1, (R.busy hb).2⟩, fun h => absurd h (by show ¬ d.busy = false; simp [hb])⟩
  show 0 ≤ (if d.to + 1 = d.n then 0 else d.to + 1) ∧ (if d.to + 1 = d.n then 0 else d.to + 1) ≤ d.n - 1
  split <;> omega

theorem rounds5c (c b : Caller) (m : Nat) (ef : Nat → Nat → AV) (hf : FlatRow m 1 ef) (i : Int) (hw : c.wait ≤ 100) : ∀ (L : Nat) (d : Caller) (k : Int), Right d → d.busy = true → d.left = L + 1 → 0 ≤ k → k + L + 1 ≤ c.wait →
    WRok Try.prog (tmpsAt Try.prog 5) bd5c (env5c m i k false) (heap5 c b d m ef) 4 (.exit 2) (env5b m i true) (heap5 c b (turnC d) m ef) 4
  | 0, d, k, R, hb, hl, hk, hkw => by
    have ht : tick d = (turnC d, true, 0) := by
      rw [tick_right R, if_neg (by simp [hb]), if_pos (by omega)]; rfl
    have e := s5c_late c b d m ef i k
    rw [ht] at e
    have st := pieceF (T := T5) (n' := 4) run5c_ok e rfl rfl (flat_h5 hf) (conds_cons (decide_eq_true (by omega)).symm (conds_cons rfl (conds_cons rfl (conds_cons rfl conds_nil))))
    exact .exit st (by simp)
  | L + 1, d, k, R, hb, hl, hk, hkw => by
    have ht : tick d = (⟨d.session, d.request, d.busy, d.cmd, d.to, d.n, d.wait, d.left - 1⟩, false, 0) := by
      rw [tick_right R, if_neg (by simp [hb]), if_neg (by omega)]
    have e := s5c_soon c b d m ef i k
    rw [ht, wrap_sub (by omega)] at e
    have st := pieceF (T := T5) (n' := 4) run5c_ok e rfl rfl (flat_h5 hf) (conds_cons (decide_eq_true (by omega)).symm (conds_cons rfl (conds_cons rfl (conds_cons rfl conds_nil))))
    have r := rounds5c c b m ef hf i hw L ⟨d.session, d.request, d.busy, d.cmd, d.to, d.n, d.wait, d.left - 1⟩ (k + 1) (right_dec R hb (by omega)) hb (by show d.left - 1 = _; omega) (by omega) (by omega)
    exact .step st r

/-- On what ground the inner loop goes well. -/
noncomputable def good5c (c d : Caller) (m : Nat) (ef : Nat → Nat → AV) : Bool := @decide (FlatRow m 1 ef ∧ c.wait ≤ 100 ∧ Right d ∧ d.busy = true ∧ 1 ≤ d.left ∧ d.left ≤ c.wait) (Classical.propDecidable _)
theorem good5c_iff {c d : Caller} {m : Nat} {ef : Nat → Nat → AV} : good5c c d m ef = true ↔ (FlatRow m 1 ef ∧ c.wait ≤ 100 ∧ Right d ∧ d.busy = true ∧ 1 ≤ d.left ∧ d.left ≤ c.wait) := @decide_eq_true_iff _ (Classical.propDecidable _)

noncomputable def lam5c (c b d : Caller) (m : Nat) (ef : Nat → Nat → AV) (i : Int) : Run :=
  lamOf T5 [1, 3, 4, 5, 6, 10, 11] (env5c m i 0 false) (heap5 c b d m ef) .normal (env5b m i true) (heap5 c b (turnC d) m ef) 4 (good5c c d m ef)
end Go.Proofs.Ytopeokonlaljlaa
