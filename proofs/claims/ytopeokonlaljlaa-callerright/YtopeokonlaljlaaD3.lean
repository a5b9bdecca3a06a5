/- The law CallerFree is true of every caller. -/
import Derived.Test.YtopeokonlaljlaaC10
import Derived.Test.YtopeokonlaljlaaD1
set_option linter.unusedVariables false
namespace Go.Proofs.Ytopeokonlaljlaa
open Go.Eng Go.Proofs

theorem sessionOf_in {c : Caller} (R : Right c) (x : Cmd) (a : Answer) : 0 ≤ sessionOf c x a ∧ sessionOf c x a ≤ 1000000000 := by
  have := R.session
  unfold sessionOf
  grind
theorem right_heard {c : Caller} (R : Right c) (x : Cmd) (a : Answer) {f : Int} (h0 : 0 ≤ f) (h1 : f < c.n) : Right ⟨sessionOf c x a, c.request, false, zCmd, f, c.n, c.wait, 0⟩ :=
  ⟨R.n, ⟨h0, by show f ≤ c.n - 1; omega⟩, R.wait, ⟨by show (0 : Int) ≤ 0; omega, by have := R.wait; show (0 : Int) ≤ c.wait; omega⟩, sessionOf_in R x a, R.request, fun h => absurd h (by simp), fun _ => ⟨rfl, rfl⟩⟩

theorem may_know : may ⟨0, 0, 1, ⟨0, 0⟩, 0, 0, 0⟩ = true := by decide

theorem freeL_true (c : Caller) (i j : Int) (l : List ByteArray) (f : Int) : freeL c i j l f = true := by
  unfold freeL
  simp only [Cmd.eqB (Prod.fst (Prod.snd (ask _ _))) ⟨0, 0, 1, ⟨0, 0⟩, 0, 0, 0⟩, Cmd.eqB, Caller.eqB]
  cases hb : bigS l with
  | true => rfl
  | false =>
    cases hc : isC c with
    | false => rw [hear_wrong hc]; rfl
    | true =>
      have R := (isC_iff c).1 hc
      rw [hear_right R]
      by_cases hh : c.busy = true ∧ c.cmd = c.cmd ∧ 0 ≤ f ∧ f < c.n
      · rw [if_pos hh]
        have R2 := right_heard R c.cmd (ansA i j l) hh.2.2.1 hh.2.2.2
        dsimp only
        rw [tick_right R2, if_pos rfl, ask_right R2]
        have e : askE ⟨sessionOf c c.cmd (ansA i j l), c.request, false, zCmd, f, c.n, c.wait, 0⟩ ⟨0, 0, 1, ⟨0, 0⟩, 0, 0, 0⟩ = 0 := by
          simp [askE, askedC, may_know]
        rw [if_pos e]
        simp [askedC]
      · rw [if_neg hh]
        simp
        grind
theorem free_ok (c : Caller) (i j : Int) (l : List ByteArray) (f : Int) (h : Heap) (n : Nat) : CallOk Try.prog 7 [.agg c.cells, .agg (ansA i j l).cells, .int .i64 f] h n (.ret (.bool true)) h n := by
  have := freeL_ok c i j l f h n
  rwa [freeL_true] at this
end Go.Proofs.Ytopeokonlaljlaa
