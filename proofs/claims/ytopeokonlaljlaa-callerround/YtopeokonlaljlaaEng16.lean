/- Contracts for calls with arguments that are told beforehand. -/
import Derived.Test.YtopeokonlaljlaaEng15
set_option linter.unusedVariables false
set_option linter.unusedSectionVars false
namespace Go.Eng
variable [Dr]
open Go.RowKit

/-- A function's number, its arguments, what it returns, and on what ground. -/
structure Fix where
  k : FuncId
  args : List AV
  val : AV
  cond : Bool

noncomputable def argsB (a b : List AV) : Bool := @decide (a = b) (Classical.propDecidable _)
theorem argsB_eq {a b : List AV} (h : argsB a b = true) : a = b := (@decide_eq_true_iff _ (Classical.propDecidable _)).1 h
theorem argsB_true {a b : List AV} (h : a = b) : argsB a b = true := (@decide_eq_true_iff _ (Classical.propDecidable _)).2 h

def fixLook : List Fix → FuncId → Option Fix
  | [], _ => none
  | x :: r, j => match Nat.beq x.k j with | true => some x | false => fixLook r j

noncomputable def fixΔ (xs : List Fix) (cs : List Con) : Delta := fun k l h n => match fixLook xs k with
  | some x => some (.ret x.val, h, n, [(argsB l x.args, true), (x.cond, true)])
  | none => conΔ cs k l h n

def FixOk (P : Program) (x : Fix) : Prop := x.cond = true → ∀ h n, CallOk P x.k x.args h n (.ret x.val) h n

theorem fixLook_mem {xs : List Fix} {k : FuncId} {x : Fix} (e : fixLook xs k = some x) : x ∈ xs ∧ x.k = k := by
  induction xs with
  | nil => cases e
  | cons c r ih =>
    simp only [fixLook] at e
    split at e
    · rename_i hb
      cases e
      exact ⟨by simp, Nat.eq_of_beq_eq_true hb⟩
    · exact ⟨List.mem_cons_of_mem _ (ih e).1, (ih e).2⟩

theorem fixΔ_ok {P : Program} {xs : List Fix} {cs : List Con} (hx : ∀ x ∈ xs, FixOk P x) (h : ∀ c ∈ cs, ConOk P c) : DeltaOk P (fixΔ xs cs) := by
  intro k args h' n e h1 n1 c hd hc
  unfold fixΔ at hd
  split at hd
  · rename_i x hl
    obtain ⟨m, rfl⟩ := fixLook_mem hl
    cases hd
    have h1 := argsB_eq (hc (argsB args x.args, true) (by simp))
    have h2 : x.cond = true := hc (x.cond, true) (by simp)
    rw [h1]
    exact hx x m h2 _ _
  · exact conΔ_ok h _ _ _ _ _ _ _ _ hd hc

end Go.Eng
