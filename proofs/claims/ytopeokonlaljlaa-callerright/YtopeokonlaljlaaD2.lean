/- Contracts of the caller's functions where they are known to go well. -/
import Derived.Test.YtopeokonlaljlaaC10
import Derived.Test.YtopeokonlaljlaaD3
import Derived.Test.YtopeokonlaljlaaEng20
set_option linter.unusedVariables false
namespace Go.Proofs.Ytopeokonlaljlaa
open Go.Eng Go.Proofs

/-- A contract whose value is known, on some ground. -/
def knowEnt (k : FuncId) (g : List AV → Option (AV × Conds)) : Ent := ⟨k, fun l h n => match g l with | some (v, c) => some (.ret v, h, n, c) | none => none⟩
theorem knowEnt_ok {k : FuncId} {g : List AV → Option (AV × Conds)} (hg : ∀ l v c, g l = some (v, c) → (∀ x ∈ c, x.1 = x.2) → ∀ h n, CallOk Try.prog k l h n (.ret v) h n) : EntOk Try.prog (knowEnt k g) := by
  intro args h n out h1 n1 cs e hc
  simp only [knowEnt] at e
  split at e
  · rename_i v c hv
    cases e
    exact hg args v cs hv hc h n
  · cases e

def gIs : List AV → Option (AV × Conds) := fun l => match l with
  | [x] => match Caller.of x with | some c => some (.bool true, [(isC c, true)]) | none => none
  | _ => none
def gHear : List AV → Option (AV × Conds) := fun l => match l with
  | [x, .int .i64 f, y, z] => match Caller.of x, Cmd.of y, Answer.of z with
    | some c, some y, some a => match flatCell a.lines with
      | true => some (.tup [.agg (hear c f y a).1.cells, .bool (hear c f y a).2.1, .int .i64 0], [((hear c f y a).2.2 == 0, true)])
      | false => none
    | _, _, _ => none
  | _ => none
def gDeny : List AV → Option (AV × Conds) := fun l => match l with
  | [x, .int .i64 f] => match Caller.of x with
    | some c => some (.tup [.agg (deny c f).1.cells, .bool (deny c f).2.1, .int .i64 0], [((deny c f).2.2 == 0, true)])
    | none => none
  | _ => none
def gTick : List AV → Option (AV × Conds) := fun l => match l with
  | [x] => match Caller.of x with
    | some c => some (.tup [.agg (tick c).1.cells, .bool (tick c).2.1, .int .i64 0], [((tick c).2.2 == 0, true)])
    | none => none
  | _ => none
def gCalled : List AV → Option (AV × Conds) := fun l => match l with
  | [] => some (.bool true, [])
  | _ => none

theorem called_true : called = true := by decide
theorem eIs : EntOk Try.prog (knowEnt 25 gIs) := knowEnt_ok fun l v c e hc h n => by
  unfold gIs at e
  split at e
  · split at e
    · rename_i c hx; cases e
      have : isC c = true := hc (isC c, true) (by simp)
      rw [← this, Caller.of_eq hx]
      exact isC_ok c h n
    · cases e
  · cases e
theorem eHear : EntOk Try.prog (knowEnt 16 gHear) := knowEnt_ok fun l v c e hc h n => by
  unfold gHear at e
  split at e
  · rename_i x f y0 z
    split at e
    · rename_i c y a hx hy hz
      split at e
      · rename_i hf
        cases e
        have := eq_of_beq (hc _ (List.mem_singleton.2 rfl))
        have q := hear_ok c f y a hf h n
        rw [Caller.of_eq hx, Cmd.of_eq hy, Answer.of_eq hz]
        rw [this] at q
        exact q
      · cases e
    · cases e
  · cases e
theorem eDeny : EntOk Try.prog (knowEnt 18 gDeny) := knowEnt_ok fun l v c e hc h n => by
  unfold gDeny at e
  split at e
  · rename_i x f
    split at e
    · rename_i c hx
      cases e
      have := eq_of_beq (hc _ (List.mem_singleton.2 rfl))
      have q := deny_ok c f h n
      rw [Caller.of_eq hx]
      rw [this] at q
      exact q
    · cases e
  · cases e
theorem eTick : EntOk Try.prog (knowEnt 20 gTick) := knowEnt_ok fun l v c e hc h n => by
  unfold gTick at e
  split at e
  · split at e
    · rename_i c hx
      cases e
      have := eq_of_beq (hc _ (List.mem_singleton.2 rfl))
      have q := tick_ok c h n
      rw [Caller.of_eq hx]
      rw [this] at q
      exact q
    · cases e
  · cases e
theorem eCalled : EntOk Try.prog (knowEnt 24 gCalled) := knowEnt_ok fun l v c e hc h n => by
  unfold gCalled at e
  split at e
  · cases e
    rw [← called_true]
    exact called_ok h n
  · cases e

/-- A told call, as a contract of the table. -/
noncomputable def fixEnt (x : Fix) : Ent := ⟨x.k, fun l h n => some (.ret x.val, h, n, [(argsB l x.args, true), (x.cond, true)])⟩
theorem fixEnt_ok {x : Fix} (hx : FixOk Try.prog x) : EntOk Try.prog (fixEnt x) := by
  intro args h n out h1 n1 cs e hc
  cases e
  have h1 := argsB_eq (hc (argsB args x.args, true) (by simp))
  have h2 : x.cond = true := hc (x.cond, true) (by simp)
  rw [h1]
  exact hx h2 _ _

noncomputable abbrev entsR (i j : Int) (l : List ByteArray) : List Ent := [fixEnt (fx13 i j l), knowEnt 25 gIs, conEnt conask, knowEnt 16 gHear, knowEnt 18 gDeny, knowEnt 20 gTick, knowEnt 24 gCalled]
theorem cfR (i j : Int) (l : List ByteArray) : CfOk Try.prog (runG Try.prog (entΔ (entsR i j l)) 60 4) := runG_ok noNum mixed (entΔ_ok
  (List.forall_mem_cons.2 ⟨fixEnt_ok (fx13_ok i j l), List.forall_mem_cons.2 ⟨eIs, List.forall_mem_cons.2 ⟨conEnt_ok conask_ok, List.forall_mem_cons.2 ⟨eHear, List.forall_mem_cons.2 ⟨eDeny, List.forall_mem_cons.2 ⟨eTick, List.forall_mem_cons.2 ⟨eCalled, List.forall_mem_nil _⟩⟩⟩⟩⟩⟩⟩)) _
end Go.Proofs.Ytopeokonlaljlaa
