/- A right caller: what each call makes of it, in plain words. -/
import Derived.Test.YtopeokonlaljlaaC7
set_option linter.unusedVariables false
namespace Go.Proofs.Ytopeokonlaljlaa
open Go.Eng Go.Proofs

noncomputable instance : DecidableEq Spot := fun a b => Classical.propDecidable (a = b)
noncomputable instance : DecidableEq Cmd := fun a b => Classical.propDecidable (a = b)
noncomputable instance : DecidableEq Caller := fun a b => Classical.propDecidable (a = b)
abbrev zCmd : Cmd := ⟨0, 0, 0, ⟨0, 0⟩, 0, 0, 0⟩
abbrev zCaller : Caller := ⟨0, 0, false, zCmd, 0, 0, 0, 0⟩

theorem Cmd.eqB (x y : Cmd) : (x.session == y.session && (x.request == y.request && (x.kind == y.kind && (x.spot.bed == y.spot.bed && x.spot.channel == y.spot.channel && (x.prio == y.prio && (x.at_ == y.at_ && x.long == y.long)))))) = decide (x = y) := by
  rcases x with ⟨a, b, c, ⟨d, e⟩, f, g, h⟩
  rcases y with ⟨a', b', c', ⟨d', e'⟩, f', g', h'⟩
  simp only [Cmd.mk.injEq, Spot.mk.injEq]
  grind
theorem Caller.eqB (x y : Caller) : (x.session == y.session && (x.request == y.request && (x.busy == y.busy && (decide (x.cmd = y.cmd) && (x.to == y.to && (x.n == y.n && (x.wait == y.wait && x.left == y.left))))))) = decide (x = y) := by
  rcases x with ⟨a, b, c, d, e, f, g, h⟩
  rcases y with ⟨a', b', c', d', e', f', g', h'⟩
  simp only [Caller.mk.injEq]
  grind

/-- The session behind an answer. -/
def sessionOf (c : Caller) (x : Cmd) (a : Answer) : Int :=
  if x.kind = 1 then (if a.code = 0 ∧ 1 ≤ a.num ∧ a.num ≤ 1000000000 then a.num else c.session) else (if a.code = 181 then 0 else c.session)

theorem hear_wrong {c : Caller} (h : isC c = false) (f : Int) (x : Cmd) (a : Answer) : hear c f x a = (zCaller, false, 1) := by
  unfold hear; rw [h]; rfl
theorem hear_right {c : Caller} (R : Right c) (f : Int) (x : Cmd) (a : Answer) :
    hear c f x a = if c.busy = true ∧ x = c.cmd ∧ 0 ≤ f ∧ f < c.n then (⟨sessionOf c x a, c.request, false, zCmd, f, c.n, c.wait, 0⟩, true, 0) else (c, false, 0) := by
  have hw : IntKind.i64.wrap (c.n - 1) = c.n - 1 := wrap_sub (by have := R.n; omega)
  have hc := (isC_iff c).2 R
  unfold hear sessionOf
  simp only [hc, cWithin_eq, hw, Bool.cond_eq_ite, Cmd.eqB]
  grind
theorem deny_right {c : Caller} (R : Right c) (f : Int) :
    deny c f = if c.busy = true ∧ c.to = f then (⟨c.session, c.request, c.busy, c.cmd, if c.to + 1 = c.n then 0 else c.to + 1, c.n, c.wait, c.wait⟩, true, 0) else (c, false, 0) := by
  have h1 := R.n; have h2 := R.to
  have hw : IntKind.i64.wrap (c.to + 1) = c.to + 1 := wrap_sub (by omega)
  have hc := (isC_iff c).2 R
  have hm : Int.tmod (c.to + 1) c.n = if c.to + 1 = c.n then 0 else c.to + 1 := by
    split
    · rename_i e; rw [e]; exact Int.tmod_self
    · exact Int.tmod_eq_of_lt (by omega) (by omega)
  unfold deny
  simp only [hc, hw, hm, Bool.cond_eq_ite]
  grind
theorem tick_right {c : Caller} (R : Right c) :
    tick c = if c.busy = false then (c, false, 0) else if c.left = 1 then (⟨c.session, c.request, c.busy, c.cmd, if c.to + 1 = c.n then 0 else c.to + 1, c.n, c.wait, c.wait⟩, true, 0)
      else (⟨c.session, c.request, c.busy, c.cmd, c.to, c.n, c.wait, c.left - 1⟩, false, 0) := by
  have h1 := R.n; have h2 := R.to; have h3 := R.left; have h4 := R.wait
  have hw : IntKind.i64.wrap (c.to + 1) = c.to + 1 := wrap_sub (by omega)
  have hw2 : IntKind.i64.wrap (c.left - 1) = c.left - 1 := wrap_sub (by omega)
  have hc := (isC_iff c).2 R
  have hm : Int.tmod (c.to + 1) c.n = if c.to + 1 = c.n then 0 else c.to + 1 := by
    split
    · rename_i e; rw [e]; exact Int.tmod_self
    · exact Int.tmod_eq_of_lt (by omega) (by omega)
  unfold tick
  simp only [hc, hw, hw2, hm, Bool.cond_eq_ite]
  grind
/-- What is asked of a command. -/
def askedC (c : Caller) (x : Cmd) : Cmd := if x.kind = 1 then x else ⟨c.session, c.request + 1, x.kind, x.spot, x.prio, x.at_, x.long⟩
def askE (c : Caller) (x : Cmd) : Int :=
  if c.busy = true then 81 else if x.kind ≠ 1 ∧ c.session = 0 then 181 else if x.kind ≠ 1 ∧ c.request = 1000000000 then 2 else if may (askedC c x) = true then 0 else 1
theorem ask_right {c : Caller} (R : Right c) (x : Cmd) :
    ask c x = if askE c x = 0 then (⟨c.session, if x.kind = 1 then 0 else c.request + 1, true, askedC c x, c.to, c.n, c.wait, c.wait⟩, askedC c x, 0) else (zCaller, zCmd, askE c x) := by
  have h1 := R.request
  have hw : IntKind.i64.wrap (c.request + 1) = c.request + 1 := wrap_sub (by omega)
  have hc := (isC_iff c).2 R
  unfold ask askE askedC
  simp only [hc, hw, Bool.cond_eq_ite]
  grind
end Go.Proofs.Ytopeokonlaljlaa
