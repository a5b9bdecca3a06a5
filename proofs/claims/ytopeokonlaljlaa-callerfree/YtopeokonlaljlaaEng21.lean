/- Contracts for blocks whose state is told beforehand. -/
import Derived.Test.YtopeokonlaljlaaEng20
set_option linter.unusedVariables false
set_option linter.unusedSimpArgs false
set_option linter.unusedSectionVars false
namespace Go.Eng
variable [Dr]
open Go.RowKit

variable {P : Program} {N : Nat}

noncomputable def eqO {α : Type} (a b : α) : Bool := @decide (a = b) (Classical.propDecidable _)
theorem eqO_iff {α : Type} {a b : α} : eqO a b = true ↔ a = b := @decide_eq_true_iff _ (Classical.propDecidable _)
theorem eqO_self {α : Type} (a : α) : eqO a a = true := eqO_iff.2 rfl

/-- All rows hold flat elements. -/
def FlatHeap : Heap → Prop
  | [] => True
  | (_, some o) :: r => FlatOb o ∧ FlatHeap r
  | (_, none) :: r => FlatHeap r

theorem flat_ren {T : Ren} {h : Heap} : ∀ {S : Ren} {H : Heap}, renH T h S = some H → FlatHeap H → FlatH h S
  | [], H, e, hf => True.intro
  | (o, k) :: r, H, e, hf => by
    simp only [renH] at e
    split at e
    · rename_i h' hr
      split at e
      · rename_i ob hob
        split at e
        · rename_i ob' hob'
          cases e
          obtain ⟨f1, f2⟩ := hf
          refine ⟨?_, flat_ren hr f2⟩
          rw [hob]
          cases ob with
          | row ty sz n el => cases hob'; exact f1
          | box => exact True.intro
          | map => exact True.intro
        · cases e
      · rename_i hn
        cases e
        refine ⟨?_, flat_ren hr hf⟩
        rw [hn]
        exact True.intro
    · cases e

/-- From this state, on this ground, the block comes to that one. -/
noncomputable def lamOf (T : Ren) (ts : List Nat) (E : Env) (H : Heap) (x : AExit) (E' : Env) (H' : Heap) (n' : Nat) (c : Bool) : Run := fun env h n ds =>
  some ⟨⟨x, E'⟩, H', n', ds, [(eqO (renE T env ts) (some E), true), (eqO (renH T h T) (some H), true), (c, true)]⟩
theorem lamOf_ok {T : Ren} {ts : List Nat} {E E' : Env} {H H' : Heap} {n0 n' : Nat} {x : AExit} {c : Bool} {code : Code} (ht : tOk T n0 = true) (hf : FlatHeap H) (o : c = true → WOk P N code E H n0 x E' H' n') : RunW P N code (lamOf T ts E H x E' H' n' c) := by
  intro env h n ds r e hc
  cases e
  have h1 := eqO_iff.1 (hc (eqO (renE T env ts) (some E), true) (by simp))
  have h2 := eqO_iff.1 (hc (eqO (renH T h T) (some H), true) (by simp))
  have h3 : c = true := hc (c, true) (by simp)
  exact (o h3).pre (Sees.ren ht h1 h2 (flat_ren h2 hf))

/-- The same, with two outcomes. -/
noncomputable def lamIf (T : Ren) (ts : List Nat) (E : Env) (H : Heap) (b : Bool) (x1 : AExit) (E1 : Env) (H1 : Heap) (x2 : AExit) (E2 : Env) (H2 : Heap) (n' : Nat) (c : Bool) : Run := fun env h n ds =>
  match decideA ds b with
  | some (true, ds, d) => some ⟨⟨x1, E1⟩, H1, n', ds, d ++ [(eqO (renE T env ts) (some E), true), (eqO (renH T h T) (some H), true), (c, true)]⟩
  | some (false, ds, d) => some ⟨⟨x2, E2⟩, H2, n', ds, d ++ [(eqO (renE T env ts) (some E), true), (eqO (renH T h T) (some H), true), (c, true)]⟩
  | none => none
theorem lamIf_ok {T : Ren} {ts : List Nat} {E E1 E2 : Env} {H H1 H2 : Heap} {n0 n' : Nat} {x1 x2 : AExit} {b c : Bool} {code : Code} (ht : tOk T n0 = true) (hf : FlatHeap H)
    (o1 : c = true → b = true → WOk P N code E H n0 x1 E1 H1 n') (o2 : c = true → b = false → WOk P N code E H n0 x2 E2 H2 n') : RunW P N code (lamIf T ts E H b x1 E1 H1 x2 E2 H2 n' c) := by
  intro env h n ds r e hc
  simp only [lamIf] at e
  split at e
  · rename_i ds' d hd
    cases e
    have hb := decideA_ok hd fun x hx => hc x (by simp [hx])
    have h1 := eqO_iff.1 (hc (eqO (renE T env ts) (some E), true) (by simp))
    have h2 := eqO_iff.1 (hc (eqO (renH T h T) (some H), true) (by simp))
    have h3 : c = true := hc (c, true) (by simp)
    exact (o1 h3 hb).pre (Sees.ren ht h1 h2 (flat_ren h2 hf))
  · rename_i ds' d hd
    cases e
    have hb := decideA_ok hd fun x hx => hc x (by simp [hx])
    have h1 := eqO_iff.1 (hc (eqO (renE T env ts) (some E), true) (by simp))
    have h2 := eqO_iff.1 (hc (eqO (renH T h T) (some H), true) (by simp))
    have h3 : c = true := hc (c, true) (by simp)
    exact (o2 h3 hb).pre (Sees.ren ht h1 h2 (flat_ren h2 hf))
  · cases e

theorem WOk.sees {c : Code} {env env' : Env} {h h' h2 : Heap} {n n' : Nat} {x : AExit} (o : WOk P N c env h n x env' h' n') (hx : plainX x = true) (s : HRef h' h2) : WOk P N c env h n x env' h2 n' := o.post hx (Sees.ref s)

/-- A way of a call, its loops by contracts. -/
theorem wayW {Λ : Lam} {cf : CallF} {fuel : Nat} {k : FuncId} {args : List AV} {v : AV} {ds : List Dec} {c : Conds} (hP : NoNum P) (hm : P.follows .mixedOrders = true) (hcf : CfOk P cf)
    (hl : ∀ fn c, P.funcs[k]? = some fn → fn.body = some c → LamW P fn.ntmps c Λ) (e : resOf (callLam P Λ fuel cf k args [] 0 ds) = some (.ret v, c)) (hc : ∀ x ∈ c, x.1 = x.2) (hf : args.all flatV = true) (hb : bareV v = true) (h : Heap) (n : Nat) :
    CallOk P k args h n (.ret v) h n := by
  unfold resOf at e
  split at e
  · rename_i r hr
    simp only [Option.some.injEq, Prod.mk.injEq] at e
    obtain ⟨hout, rfl⟩ := e
    have := callLamW_ok hP hm hcf hl hr hc
    rw [hout] at this
    exact pure_call this hf hb h n
  · cases e

theorem pieceF {c : Code} {run : Run} {T : Ren} {ts : List Nat} {env env' : Env} {h h' : Heap} {n n' : Nat} {ds : List Dec} {x : AExit} {cs : Conds} (hr : RunW P N c run) (e : cutR T ts (run env h n ds) = some (x, env', h', cs)) (hx : plainX x = true)
    (ht : tOk T n' = true) (hf : FlatHeap h') (hc : ∀ x ∈ cs, x.1 = x.2) : WOk P N c env h n x env' h' n' := by
  refine pieceW hr e hx ht ?_ hc
  unfold cutR at e
  split at e
  · rename_i r hr'
    split at e
    · rename_i h1 q1 q2
      simp only [Option.some.injEq, Prod.mk.injEq] at e
      obtain ⟨_, _, rfl, _⟩ := e
      rw [hr']
      exact flat_ren q2 hf
    · cases e
  · cases e

theorem set_ref {ty : TypeId} {m : Nat} {l : List Int} {j : Nat} {v : AV} {z : Int} (hv : v = .int .i64 z) (hm : m ≤ l.length) :
    ORef (.row ty 1 m fun i k => if i = j ∧ 0 ≤ k ∧ k < 0 + 1 then (cellsA v).getD (k - 0) .nilp else elI l i k) (.row ty 1 m (elI (l.set j z))) := by
  refine ⟨m, _, rfl, Nat.le_refl _, fun i k hi hk => ?_⟩
  have hk0 : k = 0 := by omega
  subst hk0; subst hv
  dsimp only
  by_cases q : i = j
  · subst q
    rw [if_pos ⟨rfl, by omega, by omega⟩]
    have : i < l.length := by omega
    simp [cellsA, elI, this]
  · rw [if_neg (fun h => q h.1)]
    simp only [elI, List.getD_eq_getElem?_getD, List.getElem?_set_ne (fun h => q h.symm)]
end Go.Eng
