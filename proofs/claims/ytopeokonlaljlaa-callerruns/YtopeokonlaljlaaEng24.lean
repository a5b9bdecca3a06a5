/- From a walk in the kit's words to a contract: a new row. -/
import Derived.Test.YtopeokonlaljlaaEng23
import Derived.Laws.AppendOwn
set_option linter.unusedVariables false
set_option linter.unusedSectionVars false
namespace Go.Eng
variable [Dr]
open Go.RowKit

variable {P : Program} {N : Nat}

theorem CallOk.ofOwns {k : FuncId} {args : List AV} {ty : TypeId} {sz m : Nat} {vals : Nat → Nat → AV} (hD : ¬ Dr.p) (hfn : ∃ fn, P.funcs[k]? = some fn ∧ fn.body.isSome = true) (hs : 1 ≤ sz)
    (hc : ∀ (ρ : Nat → Option Loc) (RO : Nat → Prop) (w : World) (vs : List Value), (∀ b, RO b → b < w.heap.size) → VRels ρ RO w args vs → Calls P k vs.toArray w fun e w' => ∃ (v : Value) (xs : List Value), e = .returned v ∧ Below w.heap.size w w' ∧
      w'.ownsRow w.heap.size ty sz v m xs ∧ ∀ i j, i < m → j < sz → ∃ u, xs[i * sz + j]? = some u ∧ u.oneCell' = true ∧ ∀ ρ RO w, VRel ρ RO w (vals i j) u) :
    CallOk P k args [] 0 (.ret (.sl 0 0 m m)) [(0, some (.row ty sz m vals))] 1 := by
  refine ⟨hfn, fun w0 F ρ RO w vs H hvs => ?_⟩
  refine (hc ρ RO w vs H.ro hvs).mono fun e w' he => ?_
  obtain ⟨v, xs, rfl, hb, hown, hx⟩ := he
  have fr : Frame w0 F w' := ⟨hb.os.trans H.frame.os, hb.tape.trans H.frame.tape, hb.output.trans H.frame.output, Nat.le_trans H.frame.size hb.size,
    fun k hk hF => (hb.block k (Nat.lt_of_lt_of_le hk H.frame.size)).trans (H.frame.block k hk hF), fun d => absurd d hD⟩
  rcases hown.2 with ⟨rfl, h0⟩ | ⟨g, cap, cur, rfl, hg, hgb, h1, h2, h3, h4⟩
  · subst h0
    obtain ⟨ext, fin⟩ := H.add (w' := w') (.row ty sz 0 vals) ⟨0, 0, sz, 0⟩ fr (fun k hk => hb.block k hk) hb.size
    exact ⟨_, RO, ext, fin (.inl ⟨ty, sz, vals, rfl, rfl, rfl, hs⟩), _, rfl, .sl (if_pos rfl) (Nat.le_refl _) (Nat.le_refl _) (fun h => absurd rfl h)⟩
  · obtain ⟨ext, fin⟩ := H.add (w' := w') (.row ty sz m vals) ⟨g, 0, sz, cap * sz⟩ fr (fun k hk => hb.block k hk) hb.size
    have hlt : g < w'.heap.size := (Array.getElem?_eq_some_iff.1 hgb).1
    refine ⟨_, RO, ext, fin (.inr ⟨hg, ⟨rfl, cur, hgb, h3, fun i j hi hj => ?_⟩, hlt, .inl (Nat.le_trans H.frame.size hg), fun hr => by have := H.ro _ hr; simp only at this; omega⟩), _, rfl, .sl (if_pos rfl) (Nat.le_refl _) h1 (fun _ => ⟨by simp, by simp⟩)⟩
    obtain ⟨u, u1, u2, u3⟩ := hx i j hi hj
    refine ⟨u, ?_, u2, u3 _ _ _⟩
    have hij : i * sz + j < m * sz := by
      have : (i + 1) * sz ≤ m * sz := Nat.mul_le_mul_right _ hi
      rw [Nat.add_mul] at this; omega
    rw [Nat.zero_add, ← Array.getElem?_toList, ← u1, ← h4, List.getElem?_take_of_lt hij]
end Go.Eng
