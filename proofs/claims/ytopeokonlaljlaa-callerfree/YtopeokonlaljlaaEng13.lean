/- Contracts of calls that read only, and return what holds no address. -/
import Derived.Test.YtopeokonlaljlaaEng12
set_option linter.unusedVariables false
set_option linter.unusedSimpArgs false
set_option linter.unusedSectionVars false
namespace Go.Eng
variable [Dr]
open Go.RowKit

variable {P : Program} {w0 w : World} {F : Nat → Prop} {ρ : Nat → Option Loc} {RO : Nat → Prop} {h : Heap} {n : Nat}

/-- A call that reads only what it is handed, and returns what holds no address, may be done anywhere. -/
theorem pure_call {k : FuncId} {args : List AV} {v : AV} {h' : Heap} {n' : Nat} (hcall : CallOk P k args [] 0 (.ret v) h' n') (hf : args.all flatV = true) (hb : bareV v = true) (h : Heap) (n : Nat) : CallOk P k args h n (.ret v) h n := by
  refine ⟨hcall.1, fun w0 F ρ RO w vs H hvs => ?_⟩
  have H0 : HRel w (fun _ => False) [] 0 (fun _ => none) RO w :=
    ⟨.refl _ _, fun id o hl => by simp [lookH, look] at hl, fun id id' o o' x x' hne hl => by simp [lookH, look] at hl, fun _ _ => rfl, H.ro⟩
  refine (hcall.2 w (fun _ => False) (fun _ => none) RO w _ H0 (flat_all hf hvs)).mono fun e w' he => ?_
  obtain ⟨ρ', RO', p1, p2, p3⟩ := he
  obtain ⟨z, rfl, hz⟩ := p3
  obtain ⟨g1, g2⟩ := H.grown p2.frame
  exact ⟨ρ, RO, g1, g2, z, rfl, bareV_move hb hz⟩

/-- What came of a way: the end, and what was taken for granted. -/
def resOf (r : Option (Came AEnd)) : Option (AEnd × Conds) := match r with | some r => some (r.out, r.conds) | none => none

theorem way {cf : CallF} {k : FuncId} {args : List AV} {v : AV} {ds : List Dec} {c : Conds} (hcf : CfOk P cf) (e : resOf (cf k args [] 0 ds) = some (.ret v, c)) (hc : ∀ x ∈ c, x.1 = x.2) (hf : args.all flatV = true) (hb : bareV v = true) (h : Heap) (n : Nat) :
    CallOk P k args h n (.ret v) h n := by
  unfold resOf at e
  split at e
  · rename_i r hr
    simp only [Option.some.injEq, Prod.mk.injEq] at e
    obtain ⟨hout, rfl⟩ := e
    have := hcf _ _ _ _ _ _ hr hc
    rw [hout] at this
    exact pure_call this hf hb h n
  · cases e

/-- Contracts, by the function's number. -/
abbrev Con := FuncId × (List AV → Option AV)

def conLook : List Con → FuncId → Option (List AV → Option AV)
  | [], _ => none
  | (k, f) :: r, j => match Nat.beq k j with | true => some f | false => conLook r j

def conΔ (cs : List Con) : Delta := fun k l h n => match conLook cs k with
  | some f => match f l with | some v => some (.ret v, h, n, []) | none => none
  | none => none

def ConOk (P : Program) (c : Con) : Prop := ∀ l v, c.2 l = some v → ∀ h n, CallOk P c.1 l h n (.ret v) h n

theorem conLook_mem {cs : List Con} {k : FuncId} {f : List AV → Option AV} (e : conLook cs k = some f) : (k, f) ∈ cs := by
  induction cs with
  | nil => cases e
  | cons c r ih =>
    obtain ⟨k', f'⟩ := c
    simp only [conLook] at e
    split at e
    · rename_i hb
      have := Nat.eq_of_beq_eq_true hb
      subst this
      cases e
      simp
    · exact List.mem_cons_of_mem _ (ih e)

theorem conΔ_ok {cs : List Con} (h : ∀ c ∈ cs, ConOk P c) : DeltaOk P (conΔ cs) := by
  intro k args h' n e h1 n1 c hd hc
  unfold conΔ at hd
  split at hd
  · rename_i f hf
    split at hd
    · rename_i v hv
      cases hd
      exact h _ (conLook_mem hf) _ _ hv _ _
    · cases hd
  · cases hd

theorem conds_nil : ∀ x ∈ ([] : Conds), x.1 = x.2 := fun _ h => by cases h
theorem conds_cons {a b : Bool} {c : Conds} (h : a = b) (t : ∀ x ∈ c, x.1 = x.2) : ∀ x ∈ (a, b) :: c, x.1 = x.2 := by
  intro x hx
  rcases List.mem_cons.1 hx with rfl | hx
  · exact h
  · exact t x hx

def noNumB (P : Program) : Bool := P.funcs.toList.all fun f => match f.body with | some _ => !(f.name == "runtime.NumGoroutine") | none => true

theorem noNumB_ok {P : Program} (h : noNumB P = true) : NoNum P := by
  intro k fn hk hb
  have := List.all_eq_true.1 h fn (Array.mem_toList_iff.2 (Array.mem_of_getElem? hk))
  cases hx : fn.body with
  | none => rw [hx] at hb; cases hb
  | some c => rw [hx] at this; simpa using this

end Go.Eng
