/- Closures and boxes that are lent; what a call that only looks leaves, in the kit's words. -/
import Derived.Test.YtopeokonlaljlaaEng22
import Derived.Sort.Grow
import Derived.Deep.Draws
set_option linter.unusedVariables false
set_option linter.unusedSimpArgs false
set_option linter.unusedSectionVars false
namespace Go.Eng
variable [Dr]
open Go.RowKit Go.Sort

variable {P : Program} {N : Nat}

/-- Nothing turned, some blocks came, some answers were drawn. -/
theorem frame_grow {w w' : World} (hp : Dr.p) (f : Frame w (fun _ => False) w') : ∃ q os, w' = grow (w.drewN q) os := by
  refine ⟨w'.drawn - w.drawn, w'.heap.extract w.heap.size, ?_⟩
  have hh : w.heap ++ w'.heap.extract w.heap.size = w'.heap := by
    apply Array.ext
    · have := f.size; simp; omega
    · intro i h1 h2
      rw [Array.getElem_append]
      split
      · rename_i hi
        have := f.block i hi (fun h => h)
        rw [Array.getElem?_eq_getElem hi, Array.getElem?_eq_getElem h2] at this
        exact (Option.some.inj this).symm
      · rename_i hi
        simp only [Array.getElem_extract]
        congr 1; omega
  have hd : w.drawn + (w'.drawn - w.drawn) = w'.drawn := by have := f.drawn hp; omega
  obtain ⟨h1, h2, h3, h4, h5⟩ := w
  obtain ⟨g1, g2, g3, g4, g5⟩ := w'
  have a1 := f.os; have a2 := f.tape; have a3 := f.output
  simp only at hh hd a1 a2 a3
  subst a1; subst a2; subst a3
  simp only [grow, World.drewN, hh, hd]

/-- A call with values alone that gives a number: nothing turns. -/
theorem CallOk.calls_int {k : FuncId} {args : List AV} {kd : IntKind} {z : Int} (H : ∀ h n, CallOk P k args h n (.ret (.int kd z)) h n) {vs : List Value} {w : World} {RO : Nat → Prop} (hro : ∀ b, RO b → b < w.heap.size) (hv : VRels (fun _ => none) RO w args vs) :
    Calls P k vs.toArray w fun e w' => e = .returned (.int kd z) ∧ Frame w (fun _ => False) w' := by
  refine ((H [] 0).2 w (fun _ => False) (fun _ => none) RO w vs (HRel.start hro) hv).mono fun e w' he => ?_
  obtain ⟨ρ', RO', p1, p2, u, rfl, p3⟩ := he
  cases p3
  exact ⟨rfl, p2.frame⟩
theorem CallOk.calls_bool {k : FuncId} {args : List AV} {b : Bool} (H : ∀ h n, CallOk P k args h n (.ret (.bool b)) h n) {vs : List Value} {w : World} {RO : Nat → Prop} (hro : ∀ b, RO b → b < w.heap.size) (hv : VRels (fun _ => none) RO w args vs) :
    Calls P k vs.toArray w fun e w' => e = .returned (.bool b) ∧ Frame w (fun _ => False) w' := by
  refine ((H [] 0).2 w (fun _ => False) (fun _ => none) RO w vs (HRel.start hro) hv).mono fun e w' he => ?_
  obtain ⟨ρ', RO', p1, p2, u, rfl, p3⟩ := he
  cases p3
  exact ⟨rfl, p2.frame⟩

end Go.Eng
