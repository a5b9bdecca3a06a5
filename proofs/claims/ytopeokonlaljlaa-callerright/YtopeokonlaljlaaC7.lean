/- A great answer; the document's functions by the program's names. -/
import Derived.Test.YtopeokonlaljlaaC6
import Derived.Test.YtopeokonlaljlaaEng16
set_option linter.unusedVariables false
namespace Go.Proofs.Ytopeokonlaljlaa
open Go.Eng Go.Proofs

abbrev ansA (code num : Int) (l : List ByteArray) : Answer := ⟨code, num, strsA l⟩

noncomputable abbrev fx40 (l : List ByteArray) : Fix := ⟨40, [strsA l], .bool (shortS l), decide (l.length ≤ 1000000)⟩
theorem fx40_ok (l : List ByteArray) : FixOk Try.prog (fx40 l) := fun h => short_ok l (of_decide_eq_true h)

theorem cf13 (l : List ByteArray) : CfOk Try.prog (runG Try.prog (fixΔ [fx40 l] []) 60 4) := runG_ok noNum mixed (fixΔ_ok (List.forall_mem_cons.2 ⟨fx40_ok l, List.forall_mem_nil _⟩) fun c hc => by cases hc) _

def bigS (l : List ByteArray) : Bool := decide ((l.length : Int) > 40) || !shortS l

theorem w13a (i j : Int) (l : List ByteArray) : resOf (runG Try.prog (fixΔ [fx40 l] []) 60 4 13 [.agg (ansA i j l).cells] [] 0 [.go 0 true]) = some (.ret (.bool true), [(true, decide ((l.length : Int) > 40))]) := by kernel_rfl
theorem w13b (i j : Int) (l : List ByteArray) : resOf (runG Try.prog (fixΔ [fx40 l] []) 60 4 13 [.agg (ansA i j l).cells] [] 0 [.go 0 false]) =
    some (.ret (.bool (!shortS l)), [(false, decide ((l.length : Int) > 40)), (argsB [strsA l] [strsA l], true), (decide (l.length ≤ 1000000), true)]) := by kernel_rfl

theorem big_ok (i j : Int) (l : List ByteArray) (h : Heap) (n : Nat) : CallOk Try.prog 13 [.agg (ansA i j l).cells] h n (.ret (.bool (bigS l))) h n := by
  rcases Bool.eq_false_or_eq_true (decide ((l.length : Int) > 40)) with hs | hs
  · have e : bigS l = true := by simp only [bigS, hs, Bool.true_or]
    rw [e]
    exact way (cf13 l) (w13a i j l) (conds_cons hs.symm conds_nil) rfl rfl h n
  · have e : bigS l = !shortS l := by simp only [bigS, hs, Bool.false_or]
    rw [e]
    have := of_decide_eq_false hs
    exact way (cf13 l) (w13b i j l) (conds_cons hs.symm (conds_cons (argsB_true rfl) (conds_cons (decide_eq_true (by omega)) conds_nil))) rfl rfl h n

noncomputable abbrev fx13 (i j : Int) (l : List ByteArray) : Fix := ⟨13, [.agg (ansA i j l).cells], .bool (bigS l), true⟩
theorem fx13_ok (i j : Int) (l : List ByteArray) : FixOk Try.prog (fx13 i j l) := fun _ => big_ok i j l

/-- The document's function number k does what the program's f does. -/
theorem same_con {f g : Con} (h : ConOk Try.prog f) (e : ∀ l, f.2 l = g.2 l) : ConOk Try.prog (f.1, g.2) := fun l v hv => h l v ((e l).trans hv)

def conR15 : Con := (15, conask.2)
theorem conR15_ok : ConOk Try.prog conR15 := same_con conrAsk_ok fun l => by simp only [conrAsk, conask, ask_eq]
def conR17 : Con := (17, conhear.2)
theorem conR17_ok : ConOk Try.prog conR17 := same_con conrHear_ok fun l => by simp only [conrHear, conhear, hear_eq]
def conR19 : Con := (19, condeny.2)
theorem conR19_ok : ConOk Try.prog conR19 := same_con conrDeny_ok fun l => by simp only [conrDeny, condeny, deny_eq]
def conR21 : Con := (21, contick.2)
theorem conR21_ok : ConOk Try.prog conR21 := same_con conrTick_ok fun l => by simp only [conrTick, contick, tick_eq]
def conR23 : Con := (23, connewC.2)
theorem conR23_ok : ConOk Try.prog conR23 := same_con conrNewC_ok fun l => by simp only [conrNewC, connewC, newC_eq]
def conR26 : Con := (26, conisC.2)
theorem conR26_ok : ConOk Try.prog conR26 := same_con conrIsC_ok fun l => by simp only [conrIsC, conisC, isC_eq]

abbrev cons26 : List Con := [conask, conR15, conhear, conR17, condeny, conR19, contick, conR21, connewC, conR23, conisC, conR26, concalled]
theorem cons26_ok : ∀ c ∈ cons26, ConOk Try.prog c :=
  List.forall_mem_cons.2 ⟨conask_ok, List.forall_mem_cons.2 ⟨conR15_ok, List.forall_mem_cons.2 ⟨conhear_ok, List.forall_mem_cons.2 ⟨conR17_ok, List.forall_mem_cons.2 ⟨condeny_ok, List.forall_mem_cons.2 ⟨conR19_ok,
    List.forall_mem_cons.2 ⟨contick_ok, List.forall_mem_cons.2 ⟨conR21_ok, List.forall_mem_cons.2 ⟨connewC_ok, List.forall_mem_cons.2 ⟨conR23_ok, List.forall_mem_cons.2 ⟨conisC_ok, List.forall_mem_cons.2 ⟨conR26_ok, List.forall_mem_cons.2 ⟨concalled_ok, List.forall_mem_nil _⟩⟩⟩⟩⟩⟩⟩⟩⟩⟩⟩⟩⟩
theorem cfLaw (i j : Int) (l : List ByteArray) : CfOk Try.prog (runG Try.prog (fixΔ [fx13 i j l] cons26) 60 4) := runG_ok noNum mixed (fixΔ_ok (List.forall_mem_cons.2 ⟨fx13_ok i j l, List.forall_mem_nil _⟩) cons26_ok) _
end Go.Proofs.Ytopeokonlaljlaa
