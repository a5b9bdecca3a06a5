/- A script as it comes in. -/
import Derived.Test.YtopeokonlaljlaaF4
set_option linter.unusedVariables false
namespace Go.Proofs.Ytopeokonlaljlaa
open Go.Eng Go.Proofs Go.ChangeShapes Go.WideShapes Go.RowKit

variable {H : Type} {enc : TypeId × Value → H} {W : World}
def StepS.good (x : StepS) : Prop := i64 x.kind ∧ i64 x.cmd.session ∧ i64 x.cmd.request ∧ i64 x.cmd.kind ∧ i64 x.cmd.spot.bed ∧ i64 x.cmd.spot.channel ∧ i64 x.cmd.prio ∧ i64 x.cmd.at_ ∧ i64 x.cmd.long ∧ i64 x.code ∧ i64 x.num ∧ i64 x.n
theorem StepS.len {cs : List Value} (h : cs.length = 14) : ∃ v0 v1 v2 v3 v4 v5 v6 v7 v8 v9 v10 v11 v12 v13, cs = [v0, v1, v2, v3, v4, v5, v6, v7, v8, v9, v10, v11, v12, v13] := by
  match cs, h with
  | [v0, v1, v2, v3, v4, v5, v6, v7, v8, v9, v10, v11, v12, v13], _ => exact ⟨_, _, _, _, _, _, _, _, _, _, _, _, _, _, rfl⟩
theorem StepS.read {cs : List Value} (h : Go.Eng.Read enc Try.prog W 48 cs) : ∃ x : StepS, (∀ v ∈ cs, v.oneCell' = true) ∧ (StepS.good x) ∧ ∀ ρ, VRels ρ (old W) W (x.cells) cs := by
  obtain ⟨hl, _⟩ := h.struct Try.underlying48
  have L := Go.Eng.Read.leaf (d := 4) h hl (by kernel_rfl)
  have hT : leafT Try.prog 4 48 = [3, 3, 3, 3, 3, 3, 3, 3, 3, 4, 28, 3, 29, 3] := by kernel_rfl
  rw [hT] at L; clear hT
  have hn : Try.prog.cellsOf 48 = 14 := by kernel_rfl
  obtain ⟨v0, v1, v2, v3, v4, v5, v6, v7, v8, v9, v10, v11, v12, v13, rfl⟩ := StepS.len (hl.trans hn)
  clear hl hn h
  obtain ⟨v, e, r0⟩ := L 0 3 rfl
  cases e
  obtain ⟨n0, e, w0⟩ := r0.int Try.underlying3
  cases e
  obtain ⟨v, e, r1⟩ := L 1 3 rfl
  cases e
  obtain ⟨n1, e, w1⟩ := r1.int Try.underlying3
  cases e
  obtain ⟨v, e, r2⟩ := L 2 3 rfl
  cases e
  obtain ⟨n2, e, w2⟩ := r2.int Try.underlying3
  cases e
  obtain ⟨v, e, r3⟩ := L 3 3 rfl
  cases e
  obtain ⟨n3, e, w3⟩ := r3.int Try.underlying3
  cases e
  obtain ⟨v, e, r4⟩ := L 4 3 rfl
  cases e
  obtain ⟨n4, e, w4⟩ := r4.int Try.underlying3
  cases e
  obtain ⟨v, e, r5⟩ := L 5 3 rfl
  cases e
  obtain ⟨n5, e, w5⟩ := r5.int Try.underlying3
  cases e
  obtain ⟨v, e, r6⟩ := L 6 3 rfl
  cases e
  obtain ⟨n6, e, w6⟩ := r6.int Try.underlying3
  cases e
  obtain ⟨v, e, r7⟩ := L 7 3 rfl
  cases e
  obtain ⟨n7, e, w7⟩ := r7.int Try.underlying3
  cases e
  obtain ⟨v, e, r8⟩ := L 8 3 rfl
  cases e
  obtain ⟨n8, e, w8⟩ := r8.int Try.underlying3
  cases e
  obtain ⟨v, e, r9⟩ := L 9 4 rfl
  cases e
  obtain ⟨n9, e⟩ := r9.bool Try.underlying4
  cases e
  obtain ⟨v, e, r10⟩ := L 10 28 rfl
  cases e
  obtain ⟨n10, e, w10⟩ := r10.int Try.underlying28
  cases e
  obtain ⟨v, e, r11⟩ := L 11 3 rfl
  cases e
  obtain ⟨n11, e, w11⟩ := r11.int Try.underlying3
  cases e
  obtain ⟨v, e, r12⟩ := L 12 29 rfl
  cases e
  obtain ⟨u12, n12, e, wl, ws, o12, hv12⟩ := r12.strs Try.underlying29 Try.underlying9 (by kernel_rfl)
  cases e
  obtain ⟨v, e, r13⟩ := L 13 3 rfl
  cases e
  obtain ⟨n13, e, w13⟩ := r13.int Try.underlying3
  cases e
  exact ⟨⟨n0, ⟨n1, n2, n3, ⟨n4, n5⟩, n6, n7, n8⟩, n9, n10, n11, n12, n13⟩, (by simp only [List.mem_cons, List.not_mem_nil, or_false]; intro v hv; rcases hv with rfl | rfl | rfl | rfl | rfl | rfl | rfl | rfl | rfl | rfl | rfl | rfl | rfl | rfl <;> first | rfl | assumption), ⟨i64_of w0, i64_of w1, i64_of w2, i64_of w3, i64_of w4, i64_of w5, i64_of w6, i64_of w7, i64_of w8, i64_of w10, i64_of w11, i64_of w13⟩, fun ρ => .cons (.int _ _) (.cons (.int _ _) (.cons (.int _ _) (.cons (.int _ _) (.cons (.int _ _) (.cons (.int _ _) (.cons (.int _ _) (.cons (.int _ _) (.cons (.int _ _) (.cons (.bool _) (.cons (.int _ _) (.cons (.int _ _) (.cons (hv12 ρ) (.cons (.int _ _) (.nil))))))))))))))⟩

theorem StepS.flat (x : StepS) : ∀ a ∈ x.cells, Flat a := by
  intro a ha
  simp only [StepS.cells, List.mem_cons, List.not_mem_nil, or_false] at ha
  rcases ha with rfl | rfl | rfl | rfl | rfl | rfl | rfl | rfl | rfl | rfl | rfl | rfl | rfl | rfl <;> first | exact .int _ _ | exact .bool _ | exact .dsl fun i k _ _ => .str _
theorem Script.read {cs : List Value} (h : Go.Eng.Read enc Try.prog W 46 cs) : ∃ (v : Value) (l : List StepS), cs = [v] ∧ l.length ≤ maxLen ∧ (∀ x ∈ l, x.good) ∧ v.oneCell' = true ∧ ∀ ρ, VRel ρ (old W) W (scriptA l) v :=
  Go.Eng.Read.rows h Try.underlying46 (by kernel_rfl) (by decide) (fun cs hr hl => StepS.read hr) StepS.flat
end Go.Proofs.Ytopeokonlaljlaa
