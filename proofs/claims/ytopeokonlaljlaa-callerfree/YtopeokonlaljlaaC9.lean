/- The caller's structs as they come in. -/
import Derived.Test.YtopeokonlaljlaaC7
import Derived.Test.YtopeokonlaljlaaEng17
set_option linter.unusedVariables false
namespace Go.Proofs.Ytopeokonlaljlaa
open Go.Eng Go.Proofs Go.ChangeShapes Go.WideShapes Go.RowKit

variable {H : Type} {enc : TypeId × Value → H} {W : World}

/-- A whole number of 64 bits. -/
def i64 (n : Int) : Prop := -9223372036854775808 ≤ n ∧ n ≤ 9223372036854775807
theorem i64_of {n : Int} (h : (Lit.int .i64 n).wf = true) : i64 n := by
  simp only [Lit.wf, Bool.and_eq_true, decide_eq_true_eq] at h
  exact h

/-- The blocks of the world as it comes in. -/
abbrev old (W : World) : Nat → Prop := fun b => b < W.heap.size

theorem Caller.len {cs : List Value} (h : cs.length = 15) : ∃ v0 v1 v2 v3 v4 v5 v6 v7 v8 v9 v10 v11 v12 v13 v14, cs = [v0, v1, v2, v3, v4, v5, v6, v7, v8, v9, v10, v11, v12, v13, v14] := by
  match cs, h with
  | [v0, v1, v2, v3, v4, v5, v6, v7, v8, v9, v10, v11, v12, v13, v14], _ => exact ⟨_, _, _, _, _, _, _, _, _, _, _, _, _, _, _, rfl⟩
theorem Caller.read {cs : List Value} (h : Go.Eng.Read enc Try.prog W 27 cs) : ∃ c : Caller, (∀ v ∈ cs, v.oneCell' = true) ∧ (i64 c.session ∧ i64 c.request ∧ i64 c.cmd.session ∧ i64 c.cmd.request ∧ i64 c.cmd.kind ∧ i64 c.cmd.spot.bed ∧ i64 c.cmd.spot.channel ∧ i64 c.cmd.prio ∧ i64 c.cmd.at_ ∧ i64 c.cmd.long ∧ i64 c.to ∧ i64 c.n ∧ i64 c.wait ∧ i64 c.left) ∧ ∀ ρ, VRels ρ (old W) W c.cells cs := by
  obtain ⟨hl, _⟩ := h.struct Try.underlying27
  have L := Go.Eng.Read.leaf (d := 4) h hl (by kernel_rfl)
  have hT : leafT Try.prog 4 27 = [3, 3, 4, 3, 3, 3, 3, 3, 3, 3, 3, 3, 3, 3, 3] := by kernel_rfl
  rw [hT] at L; clear hT
  have hn : Try.prog.cellsOf 27 = 15 := by kernel_rfl
  obtain ⟨v0, v1, v2, v3, v4, v5, v6, v7, v8, v9, v10, v11, v12, v13, v14, rfl⟩ := Caller.len (hl.trans hn)
  · clear hl hn h
    obtain ⟨v, e, r0⟩ := L 0 3 rfl
    cases e
    obtain ⟨n0, e, w0⟩ := r0.int Try.underlying3
    cases e
    obtain ⟨v, e, r1⟩ := L 1 3 rfl
    cases e
    obtain ⟨n1, e, w1⟩ := r1.int Try.underlying3
    cases e
    obtain ⟨v, e, r2⟩ := L 2 4 rfl
    cases e
    obtain ⟨n2, e⟩ := r2.bool Try.underlying4
    cases e
    obtain ⟨v, e, r3⟩ := L 3 3 rfl
    cases e
    obtain ⟨n3, e, w3⟩ := r3.int Try.underlying3
    cases e
    obtain ⟨v, e, r4⟩ := L 4 3 rfl
    cases e
    obtain ⟨n4, e, w4⟩ := r4.int Try.underlying3
    cases e
    obtain ⟨v, e, r5⟩ := L 5 3 rfl
    cases e
    obtain ⟨n5, e, w5⟩ := r5.int Try.underlying3
    cases e
    obtain ⟨v, e, r6⟩ := L 6 3 rfl
    cases e
    obtain ⟨n6, e, w6⟩ := r6.int Try.underlying3
    cases e
    obtain ⟨v, e, r7⟩ := L 7 3 rfl
    cases e
    obtain ⟨n7, e, w7⟩ := r7.int Try.underlying3
    cases e
    obtain ⟨v, e, r8⟩ := L 8 3 rfl
    cases e
    obtain ⟨n8, e, w8⟩ := r8.int Try.underlying3
    cases e
    obtain ⟨v, e, r9⟩ := L 9 3 rfl
    cases e
    obtain ⟨n9, e, w9⟩ := r9.int Try.underlying3
    cases e
    obtain ⟨v, e, r10⟩ := L 10 3 rfl
    cases e
    obtain ⟨n10, e, w10⟩ := r10.int Try.underlying3
    cases e
    obtain ⟨v, e, r11⟩ := L 11 3 rfl
    cases e
    obtain ⟨n11, e, w11⟩ := r11.int Try.underlying3
    cases e
    obtain ⟨v, e, r12⟩ := L 12 3 rfl
    cases e
    obtain ⟨n12, e, w12⟩ := r12.int Try.underlying3
    cases e
    obtain ⟨v, e, r13⟩ := L 13 3 rfl
    cases e
    obtain ⟨n13, e, w13⟩ := r13.int Try.underlying3
    cases e
    obtain ⟨v, e, r14⟩ := L 14 3 rfl
    cases e
    obtain ⟨n14, e, w14⟩ := r14.int Try.underlying3
    cases e
    exact ⟨⟨n0, n1, n2, ⟨n3, n4, n5, ⟨n6, n7⟩, n8, n9, n10⟩, n11, n12, n13, n14⟩, (by simp only [List.mem_cons, List.not_mem_nil, or_false]; intro v hv; rcases hv with rfl | rfl | rfl | rfl | rfl | rfl | rfl | rfl | rfl | rfl | rfl | rfl | rfl | rfl | rfl <;> first | rfl | assumption), ⟨i64_of w0, i64_of w1, i64_of w3, i64_of w4, i64_of w5, i64_of w6, i64_of w7, i64_of w8, i64_of w9, i64_of w10, i64_of w11, i64_of w12, i64_of w13, i64_of w14⟩, fun ρ => .cons (.int _ _) (.cons (.int _ _) (.cons (.bool _) (.cons (.int _ _) (.cons (.int _ _) (.cons (.int _ _) (.cons (.int _ _) (.cons (.int _ _) (.cons (.int _ _) (.cons (.int _ _) (.cons (.int _ _) (.cons (.int _ _) (.cons (.int _ _) (.cons (.int _ _) (.cons (.int _ _) (.nil)))))))))))))))⟩

theorem Cmd.len {cs : List Value} (h : cs.length = 8) : ∃ v0 v1 v2 v3 v4 v5 v6 v7, cs = [v0, v1, v2, v3, v4, v5, v6, v7] := by
  match cs, h with
  | [v0, v1, v2, v3, v4, v5, v6, v7], _ => exact ⟨_, _, _, _, _, _, _, _, rfl⟩
theorem Cmd.read {cs : List Value} (h : Go.Eng.Read enc Try.prog W 25 cs) : ∃ c : Cmd, (∀ v ∈ cs, v.oneCell' = true) ∧ (i64 c.session ∧ i64 c.request ∧ i64 c.kind ∧ i64 c.spot.bed ∧ i64 c.spot.channel ∧ i64 c.prio ∧ i64 c.at_ ∧ i64 c.long) ∧ ∀ ρ, VRels ρ (old W) W c.cells cs := by
  obtain ⟨hl, _⟩ := h.struct Try.underlying25
  have L := Go.Eng.Read.leaf (d := 4) h hl (by kernel_rfl)
  have hT : leafT Try.prog 4 25 = [3, 3, 3, 3, 3, 3, 3, 3] := by kernel_rfl
  rw [hT] at L; clear hT
  have hn : Try.prog.cellsOf 25 = 8 := by kernel_rfl
  obtain ⟨v0, v1, v2, v3, v4, v5, v6, v7, rfl⟩ := Cmd.len (hl.trans hn)
  · clear hl hn h
    obtain ⟨v, e, r0⟩ := L 0 3 rfl
    cases e
    obtain ⟨n0, e, w0⟩ := r0.int Try.underlying3
    cases e
    obtain ⟨v, e, r1⟩ := L 1 3 rfl
    cases e
    obtain ⟨n1, e, w1⟩ := r1.int Try.underlying3
    cases e
    obtain ⟨v, e, r2⟩ := L 2 3 rfl
    cases e
    obtain ⟨n2, e, w2⟩ := r2.int Try.underlying3
    cases e
    obtain ⟨v, e, r3⟩ := L 3 3 rfl
    cases e
    obtain ⟨n3, e, w3⟩ := r3.int Try.underlying3
    cases e
    obtain ⟨v, e, r4⟩ := L 4 3 rfl
    cases e
    obtain ⟨n4, e, w4⟩ := r4.int Try.underlying3
    cases e
    obtain ⟨v, e, r5⟩ := L 5 3 rfl
    cases e
    obtain ⟨n5, e, w5⟩ := r5.int Try.underlying3
    cases e
    obtain ⟨v, e, r6⟩ := L 6 3 rfl
    cases e
    obtain ⟨n6, e, w6⟩ := r6.int Try.underlying3
    cases e
    obtain ⟨v, e, r7⟩ := L 7 3 rfl
    cases e
    obtain ⟨n7, e, w7⟩ := r7.int Try.underlying3
    cases e
    exact ⟨⟨n0, n1, n2, ⟨n3, n4⟩, n5, n6, n7⟩, (by simp only [List.mem_cons, List.not_mem_nil, or_false]; intro v hv; rcases hv with rfl | rfl | rfl | rfl | rfl | rfl | rfl | rfl <;> first | rfl | assumption), ⟨i64_of w0, i64_of w1, i64_of w2, i64_of w3, i64_of w4, i64_of w5, i64_of w6, i64_of w7⟩, fun ρ => .cons (.int _ _) (.cons (.int _ _) (.cons (.int _ _) (.cons (.int _ _) (.cons (.int _ _) (.cons (.int _ _) (.cons (.int _ _) (.cons (.int _ _) (.nil))))))))⟩

theorem Answer.len {cs : List Value} (h : cs.length = 3) : ∃ v0 v1 v2, cs = [v0, v1, v2] := by
  match cs, h with
  | [v0, v1, v2], _ => exact ⟨_, _, _, rfl⟩
theorem Answer.read {cs : List Value} (h : Go.Eng.Read enc Try.prog W 31 cs) : ∃ (i j : Int) (l : List ByteArray), (∀ v ∈ cs, v.oneCell' = true) ∧ (i64 i ∧ i64 j ∧ l.length ≤ maxLen) ∧ ∀ ρ, VRels ρ (old W) W (ansA i j l).cells cs := by
  obtain ⟨hl, _⟩ := h.struct Try.underlying31
  have L := Go.Eng.Read.leaf (d := 4) h hl (by kernel_rfl)
  have hT : leafT Try.prog 4 31 = [28, 3, 29] := by kernel_rfl
  rw [hT] at L; clear hT
  have hn : Try.prog.cellsOf 31 = 3 := by kernel_rfl
  obtain ⟨v0, v1, v2, rfl⟩ := Answer.len (hl.trans hn)
  · clear hl hn h
    obtain ⟨v, e, r0⟩ := L 0 28 rfl
    cases e
    obtain ⟨n0, e, w0⟩ := r0.int Try.underlying28
    cases e
    obtain ⟨v, e, r1⟩ := L 1 3 rfl
    cases e
    obtain ⟨n1, e, w1⟩ := r1.int Try.underlying3
    cases e
    obtain ⟨v, e, r2⟩ := L 2 29 rfl
    cases e
    obtain ⟨u2, n2, e, wl, ws, o2, hv2⟩ := r2.strs Try.underlying29 Try.underlying9 (by kernel_rfl)
    cases e
    exact ⟨n0, n1, n2, (by simp only [List.mem_cons, List.not_mem_nil, or_false]; intro v hv; rcases hv with rfl | rfl | rfl <;> first | rfl | assumption), ⟨i64_of w0, i64_of w1, wl⟩, fun ρ => .cons (.int _ _) (.cons (.int _ _) (.cons (hv2 ρ) (.nil)))⟩

end Go.Proofs.Ytopeokonlaljlaa
