/- CallerRound: its call returns true, from every caller. -/
import Derived.Test.YtopeokonlaljlaaE3
set_option linter.unusedVariables false
namespace Go.Proofs.Ytopeokonlaljlaa
open Go.Eng Go.Proofs

theorem w5a (c : Caller) : resOf (call5 c [.go 0 true]) = some (.ret (.bool true), [(true, !isC c)]) := by kernel_rfl
theorem w5b (c : Caller) : resOf (call5 c [.go 0 false, .go 0 true]) = some (.ret (.bool true), [(false, !isC c), (true, !c.busy)]) := by kernel_rfl
abbrev cmdB (x y : Cmd) : Bool := x.session == y.session && (x.request == y.request && (x.kind == y.kind && (x.spot.bed == y.spot.bed && x.spot.channel == y.spot.channel && (x.prio == y.prio && (x.at_ == y.at_ && x.long == y.long)))))
theorem w5c (c : Caller) : resOf (call5 c [.go 0 false, .go 0 false, .go 1 true, .go 0 true, .go 0 true]) = some (.ret (.bool (cmdB (bAt c c.n.toNat).cmd c.cmd)),
    [(false, !isC c), (false, !c.busy), (c.n == c.n, true), (decide (0 ≤ c.n ∧ c.n * ((8 : Nat) : Int) ≤ 140737488355328 ∧ c.n ≤ 140737488355328), true),
      (eqO (some (env5 c.n.toNat 0)) (some (env5 c.n.toNat 0)), true), (eqO (some (heap5 c c c c.n.toNat ef0)) (some (heap5 c c c c.n.toNat ef0)), true), (good5 c, true),
      (eqO (some (env5e c.n.toNat 0)) (some (env5e c.n.toNat 0)), true), (eqO (some (heap5 c (bAt c c.n.toNat) (bAt c c.n.toNat) c.n.toNat (elI (cntC c c.n.toNat)))) (some (heap5 c (bAt c c.n.toNat) (bAt c c.n.toNat) c.n.toNat (elI (cntC c c.n.toNat)))), true), (good5 c, true),
      (true, (bAt c c.n.toNat).to == c.to), (true, (bAt c c.n.toNat).to == c.to), (true, (bAt c c.n.toNat).left == c.wait)]) := by kernel_rfl

theorem round_ok (c : Caller) (h : Heap) (n : Nat) : CallOk Try.prog 5 [.agg c.cells] h n (.ret (.bool true)) h n := by
  have hf : ([.agg c.cells] : List AV).all flatV = true := rfl
  rcases Bool.eq_false_or_eq_true (isC c) with hc | hc
  · rcases Bool.eq_false_or_eq_true c.busy with hb | hb
    · have R := (isC_iff c).1 hc
      have h1 := R.n; have h2 := R.to
      have e := w5c c
      have eto : (bAt c c.n.toNat).to = c.to := by
        show posC c c.n.toNat = c.to
        unfold posC
        rw [if_neg (by omega)]
        omega
      have el : (bAt c c.n.toNat).left = c.wait := by
        show (if c.n.toNat = 0 then c.left else c.wait) = c.wait
        rw [if_neg (by omega)]
      have ec : cmdB (bAt c c.n.toNat).cmd c.cmd = true := by
        show cmdB c.cmd c.cmd = true
        simp [cmdB]
      rw [ec] at e
      exact wayW noNum mixed cfL (lams5 c) e (conds_cons (by rw [hc]; rfl) (conds_cons (by rw [hb]; rfl) (conds_cons (beq_self_eq_true _) (conds_cons (decide_eq_true (by omega)) (conds_cons (eqO_self _) (conds_cons (eqO_self _) (conds_cons (good5_iff.2 ⟨R, hb⟩)
        (conds_cons (eqO_self _) (conds_cons (eqO_self _) (conds_cons (good5_iff.2 ⟨R, hb⟩) (conds_cons (by rw [eto]; simp) (conds_cons (by rw [eto]; simp) (conds_cons (by rw [el]; simp) conds_nil))))))))))))) hf rfl h n
    · exact wayW noNum mixed cfL (lams5 c) (w5b c) (conds_cons (by rw [hc]; rfl) (conds_cons (by rw [hb]; rfl) conds_nil)) hf rfl h n
  · exact wayW noNum mixed cfL (lams5 c) (w5a c) (conds_cons (by rw [hc]; rfl) conds_nil) hf rfl h n
end Go.Proofs.Ytopeokonlaljlaa
