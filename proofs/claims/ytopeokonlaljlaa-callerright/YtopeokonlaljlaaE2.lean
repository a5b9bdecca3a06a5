/- CallerRound: the outer loop, and the one that counts. -/
import Derived.Test.YtopeokonlaljlaaE1
set_option linter.unusedVariables false
namespace Go.Proofs.Ytopeokonlaljlaa
open Go.Eng Go.Proofs

theorem lam5c_ok (c b d : Caller) (m : Nat) (ef : Nat → Nat → AV) (i : Int) (hf : FlatRow m 1 ef) : RunW Try.prog (tmpsAt Try.prog 5) (.block 2 (.loop bd5c)) (lam5c c b d m ef i) := by
  refine lamOf_ok (n0 := 4) rfl (flat_h5 hf) fun hg => ?_
  obtain ⟨_, h1, h2, h3, h4, h5⟩ := good5c_iff.1 hg
  have r := rounds5c c b m ef hf i h1 (d.left - 1).toNat d 0 h2 h3 (by omega) (by omega) (by omega)
  exact r.loop.block (id := 2)

noncomputable def lp5 : Code := (blocksOf 0 (codeAt Try.prog 5)).headD .skip
noncomputable def bd5 : Code := loopOf lp5
theorem lp5_eq : blocksOf 0 (codeAt Try.prog 5) = [.loop bd5] := by kernel_rfl
theorem bl5_eq : blocksOf 2 bd5 = [.loop bd5c] := by kernel_rfl
noncomputable def run5 (c b d : Caller) (m : Nat) (ef : Nat → Nat → AV) (i : Int) : Run := runC3 Try.prog (lams [(2, lam5c c b d m ef i)]) (tmpsAt Try.prog 5) cfTf 60 bd5
theorem run5_ok (c b d : Caller) (m : Nat) (ef : Nat → Nat → AV) (i : Int) (hf : FlatRow m 1 ef) : RunW Try.prog (tmpsAt Try.prog 5) bd5 (run5 c b d m ef i) :=
  runC3_okW noNum mixed cfT _ (lamsW (List.forall_mem_cons.2 ⟨⟨_, bl5_eq, lam5c_ok c b d m ef i hf⟩, List.forall_mem_nil _⟩))

/-- The row behind a store. -/
abbrev st5 (l : List Int) (j : Nat) : Nat → Nat → AV := fun i k => if i = j ∧ 0 ≤ k ∧ k < 0 + 1 then (cellsA (.int .i64 (IntKind.i64.wrap (l.getD j 0 + 1)))).getD (k - 0) .nilp else elI l i k

theorem s5_go (c b d : Caller) (m : Nat) (l : List Int) (i : Int) :
    cutR T5 [1, 3, 4, 5, 6] (run5 c (deny b b.to).1 d m (st5 l (0 + b.to.toNat)) i (env5 m i) (heap5 c b d m (elI l)) 4 [.go 0 true, .go 0 false, .go 1 false, .go 0 false]) =
    some (.normal, env5 m (IntKind.i64.wrap (i + 1)), heap5 c (deny b b.to).1 (turnC d) m (st5 l (0 + b.to.toNat)), [(true, decide (i < c.n)), (decide (0 ≤ b.to ∧ b.to < (m : Int)), true), (decide (0 + b.to.toNat < m), true), (decide (0 ≤ b.to ∧ b.to < (m : Int)), true), (decide (0 + b.to.toNat < m), true),
      ((deny b b.to).2.2 == 0, true), (false, !(deny b b.to).2.1), (false, decide ((deny b b.to).1.to < 0)), (false, decide ((deny b b.to).1.to ≥ c.n)),
      (eqO (some (env5c m i 0 false)) (some (env5c m i 0 false)), true), (eqO (some (heap5 c (deny b b.to).1 d m (st5 l (0 + b.to.toNat)))) (some (heap5 c (deny b b.to).1 d m (st5 l (0 + b.to.toNat)))), true), (good5c c d m (st5 l (0 + b.to.toNat)), true)]) := by kernel_rfl
theorem s5_end (c b d : Caller) (m : Nat) (l : List Int) (i : Int) :
    cutR T5 [1, 3, 4, 5] (run5 c b d m (elI l) i (env5 m i) (heap5 c b d m (elI l)) 4 [.go 0 false]) = some (.exit 0, [(1, some (.ptr 0 0 0)), (3, some (.ptr 1 0 0)), (4, some (.ptr 2 0 0)), (5, some (.sl 3 0 m m))], heap5 c b d m (elI l), [(false, decide (i < c.n))]) := by kernel_rfl

/-- Where it stands behind j turns, and what it is then. -/
def posC (c : Caller) (j : Nat) : Int := if c.to + j < c.n then c.to + j else c.to + j - c.n
def bAt (c : Caller) (j : Nat) : Caller := ⟨c.session, c.request, c.busy, c.cmd, posC c j, c.n, c.wait, if j = 0 then c.left else c.wait⟩
/-- How often each was asked. -/
def cntC (c : Caller) (j : Nat) : List Int := (List.range c.n.toNat).map fun (k : Nat) => if (c.to ≤ (k : Int) ∧ (k : Int) < c.to + j) ∨ (k : Int) < c.to + j - c.n then 1 else 0

theorem bAt_zero {c : Caller} (R : Right c) : bAt c 0 = c := by
  have h1 := R.to
  unfold bAt posC
  rw [if_pos (by omega), if_pos rfl]
  simp
theorem pos_in {c : Caller} (R : Right c) {j : Nat} (hj : (j : Int) ≤ c.n) : 0 ≤ posC c j ∧ posC c j < c.n := by
  have h1 := R.to; have h2 := R.n
  unfold posC; split <;> omega
theorem bAt_right {c : Caller} (R : Right c) (hb : c.busy = true) {j : Nat} (hj : (j : Int) ≤ c.n) : Right (bAt c j) := by
  have h1 := pos_in R hj; have h2 := R.wait; have h3 := R.left; have h4 := R.busy hb
  refine ⟨R.n, ⟨h1.1, by show posC c j ≤ c.n - 1; omega⟩, h2, ?_, R.session, R.request, fun _ => ⟨?_, h4.2⟩, fun h => absurd h (by show ¬ c.busy = false; simp [hb])⟩
  · show 0 ≤ (if j = 0 then c.left else c.wait) ∧ (if j = 0 then c.left else c.wait) ≤ c.wait
    split <;> omega
  · show 1 ≤ (if j = 0 then c.left else c.wait)
    split <;> omega
theorem turn_bAt {c : Caller} (R : Right c) {j : Nat} (hj : (j : Int) < c.n) : turnC (bAt c j) = bAt c (j + 1) := by
  have h1 := R.to
  unfold turnC bAt
  simp only [Caller.mk.injEq, true_and, Nat.add_eq_zero_iff, Nat.succ_ne_self, and_false, if_false]
  refine ⟨?_, trivial⟩
  unfold posC
  split <;> split <;> split <;> omega
theorem deny_bAt {c : Caller} (R : Right c) (hb : c.busy = true) {j : Nat} (hj : (j : Int) < c.n) : deny (bAt c j) (bAt c j).to = (bAt c (j + 1), true, 0) := by
  rw [deny_right (bAt_right R hb (by omega)), if_pos ⟨hb, rfl⟩]
  exact congrArg (fun x => (x, true, (0 : Int))) (turn_bAt R hj)
theorem cnt_length (c : Caller) (j : Nat) : (cntC c j).length = c.n.toNat := by simp [cntC]
theorem cnt_get (c : Caller) (j k : Nat) (hk : k < c.n.toNat) : (cntC c j).getD k 0 = if (c.to ≤ (k : Int) ∧ (k : Int) < c.to + j) ∨ (k : Int) < c.to + j - c.n then 1 else 0 := by
  simp [cntC, hk]
theorem cnt_step {c : Caller} (R : Right c) {j : Nat} (hj : (j : Int) < c.n) :
    (cntC c j).set (posC c j).toNat (IntKind.i64.wrap ((cntC c j).getD (posC c j).toNat 0 + 1)) = cntC c (j + 1) := by
  have h1 := R.to; have h2 := R.n; have h3 := pos_in R (Int.le_of_lt hj)
  have e0 : (cntC c j).getD (posC c j).toNat 0 = 0 := by
    rw [cnt_get c j _ (by omega), if_neg]
    unfold posC at *
    split <;> omega
  rw [e0]
  apply List.ext_getElem
  · simp [cntC]
  · intro k g1 g2
    have hk : k < c.n.toNat := by simpa [cntC] using g2
    rw [List.getElem_set]
    have e1 : (cntC c (j + 1))[k] = if (c.to ≤ (k : Int) ∧ (k : Int) < c.to + (j + 1 : Nat)) ∨ (k : Int) < c.to + (j + 1 : Nat) - c.n then 1 else 0 := by simp [cntC]
    have e2 : ∀ g, (cntC c j)[k]'g = if (c.to ≤ (k : Int) ∧ (k : Int) < c.to + (j : Nat)) ∨ (k : Int) < c.to + (j : Nat) - c.n then 1 else 0 := by intro g; simp [cntC]
    rw [e1, e2]
    have hw : IntKind.i64.wrap (0 + 1) = 1 := by decide
    rw [hw]
    unfold posC at *
    split <;> split at h3 <;> (repeat' split) <;> omega
theorem cnt_end {c : Caller} (R : Right c) (k : Nat) (hk : k < c.n.toNat) : (cntC c c.n.toNat).getD k 0 = 1 := by
  have h1 := R.to; have h2 := R.n
  rw [cnt_get c _ k hk, if_pos]
  omega
theorem cnt_zero (c : Caller) (R : Right c) : cntC c 0 = List.replicate c.n.toNat 0 := by
  have h1 := R.to
  apply List.ext_getElem
  · simp [cntC]
  · intro k g1 g2
    have hk : k < c.n.toNat := by simpa [cntC] using g1
    simp only [cntC, List.getElem_map, List.getElem_range, List.getElem_replicate]
    rw [if_neg (by omega)]

abbrev fin5 (m : Nat) : Env := [(1, some (.ptr 0 0 0)), (3, some (.ptr 1 0 0)), (4, some (.ptr 2 0 0)), (5, some (.sl 3 0 m m))]
theorem rounds5 {c : Caller} (R : Right c) (hb : c.busy = true) : ∀ (k j : Nat), c.n.toNat - j = k → j ≤ c.n.toNat →
    WRok Try.prog (tmpsAt Try.prog 5) bd5 (env5 c.n.toNat j) (heap5 c (bAt c j) (bAt c j) c.n.toNat (elI (cntC c j))) 4 (.exit 0) (fin5 c.n.toNat) (heap5 c (bAt c c.n.toNat) (bAt c c.n.toNat) c.n.toNat (elI (cntC c c.n.toNat))) 4
  | 0, j, hk, hj => by
    have h1 := R.n
    have : j = c.n.toNat := by omega
    subst this
    exact .exit (pieceF (T := T5) (n' := 4) (run5_ok c _ _ _ _ _ fun _ _ _ _ => .int _ _) (s5_end c _ _ _ _ _) rfl rfl (flat_h5 fun _ _ _ _ => .int _ _) (conds_cons (decide_eq_false (by omega)).symm conds_nil)) (by simp)
  | k + 1, j, hk, hj => by
    have h1 := R.n; have h2 := R.wait
    have hjn : (j : Int) < c.n := by omega
    have hd := deny_bAt R hb hjn
    have e := s5_go c (bAt c j) (bAt c j) c.n.toNat (cntC c j) j
    have hp : 0 ≤ (bAt c j).to ∧ (bAt c j).to < c.n := pos_in R (by omega)
    have Rj := bAt_right R hb (j := j) (by omega)
    have hl := Rj.left; have hbj := (Rj.busy hb).1
    have hR2 := bAt_right R hb (j := j + 1) (by omega)
    have hp2 : 0 ≤ (bAt c (j + 1)).to ∧ (bAt c (j + 1)).to < c.n := pos_in R (by omega)
    rw [turn_bAt R hjn, wrap_sub (by omega)] at e
    rw [hd] at e
    have fr : FlatRow c.n.toNat 1 (st5 (cntC c j) (0 + (bAt c j).to.toNat)) := by
      intro i k' hi hk'
      have : k' = 0 := by omega
      subst this
      show Flat (if _ then _ else _)
      split
      · exact .int _ _
      · exact .int _ _
    have st := pieceF (T := T5) (n' := 4) (run5_ok c _ _ _ _ _ fr) e rfl rfl (flat_h5 fr) (conds_cons (decide_eq_true (by omega)).symm (conds_cons (decide_eq_true (by omega)) (conds_cons (decide_eq_true (by omega)) (conds_cons (decide_eq_true (by omega)) (conds_cons (decide_eq_true (by omega))
      (conds_cons rfl (conds_cons rfl (conds_cons (decide_eq_false (by show ¬ (bAt c (j + 1)).to < 0; omega)).symm (conds_cons (decide_eq_false (by show ¬ (bAt c (j + 1)).to ≥ c.n; omega)).symm
      (conds_cons (eqO_self _) (conds_cons (eqO_self _) (conds_cons (good5c_iff.2 ⟨fr, h2.2, Rj, hb, hbj, hl.2⟩) conds_nil))))))))))))
    have rf := set_ref (ty := 3) (m := c.n.toNat) (l := cntC c j) (j := 0 + (bAt c j).to.toNat) (v := .int .i64 (IntKind.i64.wrap ((cntC c j).getD (0 + (bAt c j).to.toNat) 0 + 1))) rfl (by rw [cnt_length]; exact Nat.le_refl _)
    rw [Nat.zero_add, show (bAt c j).to = posC c j from rfl, cnt_step R hjn] at rf
    have st2 := st.sees (h2 := heap5 c (bAt c (j + 1)) (bAt c (j + 1)) c.n.toNat (elI (cntC c (j + 1)))) rfl
      (.cons rfl (ORef.refl _) (.cons rfl (ORef.refl _) (.cons rfl (ORef.refl _) (.cons rfl (by rw [Nat.zero_add]; exact rf) .nil))))
    exact .step st2 (rounds5 R hb k (j + 1) (by omega) (by omega))
end Go.Proofs.Ytopeokonlaljlaa
