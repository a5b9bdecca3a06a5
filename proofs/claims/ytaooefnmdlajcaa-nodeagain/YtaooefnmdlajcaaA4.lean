/- The statement NodeAgain is proved: the call returns true for every input. No conditions. -/
import Derived.Test.YtaooefnmdlajcaaA3
import Derived.WalkKit
import Derived.ProofKit
import Derived.OpenShut
import Derived.ShutString
import Derived.ChangeOld
import Derived.Below
import Derived.SizedLaws
import Derived.Test.YtaooefnmdlajcaaRows
set_option linter.unusedVariables false
set_option linter.unusedSimpArgs false
set_option linter.unusedSectionVars false
section
set_option linter.unusedVariables false
set_option linter.unusedSimpArgs false
namespace Go.Proofs.Ytaooefnmdlajcaa
open Go Go.Eng
def zeroN : GNode := ⟨0, 0, 0, 0, 0, 0, [], [], 0, []⟩
end Go.Proofs.Ytaooefnmdlajcaa

end
section
set_option linter.unusedVariables false
set_option linter.unusedSimpArgs false
namespace Go.Proofs.Ytaooefnmdlajcaa
open Go Go.Eng
def kindP (m : GMsg) : Prop :=
  (m.kind = 1 ∧ (0 ≤ m.commit ∧ m.commit ≤ 40) ∧ (1 ≤ m.n ∧ m.n ≤ 40) ∧ m.rows.length = 1) ∨
  ((m.kind = 2 ∨ m.kind = 7) ∧ (0 ≤ m.n ∧ m.n ≤ 40) ∧ m.commit = 0 ∧ m.rows.length = 0) ∨
  (m.kind = 3 ∧ (0 ≤ m.commit ∧ m.commit ≤ 40) ∧ m.n = 0 ∧ m.rows.length = 0) ∨
  (m.kind = 4 ∧ m.commit = 0 ∧ m.n = 0 ∧ m.rows.length = 0) ∨
  ((m.kind = 5 ∨ m.kind = 6) ∧ m.rows.length ≤ 40 ∧ (0 ≤ m.commit ∧ m.commit ≤ (m.rows.length : Int)) ∧ (0 ≤ m.last ∧ m.last ≤ m.view) ∧ m.n = 0) ∨
  (m.kind = 8 ∧ (0 ≤ m.n ∧ m.n ≤ 40) ∧ (m.rows.length : Int) ≤ 40 - m.n ∧ (0 ≤ m.commit ∧ m.commit ≤ 40))
def headP (m : GMsg) : Prop := (0 ≤ m.src ∧ m.src ≤ 6) ∧ (0 ≤ m.to ∧ m.to ≤ 6) ∧ m.src ≠ m.to ∧ (0 ≤ m.view ∧ m.view ≤ 1000000)
structure RightM (m : GMsg) : Prop where
  head : headP m
  rows : ∀ r ∈ m.rows, r.size ≤ 45
  last : m.kind ≠ 5 → m.last = 0
  kind : kindP m
theorem f92_ok (k : Nat) (x y z : Int) : f92 k x y z = some (decide (y ≤ x ∧ x ≤ z)) := by
  unfold f92
  by_cases h : x ≥ y
  · rw [decide_eq_true h, br_true]; congr 1; simp [h]
  · rw [decide_eq_false h, br_false, decide_eq_false (by omega)]
theorem f91_eq (k : Nat) (r : ByteArray) : f91 k r = some (decide ((r.size : Int) > 45)) := rfl
theorem l117B_ok {k : Nat} {l : List ByteArray} (hk : l.length < k) (hl : l.length ≤ 9223372036854775807) :
    ∃ e, l117_0B k (S117_0B.mk l (l.length : Int) 0) = some e ∧ ((¬ (∀ r ∈ l, r.size ≤ 45) ∧ ∃ c, e = .inl c ∧ c.x4 ≥ 0) ∨ ((∀ r ∈ l, r.size ≤ 45) ∧ ∃ c, e = .inr c)) := by
  obtain ⟨e, he, hc⟩ := iter_cases (stp := pS117_0B k) (fun i => S117_0B.mk l (l.length : Int) (i : Int)) l.length (fun i => (l.getD i default).size ≤ 45) (Qb := fun e => ∃ c, e = .inl c ∧ c.x4 ≥ 0) (Qe := fun e => ∃ c, e = .inr c)
    (by
      intro i hi hg
      have := hg i (Nat.le_refl i)
      unfold pS117_0B
      simp only [lt_len hi, in_len hi, br_true, Int.toNat_natCast]
      rw [f91_eq, decide_eq_false (by omega), bindO_some, br_false, next_big (by omega)])
    (by
      intro i hi _ hg
      unfold pS117_0B
      simp only [lt_len hi, in_len hi, br_true, Int.toNat_natCast]
      rw [f91_eq, decide_eq_true (by omega), bindO_some, br_true]
      exact ⟨_, rfl, _, rfl, by simp⟩)
    (by
      intro _
      unfold pS117_0B
      simp only [end_len, br_false]
      exact ⟨_, rfl, _, rfl⟩) k hk
  refine ⟨e, he, hc.imp (fun ⟨⟨i, hi, hg⟩, h⟩ => ⟨fun q => hg (q _ (getD_mem hi)), h⟩) (fun ⟨h, h'⟩ => ⟨fun f hf => by obtain ⟨i, hi, rfl⟩ := mem_getD hf; exact h i hi, h'⟩)⟩
theorem f50_iff {k : Nat} {m : GMsg} (hk : m.rows.length < k) (hl : m.rows.length ≤ 9223372036854775807) : ∃ b, f50 k m = some b ∧ (b = true ↔ RightM m) := by
  have no : ¬ (headP m ∧ (∀ r ∈ m.rows, r.size ≤ 45)) → (false = true ↔ RightM m) := fun h => ⟨fun q => by (cases q), fun q => absurd ⟨q.head, q.rows⟩ h⟩
  unfold f50
  simp only [f92_ok, bindO_some]
  by_cases h1 : ¬ (0 ≤ m.src ∧ m.src ≤ 6)
  · rw [decide_eq_false h1]; exact ⟨_, rfl, no fun q => h1 q.1.1⟩
  have h1 := Classical.not_not.1 h1
  rw [decide_eq_true h1, Bool.not_true, br_false]
  by_cases h2 : ¬ (0 ≤ m.to ∧ m.to ≤ 6)
  · rw [decide_eq_false h2]; exact ⟨_, rfl, no fun q => h2 q.1.2.1⟩
  have h2 := Classical.not_not.1 h2
  rw [decide_eq_true h2, Bool.not_true, br_false]
  by_cases h3 : m.src = m.to
  · rw [br_t (by simpa using h3)]; exact ⟨_, rfl, no fun q => q.1.2.2.1 h3⟩
  rw [br_f (by simpa using h3)]
  by_cases h4 : ¬ (0 ≤ m.view ∧ m.view ≤ 1000000)
  · rw [decide_eq_false h4]; exact ⟨_, rfl, no fun q => h4 q.1.2.2.2⟩
  have h4 := Classical.not_not.1 h4
  rw [decide_eq_true h4, Bool.not_true, br_false]
  obtain ⟨e, he, hc⟩ := l117B_ok hk hl
  rw [he, bindO_some]
  rcases hc with ⟨hb, c, rfl, hx⟩ | ⟨hb, c, rfl⟩
  · dsimp only
    rw [decide_eq_true hx, br_true]
    exact ⟨_, rfl, no fun q => hb q.2⟩
  dsimp only
  have yes : ∀ b : Bool, (b = true ↔ ((m.kind = 5 ∨ m.last = 0) ∧ kindP m)) → (b = true ↔ RightM m) := fun b h => ⟨fun q => ⟨⟨h1, h2, h3, h4⟩, hb, fun h5 => (h.1 q).1.resolve_left h5, (h.1 q).2⟩, fun q => h.2 ⟨(Decidable.em (m.kind = 5)).imp_right q.last, q.kind⟩⟩
  unfold kindP at yes
  have hw : (0 ≤ m.n ∧ m.n ≤ 40) → IntKind.wrap .i64 (40 - m.n) = 40 - m.n := fun hn => wrap_ok (by omega) (by omega)
  generalize IntKind.wrap .i64 (40 - m.n) = W at *
  generalize m.kind = kd at *
  have key : kd = 1 ∨ kd = 2 ∨ kd = 3 ∨ kd = 4 ∨ kd = 5 ∨ kd = 6 ∨ kd = 7 ∨ kd = 8 ∨ ((kd == 1) = false ∧ (kd == 2) = false ∧ (kd == 3) = false ∧ (kd == 4) = false ∧ (kd == 5) = false ∧ (kd == 6) = false ∧ (kd == 7) = false ∧ (kd == 8) = false) := by
    simp only [beq_eq_false_iff_ne, ne_eq]; omega
  rcases key with rfl | rfl | rfl | rfl | rfl | rfl | rfl | rfl | ⟨k1, k2, k3, k4, k5, k6, k7, k8⟩
  all_goals
    first | simp only [bne, k1, k2, k3, k4, k5, k6, k7, k8, br_true, br_false, Bool.not_false] | simp only [bne, show ((1 : Int) == 1) = true from rfl, show ((1 : Int) == 5) = false from rfl, show ((2 : Int) == 1) = false from rfl, show ((2 : Int) == 2) = true from rfl, show ((2 : Int) == 5) = false from rfl,
      show ((3 : Int) == 1) = false from rfl, show ((3 : Int) == 2) = false from rfl, show ((3 : Int) == 7) = false from rfl, show ((3 : Int) == 3) = true from rfl, show ((3 : Int) == 5) = false from rfl,
      show ((4 : Int) == 1) = false from rfl, show ((4 : Int) == 2) = false from rfl, show ((4 : Int) == 7) = false from rfl, show ((4 : Int) == 3) = false from rfl, show ((4 : Int) == 4) = true from rfl, show ((4 : Int) == 5) = false from rfl,
      show ((5 : Int) == 1) = false from rfl, show ((5 : Int) == 2) = false from rfl, show ((5 : Int) == 7) = false from rfl, show ((5 : Int) == 3) = false from rfl, show ((5 : Int) == 4) = false from rfl, show ((5 : Int) == 5) = true from rfl,
      show ((6 : Int) == 1) = false from rfl, show ((6 : Int) == 2) = false from rfl, show ((6 : Int) == 7) = false from rfl, show ((6 : Int) == 3) = false from rfl, show ((6 : Int) == 4) = false from rfl, show ((6 : Int) == 5) = false from rfl, show ((6 : Int) == 6) = true from rfl,
      show ((7 : Int) == 1) = false from rfl, show ((7 : Int) == 2) = false from rfl, show ((7 : Int) == 7) = true from rfl, show ((7 : Int) == 5) = false from rfl,
      show ((8 : Int) == 1) = false from rfl, show ((8 : Int) == 2) = false from rfl, show ((8 : Int) == 7) = false from rfl, show ((8 : Int) == 3) = false from rfl, show ((8 : Int) == 4) = false from rfl, show ((8 : Int) == 5) = false from rfl, show ((8 : Int) == 6) = false from rfl, show ((8 : Int) == 8) = true from rfl,
      br_true, br_false, Bool.not_false, Bool.not_true]
    simp only [br_if]
    repeat' split
    all_goals
      refine ⟨_, rfl, yes _ ?_⟩
      simp only [Bool.false_eq_true, false_iff, decide_eq_true_eq, beq_iff_eq, beq_eq_false_iff_ne, Bool.not_eq_true', ne_eq, true_and, true_or, or_true, Decidable.not_not] at *
      omega
def tookP (a : GActor) (n : Int) : GActor := ⟨{ a.state with commit := min2 (max2 a.state.commit n) a.state.rows.length }, a.told⟩
theorem f96_ok (k : Nat) (a : GActor) (n : Int) : f96 k a n = some (tookP a n) := rfl
def getM (n : Int) : GMsg := ⟨7, 0, 0, 0, 0, n, 0, []⟩
def didM (n : Int) : GMsg := ⟨2, 0, 0, 0, 0, n, 0, []⟩
def commitM (n : Int) : GMsg := ⟨3, 0, 0, 0, 0, 0, n, []⟩
def didP (a : GActor) (who : Int) : GActor := toP a who (didM a.state.rows.length)
def lagB (a : GActor) (view : Int) : GActor := forgetP ⟨{ a.state with view := view, phase := 2 }, a.told⟩
def lagP (a : GActor) (m : GMsg) : GActor := toP (lagB a m.view) m.src (getM a.state.commit)
def putP (rows : List ByteArray) (n : Int) (s : ByteArray) : List ByteArray := if n = rows.length + 1 then rows ++ [s] else rows
def ledP (a : GActor) (m : GMsg) : GActor :=
  if m.src ≠ m.view % a.state.n then a else
  if m.view > a.state.view ∨ a.state.phase ≠ 0 then lagP a m else
  if m.kind = 3 then (if m.commit > a.state.rows.length then toP (tookP a m.commit) m.src (getM a.state.rows.length) else tookP a m.commit) else
  if m.n > a.state.rows.length + 1 then toP a m.src (getM a.state.rows.length) else
  didP (tookP ⟨{ a.state with rows := putP a.state.rows m.n (m.rows.getD 0 default) }, a.told⟩ m.commit) m.src
theorem f97_ok (k : Nat) {rows : List ByteArray} (h : rows.length ≤ 1000) (n : Int) (s : ByteArray) : ∃ b, f97 k rows n s = some (putP rows n s, b) := by
  unfold f97 putP
  rw [wrap_ok (by omega) (by omega)]
  by_cases hn : n = rows.length + 1
  · rw [br_f (by simp [hn]), f88_ok (by omega), bindO_some, br_t (by simp; omega), if_pos hn]
    exact ⟨_, rfl⟩
  · rw [br_t (by simpa using hn), f88_ok (by omega), bindO_some, if_neg hn]
    exact ⟨_, rfl⟩
theorem putP_len {rows : List ByteArray} {n : Int} {s : ByteArray} : (putP rows n s).length ≤ rows.length + 1 := by
  unfold putP; split
  · simp
  · omega
theorem f51_ok {k : Nat} (hk : 41 ≤ k) {x : GNode} (h : RightN x) {m : GMsg} (hm : RightM m) (hkd : m.kind = 1 ∨ m.kind = 3) : f51 k ⟨x, []⟩ m = some (ledP ⟨x, []⟩ m) := by
  have hn' := size_cases h.size
  have hv := hm.head.2.2.2
  have hr := h.may.1
  have lag : ∀ y : GNode, y.id = x.id → y.n = x.n → bindO (f59 k ⟨y, []⟩) (fun r => bindO (f95 k r m.src (getM r.state.commit)) fun r' => some r') = some (toP (forgetP ⟨y, []⟩) m.src (getM y.commit)) := by
    intro y _ hy
    rw [f59_ok k (by dsimp only; omega), bindO_some, f95_ok k (by simp [forgetP]) (by simp [getM]), bindO_some]
    rfl
  unfold f51 ledP
  rw [f118_ok k h.size hv.1, bindO_some]
  dsimp only
  by_cases hs : ¬ (m.src = m.view % x.n)
  · rw [br_t (by simpa using hs), if_pos hs]
  have hs := Classical.not_not.1 hs
  rw [br_f (by simpa using hs), if_neg (by simpa using hs)]
  by_cases h1 : m.view > x.view
  · rw [br_t (decide_eq_true h1), if_pos (.inl h1)]
    exact lag _ rfl rfl
  rw [br_f (decide_eq_false h1)]
  by_cases h2 : ¬ (x.phase = 0)
  · rw [br_t (by simpa using h2), if_pos (.inr h2)]
    exact lag _ rfl rfl
  have h2 := Classical.not_not.1 h2
  rw [br_f (by simpa using h2), if_neg (by simp [h1, h2])]
  by_cases h3 : m.kind = 3
  · rw [br_t (by simpa using h3), if_pos h3, f96_ok, bindO_some]
    by_cases h4 : m.commit > (x.rows.length : Int)
    · rw [br_t (decide_eq_true h4), if_pos h4]
      show bindO (f95 k _ _ (getM _)) _ = _
      rw [f95_ok k (by simp [tookP]) (by simp [getM]), bindO_some]
    · rw [br_f (decide_eq_false h4), if_neg h4]
  · rw [br_f (by simpa using h3), if_neg h3, wrap_ok (by omega) (by omega)]
    by_cases h4 : m.n > (x.rows.length : Int) + 1
    · rw [br_t (decide_eq_true h4), if_pos h4]
      show bindO (f95 k _ _ (getM _)) _ = _
      rw [f95_ok k (by simp) (by simp [getM]), bindO_some]
    · have h1 : m.rows.length = 1 := by
        rcases hm.kind with q | q | q | q | q | q <;> first | exact q.2.2.2 | omega
      obtain ⟨b, hb⟩ := f97_ok k (rows := x.rows) (by omega) m.n (m.rows.getD 0 default)
      have hpl := putP_len (rows := x.rows) (n := m.n) (s := m.rows.getD 0 default)
      rw [br_f (decide_eq_false h4), if_neg h4, br_t (decide_eq_true (by omega)), hb, bindO_some, f96_ok, bindO_some]
      show bindO (f95 k _ _ (didM _)) _ = _
      rw [f95_ok k (by simp [tookP]) (by simp [didM]), bindO_some]
      rfl
def farP (x : GNode) (m : GMsg) : List Int := x.far.set m.src.toNat (max2 (x.far.getD m.src.toNat 0) (min2 m.n x.rows.length))
def doneB (a : GActor) (m : GMsg) : GActor := countP ⟨{ a.state with far := farP a.state m }, a.told⟩
def doneP (a : GActor) (m : GMsg) : GActor :=
  if ¬ leadsP a.state ∨ m.view > a.state.view then a else
  if (doneB a m).state.commit > a.state.commit then allP (doneB a m) (commitM (doneB a m).state.commit) else doneB a m
theorem f52_ok {k : Nat} (hk : 41 ≤ k) {x : GNode} (h : RightN x) {m : GMsg} (hm : RightM m) (hsrc : m.src ≤ x.n - 1) : f52 k ⟨x, []⟩ m = some (doneP ⟨x, []⟩ m) := by
  have hn' := size_cases h.size
  have hv := h.view
  have hs := hm.head.1
  have hf := h.far
  have hid := h.id
  unfold f52 doneP
  dsimp only
  by_cases h1 : ¬ (x.phase = 0)
  · rw [br_f (by simpa using h1), if_pos (.inl fun q => h1 q.1)]
  have h1 := Classical.not_not.1 h1
  rw [br_t (by simpa using h1), f118_ok k h.size hv.1, bindO_some]
  dsimp only
  by_cases h2 : ¬ (x.view % x.n = x.id)
  · rw [br_t (by simpa using h2), if_pos (.inl fun q => h2 q.2)]
  have h2 := Classical.not_not.1 h2
  rw [br_f (by simpa using h2)]
  by_cases h3 : m.view > x.view
  · rw [br_t (decide_eq_true h3), if_pos (.inr h3)]
  rw [br_f (decide_eq_false h3), if_neg (fun q => q.elim (fun q => q ⟨h1, h2⟩) h3), br_t (decide_eq_true (by omega)), br_t (decide_eq_true (by omega)), br_t (decide_eq_true (by omega)), br_t (by simp; omega)]
  have h61 := f61_ok k (a := ⟨{ x with far := farP x m }, []⟩) h.size hid hv.1 (by simp only [farP, List.length_set]; exact hf)
  show bindO (f61 k ⟨{ x with far := farP x m }, []⟩) _ = _
  rw [h61, bindO_some]
  show br (decide ((doneB ⟨x, []⟩ m).state.commit > x.commit)) (bindO (f67 k (doneB ⟨x, []⟩ m) (commitM (doneB ⟨x, []⟩ m).state.commit)) fun r => some r) (some (doneB ⟨x, []⟩ m)) = _
  by_cases h4 : (doneB ⟨x, []⟩ m).state.commit > x.commit
  · have e1 : (doneB ⟨x, []⟩ m).state.n = x.n := countP_n _
    have e2 : (doneB ⟨x, []⟩ m).told = [] := countP_told _
    rw [br_t (decide_eq_true h4), if_pos h4, f67_ok hk (by rw [e1]; omega) (by rw [e2]; simp) (by simp [commitM]), bindO_some]
  · rw [br_f (decide_eq_false h4), if_neg h4]
end Go.Proofs.Ytaooefnmdlajcaa

end
section
set_option linter.unusedVariables false
set_option linter.unusedSimpArgs false
namespace Go.Proofs.Ytaooefnmdlajcaa
open Go Go.Eng
theorem f102_ok (k : Nat) {rows : List ByteArray} (h : rows.length ≤ 1000) {n : Int} (hn : 0 ≤ n) : f102 k rows n = some (rows.drop n.toNat) := by
  unfold f102
  rw [br_f (decide_eq_false (by omega))]
  by_cases h1 : n ≥ (rows.length : Int)
  · rw [br_t (decide_eq_true h1), List.drop_eq_nil_of_le (by omega)]
  · rw [br_f (decide_eq_false h1), br_t (decide_eq_true (by simp only [Option.getD_some, Option.getD_none]; omega)), f88_ok (by simp; omega), bindO_some]
def giveM (x : GNode) (n : Int) : GMsg := ⟨8, 0, 0, 0, 0, n, x.commit, x.rows.drop n.toNat⟩
def getP (a : GActor) (m : GMsg) : GActor := if a.state.phase = 0 ∧ m.view = a.state.view ∧ m.n ≤ a.state.rows.length then toP a m.src (giveM a.state m.n) else a
theorem f55_ok (k : Nat) {x : GNode} (h : RightN x) {m : GMsg} (hn : 0 ≤ m.n) : f55 k ⟨x, []⟩ m = some (getP ⟨x, []⟩ m) := by
  have hr := h.may.1
  unfold f55 getP
  dsimp only
  by_cases h1 : ¬ (x.phase = 0)
  · rw [br_f (by simpa using h1), if_neg (fun q => h1 q.1)]
  have h1 := Classical.not_not.1 h1
  rw [br_t (by simpa using h1)]
  by_cases h2 : ¬ (m.view = x.view)
  · rw [br_f (by simpa using h2), if_neg (fun q => h2 q.2.1)]
  have h2 := Classical.not_not.1 h2
  rw [br_t (by simpa using h2)]
  by_cases h3 : ¬ (m.n ≤ (x.rows.length : Int))
  · rw [br_f (decide_eq_false h3), if_neg (fun q => h3 q.2.2)]
  have h3 := Classical.not_not.1 h3
  rw [br_t (decide_eq_true h3), f102_ok k (by omega) hn, bindO_some, if_pos ⟨h1, h2, h3⟩, f95_ok k (by simp) (by simp; omega), bindO_some]
  rfl
def begP (a : GActor) (m : GMsg) : GActor := tookP (workP (tookP ⟨{ a.state with view := m.view, rows := m.rows }, a.told⟩ 0)) m.commit
def beginP (a : GActor) (m : GMsg) : GActor :=
  if m.src ≠ m.view % a.state.n then a else
  if m.view > a.state.view ∨ a.state.phase ≠ 0 then didP (begP a m) m.src else
  if m.rows.length > a.state.rows.length then didP (tookP ⟨{ a.state with rows := m.rows }, a.told⟩ m.commit) m.src else
  didP (tookP a m.commit) m.src
theorem workP_told (a : GActor) : (workP a).told = a.told := countP_told _
theorem f54_ok (k : Nat) {x : GNode} (h : RightN x) {m : GMsg} (hm : RightM m) (hr : m.rows.length ≤ 40) : f54 k ⟨x, []⟩ m = some (beginP ⟨x, []⟩ m) := by
  have hv := hm.head.2.2.2
  have did : ∀ b : GActor, b.told = [] → bindO (f95 k b m.src (didM b.state.rows.length)) (fun r => some r) = some (didP b m.src) := by
    intro b hb
    rw [f95_ok k (by rw [hb]; simp) (by simp [didM]), bindO_some]
    rfl
  have fresh : bindO (f88 k m.rows) (fun r => bindO (f96 k ⟨{ x with view := m.view, rows := r }, []⟩ 0) fun r1 => bindO (f101 k r1) fun r2 => bindO (f96 k r2 m.commit) fun r3 => bindO (f95 k r3 m.src (didM r3.state.rows.length)) fun r4 => some r4) = some (didP (begP ⟨x, []⟩ m) m.src) := by
    have h101 := f101_ok k (a := tookP ⟨{ x with view := m.view, rows := m.rows }, []⟩ 0) h.size h.id hv.1
    rw [f88_ok (by omega), bindO_some, f96_ok, bindO_some, h101, bindO_some, f96_ok, bindO_some]
    exact did (begP ⟨x, []⟩ m) (by show (workP _).told = []; rw [workP_told]; rfl)
  unfold f54 beginP
  dsimp only
  rw [f118_ok k h.size hv.1, bindO_some]
  dsimp only
  by_cases hs : ¬ (m.src = m.view % x.n)
  · rw [br_t (by simpa using hs), if_pos hs]
  have hs := Classical.not_not.1 hs
  rw [br_f (by simpa using hs), if_neg (by simpa using hs)]
  by_cases h1 : m.view > x.view
  · rw [br_t (decide_eq_true h1), if_pos (.inl h1)]
    exact fresh
  rw [br_f (decide_eq_false h1)]
  by_cases h2 : ¬ (x.phase = 0)
  · rw [br_t (by simpa using h2), if_pos (.inr h2)]
    exact fresh
  have h2 := Classical.not_not.1 h2
  rw [br_f (by simpa using h2), if_neg (by simp [h1, h2])]
  by_cases h3 : m.rows.length > x.rows.length
  · rw [br_t (decide_eq_true (by omega)), if_pos h3, f88_ok (by omega), bindO_some, f96_ok, bindO_some]
    exact did _ rfl
  · rw [br_f (decide_eq_false (by omega)), if_neg h3, f96_ok, bindO_some]
    exact did _ rfl
noncomputable def hadP (b : GActor) (m : GMsg) : GActor := votesP ⟨{ b.state with starts := addS b.state.starts m.src }, b.told⟩ (enoughB b.state.starts b.state.n)
noncomputable def joinV (c : GActor) (m : GMsg) : GActor := if m.kind = 5 then ⟨{ c.state with votes := withP c.state.votes ⟨m.src, m.last, m.commit, m.rows⟩ }, c.told⟩ else c
noncomputable def startedP (b : GActor) (m : GMsg) : GActor :=
  if b.state.phase ≠ 1 then (if leadsP b.state then toP b m.src (begunM b.state) else b) else beginsP (joinV (hadP b m) m)
noncomputable def startP (a : GActor) (m : GMsg) : GActor :=
  if m.kind = 5 ∧ m.view % a.state.n ≠ a.state.id then a else startedP (if m.view > a.state.view then enterP a m.view else a) m
structure Meets (b : GActor) : Prop where
  size : sizeB b.state.n = true
  id : 0 ≤ b.state.id ∧ b.state.id ≤ b.state.n - 1
  view : 0 ≤ b.state.view
  starts : 0 ≤ b.state.starts ∧ b.state.starts ≤ 127
  rows : b.state.rows.length ≤ 40
  votes : b.state.votes.length ≤ 7
  vs : ∀ v ∈ b.state.votes, (0 ≤ v.src ∧ v.src ≤ 6) ∧ v.rows.length ≤ 40
  told : b.told.length ≤ 10
theorem withP_len (l : List GVote) (v : GVote) : (withP l v).length ≤ l.length + 1 := by
  unfold withP
  have := List.length_filter_le (fun w : GVote => w.src != v.src) l
  rw [List.length_append, List.length_singleton]
  omega
theorem withP_mem {l : List GVote} {v w : GVote} (h : w ∈ withP l v) : w ∈ l ∨ w = v := by
  unfold withP at h
  rcases List.mem_append.1 h with h | h
  · exact .inl (List.mem_filter.1 h).1
  · exact .inr (List.mem_singleton.1 h)
theorem votesP_facts (a : GActor) (was : Bool) : (votesP a was).state.id = a.state.id ∧ (votesP a was).state.n = a.state.n ∧ (votesP a was).state.view = a.state.view ∧ (votesP a was).state.rows = a.state.rows ∧ (votesP a was).told.length ≤ a.told.length + 1 ∧
    ((votesP a was).state.votes = a.state.votes ∨ (votesP a was).state.votes = withP a.state.votes (ownV a.state)) := by
  unfold votesP
  split
  · exact ⟨rfl, rfl, rfl, rfl, by omega, .inl rfl⟩
  · split
    · exact ⟨rfl, rfl, rfl, rfl, by simp [toP], .inl rfl⟩
    · exact ⟨rfl, rfl, rfl, rfl, by simp, .inr rfl⟩
theorem started_ok {k : Nat} (hk : 41 ≤ k) {b : GActor} (hb : Meets b) {m : GMsg} (hm : RightM m) (hr : m.rows.length ≤ 40) :
    br (b.state.phase != 1) (br (b.state.phase == 0) (bindO (f118 k b.state.view b.state.n) fun r => br (r.1 == b.state.id) (bindO (f95 k b m.src (begunM b.state)) fun r' => some r') (some b)) (some b))
      (bindO (f100 k b.state.starts b.state.n) fun r1 => bindO (f60 k b.state.starts [m.src]) fun r2 => bindO (f64 k ⟨{ b.state with starts := r2 }, b.told⟩ r1) fun r3 =>
        br (m.kind == 5) (bindO (f90 k r3.state.votes ⟨m.src, m.last, m.commit, m.rows⟩) fun r4 => bindO (f65 k ⟨{ r3.state with votes := r4 }, r3.told⟩) fun r5 => some r5) (bindO (f65 k r3) fun r5 => some r5)) = some (startedP b m) := by
  have hn' := size_cases hb.size
  have hs := hm.head.1
  have h1 := hb.rows
  have h2 := hb.told
  have h3 := hb.votes
  unfold startedP
  by_cases hp : b.state.phase = 1
  · rw [br_f (by simpa using hp), if_neg (by simpa using hp), f100_ok k hb.starts hb.size, bindO_some, f60_one (by omega) hb.starts hs, bindO_some]
    have h64 := f64_ok hk (a := ⟨{ b.state with starts := addS b.state.starts m.src }, b.told⟩) (was := enoughB b.state.starts b.state.n) hb.size hb.view (addS_range hb.starts hs) (by dsimp only; omega) (by dsimp only; omega) (by dsimp only; omega) (fun w hw => by have := (hb.vs w hw).2; omega)
    rw [h64, bindO_some]
    have hc : votesP ⟨{ b.state with starts := addS b.state.starts m.src }, b.told⟩ (enoughB b.state.starts b.state.n) = hadP b m := rfl
    rw [hc]
    obtain ⟨c1, c2, c3, c4, c5, c6⟩ := votesP_facts ⟨{ b.state with starts := addS b.state.starts m.src }, b.told⟩ (enoughB b.state.starts b.state.n)
    rw [hc] at c1 c2 c3 c4 c5 c6
    dsimp only at c1 c2 c3 c4 c5 c6
    have cv : (hadP b m).state.votes.length ≤ 8 ∧ ∀ v ∈ (hadP b m).state.votes, (0 ≤ v.src ∧ v.src ≤ 6) ∧ v.rows.length ≤ 40 := by
      rcases c6 with c6 | c6
      · rw [c6]; exact ⟨by omega, hb.vs⟩
      · rw [c6]
        refine ⟨Nat.le_trans (withP_len _ _) (by omega), fun v hv => ?_⟩
        rcases withP_mem hv with hv | rfl
        · exact hb.vs v hv
        · exact ⟨by have := hb.id; simp only [ownV]; omega, h1⟩
    have hid : 0 ≤ (hadP b m).state.id ∧ (hadP b m).state.id ≤ (hadP b m).state.n - 1 := by rw [c1, c2]; exact hb.id
    have hsz : sizeB (hadP b m).state.n = true := by rw [c2]; exact hb.size
    have hvw : 0 ≤ (hadP b m).state.view := by rw [c3]; exact hb.view
    unfold joinV
    by_cases h5 : m.kind = 5
    · have h90 := f90_ok hk (l := (hadP b m).state.votes) (v := ⟨m.src, m.last, m.commit, m.rows⟩) (by omega) (fun w hw => by have := (cv.2 w hw).2; omega) (by dsimp only; omega)
      have hv2 : ∀ v ∈ withP (hadP b m).state.votes ⟨m.src, m.last, m.commit, m.rows⟩, (0 ≤ v.src ∧ v.src ≤ 6) ∧ v.rows.length ≤ 40 := by
        intro v hv
        rcases withP_mem hv with hv | rfl
        · exact cv.2 v hv
        · exact ⟨hs, hr⟩
      have h65 := f65_ok hk (a := ⟨{ (hadP b m).state with votes := withP (hadP b m).state.votes ⟨m.src, m.last, m.commit, m.rows⟩ }, (hadP b m).told⟩) hsz hid hvw (Nat.le_trans (withP_len _ _) (by omega)) (fun v hv => (hv2 v hv).1) (fun v hv => by have := (hv2 v hv).2; omega) (by dsimp only; omega)
      rw [br_t (by simpa using h5), h90, bindO_some, h65, bindO_some, if_pos h5]
    · have h65 := f65_ok hk (a := hadP b m) hsz hid hvw (by omega) (fun v hv => (cv.2 v hv).1) (fun v hv => by have := (cv.2 v hv).2; omega) (by omega)
      rw [br_f (by simpa using h5), h65, bindO_some, if_neg h5]
  · rw [br_t (by simpa using hp), if_pos hp]
    by_cases h0 : b.state.phase = 0
    · rw [br_t (by simpa using h0), f118_ok k hb.size hb.view, bindO_some]
      dsimp only
      by_cases hl : b.state.view % b.state.n = b.state.id
      · rw [br_t (by simpa using hl), if_pos (show leadsP b.state from ⟨h0, hl⟩), f95_ok k (by omega) (by simp only [begunM]; omega), bindO_some]
      · rw [br_f (by simpa using hl), if_neg (fun q : leadsP b.state => hl q.2)]
    · rw [br_f (by simpa using h0), if_neg (fun q : leadsP b.state => h0 q.1)]
theorem RightN.meets {x : GNode} (h : RightN x) : Meets ⟨x, []⟩ where
  size := h.size
  id := h.id
  view := h.view.1
  starts := h.starts
  rows := h.may.1
  votes := by have := size_cases h.size; have := h.votes; dsimp only; omega
  vs := fun v hv => by have := size_cases h.size; have := (h.vs v hv).src; exact ⟨by omega, (h.vs v hv).may.1⟩
  told := by simp
theorem RightN.enter {x : GNode} (h : RightN x) {v : Int} (hv : 0 ≤ v) : Meets (enterP ⟨x, []⟩ v) where
  size := h.size
  id := h.id
  view := hv
  starts := by
    have h1 := size_cases h.size
    have h2 := h.id
    show 0 ≤ addS 0 x.id ∧ addS 0 x.id ≤ 127
    exact addS_range (by omega) (by omega)
  rows := h.may.1
  votes := by simp [enterP, allP]
  vs := by simp [enterP, allP]
  told := by
    have := size_cases h.size
    have := othersL_len x.id x.n.toNat
    simp only [enterP, allP, List.length_append, List.length_map, List.length_nil]
    omega
theorem f53_ok {k : Nat} (hk : 41 ≤ k) {x : GNode} (h : RightN x) {m : GMsg} (hm : RightM m) (hr : m.rows.length ≤ 40) : f53 k ⟨x, []⟩ m = some (startP ⟨x, []⟩ m) := by
  have hv := hm.head.2.2.2
  have e1 := started_ok hk h.meets hm hr
  have e2 := started_ok hk (h.enter hv.1) hm hr
  have h63 := f63_ok hk (a := ⟨x, []⟩) (view := m.view) h.size h.id (by simp)
  unfold f53 startP
  dsimp only
  by_cases h5 : m.kind = 5
  · rw [br_t (by simpa using h5), f118_ok k h.size hv.1, bindO_some]
    dsimp only
    by_cases hl : ¬ (m.view % x.n = x.id)
    · rw [br_t (by simpa using hl), if_pos ⟨h5, hl⟩]
    have hl := Classical.not_not.1 hl
    rw [br_f (by simpa using hl), if_neg (fun q => q.2 hl)]
    by_cases h1 : m.view > x.view
    · rw [br_t (decide_eq_true h1), if_pos h1, h63, bindO_some]; exact e2
    · rw [br_f (decide_eq_false h1), if_neg h1]; exact e1
  · rw [br_f (by simpa using h5), if_neg (fun q => h5 q.1)]
    by_cases h1 : m.view > x.view
    · rw [br_t (decide_eq_true h1), if_pos h1, h63, bindO_some]; exact e2
    · rw [br_f (decide_eq_false h1), if_neg h1]; exact e1
end Go.Proofs.Ytaooefnmdlajcaa

end
section
set_option linter.unusedVariables false
set_option linter.unusedSimpArgs false
namespace Go.Proofs.Ytaooefnmdlajcaa
open Go Go.Eng
def sumL (l : List (List ByteArray)) : Nat := (l.map List.length).sum
theorem sumL_take {l : List (List ByteArray)} {i : Nat} (h : i < l.length) : sumL (l.take (i + 1)) = sumL (l.take i) + (l.getD i default).length := by
  unfold sumL
  rw [take_next h, List.map_append, List.sum_append]
  simp
theorem sumL_le (l : List (List ByteArray)) (i : Nat) : sumL (l.take i) ≤ sumL l := by
  conv => rhs; rw [← List.take_append_drop i l]
  unfold sumL
  rw [List.map_append, List.sum_append]
  omega
theorem flat_len (l : List (List ByteArray)) : l.flatten.length = sumL l := by unfold sumL; rw [List.length_flatten]
theorem f121_ok {k : Nat} {l : List (List ByteArray)} (hk : l.length < k) (hl : l.length ≤ 1000) (h : sumL l ≤ 1000) : f121 k l = some l.flatten := by
  have lo1 := iter_to (stp := pS121_0 k) (fun i => S121_0.mk l ((sumL (l.take i) : Nat) : Int) l (l.length : Int) (i : Int)) l.length (e := E121_0.mk l ((sumL l : Nat) : Int))
    (by
      intro i hi
      have h1 := sumL_le l (i + 1)
      rw [sumL_take hi] at h1
      have hw : IntKind.wrap .i64 (((sumL (l.take i) : Nat) : Int) + ((l.getD i default).length : Int)) = ((sumL (l.take (i + 1)) : Nat) : Int) := by rw [sumL_take hi, wrap_ok (by omega) (by omega)]; simp
      unfold pS121_0
      simp only [lt_len hi, in_len hi, br_true, Int.toNat_natCast]
      have h0 : ¬ (((sumL (l.take (i + 1)) : Nat) : Int) < 0) := by omega
      rw [next_ok (by omega)]
      simp only [hw, decide_eq_false h0, br_false])
    (by
      unfold pS121_0
      simp only [end_len, br_false, List.take_length]) k hk
  have lo2 := iter_to (stp := pS121_2 k) (fun i => S121_2.mk l (l.length : Int) (i : Int) (l.take i).flatten) l.length (e := E121_2.mk l.flatten)
    (by
      intro i hi
      have h1 := sumL_le l (i + 1)
      rw [sumL_take hi] at h1
      have h2 := flat_len (l.take i)
      unfold pS121_2
      simp only [lt_len hi, in_len hi, br_true, Int.toNat_natCast]
      rw [br_t (by simp only [Bool.true_and, decide_eq_true_eq]; omega), next_ok (by omega), take_next hi, List.flatten_append]
      simp)
    (by
      unfold pS121_2
      simp only [end_len, br_false, List.take_length]) k hk
  have e0 : (((0 : Nat) : Int)) = 0 := rfl
  rw [e0, show sumL (l.take 0) = 0 from rfl, e0] at lo1
  rw [e0, show (l.take 0).flatten = [] from rfl] at lo2
  unfold f121 l121_0 l121_2
  rw [lo1, bindO_some]
  dsimp only
  have hw : IntKind.wrap .i64 (((sumL l : Nat) : Int) - 0) = ((sumL l : Nat) : Int) := by rw [wrap_ok (by omega) (by omega)]; simp
  rw [hw, br_f (decide_eq_false (by omega))]
  by_cases hp : ((sumL l : Nat) : Int) > 0
  · rw [br_t (decide_eq_true hp), br_t (decide_eq_true (by omega)), List.take_zero, lo2, bindO_some]
  · rw [br_f (decide_eq_false hp), lo2, bindO_some]
def joinP (rows : List ByteArray) (n : Int) (more : List ByteArray) : List ByteArray := if n > rows.length then rows else rows.take n.toNat ++ more
theorem f103_ok {k : Nat} (hk : 41 ≤ k) {rows more : List ByteArray} {n : Int} (hr : rows.length ≤ 40) (hm : more.length ≤ 40) (hn : 0 ≤ n) : ∃ b, f103 k rows n more = some (joinP rows n more, b) := by
  unfold f103 joinP
  rw [br_f (decide_eq_false (by omega))]
  by_cases h : n > (rows.length : Int)
  · rw [br_t (decide_eq_true h), f88_ok (by omega), bindO_some, if_pos h]
    exact ⟨_, rfl⟩
  · have hc : (0 : Int) ≤ 0 ∧ (0 : Int) ≤ Option.getD (some n) (rows.length : Int) ∧ Option.getD (some n) (rows.length : Int) ≤ (rows.length : Int) := ⟨by omega, by simpa using hn, by simp; omega⟩
    rw [br_f (decide_eq_false h), br_t (decide_eq_true hc), f121_ok (by simp; omega) (by simp) (by simp [sumL]; omega), bindO_some, if_neg h]
    exact ⟨true, by simp⟩
def mostP (x : GNode) : Int := if x.phase = 2 then x.commit else x.rows.length
def givB (a : GActor) (m : GMsg) : GActor := ⟨{ a.state with rows := joinP a.state.rows m.n m.rows }, a.told⟩
def givC (a : GActor) (m : GMsg) : GActor := tookP (if a.state.phase = 2 then workP (tookP (givB a m) 0) else givB a m) m.commit
def giveP (a : GActor) (m : GMsg) : GActor :=
  if m.view > a.state.view ∨ a.state.phase = 1 ∨ m.n > mostP a.state ∨ (a.state.phase ≠ 2 ∧ m.n + m.rows.length ≤ mostP a.state) then a else
  if a.state.view % a.state.n ≠ a.state.id then didP (givC a m) (a.state.view % a.state.n) else givC a m
theorem givC_facts (a : GActor) (m : GMsg) : (givC a m).state.id = a.state.id ∧ (givC a m).state.n = a.state.n ∧ (givC a m).state.view = a.state.view ∧ (givC a m).told = a.told := by
  unfold givC
  split
  · refine ⟨countP_id _, countP_n _, ?_, workP_told _⟩
    show (countP _).state.view = _
    unfold countP; split <;> rfl
  · exact ⟨rfl, rfl, rfl, rfl⟩
theorem f56_ok {k : Nat} (hk : 41 ≤ k) {x : GNode} (h : RightN x) {m : GMsg} (hm : RightM m) (hn : 0 ≤ m.n ∧ m.n ≤ 40) (hr : m.rows.length ≤ 40) : f56 k ⟨x, []⟩ m = some (giveP ⟨x, []⟩ m) := by
  have hrl := h.may.1
  have hv := h.view
  obtain ⟨b, hb⟩ := f103_ok hk (rows := x.rows) (more := m.rows) (n := m.n) hrl hr hn.1
  have hw : IntKind.wrap .i64 (m.n + (m.rows.length : Int)) = m.n + m.rows.length := wrap_ok (by omega) (by omega)
  obtain ⟨g1, g2, g3, g4⟩ := givC_facts ⟨x, []⟩ m
  dsimp only at g1 g2 g3 g4
  have fin : bindO (f118 k (givC ⟨x, []⟩ m).state.view (givC ⟨x, []⟩ m).state.n) (fun r => br (r.1 != (givC ⟨x, []⟩ m).state.id) (bindO (f95 k (givC ⟨x, []⟩ m) r.1 (didM (givC ⟨x, []⟩ m).state.rows.length)) fun r' => some r') (some (givC ⟨x, []⟩ m))) =
      some (if x.view % x.n ≠ x.id then didP (givC ⟨x, []⟩ m) (x.view % x.n) else givC ⟨x, []⟩ m) := by
    rw [g1, g2, g3, f118_ok k h.size hv.1, bindO_some]
    dsimp only
    by_cases hl : x.view % x.n = x.id
    · rw [br_f (by simpa using hl), if_neg (by simpa using hl)]
    · rw [br_t (by simpa using hl), if_pos hl, f95_ok k (by rw [g4]; simp) (by simp [didM]), bindO_some]
      rfl
  have h101 := f101_ok k (a := tookP (givB ⟨x, []⟩ m) 0) h.size h.id hv.1
  unfold f56 giveP mostP
  rw [hw]
  dsimp only
  by_cases h2 : x.phase = 2
  · have hp1 : ¬ x.phase = 1 := by omega
    have c1 : (x.phase == 2) = true := by simpa using h2
    have c2 : (x.phase == 1) = false := by simpa using hp1
    rw [c1, c2, br_true, if_pos h2]
    by_cases h1 : m.view > x.view
    · rw [br_t (decide_eq_true h1), if_pos (.inl h1)]
    rw [br_f (decide_eq_false h1), br_false]
    by_cases h3 : m.n > x.commit
    · rw [br_t (decide_eq_true h3), if_pos (.inr (.inr (.inl h3)))]
    rw [br_f (decide_eq_false h3), Bool.not_true, br_false, hb, bindO_some, br_true, if_neg (by simp [h1, hp1, h3, h2])]
    have hg : givC ⟨x, []⟩ m = tookP (workP (tookP (givB ⟨x, []⟩ m) 0)) m.commit := by unfold givC; rw [if_pos h2]
    show bindO (f96 k (givB ⟨x, []⟩ m) 0) _ = _
    rw [f96_ok, bindO_some, h101, bindO_some, f96_ok, bindO_some, ← hg]
    exact fin
  · have c1 : (x.phase == 2) = false := by simpa using h2
    rw [c1, br_false, if_neg h2]
    by_cases h1 : m.view > x.view
    · rw [br_t (decide_eq_true h1), if_pos (.inl h1)]
    rw [br_f (decide_eq_false h1)]
    by_cases hp1 : x.phase = 1
    · rw [br_t (by simpa using hp1), if_pos (.inr (.inl hp1))]
    rw [br_f (by simpa using hp1)]
    by_cases h3 : m.n > (x.rows.length : Int)
    · rw [br_t (decide_eq_true h3), if_pos (.inr (.inr (.inl h3)))]
    rw [br_f (decide_eq_false h3), Bool.not_false, br_true]
    by_cases h4 : m.n + (m.rows.length : Int) ≤ (x.rows.length : Int)
    · rw [br_t (decide_eq_true h4), if_pos (.inr (.inr (.inr ⟨h2, h4⟩)))]
    rw [br_f (decide_eq_false h4), hb, bindO_some, br_false, if_neg (by simp [h1, hp1, h3, h4])]
    have hg : givC ⟨x, []⟩ m = tookP (givB ⟨x, []⟩ m) m.commit := by unfold givC; rw [if_neg h2]
    show bindO (f96 k (givB ⟨x, []⟩ m) m.commit) _ = _
    rw [f96_ok, bindO_some, ← hg]
    exact fin
theorem RightM.rows40 {m : GMsg} (h : RightM m) : m.rows.length ≤ 40 := by
  rcases h.kind with q | q | q | q | q | q <;> omega
noncomputable def heardP (a : GActor) (m : GMsg) : GActor :=
  if m.kind = 1 ∨ m.kind = 3 then ledP a m else if m.kind = 2 then doneP a m else if m.kind = 4 ∨ m.kind = 5 then startP a m else if m.kind = 6 then beginP a m else if m.kind = 7 then getP a m else giveP a m
structure Heard (x : GNode) (m : GMsg) : Prop where
  node : RightN x
  msg : RightM m
  to : m.to = x.id
  src : m.src ≤ x.n - 1
theorem hear_ok {k : Nat} (hk : 41 ≤ k) {x : GNode} {m : GMsg} (hr : m.rows.length < k) (hl : m.rows.length ≤ 9223372036854775807) :
    (¬ Heard x m ∧ f27 k x m = some (zeroN, [], 1)) ∨ (Heard x m ∧ f27 k x m = some (if m.view ≥ x.view then ((heardP ⟨x, []⟩ m).state, (heardP ⟨x, []⟩ m).told, 0) else (x, [], 0))) := by
  by_cases hx : ¬ (RightN x)
  · refine .inl ⟨fun q => hx q.node, ?_⟩
    unfold f27
    rw [f49_wrong hk hx, bindO_some]
    rfl
  have hx := Classical.not_not.1 hx
  obtain ⟨c, hc, hm⟩ := f50_iff hr hl
  unfold f27
  rw [f49_right hk hx, bindO_some]
  dsimp only
  rw [hc, bindO_some]
  cases c with
  | false =>
    have hm : ¬ RightM m := fun q => by cases hm.2 q
    exact .inl ⟨fun q => hm q.msg, rfl⟩
  | true =>
    have hm := hm.1 rfl
    rw [Bool.not_true, br_false]
    by_cases h1 : ¬ (m.to = x.id)
    · rw [br_t (by simpa using h1)]; exact .inl ⟨fun q => h1 q.to, rfl⟩
    have h1 := Classical.not_not.1 h1
    rw [br_f (by simpa using h1)]
    by_cases h2 : m.src ≥ x.n
    · rw [br_t (decide_eq_true h2)]; exact .inl ⟨fun q => by have := q.src; omega, rfl⟩
    rw [br_f (decide_eq_false h2)]
    have H : Heard x m := ⟨hx, hm, h1, by omega⟩
    refine .inr ⟨H, ?_⟩
    by_cases h3 : ¬ (m.view ≥ x.view)
    · rw [br_f (decide_eq_false h3), if_neg h3]
    have h3 := Classical.not_not.1 h3
    rw [br_t (decide_eq_true h3), if_pos h3]
    have h40 := hm.rows40
    unfold heardP
    have kinds : m.kind = 1 ∨ m.kind = 2 ∨ m.kind = 3 ∨ m.kind = 4 ∨ m.kind = 5 ∨ m.kind = 6 ∨ m.kind = 7 ∨ m.kind = 8 := by rcases hm.kind with q | q | q | q | q | q <;> omega
    have nn : m.kind = 7 ∨ m.kind = 8 → 0 ≤ m.n ∧ m.n ≤ 40 := by intro q; rcases hm.kind with q | q | q | q | q | q <;> omega
    rcases kinds with e | e | e | e | e | e | e | e
    · rw [f51_ok hk hx hm (.inl e), bindO_some]
      simp [e, br_if]
    · rw [f52_ok hk hx hm (by omega), bindO_some]
      simp [e, br_if]
    · rw [f51_ok hk hx hm (.inr e), bindO_some]
      simp [e, br_if]
    · rw [f53_ok hk hx hm h40, bindO_some]
      simp [e, br_if]
    · rw [f53_ok hk hx hm h40, bindO_some]
      simp [e, br_if]
    · rw [f54_ok k hx hm h40, bindO_some]
      simp [e, br_if]
    · rw [f55_ok k hx (nn (.inl e)).1, bindO_some]
      simp [e, br_if]
    · rw [f56_ok hk hx hm (nn (.inr e)) h40, bindO_some]
      simp [e, br_if]
noncomputable def backA (x : GNode) : GActor := countP ⟨{ (forgetP ⟨x, []⟩).state with starts := if x.phase = 1 then addS 0 x.id else 0 }, []⟩
theorem back_right {k : Nat} (hk : 41 ≤ k) {x : GNode} (h : RightN x) : f30 k x = some ((backA x).state, 0) := by
  have hn' := size_cases h.size
  have hid := h.id
  have h61 := f61_ok k (a := ⟨{ (forgetP ⟨x, []⟩).state with starts := if x.phase = 1 then addS 0 x.id else 0 }, []⟩) h.size hid h.view.1 (by simp [forgetP]; omega)
  unfold f30
  rw [f49_right hk h, bindO_some]
  dsimp only
  rw [f59_ok k (by dsimp only; omega), bindO_some]
  by_cases hp : x.phase = 1
  · rw [if_pos hp] at h61
    rw [br_t (by simpa [forgetP] using hp), f60_one (by omega) (by omega) (by simp only [forgetP]; omega), bindO_some]
    show bindO (f61 k ⟨{ (forgetP ⟨x, []⟩).state with starts := addS 0 x.id }, []⟩) _ = _
    unfold backA
    rw [if_pos hp, h61, bindO_some]
  · rw [if_neg hp] at h61
    rw [br_f (by simpa [forgetP] using hp)]
    unfold backA
    rw [if_neg hp]
    show bindO (f61 k ⟨{ (forgetP ⟨x, []⟩).state with starts := 0 }, []⟩) _ = _
    rw [h61, bindO_some]
theorem back_wrong {k : Nat} (hk : 41 ≤ k) {x : GNode} (h : ¬ RightN x) : f30 k x = some (zeroN, 1) := by
  unfold f30
  rw [f49_wrong hk h, bindO_some]
  rfl
end Go.Proofs.Ytaooefnmdlajcaa

end
section
set_option linter.unusedVariables false
set_option linter.unusedSimpArgs false
namespace Go.Proofs.Ytaooefnmdlajcaa
open Go Go.Eng
structure MsgA (x : GNode) (m : GMsg) : Prop where
  right : RightM m
  src : m.src = x.id
  to : m.to ≤ x.n - 1
  view : m.view = x.view
structure RA (a : GActor) : Prop where
  node : RightN a.state
  told : ∀ m ∈ a.told, MsgA a.state m
structure Grows (x y : GNode) : Prop where
  id : y.id = x.id
  n : y.n = x.n
  view : x.view ≤ y.view
  last : x.last ≤ y.last
theorem Grows.refl (x : GNode) : Grows x x := ⟨rfl, rfl, Int.le_refl _, Int.le_refl _⟩
theorem Grows.trans {x y z : GNode} (h : Grows x y) (g : Grows y z) : Grows x z := ⟨g.id.trans h.id, g.n.trans h.n, Int.le_trans h.view g.view, Int.le_trans h.last g.last⟩
theorem to_right {a : GActor} (h : RA a) {who : Int} {m : GMsg} (hw : 0 ≤ who ∧ who ≤ a.state.n - 1) (hne : who ≠ a.state.id) (hr : ∀ r ∈ m.rows, r.size ≤ 45) (hl : m.kind ≠ 5 → m.last = 0) (hk : kindP (msgP a.state who m)) : RA (toP a who m) := by
  have hn := size_cases h.node.size
  have hid := h.node.id
  refine ⟨h.node, fun m' hm' => ?_⟩
  rcases List.mem_append.1 hm' with hm' | hm'
  · exact h.told m' hm'
  · rw [List.mem_singleton.1 hm']
    exact ⟨⟨⟨by show 0 ≤ a.state.id ∧ a.state.id ≤ 6; omega, by show 0 ≤ who ∧ who ≤ 6; omega, fun q => hne q.symm, h.node.view⟩, hr, hl, hk⟩, rfl, hw.2, rfl⟩
theorem mem_others {id : Int} {n : Nat} {i : Int} (h : i ∈ othersL id n) : 0 ≤ i ∧ i < n ∧ i ≠ id := by
  unfold othersL at h
  rw [List.mem_filter, List.mem_map] at h
  obtain ⟨⟨j, hj, rfl⟩, h2⟩ := h
  rw [List.mem_range] at hj
  exact ⟨by omega, by omega, by simpa using h2⟩
theorem all_right {a : GActor} (h : RA a) {m : GMsg} (hr : ∀ r ∈ m.rows, r.size ≤ 45) (hl : m.kind ≠ 5 → m.last = 0) (hk : ∀ who, kindP (msgP a.state who m)) : RA (allP a m) := by
  have hn := size_cases h.node.size
  have hid := h.node.id
  refine ⟨h.node, fun m' hm' => ?_⟩
  rcases List.mem_append.1 hm' with hm' | hm'
  · exact h.told m' hm'
  · obtain ⟨i, hi, rfl⟩ := List.mem_map.1 hm'
    obtain ⟨h1, h2, h3⟩ := mem_others hi
    exact ⟨⟨⟨by show 0 ≤ a.state.id ∧ a.state.id ≤ 6; omega, by show 0 ≤ i ∧ i ≤ 6; omega, fun q => h3 q.symm, h.node.view⟩, hr, hl, hk i⟩, rfl, by show i ≤ a.state.n - 1; omega, rfl⟩
theorem count_view (a : GActor) : (countP a).state.view = a.state.view := by unfold countP; split <;> rfl
theorem count_last (a : GActor) : (countP a).state.last = a.state.last := by unfold countP; split <;> rfl
theorem count_phase (a : GActor) : (countP a).state.phase = a.state.phase := by unfold countP; split <;> rfl
theorem count_commit {a : GActor} : a.state.commit ≤ (countP a).state.commit := by
  unfold countP; split
  · dsimp only; rw [max2_eq]; omega
  · omega
theorem setFar_in {x : GNode} (h : ∀ f ∈ x.far, 0 ≤ f ∧ f ≤ (x.rows.length : Int)) : ∀ f ∈ setFar x, 0 ≤ f ∧ f ≤ (x.rows.length : Int) := by
  intro f hf
  rcases List.mem_or_eq_of_mem_set hf with hf | rfl
  · exact h f hf
  · omega
theorem count_right {a : GActor} (h : RightN a.state) : RightN (countP a).state := by
  unfold countP
  split
  · have hfl : ((setFar a.state).length : Int) = a.state.n := by unfold setFar; rw [List.length_set]; exact h.far
    have hr := reached_range h.size hfl (setFar_in h.fars) (by omega)
    have hm := h.may
    exact ⟨h.size, h.id, h.view, h.last, h.phase, h.works, ⟨hm.1, by dsimp only; rw [max2_eq]; have := hm.2.1; omega, hm.2.2⟩, hfl, h.starts, h.votes, h.vs, h.nodup, setFar_in h.fars⟩
  · exact h
theorem count_RA {a : GActor} (h : RA a) : RA (countP a) := ⟨count_right h.node, fun m hm => by
  rw [countP_told] at hm
  have g := h.told m hm
  exact ⟨g.right, g.src.trans (countP_id a).symm, by rw [countP_n]; exact g.to, g.view.trans (count_view a).symm⟩⟩
theorem forget_right {x : GNode} (hs : sizeB x.n = true) (hi : 0 ≤ x.id ∧ x.id ≤ x.n - 1) (hv : 0 ≤ x.view ∧ x.view ≤ 1000000) (hl : 0 ≤ x.last ∧ x.last ≤ x.view) (hp : 0 ≤ x.phase ∧ x.phase ≤ 2) (hw : x.phase = 0 → x.last = x.view) (hm : mayP x.rows x.commit) {st : Int} (hst : 0 ≤ st ∧ st ≤ 127) :
    RightN ⟨x.id, x.n, x.view, x.last, x.phase, x.commit, x.rows, List.replicate x.n.toNat 0, st, []⟩ := by
  have hn := size_cases hs
  exact ⟨hs, hi, hv, hl, hp, hw, hm, by simp; omega, hst, by simp; omega, by simp, .nil, fun f hf => by rw [(List.mem_replicate.1 hf).2]; omega⟩
theorem work_RA {a : GActor} (hs : sizeB a.state.n = true) (hi : 0 ≤ a.state.id ∧ a.state.id ≤ a.state.n - 1) (hv : 0 ≤ a.state.view ∧ a.state.view ≤ 1000000) (hm : mayP a.state.rows a.state.commit) (ht : ∀ m ∈ a.told, MsgA a.state m) : RA (workP a) :=
  count_RA ⟨forget_right (x := ⟨a.state.id, a.state.n, a.state.view, a.state.view, 0, a.state.commit, a.state.rows, a.state.far, a.state.starts, a.state.votes⟩) hs hi hv ⟨hv.1, Int.le_refl _⟩ (by dsimp only; omega) (fun _ => rfl) hm (st := 0) (by omega), fun m hm => by
    have g := ht m hm
    exact ⟨g.right, g.src, g.to, g.view⟩⟩
theorem work_last (a : GActor) : (workP a).state.last = a.state.view := count_last _
theorem work_view (a : GActor) : (workP a).state.view = a.state.view := count_view _
theorem work_id (a : GActor) : (workP a).state.id = a.state.id := countP_id _
theorem work_n (a : GActor) : (workP a).state.n = a.state.n := countP_n _
theorem work_rows (a : GActor) : (workP a).state.rows = a.state.rows := countP_rows _
theorem took_RA {a : GActor} (h : RA a) {n : Int} : RA (tookP a n) := by
  refine ⟨?_, fun m hm => ⟨(h.told m hm).right, (h.told m hm).src, (h.told m hm).to, (h.told m hm).view⟩⟩
  have hm := h.node.may
  have g := h.node
  exact ⟨g.size, g.id, g.view, g.last, g.phase, g.works, ⟨hm.1, by simp only [tookP]; rw [min2_eq, max2_eq]; have := hm.2.1; omega, hm.2.2⟩, g.far, g.starts, g.votes, g.vs, g.nodup, g.fars⟩
theorem took_may {rows : List ByteArray} {c n : Int} (h1 : rows.length ≤ 40) (h2 : ∀ r ∈ rows, r.size ≤ 45) (hc : 0 ≤ c) : mayP rows (min2 (max2 c n) rows.length) := ⟨h1, by rw [min2_eq, max2_eq]; omega, h2⟩
theorem did_RA {a : GActor} (h : RA a) {who : Int} (hw : 0 ≤ who ∧ who ≤ a.state.n - 1) (hne : who ≠ a.state.id) : RA (didP a who) :=
  to_right h hw hne (by simp [didM]) (fun _ => rfl) (.inr (.inl ⟨.inl rfl, by have := h.node.may.1; simp only [msgP, didM]; omega, rfl, rfl⟩))
theorem pigeon : ∀ (n : Nat) (l : List Int), l.Nodup → (∀ x ∈ l, 0 ≤ x ∧ x < n) → l.length ≤ n
  | 0, l, _, h => by
    cases l with
    | nil => simp
    | cons a l => have := h a (List.mem_cons_self ..); omega
  | n + 1, l, hn, h => by
    by_cases hm : (n : Int) ∈ l
    · have h1 := pigeon n (l.erase n) (hn.erase _) (fun x hx => by
        obtain ⟨h1, h2⟩ := (hn.mem_erase_iff).1 hx
        have := h x h2
        omega)
      rw [List.length_erase_of_mem hm] at h1
      omega
    · have h1 := pigeon n l hn (fun x hx => by
        have := h x hx
        have : x ≠ n := fun q => hm (q ▸ hx)
        omega)
      omega
theorem votes_few {l : List GVote} {n : Int} (hn : 0 ≤ n) (h1 : l.Pairwise fun v w => v.src ≠ w.src) (h2 : ∀ v ∈ l, 0 ≤ v.src ∧ v.src ≤ n - 1) : (l.length : Int) ≤ n := by
  have := pigeon n.toNat (l.map GVote.src) (List.pairwise_map.2 h1) (fun x hx => by
    obtain ⟨v, hv, rfl⟩ := List.mem_map.1 hx
    have := h2 v hv
    omega)
  rw [List.length_map] at this
  omega
theorem with_right {l : List GVote} {v : GVote} {n view : Int} (hn : sizeB n = true) (h1 : l.Pairwise fun v w => v.src ≠ w.src) (h2 : ∀ w ∈ l, RightV n view w) (hv : RightV n view v) :
    ((withP l v).length : Int) ≤ n ∧ (∀ w ∈ withP l v, RightV n view w) ∧ (withP l v).Pairwise fun v w => v.src ≠ w.src := by
  have hn' := size_cases hn
  have h3 : ∀ w ∈ withP l v, RightV n view w := fun w hw => by
    rcases withP_mem hw with hw | rfl
    · exact h2 w hw
    · exact hv
  have h4 : (withP l v).Pairwise fun v w => v.src ≠ w.src := by
    unfold withP
    refine List.pairwise_append.2 ⟨h1.sublist List.filter_sublist, List.pairwise_singleton .., fun a ha b hb => ?_⟩
    rw [List.mem_singleton.1 hb]
    simpa using (List.mem_filter.1 ha).2
  exact ⟨votes_few (by omega) h4 (fun w hw => (h3 w hw).src), h3, h4⟩
theorem votes_RA {a : GActor} (h : RA a) {was : Bool} : RA (votesP a was) := by
  have g := h.node
  have hm := g.may
  unfold votesP
  split
  · exact h
  · split
    · rename_i hne
      exact to_right h (lead_range g.size) hne hm.2.2 (fun q => absurd rfl q) (.inr (.inr (.inr (.inr (.inl ⟨.inl rfl, hm.1, hm.2.1, g.last, rfl⟩)))))
    · obtain ⟨h1, h2, h3⟩ := with_right (v := ownV a.state) g.size g.nodup g.vs ⟨g.id, g.last, hm⟩
      exact ⟨⟨g.size, g.id, g.view, g.last, g.phase, g.works, hm, g.far, g.starts, h1, h2, h3, g.fars⟩, fun m hm => ⟨(h.told m hm).right, (h.told m hm).src, (h.told m hm).to, (h.told m hm).view⟩⟩
theorem votes_same (a : GActor) (was : Bool) : (votesP a was).state.last = a.state.last ∧ (votesP a was).state.phase = a.state.phase := by
  unfold votesP
  split
  · exact ⟨rfl, rfl⟩
  · split <;> exact ⟨rfl, rfl⟩
theorem none_enough : (alls.all fun n => enoughB 0 n == false) = true := by kernel_rfl
theorem enough_some {l : List GVote} {n : Int} (hn : sizeB n = true) (h : enoughB (setOf l) n = true) : l ≠ [] := by
  rintro rfl
  rw [show setOf [] = 0 from rfl, eq_of_beq (List.all_eq_true.1 none_enough n (mem_alls hn))] at h
  cases h
theorem mostC_ge : ∀ (l : List GVote) (c : Int), c ≤ l.foldl (fun c v => max2 c v.commit) c
  | [], c => Int.le_refl c
  | v :: l, c => by
    rw [List.foldl_cons]
    refine Int.le_trans ?_ (mostC_ge l _)
    rw [max2_eq]; omega
theorem begunA_RA {a : GActor} (h : RA a) (he : enoughB (setOf a.state.votes) a.state.n = true) : RA (begunA a) := by
  have g := h.node
  have hb := g.vs _ (best_mem (enough_some g.size he))
  have hc := mostC_ge a.state.votes 0
  refine work_RA g.size g.id g.view ⟨hb.may.1, ?_, hb.may.2.2⟩ (fun m hm => ⟨(h.told m hm).right, (h.told m hm).src, (h.told m hm).to, (h.told m hm).view⟩)
  dsimp only
  rw [min2_eq]
  unfold mostC
  omega
theorem begins_RA {a : GActor} (h : RA a) : RA (beginsP a) := by
  unfold beginsP
  split
  · exact h
  · rename_i hc
    have he : enoughB (setOf a.state.votes) a.state.n = true := by
      cases hx : enoughB (setOf a.state.votes) a.state.n with
      | true => rfl
      | false => exact absurd (.inr hx) hc
    have hb := begunA_RA h he
    have hm := hb.node.may
    have hv := hb.node.view
    exact all_right hb hm.2.2 (fun _ => rfl) (fun who => .inr (.inr (.inr (.inr (.inl ⟨.inr rfl, hm.1, hm.2.1, ⟨Int.le_refl _, hv.1⟩, rfl⟩)))))
theorem begins_grows {a : GActor} (h : RightN a.state) : Grows a.state (beginsP a).state := by
  unfold beginsP
  split
  · exact .refl _
  · exact ⟨work_id _, work_n _, by show a.state.view ≤ (begunA a).state.view; unfold begunA; rw [work_view]; exact Int.le_refl _, by show a.state.last ≤ (begunA a).state.last; unfold begunA; rw [work_last]; exact h.last.2⟩
theorem enter_RA {x : GNode} (h : RightN x) {v : Int} (hv : x.view ≤ v ∧ v ≤ 1000000) : RA (enterP ⟨x, []⟩ v) := by
  have hn := size_cases h.size
  have hid := h.id
  have h0 := h.view
  have hl := h.last
  have hst : 0 ≤ addS 0 x.id ∧ addS 0 x.id ≤ 127 := addS_range (by omega) (by omega)
  refine all_right ⟨forget_right (x := ⟨x.id, x.n, v, x.last, 1, x.commit, x.rows, x.far, x.starts, x.votes⟩) h.size h.id (by dsimp only; omega) (by dsimp only; omega) (by dsimp only; omega) (fun q => by cases q) h.may hst, by simp⟩ (by simp [startM]) (fun _ => rfl) (fun who => .inr (.inr (.inr (.inl ⟨rfl, rfl, rfl, rfl⟩))))
theorem enter_grows {x : GNode} {v : Int} (hv : x.view ≤ v) : Grows x (enterP ⟨x, []⟩ v).state := ⟨rfl, rfl, hv, Int.le_refl _⟩
theorem votes_grows (a : GActor) (was : Bool) : Grows a.state (votesP a was).state :=
  ⟨(votesP_facts a was).1, (votesP_facts a was).2.1, Int.le_of_eq (votesP_facts a was).2.2.1.symm, Int.le_of_eq (votes_same a was).1.symm⟩
theorem back_RA {x : GNode} (h : RightN x) : RightN (backA x).state ∧ (backA x).state.view = x.view ∧ (backA x).state.last = x.last ∧ (backA x).state.phase = x.phase ∧ (backA x).state.rows = x.rows ∧ x.commit ≤ (backA x).state.commit := by
  have hn := size_cases h.size
  have hid := h.id
  refine ⟨count_right (forget_right (st := if x.phase = 1 then addS 0 x.id else 0) h.size h.id h.view h.last h.phase h.works h.may ?_), count_view _, count_last _, count_phase _, countP_rows _, count_commit (a := ⟨{ (forgetP ⟨x, []⟩).state with starts := if x.phase = 1 then addS 0 x.id else 0 }, []⟩)⟩
  split
  · exact addS_range (by omega) (by omega)
  · omega
end Go.Proofs.Ytaooefnmdlajcaa

end
section
set_option linter.unusedVariables false
set_option linter.unusedSimpArgs false
namespace Go.Proofs.Ytaooefnmdlajcaa
open Go Go.Eng
theorem RightN.ra {x : GNode} (h : RightN x) : RA ⟨x, []⟩ := ⟨h, by simp⟩
theorem Heard.ne {x : GNode} {m : GMsg} (h : Heard x m) : m.src ≠ x.id := by have := h.msg.head.2.2.1; rw [h.to] at this; exact this
theorem Heard.rng {x : GNode} {m : GMsg} (h : Heard x m) : 0 ≤ m.src ∧ m.src ≤ x.n - 1 := ⟨h.msg.head.1.1, h.src⟩
theorem lag_RA {x : GNode} {m : GMsg} (h : Heard x m) (hv : m.view ≥ x.view) : RA (lagP ⟨x, []⟩ m) ∧ Grows x (lagP ⟨x, []⟩ m).state := by
  have g := h.node
  have hl := g.last
  have hw := g.view
  have hmv := h.msg.head.2.2.2
  have hm1 := g.may.1
  have hm2 := g.may.2.1
  have hb : RA (lagB ⟨x, []⟩ m.view) := ⟨forget_right (x := ⟨x.id, x.n, m.view, x.last, 2, x.commit, x.rows, x.far, x.starts, x.votes⟩) (st := 0) g.size g.id hmv (by dsimp only; omega) (by dsimp only; omega) (fun q => by cases q) g.may (by omega), by simp [lagB, forgetP]⟩
  exact ⟨to_right hb h.rng h.ne (by simp [getM]) (fun _ => rfl) (.inr (.inl ⟨.inr rfl, by simp only [msgP, getM]; omega, rfl, rfl⟩)), ⟨rfl, rfl, hv, Int.le_refl _⟩⟩
theorem get1 {m : GMsg} (h : m.rows.length = 1) : m.rows.getD 0 default ∈ m.rows := getD_mem (by omega)
theorem led_RA {x : GNode} {m : GMsg} (h : Heard x m) (hv : m.view ≥ x.view) (hk : m.kind = 1 ∨ m.kind = 3) : RA (ledP ⟨x, []⟩ m) ∧ Grows x (ledP ⟨x, []⟩ m).state := by
  have g := h.node
  have hm1 := g.may.1
  have hm2 := g.may.2.1
  have get : ∀ a : GActor, RA a → a.state.n = x.n → a.state.id = x.id → RA (toP a m.src (getM x.rows.length)) := fun a ha hn hi =>
    to_right ha (by rw [hn]; exact h.rng) (by rw [hi]; exact h.ne) (by simp [getM]) (fun _ => rfl) (.inr (.inl ⟨.inr rfl, by simp only [msgP, getM]; omega, rfl, rfl⟩))
  unfold ledP
  split
  · exact ⟨g.ra, .refl _⟩
  split
  · exact lag_RA h hv
  split
  · split
    · exact ⟨get _ (took_RA g.ra) rfl rfl, ⟨rfl, rfl, Int.le_refl _, Int.le_refl _⟩⟩
    · exact ⟨took_RA g.ra, ⟨rfl, rfl, Int.le_refl _, Int.le_refl _⟩⟩
  split
  · exact ⟨get _ g.ra rfl rfl, .refl _⟩
  · rename_i h1 h2 h3 h4
    have k1 : m.kind = 1 := hk.resolve_right h3
    have kk : (1 ≤ m.n ∧ m.n ≤ 40) ∧ m.rows.length = 1 := by rcases h.msg.kind with q | q | q | q | q | q <;> omega
    have hp : RightN { x with rows := putP x.rows m.n (m.rows.getD 0 default) } := by
      unfold putP
      split
      · rename_i hn
        refine ⟨g.size, g.id, g.view, g.last, g.phase, g.works, ⟨by simp; omega, by simp; omega, fun r hr => ?_⟩, g.far, g.starts, g.votes, g.vs, g.nodup, fun f hf => by have := g.fars f hf; simp; omega⟩
        rcases List.mem_append.1 hr with hr | hr
        · exact g.may.2.2 r hr
        · rw [List.mem_singleton.1 hr]; exact h.msg.rows _ (get1 kk.2)
      · exact g
    exact ⟨did_RA (took_RA (RightN.ra hp)) h.rng h.ne, ⟨rfl, rfl, Int.le_refl _, Int.le_refl _⟩⟩
theorem done_RA {x : GNode} {m : GMsg} (h : Heard x m) (hk : m.kind = 2) : RA (doneP ⟨x, []⟩ m) ∧ Grows x (doneP ⟨x, []⟩ m).state := by
  have g := h.node
  have kk : 0 ≤ m.n := by rcases h.msg.kind with q | q | q | q | q | q <;> omega
  have hf : RightN { x with far := farP x m } := by
    refine ⟨g.size, g.id, g.view, g.last, g.phase, g.works, g.may, by simp only [farP, List.length_set]; exact g.far, g.starts, g.votes, g.vs, g.nodup, fun f hf => ?_⟩
    rcases List.mem_or_eq_of_mem_set hf with hf | rfl
    · exact g.fars f hf
    · have hd : 0 ≤ x.far.getD m.src.toNat 0 ∧ x.far.getD m.src.toNat 0 ≤ (x.rows.length : Int) := by
        rw [List.getD_eq_getElem?_getD]
        cases hq : x.far[m.src.toNat]? with
        | none => simp
        | some y => exact g.fars y (List.mem_of_getElem? hq)
      rw [max2_eq, min2_eq]
      dsimp only
      omega
  have hb : RA (doneB ⟨x, []⟩ m) := count_RA (RightN.ra hf)
  have gr : Grows x (doneB ⟨x, []⟩ m).state := ⟨countP_id _, countP_n _, by unfold doneB; rw [count_view]; exact Int.le_refl _, by unfold doneB; rw [count_last]; exact Int.le_refl _⟩
  have hm := hb.node.may
  have hm1 := hm.1
  have hm2 := hm.2.1
  unfold doneP
  split
  · exact ⟨g.ra, .refl _⟩
  split
  · exact ⟨all_right hb (by simp [commitM]) (fun _ => rfl) (fun who => .inr (.inr (.inl ⟨rfl, by simp only [msgP, commitM]; omega, rfl, rfl⟩))), gr⟩
  · exact ⟨hb, gr⟩
theorem started_RA {b : GActor} (h : RA b) {m : GMsg} (hm : RightM m) (hr : m.src ≤ b.state.n - 1) (hne : m.src ≠ b.state.id) (hv : m.view = b.state.view) : RA (startedP b m) ∧ Grows b.state (startedP b m).state := by
  have g := h.node
  have hmy := g.may
  have hn := size_cases g.size
  have hs := hm.head.1
  unfold startedP
  split
  · split
    · exact ⟨to_right h ⟨hs.1, hr⟩ hne hmy.2.2 (fun _ => rfl) (.inr (.inr (.inr (.inr (.inl ⟨.inr rfl, hmy.1, hmy.2.1, ⟨Int.le_refl _, g.view.1⟩, rfl⟩))))), .refl _⟩
    · exact ⟨h, .refl _⟩
  · have h1 : RA ⟨{ b.state with starts := addS b.state.starts m.src }, b.told⟩ :=
      ⟨⟨g.size, g.id, g.view, g.last, g.phase, g.works, g.may, g.far, addS_range g.starts hs, g.votes, g.vs, g.nodup, g.fars⟩, fun m hm => ⟨(h.told m hm).right, (h.told m hm).src, (h.told m hm).to, (h.told m hm).view⟩⟩
    have h2 : RA (hadP b m) := votes_RA h1
    have gr' := votes_grows ⟨{ b.state with starts := addS b.state.starts m.src }, b.told⟩ (enoughB b.state.starts b.state.n)
    have gr : Grows b.state (hadP b m).state := ⟨gr'.id, gr'.n, gr'.view, gr'.last⟩
    have vw : (hadP b m).state.view = b.state.view := (votesP_facts ⟨{ b.state with starts := addS b.state.starts m.src }, b.told⟩ _).2.2.1
    have h3 : RA (joinV (hadP b m) m) ∧ Grows b.state (joinV (hadP b m) m).state := by
      unfold joinV
      split
      · rename_i h5
        have kk : m.rows.length ≤ 40 ∧ (0 ≤ m.commit ∧ m.commit ≤ (m.rows.length : Int)) ∧ (0 ≤ m.last ∧ m.last ≤ m.view) := by rcases hm.kind with q | q | q | q | q | q <;> omega
        have e := h2.node
        obtain ⟨w1, w2, w3⟩ := with_right (v := ⟨m.src, m.last, m.commit, m.rows⟩) e.size e.nodup e.vs ⟨by rw [gr.n]; exact ⟨hs.1, hr⟩, by rw [vw, ← hv]; exact kk.2.2, ⟨kk.1, kk.2.1, hm.rows⟩⟩
        exact ⟨⟨⟨e.size, e.id, e.view, e.last, e.phase, e.works, e.may, e.far, e.starts, w1, w2, w3, e.fars⟩, fun m hm => ⟨(h2.told m hm).right, (h2.told m hm).src, (h2.told m hm).to, (h2.told m hm).view⟩⟩, ⟨gr.id, gr.n, gr.view, gr.last⟩⟩
      · exact ⟨h2, gr⟩
    exact ⟨begins_RA h3.1, h3.2.trans (begins_grows h3.1.node)⟩
theorem start_RA {x : GNode} {m : GMsg} (h : Heard x m) (hv : m.view ≥ x.view) : RA (startP ⟨x, []⟩ m) ∧ Grows x (startP ⟨x, []⟩ m).state := by
  have g := h.node
  have hmv := h.msg.head.2.2.2
  unfold startP
  split
  · exact ⟨g.ra, .refl _⟩
  split
  · have h1 := enter_RA g (v := m.view) (by omega)
    obtain ⟨h2, h3⟩ := started_RA h1 h.msg (by exact h.src) (by exact h.ne) rfl
    exact ⟨h2, (enter_grows (by omega)).trans h3⟩
  · rename_i hnv
    exact started_RA g.ra h.msg h.src h.ne (by dsimp only at hnv ⊢; omega)
theorem begP_facts (x : GNode) (m : GMsg) : (begP ⟨x, []⟩ m).state.id = x.id ∧ (begP ⟨x, []⟩ m).state.n = x.n ∧ (begP ⟨x, []⟩ m).state.view = m.view ∧ (begP ⟨x, []⟩ m).state.last = m.view :=
  ⟨work_id _, work_n _, work_view _, work_last _⟩
theorem begin_RA {x : GNode} {m : GMsg} (h : Heard x m) (hv : m.view ≥ x.view) (hk : m.kind = 6) : RA (beginP ⟨x, []⟩ m) ∧ Grows x (beginP ⟨x, []⟩ m).state := by
  have g := h.node
  have hm1 := g.may.1
  have hm2 := g.may.2.1
  have hr := h.msg.rows40
  have hl := g.last
  unfold beginP
  split
  · exact ⟨g.ra, .refl _⟩
  split
  · obtain ⟨b1, b2, b3, b4⟩ := begP_facts x m
    have h1 : RA (begP ⟨x, []⟩ m) := took_RA (work_RA g.size g.id h.msg.head.2.2.2 (took_may hr h.msg.rows hm2.1) (fun m' hm' => by cases hm'))
    refine ⟨did_RA h1 (by rw [b2]; exact h.rng) (by rw [b1]; exact h.ne), ⟨b1, b2, by show x.view ≤ (begP ⟨x, []⟩ m).state.view; rw [b3]; exact hv, by show x.last ≤ (begP ⟨x, []⟩ m).state.last; rw [b4]; omega⟩⟩
  split
  · rename_i h1 h2 h3
    dsimp only at h3
    have hp : RightN { x with rows := m.rows } := ⟨g.size, g.id, g.view, g.last, g.phase, g.works, ⟨hr, by dsimp only; omega, h.msg.rows⟩, g.far, g.starts, g.votes, g.vs, g.nodup, fun f hf => by have := g.fars f hf; dsimp only; omega⟩
    exact ⟨did_RA (took_RA (RightN.ra hp)) h.rng h.ne, ⟨rfl, rfl, Int.le_refl _, Int.le_refl _⟩⟩
  · exact ⟨did_RA (took_RA g.ra) h.rng h.ne, ⟨rfl, rfl, Int.le_refl _, Int.le_refl _⟩⟩
theorem get_RA {x : GNode} {m : GMsg} (h : Heard x m) (hk : m.kind = 7) : RA (getP ⟨x, []⟩ m) ∧ Grows x (getP ⟨x, []⟩ m).state := by
  have g := h.node
  have hm1 := g.may.1
  have hm2 := g.may.2.1
  have kk : 0 ≤ m.n ∧ m.n ≤ 40 := by rcases h.msg.kind with q | q | q | q | q | q <;> omega
  unfold getP
  split
  · exact ⟨to_right g.ra h.rng h.ne (fun r hr => g.may.2.2 r (List.mem_of_mem_drop hr)) (fun _ => rfl) (.inr (.inr (.inr (.inr (.inr ⟨rfl, kk, by simp only [msgP, giveM, List.length_drop]; omega, by simp only [msgP, giveM]; omega⟩))))), .refl _⟩
  · exact ⟨g.ra, .refl _⟩
theorem give_RA {x : GNode} {m : GMsg} (h : Heard x m) (hk : m.kind = 8) : RA (giveP ⟨x, []⟩ m) ∧ Grows x (giveP ⟨x, []⟩ m).state := by
  have g := h.node
  have hm1 := g.may.1
  have hm2 := g.may.2.1
  have hph := g.phase
  have hl := g.last
  have kk : (0 ≤ m.n ∧ m.n ≤ 40) ∧ (m.rows.length : Int) ≤ 40 - m.n := by rcases h.msg.kind with q | q | q | q | q | q <;> omega
  unfold giveP
  split
  · exact ⟨g.ra, .refl _⟩
  · rename_i hc
    dsimp only at hc
    unfold mostP at hc
    have hnl : ¬ m.n > (x.rows.length : Int) := by
      intro q
      apply hc
      split
      · exact .inr (.inr (.inl (by omega)))
      · exact .inr (.inr (.inl q))
    have hj : joinP x.rows m.n m.rows = x.rows.take m.n.toNat ++ m.rows := by unfold joinP; rw [if_neg hnl]
    have hjl : ((joinP x.rows m.n m.rows).length : Int) = m.n + m.rows.length := by rw [hj]; simp; omega
    have hjr : ∀ r ∈ joinP x.rows m.n m.rows, r.size ≤ 45 := by
      rw [hj]
      intro r hr
      rcases List.mem_append.1 hr with hr | hr
      · exact g.may.2.2 r (List.mem_of_mem_take hr)
      · exact h.msg.rows r hr
    have hC : RA (givC ⟨x, []⟩ m) ∧ Grows x (givC ⟨x, []⟩ m).state := by
      obtain ⟨g1, g2, g3, g4⟩ := givC_facts ⟨x, []⟩ m
      refine ⟨?_, ⟨g1, g2, Int.le_of_eq g3.symm, ?_⟩⟩
      · unfold givC
        dsimp only
        split
        · exact took_RA (work_RA g.size g.id g.view (took_may (by omega) hjr hm2.1) (fun m' hm' => by cases hm'))
        · rename_i h2
          rw [if_neg h2] at hc
          refine took_RA (RightN.ra (x := { x with rows := joinP x.rows m.n m.rows }) ⟨g.size, g.id, g.view, g.last, g.phase, g.works, ⟨by dsimp only; omega, by dsimp only; omega, hjr⟩, g.far, g.starts, g.votes, g.vs, g.nodup, fun f hf => by have := g.fars f hf; dsimp only; omega⟩)
      · show x.last ≤ (givC ⟨x, []⟩ m).state.last
        unfold givC
        dsimp only
        split
        · show x.last ≤ (workP _).state.last
          rw [work_last]
          exact hl.2
        · exact Int.le_refl _
    have g12 := givC_facts ⟨x, []⟩ m
    split
    · rename_i hne
      exact ⟨did_RA hC.1 (by rw [g12.2.1]; exact lead_range g.size) (by rw [g12.1]; exact hne), hC.2⟩
    · exact hC
theorem heard_RA {x : GNode} {m : GMsg} (h : Heard x m) (hv : m.view ≥ x.view) : RA (heardP ⟨x, []⟩ m) ∧ Grows x (heardP ⟨x, []⟩ m).state := by
  have kinds : m.kind = 1 ∨ m.kind = 2 ∨ m.kind = 3 ∨ m.kind = 4 ∨ m.kind = 5 ∨ m.kind = 6 ∨ m.kind = 7 ∨ m.kind = 8 := by rcases h.msg.kind with q | q | q | q | q | q <;> omega
  unfold heardP
  split
  · rename_i q; exact led_RA h hv q
  split
  · rename_i q; exact done_RA h q
  split
  · exact start_RA h hv
  split
  · rename_i q; exact begin_RA h hv q
  split
  · rename_i q; exact get_RA h q
  · exact give_RA h (by omega)
end Go.Proofs.Ytaooefnmdlajcaa

end
section
set_option linter.unusedVariables false
set_option linter.unusedSimpArgs false
namespace Go.Proofs.Ytaooefnmdlajcaa
open Go Go.Eng
end Go.Proofs.Ytaooefnmdlajcaa

end
section
set_option linter.unusedVariables false
set_option linter.unusedSimpArgs false
namespace Go.Proofs.Ytaooefnmdlajcaa
open Go Go.Eng
theorem rounds_for (x : GNode) (m : GMsg) (n : Nat) : ∃ k, 41 ≤ k ∧ n < k ∧ x.rows.length < k ∧ m.rows.length < k ∧ ∀ v ∈ x.votes, v.rows.length < k := by
  refine ⟨41 + n + x.rows.length + m.rows.length + (x.votes.map fun v => v.rows.length).sum + 1, by omega, by omega, by omega, by omega, fun v hv => ?_⟩
  have := len_le hv
  omega
theorem max_is : maxLen = 9223372036854775807 := by unfold maxLen; decide
end Go.Proofs.Ytaooefnmdlajcaa

end
section
set_option linter.unusedVariables false
set_option linter.unusedSimpArgs false
namespace Go.Proofs.Ytaooefnmdlajcaa
open Go Go.Eng
theorem took_twice {x : GNode} {a : GActor} {n : Int} (h : x = (tookP a n).state) : (tookP ⟨x, []⟩ n).state = x := by
  subst h
  simp only [tookP]
  congr 1
  rw [min2_eq, min2_eq, max2_eq, max2_eq]
  omega
theorem set_same {α : Type} [Inhabited α] {l : List α} {i : Nat} {v : α} (h : i < l.length → l.getD i default = v) : l.set i v = l := by
  by_cases hi : i < l.length
  · have h := h hi
    rw [List.getD_eq_getElem?_getD, List.getElem?_eq_getElem hi] at h
    rw [← show l[i] = v from h, List.set_getElem_self]
  · exact List.set_eq_of_length_le (by omega)
theorem led_twice {x u : GNode} {m : GMsg} (hu : u = (ledP ⟨x, []⟩ m).state) : (ledP ⟨u, []⟩ m).state = u := by
  have again : ∀ y : GNode, (ledP ⟨x, []⟩ m).state = y → (y = x → (ledP ⟨y, []⟩ m).state = y) := fun y h1 h2 => by rw [h2] at h1 ⊢; exact h1
  have e : ∀ b : GActor, ledP ⟨x, []⟩ m = b → u = b.state := fun b hb => by rw [hu, hb]
  by_cases h1 : ¬ (m.src = m.view % x.n)
  · have hx : u = x := by rw [hu]; unfold ledP; dsimp only; rw [if_pos h1]
    exact again u hu.symm hx
  have h1 := Classical.not_not.1 h1
  have f1 : ¬ m.src ≠ m.view % x.n := by simpa using h1
  by_cases h2 : m.view > x.view ∨ x.phase ≠ 0
  · have e1 : u = (lagP ⟨x, []⟩ m).state := by rw [hu]; unfold ledP; dsimp only; rw [if_neg f1, if_pos h2]
    have e2 : ledP ⟨u, []⟩ m = lagP ⟨u, []⟩ m := by
      unfold ledP
      have un : u.n = x.n := by rw [e1]; rfl
      have up : u.phase = 2 := by rw [e1]; rfl
      dsimp only
      rw [un, if_neg f1, if_pos (.inr (by rw [up]; decide))]
    rw [e2, e1]
    rfl
  · have h2' := h2
    have hp : x.phase = 0 := Classical.byContradiction fun q => h2 (.inr q)
    have hv : ¬ m.view > x.view := fun q => h2 (.inl q)
    by_cases h3 : m.kind = 3
    · have e1 : u = (tookP ⟨x, []⟩ m.commit).state := by
        rw [hu]; unfold ledP; dsimp only; rw [if_neg f1, if_neg h2, if_pos h3]
        split <;> rfl
      have e2 : (ledP ⟨u, []⟩ m).state = (tookP ⟨u, []⟩ m.commit).state := by
        have un : u.n = x.n := by rw [e1]; rfl
        have up : u.phase = x.phase := by rw [e1]; rfl
        have uv : u.view = x.view := by rw [e1]; rfl
        unfold ledP
        dsimp only
        rw [un, uv, up, if_neg f1, if_neg h2, if_pos h3]
        split <;> rfl
      rw [e2]
      exact took_twice e1
    · by_cases h4 : m.n > x.rows.length + 1
      · have hx : u = x := by rw [hu]; unfold ledP; dsimp only; rw [if_neg f1, if_neg h2, if_neg h3, if_pos h4]; rfl
        exact again u hu.symm hx
      · have e1 : u = (tookP ⟨{ x with rows := putP x.rows m.n (m.rows.getD 0 default) }, []⟩ m.commit).state := by
          rw [hu]; unfold ledP; dsimp only; rw [if_neg f1, if_neg h2, if_neg h3, if_neg h4]; rfl
        have un : u.n = x.n := by rw [e1]; rfl
        have up : u.phase = x.phase := by rw [e1]; rfl
        have uv : u.view = x.view := by rw [e1]; rfl
        have ur : u.rows = putP x.rows m.n (m.rows.getD 0 default) := by rw [e1]; rfl
        have ul : m.n ≤ u.rows.length := by
          rw [ur]; unfold putP
          split
          · rw [List.length_append, List.length_singleton]; omega
          · omega
        have up2 : putP u.rows m.n (m.rows.getD 0 default) = u.rows := by
          unfold putP
          rw [if_neg (by omega)]
        have e2 : (ledP ⟨u, []⟩ m).state = (tookP ⟨u, []⟩ m.commit).state := by
          unfold ledP
          dsimp only
          rw [if_neg (show ¬ m.src ≠ m.view % u.n by rw [un]; exact f1), if_neg (show ¬ (m.view > u.view ∨ u.phase ≠ 0) by rw [uv, up]; exact h2), if_neg h3, if_neg (show ¬ m.n > (u.rows.length : Int) + 1 by omega), up2]
          rfl
        rw [e2]
        exact took_twice e1
theorem count_again {a : GActor} {u : GNode} (hu : u = (countP a).state) : (countP ⟨u, []⟩).state = u := by
  unfold countP at hu
  split at hu
  · rename_i hl
    have hl' : leadsP u := by rw [hu]; exact hl
    have hfar : setFar u = u.far := by
      rw [hu]
      show (setFar a.state).set a.state.id.toNat (a.state.rows.length : Int) = setFar a.state
      unfold setFar
      rw [List.set_set]
    have hc : max2 u.commit (reachedP u.n u.far) = u.commit := by
      rw [hu]
      dsimp only
      rw [max2_eq, max2_eq]
      omega
    unfold countP
    rw [if_pos hl']
    dsimp only
    rw [hfar, hc]
  · rename_i hl
    subst hu
    unfold countP
    rw [if_neg hl]
theorem done_twice {x u : GNode} {m : GMsg} (hne : m.src.toNat ≠ x.id.toNat) (hlen : m.src.toNat < x.far.length) (hu : u = (doneP ⟨x, []⟩ m).state) : (doneP ⟨u, []⟩ m).state = u := by
  by_cases h1 : ¬ leadsP x ∨ m.view > x.view
  · have hx : u = x := by rw [hu]; unfold doneP; dsimp only; rw [if_pos h1]
    rw [hx]
    unfold doneP
    dsimp only
    rw [if_pos h1]
  · have hl : leadsP x := Classical.byContradiction fun q => h1 (.inl q)
    have e1 : u = (doneB ⟨x, []⟩ m).state := by
      rw [hu]; unfold doneP; dsimp only; rw [if_neg h1]
      split <;> rfl
    have e0 : u = ⟨x.id, x.n, x.view, x.last, x.phase, max2 x.commit (reachedP x.n (setFar { x with far := farP x m })), x.rows, setFar { x with far := farP x m }, x.starts, x.votes⟩ := by
      rw [e1]
      unfold doneB countP
      rw [if_pos (show leadsP (GActor.mk { x with far := farP x m } []).state from hl)]
    have hl' : leadsP u := by rw [e0]; exact hl
    have uv : u.view = x.view := by rw [e0]
    have h1' : ¬ (¬ leadsP u ∨ m.view > u.view) := by rw [uv]; exact fun q => q.elim (fun q => q hl') fun q => h1 (.inr q)
    have ffar : farP u m = u.far := by
      have hg : (setFar { x with far := farP x m }).getD m.src.toNat 0 = max2 (x.far.getD m.src.toNat 0) (min2 m.n x.rows.length) := by
        unfold setFar farP
        rw [List.getD_eq_getElem?_getD, List.getElem?_set_ne (fun q => hne q.symm), List.getElem?_set_self (by exact hlen)]
        rfl
      unfold farP
      rw [e0]
      dsimp only
      refine set_same fun _ => ?_
      show (setFar { x with far := farP x m }).getD m.src.toNat 0 = _
      rw [hg, max2_eq, max2_eq, min2_eq]
      omega
    have e2 : (doneP ⟨u, []⟩ m).state = (doneB ⟨u, []⟩ m).state := by
      unfold doneP; dsimp only; rw [if_neg h1']
      split <;> rfl
    have e3 : doneB ⟨u, []⟩ m = countP ⟨u, []⟩ := by unfold doneB; dsimp only; rw [ffar]
    rw [e2, e3]
    exact count_again e1
theorem adds_in : (all128.all fun s => all8.all fun u => addS (addS s u) u == addS s u) = true := by kernel_rfl
theorem adds_twice {s u : Int} (hs : 0 ≤ s ∧ s ≤ 127) (hu : 0 ≤ u ∧ u ≤ 6) : addS (addS s u) u = addS s u := eq_of_beq (List.all_eq_true.1 (List.all_eq_true.1 adds_in s (mem128 hs)) u (mem8 hu))
theorem with_twice (l : List GVote) (v : GVote) : withP (withP l v) v = withP l v := by
  unfold withP
  rw [List.filter_append, List.filter_filter]
  simp
theorem begins_cases (a : GActor) : beginsP a = a ∨ ((beginsP a).state.phase = 0) := by
  unfold beginsP
  split
  · exact .inl rfl
  · exact .inr (count_phase _)
theorem started_twice {b : GActor} (hs : 0 ≤ b.state.starts ∧ b.state.starts ≤ 127) {m : GMsg} (hm : 0 ≤ m.src ∧ m.src ≤ 6) {u : GNode} (hu : u = (startedP b m).state) : (startedP ⟨u, []⟩ m).state = u := by
  have still : ∀ y : GNode, y.phase ≠ 1 → (startedP ⟨y, []⟩ m).state = y := by
    intro y hy
    unfold startedP
    rw [if_pos hy]
    split <;> rfl
  by_cases hp : ¬ (b.state.phase = 1)
  · have e : u = b.state := by
      rw [hu]; unfold startedP; rw [if_pos hp]
      split <;> rfl
    exact still u (by rw [e]; exact hp)
  have hp := Classical.not_not.1 hp
  have e0 : startedP b m = beginsP (joinV (hadP b m) m) := by unfold startedP; rw [if_neg (by simpa using hp)]
  rcases (begins_cases (joinV (hadP b m) m)).symm with hb | hb
  · exact still u (by rw [hu, e0, hb]; decide)
  have eu : u = (joinV (hadP b m) m).state := by rw [hu, e0, hb]
  have hst : (hadP b m).state.starts = addS b.state.starts m.src := by
    unfold hadP votesP
    split
    · rfl
    · split <;> rfl
  have us : u.starts = addS b.state.starts m.src := by
    rw [eu, ← hst]; unfold joinV; split <;> rfl
  have up : u.phase = 1 := by
    have : (hadP b m).state.phase = b.state.phase := (votes_same _ _).2
    rw [eu]
    have h2 : (joinV (hadP b m) m).state.phase = (hadP b m).state.phase := by unfold joinV; split <;> rfl
    rw [h2, this, hp]
  have e1 : startedP ⟨u, []⟩ m = beginsP (joinV (hadP ⟨u, []⟩ m) m) := by unfold startedP; dsimp only; rw [if_neg (by simpa using up)]
  have e2 : hadP ⟨u, []⟩ m = ⟨u, []⟩ := by
    unfold hadP
    dsimp only
    have hz : addS u.starts m.src = u.starts := by rw [us]; exact adds_twice hs hm
    rw [hz]
    unfold votesP
    dsimp only
    cases he : enoughB u.starts u.n with
    | true => rw [if_pos (.inl rfl)]
    | false => rw [if_pos (.inr rfl)]
  have e3 : joinV ⟨u, []⟩ m = ⟨u, []⟩ := by
    unfold joinV
    split
    · rename_i h5
      have hv : u.votes = withP (hadP b m).state.votes ⟨m.src, m.last, m.commit, m.rows⟩ := by
        rw [eu]; unfold joinV; rw [if_pos h5]
      have : withP u.votes ⟨m.src, m.last, m.commit, m.rows⟩ = u.votes := by rw [hv, with_twice]
      rw [this]
    · rfl
  rw [e1, e2, e3]
  unfold beginsP at hb ⊢
  split at hb
  · rename_i hc
    rw [if_pos (by rw [eu]; exact hc)]
  · rename_i hc
    exfalso
    have : (joinV (hadP b m) m).state.phase = 0 := by
      have h : (allP (begunA (joinV (hadP b m) m)) (begunM (begunA (joinV (hadP b m) m)).state)).state.phase = (joinV (hadP b m) m).state.phase := congrArg (fun a => a.state.phase) hb
      rw [← h]
      exact count_phase _
    rw [← eu, up] at this
    cases this
end Go.Proofs.Ytaooefnmdlajcaa

end
section
set_option linter.unusedVariables false
set_option linter.unusedSimpArgs false
namespace Go.Proofs.Ytaooefnmdlajcaa
open Go Go.Eng
theorem start_twice {x u : GNode} (h : RightN x) {m : GMsg} (hm : RightM m) (hu : u = (startP ⟨x, []⟩ m).state) (hv : m.view ≥ x.view) : (startP ⟨u, []⟩ m).state = u := by
  have hs := hm.head.1
  have hn := size_cases h.size
  have hid := h.id
  by_cases h1 : m.kind = 5 ∧ m.view % x.n ≠ x.id
  · have hx : u = x := by rw [hu]; unfold startP; dsimp only; rw [if_pos h1]
    rw [hx]; unfold startP; dsimp only; rw [if_pos h1]
  ·
    have key : ∀ b : GActor, b.state.id = x.id → b.state.n = x.n → b.state.view = m.view → (0 ≤ b.state.starts ∧ b.state.starts ≤ 127) → startP ⟨x, []⟩ m = startedP b m → (startP ⟨u, []⟩ m).state = u := by
      intro b bi bn bv bs e
      have eu : u = (startedP b m).state := by rw [hu, e]
      have sam : (startedP b m).state.id = b.state.id ∧ (startedP b m).state.n = b.state.n ∧ (startedP b m).state.view = b.state.view := by
        unfold startedP
        split
        · split <;> exact ⟨rfl, rfl, rfl⟩
        · have c := votesP_facts ⟨{ b.state with starts := addS b.state.starts m.src }, b.told⟩ (enoughB b.state.starts b.state.n)
          have j : (joinV (hadP b m) m).state.id = b.state.id ∧ (joinV (hadP b m) m).state.n = b.state.n ∧ (joinV (hadP b m) m).state.view = b.state.view := by
            unfold joinV
            split <;> exact ⟨c.1, c.2.1, c.2.2.1⟩
          unfold beginsP
          split
          · exact j
          · exact ⟨(work_id _).trans j.1, (work_n _).trans j.2.1, (work_view _).trans j.2.2⟩
      have ui : u.id = x.id := by rw [eu, sam.1, bi]
      have un : u.n = x.n := by rw [eu, sam.2.1, bn]
      have uv : u.view = m.view := by rw [eu, sam.2.2, bv]
      have e2 : startP ⟨u, []⟩ m = startedP ⟨u, []⟩ m := by
        unfold startP
        dsimp only
        rw [if_neg (show ¬ (m.kind = 5 ∧ m.view % u.n ≠ u.id) by rw [un, ui]; exact h1), if_neg (show ¬ m.view > u.view by omega)]
      rw [e2]
      exact started_twice bs hs eu
    by_cases h2 : m.view > x.view
    · exact key (enterP ⟨x, []⟩ m.view) rfl rfl rfl (by show 0 ≤ addS 0 x.id ∧ addS 0 x.id ≤ 127; exact addS_range (by omega) (by omega)) (by unfold startP; dsimp only; rw [if_neg h1, if_pos h2])
    · exact key ⟨x, []⟩ rfl rfl (by dsimp only; omega) h.starts (by unfold startP; dsimp only; rw [if_neg h1, if_neg h2])
theorem begP_rows (x : GNode) (m : GMsg) : (begP ⟨x, []⟩ m).state.rows = m.rows := work_rows _
theorem begin_twice {x u : GNode} {m : GMsg} (hv : m.view ≥ x.view) (hu : u = (beginP ⟨x, []⟩ m).state) : (beginP ⟨u, []⟩ m).state = u := by
  by_cases h1 : ¬ (m.src = m.view % x.n)
  · have hx : u = x := by rw [hu]; unfold beginP; dsimp only; rw [if_pos h1]
    rw [hx]; unfold beginP; dsimp only; rw [if_pos h1]
  have h1 := Classical.not_not.1 h1
  have f1 : ¬ m.src ≠ m.view % x.n := by simpa using h1
  have fin : u.n = x.n → u.view = m.view ∨ u.view = x.view ∧ ¬ m.view > x.view → u.phase = 0 → m.rows.length ≤ u.rows.length → (∃ a, u = (tookP a m.commit).state) → (beginP ⟨u, []⟩ m).state = u := by
    intro un uv up ul ⟨a, ha⟩
    have nv : ¬ (m.view > u.view ∨ u.phase ≠ 0) := by
      intro q
      rcases q with q | q
      · rcases uv with w | ⟨w, z⟩ <;> omega
      · exact q up
    have e : (beginP ⟨u, []⟩ m).state = (tookP ⟨u, []⟩ m.commit).state := by
      unfold beginP
      dsimp only
      rw [if_neg (show ¬ m.src ≠ m.view % u.n by rw [un]; exact f1), if_neg nv, if_neg (show ¬ m.rows.length > u.rows.length by omega)]
      rfl
    rw [e]
    exact took_twice ha
  by_cases h2 : m.view > x.view ∨ x.phase ≠ 0
  · have e1 : u = (begP ⟨x, []⟩ m).state := by rw [hu]; unfold beginP; dsimp only; rw [if_neg f1, if_pos h2]; rfl
    obtain ⟨g1, g2, g3, g4⟩ := begP_facts x m
    exact fin (by rw [e1, g2]) (.inl (by rw [e1, g3])) (by rw [e1]; exact count_phase _) (by rw [e1, begP_rows]; omega) ⟨_, e1⟩
  · have hp : x.phase = 0 := Classical.byContradiction fun q => h2 (.inr q)
    have hv : ¬ m.view > x.view := fun q => h2 (.inl q)
    by_cases h3 : m.rows.length > x.rows.length
    · have e1 : u = (tookP ⟨{ x with rows := m.rows }, []⟩ m.commit).state := by rw [hu]; unfold beginP; dsimp only; rw [if_neg f1, if_neg h2, if_pos h3]; rfl
      exact fin (by rw [e1]; rfl) (.inr ⟨by rw [e1]; rfl, hv⟩) (by rw [e1]; exact hp) (by rw [e1]; exact Nat.le_refl _) ⟨_, e1⟩
    · have e1 : u = (tookP ⟨x, []⟩ m.commit).state := by rw [hu]; unfold beginP; dsimp only; rw [if_neg f1, if_neg h2, if_neg h3]; rfl
      exact fin (by rw [e1]; rfl) (.inr ⟨by rw [e1]; rfl, hv⟩) (by rw [e1]; exact hp) (by rw [e1]; show m.rows.length ≤ x.rows.length; omega) ⟨_, e1⟩
theorem get_twice (u : GNode) (m : GMsg) : (getP ⟨u, []⟩ m).state = u := by
  unfold getP
  split <;> rfl
theorem give_twice {x u : GNode} (h : RightN x) {m : GMsg} (hn : 0 ≤ m.n) (hu : u = (giveP ⟨x, []⟩ m).state) : (giveP ⟨u, []⟩ m).state = u := by
  have hm1 := h.may.2.1
  by_cases h1 : m.view > x.view ∨ x.phase = 1 ∨ m.n > mostP x ∨ (x.phase ≠ 2 ∧ m.n + m.rows.length ≤ mostP x)
  · have hx : u = x := by rw [hu]; unfold giveP; dsimp only; rw [if_pos h1]
    rw [hx]; unfold giveP; dsimp only; rw [if_pos h1]
  · have e1 : u = (givC ⟨x, []⟩ m).state := by
      rw [hu]; unfold giveP; dsimp only; rw [if_neg h1]
      split <;> rfl
    have hj : joinP x.rows m.n m.rows = x.rows.take m.n.toNat ++ m.rows ∧ m.n ≤ (x.rows.length : Int) := by
      have : ¬ m.n > (x.rows.length : Int) := by
        intro q
        apply h1
        unfold mostP
        split
        · exact .inr (.inr (.inl (by omega)))
        · exact .inr (.inr (.inl q))
      exact ⟨by unfold joinP; rw [if_neg this], by omega⟩
    have ur : u.rows = joinP x.rows m.n m.rows := by
      rw [e1]; unfold givC
      split
      · exact work_rows _
      · rfl
    have up : u.phase ≠ 2 := by
      rw [e1]; unfold givC
      dsimp only
      split
      · have : (workP (tookP (givB ⟨x, []⟩ m) 0)).state.phase = 0 := count_phase _
        show (workP (tookP (givB ⟨x, []⟩ m) 0)).state.phase ≠ 2
        rw [this]; decide
      · rename_i q; exact q
    have ul : (u.rows.length : Int) = m.n + m.rows.length := by rw [ur, hj.1]; simp; omega
    unfold giveP
    dsimp only
    rw [if_pos (.inr (.inr (.inr ⟨up, by unfold mostP; rw [if_neg up]; omega⟩)))]
theorem heard_twice {x u : GNode} {m : GMsg} (h : Heard x m) (hv : m.view ≥ x.view) (hu : u = (heardP ⟨x, []⟩ m).state) : (heardP ⟨u, []⟩ m).state = u := by
  have g := h.node
  have hn := size_cases g.size
  have hid := g.id
  have hs := h.rng
  have hne := h.ne
  have hfar := g.far
  unfold heardP at hu ⊢
  by_cases k1 : m.kind = 1 ∨ m.kind = 3
  · rw [if_pos k1] at hu ⊢; exact led_twice hu
  rw [if_neg k1] at hu ⊢
  by_cases k2 : m.kind = 2
  · rw [if_pos k2] at hu ⊢; exact done_twice (by omega) (by omega) hu
  rw [if_neg k2] at hu ⊢
  by_cases k3 : m.kind = 4 ∨ m.kind = 5
  · rw [if_pos k3] at hu ⊢; exact start_twice g h.msg hu hv
  rw [if_neg k3] at hu ⊢
  by_cases k4 : m.kind = 6
  · rw [if_pos k4] at hu ⊢; exact begin_twice hv hu
  rw [if_neg k4] at hu ⊢
  by_cases k5 : m.kind = 7
  · rw [if_pos k5] at hu ⊢; exact get_twice u m
  rw [if_neg k5] at hu ⊢
  have kk : 0 ≤ m.n := by rcases h.msg.kind with q | q | q | q | q | q <;> omega
  exact give_twice g kk hu
theorem back_twice {x : GNode} : backA (backA x).state = backA x := by
  obtain ⟨c, hc⟩ : ∃ c : GActor, c = ⟨{ (forgetP ⟨x, []⟩).state with starts := if x.phase = 1 then addS 0 x.id else 0 }, []⟩ := ⟨_, rfl⟩
  have e : backA x = countP c := by rw [hc]; rfl
  have hz : ∀ y : GActor, (countP y).told = y.told := countP_told
  have ct : c.told = [] := by rw [hc]
  have e2 : ∀ y : GNode, y.id = x.id → y.n = x.n → y.view = x.view → y.last = x.last → y.phase = x.phase → y.rows = x.rows → backA y = countP ⟨{ c.state with commit := y.commit }, []⟩ := by
    intro y h1 h2 h3 h4 h5 h6
    unfold backA
    rw [hc]
    simp only [forgetP, h1, h2, h3, h4, h5, h6]
  have f1 : (countP c).state.id = x.id := (countP_id c).trans (by rw [hc]; rfl)
  have f2 : (countP c).state.n = x.n := (countP_n c).trans (by rw [hc]; rfl)
  have f3 : (countP c).state.view = x.view := (count_view c).trans (by rw [hc]; rfl)
  have f4 : (countP c).state.last = x.last := (count_last c).trans (by rw [hc]; rfl)
  have f5 : (countP c).state.phase = x.phase := (count_phase c).trans (by rw [hc]; rfl)
  have f6 : (countP c).state.rows = x.rows := (countP_rows c).trans (by rw [hc]; rfl)
  rw [e, e2 _ f1 f2 f3 f4 f5 f6]
  by_cases hl : leadsP c.state
  · have hm : max2 (max2 c.state.commit (reachedP c.state.n (setFar c.state))) (reachedP c.state.n (setFar c.state)) = max2 c.state.commit (reachedP c.state.n (setFar c.state)) := by rw [max2_eq, max2_eq]; omega
    have ec : countP c = ⟨⟨c.state.id, c.state.n, c.state.view, c.state.last, c.state.phase, max2 c.state.commit (reachedP c.state.n (setFar c.state)), c.state.rows, setFar c.state, c.state.starts, c.state.votes⟩, c.told⟩ := by unfold countP; rw [if_pos hl]
    have e3 : ∀ q, countP ⟨{ c.state with commit := q }, []⟩ = ⟨⟨c.state.id, c.state.n, c.state.view, c.state.last, c.state.phase, max2 q (reachedP c.state.n (setFar c.state)), c.state.rows, setFar c.state, c.state.starts, c.state.votes⟩, []⟩ := by
      intro q
      unfold countP
      rw [if_pos (show leadsP (GActor.mk { c.state with commit := q } []).state from hl)]
      rfl
    rw [e3, ec]
    dsimp only
    rw [hm, ct]
  · have ec : countP c = c := by unfold countP; rw [if_neg hl]
    rw [ec]
    unfold countP
    rw [if_neg (show ¬ leadsP (GActor.mk { c.state with commit := c.state.commit } []).state from hl)]
    rw [← ct]
theorem again_true {k : Nat} (hk : 41 ≤ k) {x : GNode} {m : GMsg} {b : Bool} (hb : f26 k x m (ByteArray.mk #[]) = some b) (hr : m.rows.length < k) (hl : m.rows.length ≤ 9223372036854775807) : f8 k x m = some true := by
  have same : ∀ y, RightN y → f29 k y y = some true := fun y hy => f29_same hk (hy.fit hk)
  have zz : ¬ RightN zeroN := fun q => by have := q.size; revert this; decide
  unfold f8
  rw [hb, bindO_some]
  cases b with
  | true => rw [br_true]
  | false =>
    rw [br_false]
    obtain ⟨rH, rH2, eH, eH2, pH⟩ : ∃ r r2, f27 k x m = some r ∧ f27 k r.1 m = some r2 ∧ ((r.2.2 != (0 : Int)) = false → (r2.2.2 == (0 : Int)) = true ∧ f29 k r.1 r2.1 = some true) := by
      rcases hear_ok hk (x := x) hr hl with ⟨_, e⟩ | ⟨H, e⟩
      · rcases hear_ok hk (x := zeroN) hr hl with ⟨_, e2⟩ | ⟨H, _⟩
        · exact ⟨_, _, e, e2, fun q => by cases q⟩
        · exact absurd H.node zz
      · have hx := H.node
        by_cases hge : m.view ≥ x.view
        · rw [if_pos hge] at e
          obtain ⟨r1, r2⟩ := heard_RA H hge
          have Hu : Heard (heardP ⟨x, []⟩ m).state m := ⟨r1.node, H.msg, by rw [r2.id]; exact H.to, by rw [r2.n]; exact H.src⟩
          rcases hear_ok hk (x := (heardP ⟨x, []⟩ m).state) hr hl with ⟨q, _⟩ | ⟨_, e2⟩
          · exact absurd Hu q
          · refine ⟨_, _, e, e2, fun _ => ?_⟩
            split
            · exact ⟨rfl, by dsimp only; rw [heard_twice H hge rfl]; exact same _ r1.node⟩
            · exact ⟨rfl, same _ r1.node⟩
        · rw [if_neg hge] at e
          exact ⟨_, _, e, e, fun _ => ⟨rfl, same x hx⟩⟩
    obtain ⟨rB, rB2, eB, eB2, pB⟩ : ∃ r r2, f30 k x = some r ∧ f30 k r.1 = some r2 ∧ ((r.2 == (0 : Int)) = true → (r2.2 != (0 : Int)) = false ∧ f29 k r.1 r2.1 = some true) := by
      by_cases hx : RightN x
      · have h1 := back_RA hx
        refine ⟨_, _, back_right hk hx, back_right hk h1.1, fun _ => ⟨rfl, ?_⟩⟩
        dsimp only
        rw [back_twice]
        exact same _ h1.1
      · exact ⟨_, _, back_wrong hk hx, back_wrong hk zz, fun q => by cases q⟩
    rw [eB, bindO_some, eB2, bindO_some, eH, bindO_some, eH2, bindO_some]
    cases hB : (rB.2 == (0 : Int)) <;> cases hH : (rH.2.2 != (0 : Int))
    all_goals
      have pB := pB
      have pH := pH
      simp only [hB, hH, true_implies, Bool.false_eq_true, Bool.true_eq_false, false_implies] at pB pH
      simp only [br_true, br_false, pB, pH, bindO_some, Bool.not_true, eH, eH2]
theorem again_all (x : GNode) (m : GMsg) (h1 : x.rows.length ≤ maxLen) (h2 : ∀ v ∈ x.votes, v.rows.length ≤ maxLen) (h3 : m.rows.length ≤ maxLen) : ∃ k, f8 k x m = some true := by
  rw [max_is] at h1 h3
  obtain ⟨k, k1, _, k2, k3, k4⟩ := rounds_for x m 0
  obtain ⟨b, hb⟩ := f26_tot (s := ByteArray.mk #[]) k1 ⟨k2, h1⟩ (fun v hv => ⟨k4 v hv, by have := h2 v hv; rw [max_is] at this; exact this⟩) ⟨k3, h3⟩
  exact ⟨k, again_true k1 hb k3 h3⟩
theorem nodeAgain_true (x0 : GNode) (x1 : GMsg) (g0 : ((Lit.int .i64 x0.id).wf = true) ∧ ((Lit.int .i64 x0.n).wf = true) ∧ ((Lit.int .i64 x0.view).wf = true) ∧ ((Lit.int .i64 x0.last).wf = true) ∧ ((Lit.int .i64 x0.phase).wf = true) ∧ ((Lit.int .i64 x0.commit).wf = true) ∧ (x0.rows.length ≤ maxLen ∧ ∀ x1 ∈ x0.rows, x1.size ≤ maxLen) ∧ (x0.far.length ≤ maxLen ∧ ∀ x1 ∈ x0.far, (Lit.int .i64 x1).wf = true) ∧ ((Lit.int .i64 x0.starts).wf = true) ∧ (x0.votes.length ≤ maxLen ∧ ∀ x1 ∈ x0.votes, ((Lit.int .i64 x1.src).wf = true) ∧ ((Lit.int .i64 x1.last).wf = true) ∧ ((Lit.int .i64 x1.commit).wf = true) ∧ (x1.rows.length ≤ maxLen ∧ ∀ x2 ∈ x1.rows, x2.size ≤ maxLen))) (g1 : ((Lit.int .i64 x1.kind).wf = true) ∧ ((Lit.int .i64 x1.src).wf = true) ∧ ((Lit.int .i64 x1.to).wf = true) ∧ ((Lit.int .i64 x1.view).wf = true) ∧ ((Lit.int .i64 x1.last).wf = true) ∧ ((Lit.int .i64 x1.n).wf = true) ∧ ((Lit.int .i64 x1.commit).wf = true) ∧ (x1.rows.length ≤ maxLen ∧ ∀ x2 ∈ x1.rows, x2.size ≤ maxLen)) : ∃ k, f8 k x0 x1 = some true := by
  obtain ⟨-, -, -, -, -, -, ⟨h1, -⟩, -, -, ⟨-, h2⟩⟩ := g0
  obtain ⟨-, -, -, -, -, -, -, ⟨h3, -⟩⟩ := g1
  exact again_all x0 x1 h1 (fun v hv => (h2 v hv).2.2.2.1) h3
end Go.Proofs.Ytaooefnmdlajcaa

end
section
set_option linter.unusedVariables false
namespace Go.Proofs.Ytaooefnmdlajcaa.nodeAgain
open Go.Eng Go.Proofs.Ytaooefnmdlajcaa
open Go.ChangeShapes Go.WideShapes Go.ChangeAt Go.RowKit
open Go.ChangeMaps (open_string shut_string)
theorem own : ownKnob Try.prog.godebug = none := by kernel_rfl
theorem laidOut : laidOutB Try.prog = true := by kernel_rfl
theorem rd3 {H : Type} {enc : TypeId × Value → H} {W : World} : RdL enc Try.prog W (fun x : Int => [.int .i64 x]) 3 (fun x => (Lit.int .i64 x).wf = true) := RdL.int Try.underlying3
theorem rd9 {H : Type} {enc : TypeId × Value → H} {W : World} : RdL enc Try.prog W (fun x : ByteArray => [.str x]) 9 (fun x => x.size ≤ maxLen) := RdL.str Try.underlying9
theorem rd39 {H : Type} {enc : TypeId × Value → H} {W : World} : RdL enc Try.prog W (fun x : List ByteArray => [.dsl 9 x]) 39 (fun x => x.length ≤ maxLen ∧ ∀ x0 ∈ x, x0.size ≤ maxLen) := RdL.slice Try.underlying39 (by kernel_rfl) (RdL.iso rd9 (fun x => x) (fun _ => rfl) (fun _ h => h))
theorem rd40 {H : Type} {enc : TypeId × Value → H} {W : World} : RdL enc Try.prog W (fun x : List Int => [.dsl 3 x]) 40 (fun x => x.length ≤ maxLen ∧ ∀ x0 ∈ x, (Lit.int .i64 x0).wf = true) := RdL.slice Try.underlying40 (by kernel_rfl) (RdL.iso rd3 (fun x => x) (fun _ => rfl) (fun _ h => h))
theorem rd89 {H : Type} {enc : TypeId × Value → H} {W : World} : RdL enc Try.prog W (fun x : GVote => [.int .i64 x.src, .int .i64 x.last, .int .i64 x.commit, .dsl 9 x.rows]) 89 (fun x => ((Lit.int .i64 x.src).wf = true) ∧ ((Lit.int .i64 x.last).wf = true) ∧ ((Lit.int .i64 x.commit).wf = true) ∧ (x.rows.length ≤ maxLen ∧ ∀ x0 ∈ x.rows, x0.size ≤ maxLen)) := RdL.iso (RdL.struct (m := 4) Try.underlying89 (by kernel_rfl) (RdF.cons (o := 0) (n := 1) rd3 rfl (by kernel_rfl) (by decide) (RdF.cons (o := 1) (n := 1) rd3 rfl (by kernel_rfl) (by decide) (RdF.cons (o := 2) (n := 1) rd3 rfl (by kernel_rfl) (by decide) (RdF.last (o := 3) (n := 1) rd39 rfl (by kernel_rfl) rfl))))) (fun p => (⟨p.1, p.2.1, p.2.2.1, p.2.2.2⟩ : GVote)) (fun _ => rfl) (fun _ h => h)
theorem rd41 {H : Type} {enc : TypeId × Value → H} {W : World} : RdL enc Try.prog W (fun x : List GVote => [.dsl 89 x]) 41 (fun x => x.length ≤ maxLen ∧ ∀ x0 ∈ x, ((Lit.int .i64 x0.src).wf = true) ∧ ((Lit.int .i64 x0.last).wf = true) ∧ ((Lit.int .i64 x0.commit).wf = true) ∧ (x0.rows.length ≤ maxLen ∧ ∀ x1 ∈ x0.rows, x1.size ≤ maxLen)) := RdL.slice Try.underlying41 (by kernel_rfl) (RdL.iso rd89 (fun x => x) (fun _ => rfl) (fun _ h => h))
theorem rd43 {H : Type} {enc : TypeId × Value → H} {W : World} : RdL enc Try.prog W (fun x : GNode => [.int .i64 x.id, .int .i64 x.n, .int .i64 x.view, .int .i64 x.last, .int .i64 x.phase, .int .i64 x.commit, .dsl 9 x.rows, .dsl 3 x.far, .int .i64 x.starts, .dsl 89 x.votes]) 43 (fun x => ((Lit.int .i64 x.id).wf = true) ∧ ((Lit.int .i64 x.n).wf = true) ∧ ((Lit.int .i64 x.view).wf = true) ∧ ((Lit.int .i64 x.last).wf = true) ∧ ((Lit.int .i64 x.phase).wf = true) ∧ ((Lit.int .i64 x.commit).wf = true) ∧ (x.rows.length ≤ maxLen ∧ ∀ x0 ∈ x.rows, x0.size ≤ maxLen) ∧ (x.far.length ≤ maxLen ∧ ∀ x0 ∈ x.far, (Lit.int .i64 x0).wf = true) ∧ ((Lit.int .i64 x.starts).wf = true) ∧ (x.votes.length ≤ maxLen ∧ ∀ x0 ∈ x.votes, ((Lit.int .i64 x0.src).wf = true) ∧ ((Lit.int .i64 x0.last).wf = true) ∧ ((Lit.int .i64 x0.commit).wf = true) ∧ (x0.rows.length ≤ maxLen ∧ ∀ x1 ∈ x0.rows, x1.size ≤ maxLen))) := RdL.iso (RdL.struct (m := 10) Try.underlying43 (by kernel_rfl) (RdF.cons (o := 0) (n := 1) rd3 rfl (by kernel_rfl) (by decide) (RdF.cons (o := 1) (n := 1) rd3 rfl (by kernel_rfl) (by decide) (RdF.cons (o := 2) (n := 1) rd3 rfl (by kernel_rfl) (by decide) (RdF.cons (o := 3) (n := 1) rd3 rfl (by kernel_rfl) (by decide) (RdF.cons (o := 4) (n := 1) rd3 rfl (by kernel_rfl) (by decide) (RdF.cons (o := 5) (n := 1) rd3 rfl (by kernel_rfl) (by decide) (RdF.cons (o := 6) (n := 1) rd39 rfl (by kernel_rfl) (by decide) (RdF.cons (o := 7) (n := 1) rd40 rfl (by kernel_rfl) (by decide) (RdF.cons (o := 8) (n := 1) rd3 rfl (by kernel_rfl) (by decide) (RdF.last (o := 9) (n := 1) rd41 rfl (by kernel_rfl) rfl))))))))))) (fun p => (⟨p.1, p.2.1, p.2.2.1, p.2.2.2.1, p.2.2.2.2.1, p.2.2.2.2.2.1, p.2.2.2.2.2.2.1, p.2.2.2.2.2.2.2.1, p.2.2.2.2.2.2.2.2.1, p.2.2.2.2.2.2.2.2.2⟩ : GNode)) (fun _ => rfl) (fun _ h => h)
theorem rd45 {H : Type} {enc : TypeId × Value → H} {W : World} : RdL enc Try.prog W (fun x : GMsg => [.int .i64 x.kind, .int .i64 x.src, .int .i64 x.to, .int .i64 x.view, .int .i64 x.last, .int .i64 x.n, .int .i64 x.commit, .dsl 9 x.rows]) 45 (fun x => ((Lit.int .i64 x.kind).wf = true) ∧ ((Lit.int .i64 x.src).wf = true) ∧ ((Lit.int .i64 x.to).wf = true) ∧ ((Lit.int .i64 x.view).wf = true) ∧ ((Lit.int .i64 x.last).wf = true) ∧ ((Lit.int .i64 x.n).wf = true) ∧ ((Lit.int .i64 x.commit).wf = true) ∧ (x.rows.length ≤ maxLen ∧ ∀ x0 ∈ x.rows, x0.size ≤ maxLen)) := RdL.iso (RdL.struct (m := 8) Try.underlying45 (by kernel_rfl) (RdF.cons (o := 0) (n := 1) rd3 rfl (by kernel_rfl) (by decide) (RdF.cons (o := 1) (n := 1) rd3 rfl (by kernel_rfl) (by decide) (RdF.cons (o := 2) (n := 1) rd3 rfl (by kernel_rfl) (by decide) (RdF.cons (o := 3) (n := 1) rd3 rfl (by kernel_rfl) (by decide) (RdF.cons (o := 4) (n := 1) rd3 rfl (by kernel_rfl) (by decide) (RdF.cons (o := 5) (n := 1) rd3 rfl (by kernel_rfl) (by decide) (RdF.cons (o := 6) (n := 1) rd3 rfl (by kernel_rfl) (by decide) (RdF.last (o := 7) (n := 1) rd39 rfl (by kernel_rfl) rfl))))))))) (fun p => (⟨p.1, p.2.1, p.2.2.1, p.2.2.2.1, p.2.2.2.2.1, p.2.2.2.2.2.1, p.2.2.2.2.2.2.1, p.2.2.2.2.2.2.2⟩ : GMsg)) (fun _ => rfl) (fun _ h => h)
set_option maxRecDepth 100000 in
theorem lifted (os : Os) (started : os.Started) (H : Type) (enc : TypeId × Value → H) :
    ReturnsInHanded {} Try.checked os 8 .any (Rows.nodeAgainSpec.pre6 enc Try.prog Try.f8 Rows.nodeAgainRow.domain false) (Rows.nodeAgainSpec.post enc Try.prog Try.f8 false true false false) := by
  refine returnsInHanded_of_change_sized (C := Try.checked) own started (by kernel_rfl) Try.func8
    (ChangeSpec.witness6 (enc := enc) (C := Try.checked) false ⟨#[], #[.agg #[.int .i64 0, .int .i64 0, .int .i64 0, .int .i64 0, .int .i64 0, .int .i64 0, .slice none 0 0, .slice none 0 0, .int .i64 0, .slice none 0 0], .agg #[.int .i64 0, .int .i64 0, .int .i64 0, .int .i64 0, .int .i64 0, .int .i64 0, .int .i64 0, .slice none 0 0]], []⟩ 8 (by kernel_rfl) (by kernel_rfl) (by kernel_rfl) (by kernel_rfl)) ?_
  intro W base args ds gs before hval0 hW hcnd hsz0 _
  have hval : ∀ (j : Nat) t v, Try.f8.params[j]? = some t → args[j]? = some v → Value.okWide Try.prog W .any base t v := hval0
  have hW' := hW
  obtain ⟨p, q, hA0, hV, rfl, hfz, hnd⟩ := hW
  have hA : DataW.TrodAll enc Try.prog W 0 (fun _ => true) true Try.f8.params.toList args.toList ds p := hA0
  rw [Try.params8] at hA hval
  obtain ⟨v0, vs0, d0, ds0, p0, q0, hargs, rfl, rfl, h0, r0⟩ := trodAll_cons hA
  obtain ⟨v1, vs1, d1, ds1, p1, q1, rfl, rfl, rfl, h1, r1⟩ := trodAll_cons r0
  obtain ⟨rfl, rfl, rfl⟩ := trodAll_nil r1
  obtain rfl : args = #[v0, v1] := by cases args; simp_all
  obtain ⟨rfl, rfl⟩ := trodVars_none hV
  have k0 := h0
  have lt0 : ∀ x ∈ p0, x.block < W.heap.size := by obtain ⟨m, hm⟩ := k0; exact DataW.trod_lt m _ _ _ hm
  obtain ⟨cs0, rfl, hz0⟩ := okWide_struct Try.underlying43 (hval 0 43 v0 rfl rfl)
  obtain ⟨a0, g0, c0⟩ := rd43 _ (Read.of h0) (by simpa [Value.cells] using hz0)
  have e0 : rel0 W (.agg [.int .i64 a0.id, .int .i64 a0.n, .int .i64 a0.view, .int .i64 a0.last, .int .i64 a0.phase, .int .i64 a0.commit, .dsl 9 a0.rows, .dsl 3 a0.far, .int .i64 a0.starts, .dsl 89 a0.votes]) (.agg cs0) := .agg (vs := cs0.toList) c0.1 (fun x hx => by
    obtain ⟨i, hi⟩ := List.mem_iff_getElem?.1 hx
    obtain ⟨hlt, _⟩ := List.getElem?_eq_some_iff.1 hi
    exact (c0.2 i _ x (List.getElem?_eq_getElem (by rw [c0.1]; exact hlt)) hi).1) (fun i a v h1 h2 => (c0.2 i a v h1 h2).2)
  have k1 := h1
  have lt1 : ∀ x ∈ p1, x.block < W.heap.size := by obtain ⟨m, hm⟩ := k1; exact DataW.trod_lt m _ _ _ hm
  obtain ⟨cs1, rfl, hz1⟩ := okWide_struct Try.underlying45 (hval 1 45 v1 rfl rfl)
  obtain ⟨a1, g1, c1⟩ := rd45 _ (Read.of h1) (by simpa [Value.cells] using hz1)
  have e1 : rel0 W (.agg [.int .i64 a1.kind, .int .i64 a1.src, .int .i64 a1.to, .int .i64 a1.view, .int .i64 a1.last, .int .i64 a1.n, .int .i64 a1.commit, .dsl 9 a1.rows]) (.agg cs1) := .agg (vs := cs1.toList) c1.1 (fun x hx => by
    obtain ⟨i, hi⟩ := List.mem_iff_getElem?.1 hx
    obtain ⟨hlt, _⟩ := List.getElem?_eq_some_iff.1 hi
    exact (c1.2 i _ x (List.getElem?_eq_getElem (by rw [c1.1]; exact hlt)) hi).1) (fun i a v h1 h2 => (c1.2 i a v h1 h2).2)
  clear hA0 hval0 hsz0
  obtain ⟨k, hk⟩ := nodeAgain_true a0 a1 g0 g1
  have hc : CallOk Try.prog 8 (A8 (a0, a1)) [] 0 (.ret (.bool true)) _ _ := entry_call elAll_ok (g8_ok k) (show d8 (A8 (a0, a1)) [] = some (a0, a1) by kernel_rfl) hk
  have hv : VRels (fun _ => none) (ro0 W) W (A8 (a0, a1)) [_, _] := .cons e0 (.cons e1 (VRels.nil))
  refine (law_call hc hv).mono fun e W' he => ?_
  obtain ⟨rfl, bel⟩ := he
  exact ⟨_, rfl, _, _, _, [], _, [], hW', trodAll_mk1 (shut_bool Try.underlying4 _), (trodAll_cons_mk (Below.trod laidOut (by kernel_rfl) (of_decide_eq_true (by kernel_rfl)) k0 bel lt0) (trodAll_cons_mk (Below.trod laidOut (by kernel_rfl) (of_decide_eq_true (by kernel_rfl)) k1 bel lt1) trodAll_mk0)), rfl, bel.frame _, fun h => by cases h⟩
theorem over : Rows.nodeAgainRow.holds Try.pinned (OpenSpec.ofChange Rows.nodeAgainSpec) :=
  OpenClaim.holds_of_wide 8 Try.f8 rfl rfl rfl rfl rfl rfl rfl ⟨rfl, rfl, rfl, rfl, rfl⟩ rfl rfl rfl rfl rfl (by kernel_rfl) Try.func8 (by kernel_rfl)
    (of_decide_eq_true (by kernel_rfl)) (by unfold Func.isWrapper; first | (rw [if_pos (by decide +kernel)]; kernel_rfl) | (rw [if_neg (by decide +kernel)]; exact ⟨rfl, rfl⟩))
    (fun os started H enc _ => lifted os started H enc)
end Go.Proofs.Ytaooefnmdlajcaa.nodeAgain
namespace Go.Proofs.Ytaooefnmdlajcaa
theorem nodeAgain_holds : Rows.NodeAgainSaid := nodeAgain.over
end Go.Proofs.Ytaooefnmdlajcaa

end
