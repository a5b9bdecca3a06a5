/- Part 0 of the proof of MuteTotal. -/
import Derived.Below
import Derived.Deep.Draws
import Derived.Deep.AppendLies
import Derived.Maps.AppendAt
import Derived.OwnWalk
import Derived.Laws.BytesArg
import Derived.Laws.MakeOwn
import Derived.Laws.OwnMore
import Derived.Deep.OwnRows
import Derived.Tactics
import Derived.Lib.ConvBytes
import Derived.Laws.Slices
import Derived.WalkKit
import Derived.KernelRfl
import Derived.RowKit3
import Derived.Deep.LoopGhost
import Derived.Deep.QuietTactic
import Derived.BigQuiet
import Derived.WideLaws
import Derived.Deep.DeepCutAuto
import Derived.Deep.CutBlock
import Derived.Deep.RegionHeld3
import Derived.Laws.Rows
import Derived.Lib.AppendStr
import Derived.ArgAppend
import Derived.Laws.IdiomCopy
import Derived.RowKit
import Derived.OrdersHeld
import Derived.Laws.BitsLemmas
import Derived.Laws.StructEq
import Derived.Deep.MidRow
import Derived.Great.BuildSlice
import Derived.Orders
set_option linter.unusedVariables false
set_option linter.unusedSimpArgs false
set_option linter.unusedSectionVars false
set_option linter.unusedVariables false
set_option linter.unusedSimpArgs false
namespace Go.Proofs.YtaooefnmdlajcaaW.PrintWords
open Go.RowKit
structure Aside0 (p : Prop) : Prop where mk :: (out : p)
structure Drawn0 (w w' : World) : Prop where mk :: (out : ∃ n, w' = w.drewN n)
theorem Drawn0.refl (w : World) : Drawn0 w w := ⟨⟨0, rfl⟩⟩
theorem Drawn0.step {w w' : World} (h : Drawn0 w w') (n : Nat) : Drawn0 w (w'.drewN n) := by
  obtain ⟨m, rfl⟩ := h
  exact ⟨⟨m + n, World.drewN_drewN ..⟩⟩
theorem Drawn0.grown {w w' : World} (h : Drawn0 w w') : Grown w w' := by
  obtain ⟨n, rfl⟩ := h
  induction n with
  | zero => exact Grown.refl _
  | succ n ih => rw [← World.drew_drewN]; exact Grown.drew ih
theorem Drawn0.below {w w' : World} (h : Drawn0 w w') : Below w.heap.size w w' := by
  obtain ⟨n, rfl⟩ := h
  induction n with
  | zero => exact Below.refl _ _
  | succ n ih => rw [← World.drew_drewN]; exact ih.drew
def rd (xs : List Int) (i : Int) : Int := xs.getD i.toNat 0
theorem below_alloc {w W : World} (h : Below w.heap.size w W) (o : Obj) : Below w.heap.size w (W.alloc o) := h.alloc h.size o
theorem below_drew {B : Nat} {w W : World} (h : Below B w W) : Below B w W.drew := ⟨h.os, h.tape, h.output, h.size, h.block⟩
theorem pw_below_drewN {B : Nat} {w W : World} (h : Below B w W) (n : Nat) : Below B w (W.drewN n) := ⟨h.os, h.tape, h.output, h.size, h.block⟩
theorem below_then {B : Nat} {w w1 w2 : World} (h : Below B w w1) (hB : B ≤ w1.heap.size) (k : Below w1.heap.size w1 w2) : Below B w w2 :=
  h.trans ⟨k.os, k.tape, k.output, k.size, fun i hi => k.block i (Nat.lt_of_lt_of_le hi hB)⟩
theorem grown_of_below {w w1 : World} (h : Below w.heap.size w w1) (row : Option Nat) : w.grownBy w1 row := ⟨h.os, h.tape, h.output, h.size, fun i hi _ => h.block i hi⟩
theorem pw_cell_below {w w1 : World} (h : Below w.heap.size w w1) {a : Addr} {v : Value} (hc : w.cell? a = some v) : w1.cell? a = some v := (h.cell (World.block_lt_of_cell? w a hc)).trans hc
theorem add_plain (g j : Nat) : (⟨g, 0, none⟩ : Addr).add j = ⟨g, j, none⟩ := by unfold Addr.add; split <;> simp_all
def ReadsInt (w : World) (k : IntKind) (A : Option Addr) (n : Nat) (xs : List Int) : Prop :=
  xs.length = n ∧ n ≤ 9223372036854775807 ∧ (0 < n → ∃ ad, A = some ad ∧ ∀ j, j < n → w.cell? (ad.add j) = some (.int k (xs.getD j 0)))
theorem ReadsInt.at_ {w : World} {k : IntKind} {A : Option Addr} {n : Nat} {xs : List Int} (h : ReadsInt w k A n xs) (i : Int) (h0 : 0 ≤ i) (h1 : i < n) : ∃ ad, A = some ad ∧ w.cell? (ad.add i.toNat) = some (.int k (rd xs i)) := by
  obtain ⟨ad, e, hc⟩ := h.2.2 (by omega)
  exact ⟨ad, e, hc _ (by omega)⟩
theorem ReadsInt.below {w w1 : World} {k : IntKind} {A : Option Addr} {n : Nat} {xs : List Int} (h : ReadsInt w k A n xs) (hb : Below w.heap.size w w1) : ReadsInt w1 k A n xs :=
  ⟨h.1, h.2.1, fun hn => by
    obtain ⟨ad, e, hc⟩ := h.2.2 hn
    exact ⟨ad, e, fun j hj => pw_cell_below hb (hc j hj)⟩⟩
theorem own_nil (W : World) (base : Nat) (e : TypeId) (size : Nat) : W.ownsRow base e size (.slice none 0 0) 0 [] := ⟨by simp, .inl ⟨rfl, rfl⟩⟩
theorem own_base {w : World} {base : Nat} {e : TypeId} {size n : Nat} {v : Value} {xs : List Value} (h : w.ownsRow base e size v n xs) (k : Nat) (hk : v.ownBlock = some k) : base ≤ k := by
  rcases h.2 with ⟨rfl, _⟩ | ⟨g, cap, cur, rfl, hb, _⟩
  · simp [Value.ownBlock] at hk
  · have : g = k := by simpa [Value.ownBlock] using hk
    omega
theorem own_lt {w : World} {base : Nat} {e : TypeId} {size n : Nat} {v : Value} {xs : List Value} (h : w.ownsRow base e size v n xs) (k : Nat) (hk : v.ownBlock = some k) : k < w.heap.size := by
  rcases h.2 with ⟨rfl, _⟩ | ⟨g, cap, cur, rfl, hb, hh, _⟩
  · simp [Value.ownBlock] at hk
  · have : g = k := by simpa [Value.ownBlock] using hk
    subst this
    exact (Array.getElem?_eq_some_iff.1 hh).1
theorem pw_own_below {w w1 : World} {base : Nat} {e : TypeId} {size n : Nat} {v : Value} {xs : List Value} (h : w.ownsRow base e size v n xs) (hb : Below w.heap.size w w1) : w1.ownsRow base e size v n xs :=
  h.kept (grown_of_below hb none) (by cases v.ownBlock <;> simp)
section
variable {P : Program} {ops : Array Oper} {rest : List Oper} {o : Oper} {a : Act} {Q : Exit → Act → World → Prop}
end
section
variable {P : Program}
end
section
variable {P : Program} {ops : Array Oper} {rest : List Oper} {o : Oper} {a : Act} {Q : Exit → Act → World → Prop}
end
theorem ReadsInt.take_ {w : World} {k : IntKind} {A : Option Addr} {n : Nat} {xs : List Int} (h : ReadsInt w k A n xs) (i : Nat) (hi : i ≤ n) : ReadsInt w k A i (xs.take i) := by
  refine ⟨by rw [List.length_take, h.1]; omega, by have := h.2.1; omega, fun hp => ?_⟩
  obtain ⟨ad, e, hc⟩ := h.2.2 (by omega)
  refine ⟨ad, e, fun j hj => ?_⟩
  rw [hc j (by omega)]
  simp [List.getD_eq_getElem?_getD, hj]
def LeO {α : Type} (a b : Option α) : Prop := ∀ r, a = some r → b = some r
theorem LeO.refl {α : Type} (a : Option α) : LeO a a := fun _ h => h
theorem LeO.none {α : Type} (b : Option α) : LeO Option.none b := fun _ h => by cases h
theorem LeO.trans {α : Type} {a b c : Option α} (h : LeO a b) (k : LeO b c) : LeO a c := fun r hr => k r (h r hr)
theorem LeO.ite {α : Type} {c : Prop} [Decidable c] {a a' b b' : Option α} (h : LeO a a') (k : LeO b b') : LeO (if c then a else b) (if c then a' else b') := by
  split
  · exact h
  · exact k
theorem LeO.bind {α β : Type} {a a' : Option α} {f f' : α → Option β} (h : LeO a a') (k : ∀ x, LeO (f x) (f' x)) : LeO (a.bind f) (a'.bind f') := by
  intro r hr
  obtain ⟨x, hx, hf⟩ := Option.bind_eq_some_iff.1 hr
  exact Option.bind_eq_some_iff.2 ⟨x, h x hx, k x r hf⟩
theorem LeO.map {α β : Type} {a a' : Option α} (f : α → β) (h : LeO a a') : LeO (a.map f) (a'.map f) := by
  intro r hr
  obtain ⟨x, hx, hf⟩ := Option.map_eq_some_iff.1 hr
  exact Option.map_eq_some_iff.2 ⟨x, h x hx, hf⟩
theorem more_rounds {α : Type} {g : Nat → Option α} (h : ∀ k, LeO (g k) (g (k + 1))) (k : Nat) : ∀ j, LeO (g k) (g (k + j))
  | 0 => LeO.refl _
  | j + 1 => (more_rounds h k j).trans (h (k + j))
theorem at_rounds {α : Type} {g : Nat → Option α} (h : ∀ k, LeO (g k) (g (k + 1))) {k k' : Nat} (hk : k ≤ k') {r : α} (hr : g k = some r) : g k' = some r := by
  have := more_rounds h k (k' - k) r hr
  rwa [Nat.add_sub_cancel' hk] at this
def Reps {α : Type} (R : α → List Value → Prop) (size : Nat) (ps : List α) (cs : List Value) : Prop :=
  cs.length = ps.length * size ∧ ∀ j p, ps[j]? = some p → R p ((cs.drop (j * size)).take size)
theorem Reps.none {α : Type} (R : α → List Value → Prop) (size : Nat) : Reps R size [] [] := ⟨by simp, fun j p h => by simp at h⟩
theorem Reps.snoc {α : Type} {R : α → List Value → Prop} {size : Nat} {ps : List α} {cs c : List Value} {p : α} (h : Reps R size ps cs) (hp : R p c) (hc : c.length = size) : Reps R size (ps ++ [p]) (cs ++ c) := by
  refine ⟨by rw [List.length_append, h.1, hc, List.length_append, List.length_singleton, Nat.add_mul, Nat.one_mul], fun j q hq => ?_⟩
  rcases Nat.lt_or_ge j ps.length with hj | hj
  · rw [List.getElem?_append_left hj] at hq
    have h1 : j * size + size ≤ cs.length := by rw [h.1, ← Nat.succ_mul]; exact Nat.mul_le_mul_right _ hj
    have h2 := h.2 j q hq
    rw [List.drop_append_of_le_length (by omega), List.take_append_of_le_length (by rw [List.length_drop]; omega)]
    exact h2
  · have hj' : j = ps.length := by
      have := (List.getElem?_eq_some_iff.1 hq).1
      rw [List.length_append, List.length_singleton] at this
      omega
    subst hj'
    have hq' : p = q := by simpa using hq
    subst hq'
    rw [← h.1, List.drop_left, ← hc, List.take_length]
    exact hp
theorem Reps.imp_ {α : Type} {R R' : α → List Value → Prop} {size : Nat} {ps : List α} {cs : List Value} (h : Reps R size ps cs) (hR : ∀ p c, R p c → R' p c) : Reps R' size ps cs := ⟨h.1, fun j p hj => hR _ _ (h.2 j p hj)⟩
def ReadsRow {α : Type} (R : α → List Value → Prop) (size : Nat) (w : World) (A : Option Addr) (n : Nat) (ps : List α) : Prop :=
  ps.length = n ∧ n ≤ 9223372036854775807 ∧ (0 < n → ∃ ad, A = some ad ∧ ∀ j p, ps[j]? = some p → ∃ c, c.length = size ∧ R p c ∧ ∀ i u, c[i]? = some u → w.cell? (ad.add (j * size + i)) = some u)
theorem ReadsRow.get_ {α : Type} {R : α → List Value → Prop} {size : Nat} {w : World} {A : Option Addr} {n : Nat} {ps : List α} (h : ReadsRow R size w A n ps) (d : α) (i : Int) (h0 : 0 ≤ i) (h1 : i < n) :
    ∃ ad c, A = some ad ∧ c.length = size ∧ R (ps.getD i.toNat d) c ∧ ∀ j u, c[j]? = some u → w.cell? (ad.add (i.toNat * size + j)) = some u := by
  obtain ⟨ad, e, hc⟩ := h.2.2 (by omega)
  have hl : i.toNat < ps.length := by have := h.1; omega
  obtain ⟨c, hs, hr, hcell⟩ := hc i.toNat _ (List.getElem?_eq_getElem hl)
  refine ⟨ad, c, e, hs, ?_, hcell⟩
  rw [List.getD_eq_getElem?_getD, List.getElem?_eq_getElem hl]
  exact hr
theorem ReadsRow.imp_ {α : Type} {R R' : α → List Value → Prop} {size : Nat} {w w1 : World} {A : Option Addr} {n : Nat} {ps : List α} (h : ReadsRow R size w A n ps) (hb : Below w.heap.size w w1) (hR : ∀ p c, R p c → R' p c) : ReadsRow R' size w1 A n ps :=
  ⟨h.1, h.2.1, fun hn => by
    obtain ⟨ad, e, hc⟩ := h.2.2 hn
    refine ⟨ad, e, fun j p hj => ?_⟩
    obtain ⟨c, hs, hr, hcell⟩ := hc j p hj
    exact ⟨c, hs, hR _ _ hr, fun i u hu => pw_cell_below hb (hcell i u hu)⟩⟩
theorem own_reads_row {α : Type} {R : α → List Value → Prop} {w : World} {base n size : Nat} {e : TypeId} {v : Value} {ps : List α} {cs : List Value} (h : w.ownsRow base e size v n cs) (hR : Reps R size ps cs) (hn : ps.length = n) :
    ∃ A c, v = .slice A n c ∧ ReadsRow R size w A n ps := by
  rcases Nat.eq_zero_or_pos n with h0 | h0
  · rcases h.2 with ⟨rfl, rfl⟩ | ⟨g, cap, cur, rfl, _⟩
    · exact ⟨none, 0, rfl, hn, by omega, fun hp => absurd hp (by omega)⟩
    · exact ⟨_, cap, rfl, hn, by omega, fun hp => absurd hp (by omega)⟩
  · obtain ⟨g, cap, rfl, _, _⟩ := h.form h0
    have hm : n ≤ 9223372036854775807 := by
      rcases h.2 with ⟨_, h1⟩ | ⟨g', cap', cur, he, _, _, h1, h2, _⟩
      · omega
      · simp only [maxLen] at h2
        omega
    refine ⟨_, cap, rfl, hn, hm, fun _ => ⟨_, rfl, fun j p hj => ⟨(cs.drop (j * size)).take size, ?_, hR.2 j p hj, fun i u hu => ?_⟩⟩⟩
    · have hjl := (List.getElem?_eq_some_iff.1 hj).1
      have h1 : j * size + size ≤ cs.length := by rw [hR.1, ← Nat.succ_mul]; exact Nat.mul_le_mul_right _ hjl
      rw [List.length_take, List.length_drop]
      omega
    · refine h.cells (g := g) rfl _ u ?_
      rw [List.getElem?_take] at hu
      split at hu
      · rw [List.getElem?_drop] at hu
        exact hu
      · cases hu
theorem add_field (ad : Addr) (m j : Nat) (hj : 0 < j) : ad.add (m + j) = ⟨(ad.add m).block, (ad.add m).off + j, none⟩ := by
  unfold Addr.add
  by_cases hm : m = 0
  · subst hm
    simp [Nat.ne_of_gt hj]
  · simp [hm, Nat.add_assoc]
section
variable {P : Program} {ops : Array Oper} {rest : List Oper} {o : Oper} {a : Act} {Q : Exit → Act → World → Prop}
theorem print_append_cells {w0 W : World} (base : Nat) (hgd : o.guard = none) (s x : Operand) (t e : TypeId) (z : Value) (size bytes : Nat)
    (ho : o.op = .call { callee := .builtin .append, args := #[s, x], argTypes := #[t, t] })
    (ht : P.underlying t = some (.slice e)) (hinfo : (P.info? e).map (fun i => (i.zero, i.size, i.bytes)) = some (some z, size, bytes)) (hz : z.cells.size = size) (hs0 : 0 < size) (hb0 : 0 < bytes)
    (v : Value) (n : Nat) (xs ys : List Value) (hs : a.eval s = v) (hx : a.eval x = .slice (some ⟨W.heap.size, 0, none⟩) 1 1) (hys : ys.length = size) (h1 : ∀ u ∈ ys, u.oneCell' = true)
    (HO : W.ownsRow base e size v n xs) (HB : Below base w0 W) (hbase : base ≤ W.heap.size) (hl : (n + 1) * bytes ≤ 140737488355328)
    (h : ∀ v1 w1, w1.ownsRow base e size v1 (n + 1) (xs ++ ys) → Below base w0 w1 → W.grownBy w1 v.ownBlock → (v1.ownBlock = v.ownBlock ∨ ∃ b, v1.ownBlock = some b ∧ W.heap.size ≤ b) → wpList P ops Q rest (a.put o.dst v1) w1) :
    wpList P ops Q (o :: rest) a (W.alloc (.cells ys.toArray e)) := by
  obtain ⟨i0, hi, hzz⟩ := Option.map_eq_some_iff.1 hinfo
  simp only [Prod.mk.injEq] at hzz
  obtain ⟨hz0, hz1, hz2⟩ := hzz
  have hlen : n + 1 ≤ 140737488355328 := Nat.le_trans (Nat.le_mul_of_pos_right _ hb0) hl
  refine wpList_append_own_at (W.alloc (.cells ys.toArray e)) hgd s x t ho base e i0 z size bytes ht hi hz0 hz1 hz2 hz hs0 v n xs hs (HO.alloc _) ⟨W.heap.size, 0, none⟩ 1 1 ys hx (by rw [hys]; simp)
    (by simpa using World.news_of_block (cs := ys.toArray) (t := e) (fr := (0, 0)) (heap_alloc_new W (.cells ys.toArray e))) h1 (by simp only [maxLen]; omega) hl (by simp; omega) ?_
  intro v1 w1 hown hg _ hat
  refine h v1 w1 hown ((HB.alloc hbase _).grown hg (by simp; omega) (own_base HO)) (World.grownBy.trans (World.grownBy_alloc W _ _) hg) ?_
  rcases hat with hat | hat
  · exact .inl hat
  · exact .inr ⟨_, hat, by simp⟩
end
theorem blk_set {w : World} {g : Nat} {t : TypeId} {cs : Array Value} (h : w.heap[g]? = some (.cells cs t (0, 0))) (i : Nat) (u : Value) : (w.setCell ⟨g, i, none⟩ u).heap[g]? = some (.cells (cs.setIfInBounds i u) t (0, 0)) := by
  simp [World.setCell, Array.getElem?_modify, h]
theorem blk_far {w : World} {g : Nat} {t : TypeId} {cs : Array Value} (h : w.heap[g]? = some (.cells cs t (0, 0))) {p : Addr} (hp : g ≠ p.block) (u : Value) : (w.setCell p u).heap[g]? = some (.cells cs t (0, 0)) := (Below.heap_setCell w p u g hp).trans h
theorem blk_lt {w : World} {g : Nat} {o : Obj} (h : w.heap[g]? = some o) : g < w.heap.size := (Array.getElem?_eq_some_iff.1 h).1
theorem blk_cell {w : World} {g : Nat} {t : TypeId} {cs : Array Value} (h : w.heap[g]? = some (.cells cs t (0, 0))) (i : Nat) : w.cell? ⟨g, i, none⟩ = cs[i]? := cell_of_row w g i cs t (0, 0) h
theorem blk_frozen {w : World} {g : Nat} {t : TypeId} {cs : Array Value} (h : w.heap[g]? = some (.cells cs t (0, 0))) (i : Nat) : w.frozen? ⟨g, i, none⟩ = false := by simp [World.frozen?, h]
theorem blk_grown {w w1 : World} {g : Nat} {o : Obj} {row : Option Nat} (h : w.heap[g]? = some o) (hg : w.grownBy w1 row) (hne : some g ≠ row) : w1.heap[g]? = some o := (hg.block g (blk_lt h) hne).trans h
def KeepBut (w w' : World) (g : Nat) (row : Option Nat) : Prop := w.heap.size ≤ w'.heap.size ∧ ∀ i, i < w.heap.size → i ≠ g → some i ≠ row → w'.heap[i]? = w.heap[i]?
theorem KeepBut.refl (w : World) (g : Nat) (row : Option Nat) : KeepBut w w g row := ⟨Nat.le_refl _, fun _ _ _ _ => rfl⟩
theorem KeepBut.of_below {w w1 : World} (h : Below w.heap.size w w1) (g : Nat) (row : Option Nat) : KeepBut w w1 g row := ⟨h.size, fun i hi _ _ => h.block i hi⟩
theorem KeepBut.trans {w w1 w2 : World} {g : Nat} {row row1 : Option Nat} (h : KeepBut w w1 g row) (k : KeepBut w1 w2 g row1) (hr : row1 = row ∨ ∃ b, row1 = some b ∧ w.heap.size ≤ b) : KeepBut w w2 g row :=
  ⟨Nat.le_trans h.1 k.1, fun i hi hg hn => by
    refine (k.2 i (Nat.lt_of_lt_of_le hi h.1) hg ?_).trans (h.2 i hi hg hn)
    rcases hr with rfl | ⟨b, rfl, hb⟩
    · exact hn
    · intro e
      injection e with e
      omega⟩
theorem KeepBut.blk {w w1 : World} {g g' : Nat} {row : Option Nat} {o : Obj} (h : KeepBut w w1 g row) (hb : w.heap[g']? = some o) (hg : g' ≠ g) (hr : some g' ≠ row) : w1.heap[g']? = some o := (h.2 g' (blk_lt hb) hg hr).trans hb
theorem KeepBut.own {w w1 : World} {g : Nat} {row : Option Nat} {base : Nat} {e : TypeId} {size n : Nat} {v : Value} {xs : List Value} (h : KeepBut w w1 g row) (ho : w.ownsRow base e size v n xs) (hg : v.ownBlock ≠ some g) (hr : v.ownBlock = none ∨ v.ownBlock ≠ row) : w1.ownsRow base e size v n xs := by
  obtain ⟨h1, h2⟩ := ho
  refine ⟨h1, ?_⟩
  rcases h2 with h2 | ⟨b, cap, cur, rfl, hb, hh, r⟩
  · exact .inl h2
  · refine .inr ⟨b, cap, cur, rfl, hb, h.blk hh ?_ ?_, r⟩
    · intro e
      exact hg (by rw [← e]; rfl)
    · rcases hr with hr | hr
      · simp [Value.ownBlock] at hr
      · exact hr
def Ev {α : Type} (g : Nat → Option α) (r : α) : Prop := ∃ K, ∀ k, K ≤ k → g k = some r
theorem Ev.of {α : Type} {g : Nat → Option α} {r : α} (hg : ∀ k, LeO (g k) (g (k + 1))) {k : Nat} (h : g k = some r) : Ev g r := ⟨k, fun _ hk => at_rounds hg hk h⟩
theorem Ev.now {α : Type} (r : α) : Ev (fun _ => some r) r := ⟨0, fun _ _ => rfl⟩
theorem Ev.rounds {α : Type} {g : Nat → Option α} {r : α} (h : Ev g r) : ∃ k, g k = some r := by
  obtain ⟨K, h⟩ := h
  exact ⟨K, h K (Nat.le_refl _)⟩
theorem Ev.bind {α β : Type} {g : Nat → Option α} {f : Nat → α → Option β} {a : α} {r : β} (h : Ev g a) (k : Ev (fun n => f n a) r) : Ev (fun n => (g n).bind (f n)) r := by
  obtain ⟨K, h⟩ := h
  obtain ⟨K', k⟩ := k
  refine ⟨max K K', fun n hn => ?_⟩
  have h1 := h n (by omega)
  have h2 := k n (by omega)
  simp only [h1, Option.bind_some]
  exact h2
theorem Ev.step {α : Type} {g f : Nat → Option α} {r : α} (h : ∀ k, g (k + 1) = f k) (k : Ev f r) : Ev g r := by
  obtain ⟨K, k⟩ := k
  refine ⟨K + 1, fun n hn => ?_⟩
  obtain ⟨m, rfl⟩ : ∃ m, n = m + 1 := ⟨n - 1, by omega⟩
  rw [h]
  exact k m (by omega)
theorem Ev.congr {α : Type} {g f : Nat → Option α} {r : α} (h : ∀ k, g k = f k) (k : Ev f r) : Ev g r := by
  obtain ⟨K, k⟩ := k
  exact ⟨K, fun n hn => (h n).trans (k n hn)⟩
section
variable {P : Program} {ops : Array Oper} {o : Oper} {a : Act} {Q : Exit → Act → World → Prop} {K : Act → World → Prop}
end
theorem own_weaken {w : World} {base base' : Nat} {e : TypeId} {size n : Nat} {v : Value} {xs : List Value} (h : w.ownsRow base e size v n xs) (hb : base' ≤ base) : w.ownsRow base' e size v n xs := by
  obtain ⟨h1, h2⟩ := h
  refine ⟨h1, ?_⟩
  rcases h2 with h2 | ⟨g, cap, cur, rfl, hg, r⟩
  · exact .inl h2
  · exact .inr ⟨g, cap, cur, rfl, Nat.le_trans hb hg, r⟩
section
variable {α : Type} {enc : α → Value} {d : α}
def rdOf (d : α) (xs : List α) (i : Int) : α := xs.getD i.toNat d
def ReadsOf (enc : α → Value) (d : α) (w : World) (A : Option Addr) (n : Nat) (xs : List α) : Prop :=
  xs.length = n ∧ n ≤ 9223372036854775807 ∧ (0 < n → ∃ ad, A = some ad ∧ ∀ j, j < n → w.cell? (ad.add j) = some (enc (xs.getD j d)))
theorem ReadsOf.at_ {w : World} {A : Option Addr} {n : Nat} {xs : List α} (h : ReadsOf enc d w A n xs) (i : Int) (h0 : 0 ≤ i) (h1 : i < n) : ∃ ad, A = some ad ∧ w.cell? (ad.add i.toNat) = some (enc (rdOf d xs i)) := by
  obtain ⟨ad, e, hc⟩ := h.2.2 (by omega)
  exact ⟨ad, e, hc _ (by omega)⟩
theorem ReadsOf.below {w w1 : World} {A : Option Addr} {n : Nat} {xs : List α} (h : ReadsOf enc d w A n xs) (hb : Below w.heap.size w w1) : ReadsOf enc d w1 A n xs :=
  ⟨h.1, h.2.1, fun hn => by
    obtain ⟨ad, e, hc⟩ := h.2.2 hn
    exact ⟨ad, e, fun j hj => pw_cell_below hb (hc j hj)⟩⟩
theorem ReadsOf.take_ {w : World} {A : Option Addr} {n : Nat} {xs : List α} (h : ReadsOf enc d w A n xs) (i : Nat) (hi : i ≤ n) : ReadsOf enc d w A i (xs.take i) := by
  refine ⟨by rw [List.length_take, h.1]; omega, by have := h.2.1; omega, fun hp => ?_⟩
  obtain ⟨ad, e, hc⟩ := h.2.2 (by omega)
  refine ⟨ad, e, fun j hj => ?_⟩
  rw [hc j (by omega)]
  simp [List.getD_eq_getElem?_getD, hj]
end
section
variable {α : Type} {P : Program} {ops : Array Oper} {rest : List Oper} {o : Oper} {a : Act} {Q : Exit → Act → World → Prop}
end
theorem blk_alloc {w : World} {g : Nat} {o : Obj} (h : w.heap[g]? = some o) (o' : Obj) : (w.alloc o').heap[g]? = some o := (Below.heap_alloc w o' g (blk_lt h)).trans h
theorem blk_drew {w : World} {g : Nat} {o : Obj} (h : w.heap[g]? = some o) : w.drew.heap[g]? = some o := h
theorem blk_drewN {w : World} {g : Nat} {o : Obj} (h : w.heap[g]? = some o) (n : Nat) : (w.drewN n).heap[g]? = some o := h
theorem blk_below {w w1 : World} {g : Nat} {o : Obj} (h : w.heap[g]? = some o) (hb : Below w.heap.size w w1) : w1.heap[g]? = some o := (hb.block g (blk_lt h)).trans h
theorem blk_new (w : World) (o : Obj) : (w.alloc o).heap[w.heap.size]? = some o := heap_alloc_new w o
section
variable {P : Program}
end
theorem own_le {w : World} {base n m c size : Nat} {e : TypeId} {A : Option Addr} {xs : List Value} (h : w.ownsRow base e size (.slice A m c) n xs) : m ≤ c := by
  rcases h.2 with ⟨he, _⟩ | ⟨g, cap, cur, he, _, _, hnc, _⟩
  · injection he with _ h2 h3
    omega
  · injection he with _ h2 h3
    omega
def OwnRow {α : Type} (R : α → List Value → Prop) (e : TypeId) (size : Nat) (w : World) (base : Nat) (v : Value) (ps : List α) : Prop :=
  ∃ inner, w.ownsRow base e size v ps.length inner ∧ Reps R size ps inner
section
variable {α : Type} {R R' : α → List Value → Prop} {e : TypeId} {size : Nat} {w w1 : World} {base : Nat} {v : Value} {ps : List α}
theorem OwnRow.none_ (R : α → List Value → Prop) (e : TypeId) (size : Nat) (w : World) (base : Nat) : OwnRow R e size w base (.slice none 0 0) [] := ⟨[], own_nil _ _ _ _, Reps.none _ _⟩
theorem OwnRow.imp_ (h : OwnRow R e size w base v ps) (hR : ∀ p c, R p c → R' p c) : OwnRow R' e size w base v ps := by
  obtain ⟨inner, ho, hr⟩ := h
  exact ⟨inner, ho, hr.imp_ hR⟩
theorem OwnRow.below (h : OwnRow R e size w base v ps) (hb : Below w.heap.size w w1) : OwnRow R e size w1 base v ps := by
  obtain ⟨inner, ho, hr⟩ := h
  exact ⟨inner, pw_own_below ho hb, hr⟩
theorem OwnRow.reads (h : OwnRow R e size w base v ps) : ∃ A c, v = .slice A ps.length c ∧ ps.length ≤ c ∧ ReadsRow R size w A ps.length ps := by
  obtain ⟨inner, ho, hr⟩ := h
  obtain ⟨A, c, rfl, hrow⟩ := own_reads_row ho hr rfl
  exact ⟨A, c, rfl, own_le ho, hrow⟩
theorem OwnRow.lit (W : World) (base : Nat) {inner : List Value} (hr : Reps R size ps inner) (hb : base ≤ W.heap.size) (hm : ps.length ≤ 9223372036854775807) :
    OwnRow R e size (W.alloc (.cells inner.toArray e)) base (.slice (some ⟨W.heap.size, 0, none⟩) ps.length ps.length) ps := by
  have h := World.ownsRow_lit (base := base) (e := e) (size := size) W inner.toArray ps.length hb (by simpa [maxLen] using hm) (by simpa using hr.1)
  exact ⟨inner, by simpa using h, hr⟩
end
section
variable {P : Program} {ops : Array Oper} {rest : List Oper} {o : Oper} {a : Act} {Q : Exit → Act → World → Prop} {α : Type} {R : α → List Value → Prop}
theorem OwnRow.append {w0 W : World} (base : Nat) (hgd : o.guard = none) (s x : Operand) (t e : TypeId) (z : Value) (size bytes : Nat)
    (ho : o.op = .call { callee := .builtin .append, args := #[s, x], argTypes := #[t, t] })
    (ht : P.underlying t = some (.slice e)) (hinfo : (P.info? e).map (fun i => (i.zero, i.size, i.bytes)) = some (some z, size, bytes)) (hz : z.cells.size = size) (hs0 : 0 < size) (hb0 : 0 < bytes)
    (v : Value) (ps : List α) (p : α) (cs : List Value) (hs : a.eval s = v) (hx : a.eval x = .slice (some ⟨W.heap.size, 0, none⟩) 1 1) (hp : R p cs) (hcs : cs.length = size) (h1 : ∀ u ∈ cs, u.oneCell' = true)
    (HO : OwnRow R e size W base v ps) (HB : Below base w0 W) (hbase : base ≤ W.heap.size) (hl : (ps.length + 1) * bytes ≤ 140737488355328)
    (h : ∀ v1 w1, OwnRow R e size w1 base v1 (ps ++ [p]) → Below base w0 w1 → W.grownBy w1 v.ownBlock → (v1.ownBlock = v.ownBlock ∨ ∃ b, v1.ownBlock = some b ∧ W.heap.size ≤ b) → wpList P ops Q rest (a.put o.dst v1) w1) :
    wpList P ops Q (o :: rest) a (W.alloc (.cells cs.toArray e)) := by
  obtain ⟨inner, hown, hr⟩ := HO
  refine print_append_cells base hgd s x t e z size bytes ho ht hinfo hz hs0 hb0 v ps.length inner cs hs hx hcs h1 hown HB hbase hl ?_
  intro v1 w1 hown1 hb1 hg1 hat1
  exact h v1 w1 ⟨inner ++ cs, by rw [List.length_append, List.length_singleton]; exact hown1, hr.snoc hp hcs⟩ hb1 hg1 hat1
end
section
variable {P : Program} {ops : Array Oper} {o : Oper} {a : Act} {Q : Exit → Act → World → Prop} {K : Act → World → Prop} {α : Type} {R : α → List Value → Prop}
end
theorem ReadsRow.inner_ {α : Type} {R : α → List Value → Prop} {size : Nat} {w : World} {ad : Addr} {n : Nat} {ps : List α} (h : ReadsRow R size w (some ad) n ps) :
    ∃ inner, Reps R size ps inner ∧ ∀ j u, inner[j]? = some u → w.cell? (ad.add j) = some u := by
  have key : ∀ m, m ≤ ps.length → ∃ inner, Reps R size (ps.take m) inner ∧ ∀ j u, inner[j]? = some u → w.cell? (ad.add j) = some u := by
    intro m
    induction m with
    | zero => exact fun _ => ⟨[], Reps.none _ _, fun j u hu => by simp at hu⟩
    | succ m ih =>
      intro hm
      obtain ⟨inner, hr, hc⟩ := ih (by omega)
      obtain ⟨ad', he, hcell⟩ := h.2.2 (by have := h.1; omega)
      injection he with he
      subst he
      obtain ⟨c, hcl, hp, hcc⟩ := hcell m _ (List.getElem?_eq_getElem (show m < ps.length by omega))
      refine ⟨inner ++ c, ?_, fun j u hu => ?_⟩
      · rw [List.take_succ_eq_append_getElem (show m < ps.length by omega)]
        exact hr.snoc hp hcl
      · have hil : inner.length = m * size := by rw [hr.1, List.length_take, Nat.min_eq_left (by omega)]
        rcases Nat.lt_or_ge j inner.length with hj | hj
        · rw [List.getElem?_append_left hj] at hu
          exact hc j u hu
        · rw [List.getElem?_append_right hj] at hu
          have := hcc (j - inner.length) u hu
          rwa [hil, Nat.add_sub_cancel' (by omega)] at this
  obtain ⟨inner, hr, hc⟩ := key ps.length (Nat.le_refl _)
  rw [List.take_length] at hr
  exact ⟨inner, hr, hc⟩
section
variable {α : Type} {P : Program}
theorem ReadsOf.len_ {enc : α → Value} {d : α} {w : World} {A : Option Addr} {n : Nat} {xs : List α} (h : ReadsOf enc d w A n xs) : ReadsOf enc d w A xs.length xs := by rw [h.1]; exact h
end
section
variable {P : Program} {ops : Array Oper} {rest : List Oper} {o : Oper} {a : Act} {Q : Exit → Act → World → Prop}
end
structure Kd (α : Type) where
  sz : Nat
  E : List Nat
  K : World → α → List Value → Prop
  M : World → Nat → (Nat → Prop) → α → List Value → Prop
  K_len : ∀ {w x cs}, K w x cs → cs.length = sz
  K_one : ∀ {w x cs}, K w x cs → ∀ u ∈ cs, u.oneCell' = true
  K_below : ∀ {w w1 : World} {x cs}, Below w.heap.size w w1 → K w x cs → K w1 x cs
  K_of_M : ∀ {w base ok x cs}, M w base ok x cs → K w x cs
  M_mono : ∀ {w base ok ok' x cs}, (∀ k, ok k → ok' k) → M w base ok x cs → M w base ok' x cs
  M_bound : ∀ {w : World} {base ok x cs}, M w base ok x cs → M w base (fun k => ok k ∧ base ≤ k ∧ k < w.heap.size ∧ ∃ q, q ∈ E ∧ ∃ cells, w.heap[k]? = some (.cells cells q (0, 0))) x cs
  M_move : ∀ {w w1 : World} {base ok x cs}, (∀ k, ok k → w1.heap[k]? = w.heap[k]?) → M w base ok x cs → M w1 base ok x cs
  M_lower : ∀ {w base base' ok x cs}, base' ≤ base → M w base ok x cs → M w base' ok x cs
theorem own_move {w w1 : World} {base : Nat} {e : TypeId} {size n : Nat} {v : Value} {xs : List Value} (h : w.ownsRow base e size v n xs) (hm : ∀ k, v.ownBlock = some k → w1.heap[k]? = w.heap[k]?) : w1.ownsRow base e size v n xs := by
  obtain ⟨h1, h2⟩ := h
  refine ⟨h1, ?_⟩
  rcases h2 with h2 | ⟨g, cap, cur, rfl, hg, hh, r⟩
  · exact .inl h2
  · exact .inr ⟨g, cap, cur, rfl, hg, (hm g (by simp [Value.ownBlock])).trans hh, r⟩
theorem own_typed {w : World} {base : Nat} {e : TypeId} {size n : Nat} {v : Value} {xs : List Value} (h : w.ownsRow base e size v n xs) (k : Nat) (hk : v.ownBlock = some k) : ∃ cells, w.heap[k]? = some (.cells cells e (0, 0)) := by
  rcases h.2 with ⟨rfl, _⟩ | ⟨g, cap, cur, rfl, hg, hh, r⟩
  · simp [Value.ownBlock] at hk
  · have : g = k := by simpa [Value.ownBlock] using hk
    subst this
    exact ⟨cur, hh⟩
namespace Kd
def C {α : Type} (d : Kd α) (w : World) (A : Option Addr) (n : Nat) (xs : List α) : Prop := ReadsRow (d.K w) d.sz w A n xs
def R {α : Type} (d : Kd α) (e : Nat) (w : World) (base : Nat) (ok : Nat → Prop) (v : Value) (xs : List α) : Prop :=
  (∀ k, v.ownBlock = some k → ok k) ∧ OwnRow (d.M w base (fun k => ok k ∧ some k ≠ v.ownBlock)) e d.sz w base v xs
section
variable {α : Type} {d : Kd α} {e : Nat} {w w1 : World} {base : Nat} {ok ok' : Nat → Prop} {v : Value} {xs : List α}
theorem C_below {A : Option Addr} {n : Nat} (h : d.C w A n xs) (hb : Below w.heap.size w w1) : d.C w1 A n xs := ReadsRow.imp_ h hb (fun _ _ hp => d.K_below hb hp)
theorem R_nil (d : Kd α) (e : Nat) (w : World) (base : Nat) (ok : Nat → Prop) : d.R e w base ok (.slice none 0 0) [] := ⟨fun k hk => by simp [Value.ownBlock] at hk, OwnRow.none_ _ _ _ _ _⟩
theorem R_mono (h : d.R e w base ok v xs) (hok : ∀ k, ok k → ok' k) : d.R e w base ok' v xs := ⟨fun k hk => hok k (h.1 k hk), h.2.imp_ (fun _ _ hp => d.M_mono (fun k hk => ⟨hok k hk.1, hk.2⟩) hp)⟩
theorem R_bound (h : d.R e w base ok v xs) : d.R e w base (fun k => ok k ∧ base ≤ k ∧ k < w.heap.size ∧ ∃ q, q ∈ e :: d.E ∧ ∃ cells, w.heap[k]? = some (.cells cells q (0, 0))) v xs := by
  obtain ⟨h0, inner, ho, hr⟩ := h
  refine ⟨fun k hk => ?_, inner, ho, hr.imp_ (fun _ _ hp => d.M_mono (fun k hk => ?_) (d.M_bound hp))⟩
  · obtain ⟨cells, hc⟩ := own_typed ho k hk
    exact ⟨h0 k hk, own_base ho k hk, own_lt ho k hk, e, List.mem_cons_self, cells, hc⟩
  · obtain ⟨⟨h1, h2⟩, h3, h4, q, hq, hc⟩ := hk
    exact ⟨⟨h1, h3, h4, q, List.mem_cons_of_mem _ hq, hc⟩, h2⟩
theorem R_move (h : d.R e w base ok v xs) (hm : ∀ k, ok k → w1.heap[k]? = w.heap[k]?) : d.R e w1 base ok v xs := by
  obtain ⟨h0, inner, ho, hr⟩ := h
  exact ⟨h0, inner, own_move ho (fun k hk => hm k (h0 k hk)), hr.imp_ (fun _ _ hp => d.M_move (fun k hk => hm k hk.1) hp)⟩
theorem R_lower {base' : Nat} (h : d.R e w base ok v xs) (hb : base' ≤ base) : d.R e w base' ok v xs := by
  obtain ⟨h0, inner, ho, hr⟩ := h
  exact ⟨h0, inner, own_weaken ho hb, hr.imp_ (fun _ _ hp => d.M_lower hb hp)⟩
theorem R_step (h : d.R e w base ok v xs) (hm : ∀ k, ok k → k < w.heap.size → w1.heap[k]? = w.heap[k]?) : d.R e w1 base ok v xs :=
  R_mono (R_move (R_bound h) (fun k hk => hm k hk.1 hk.2.2.1)) (fun _ hk => hk.1)
theorem M_step {x : α} {cs : List Value} (h : d.M w base ok x cs) (hm : ∀ k, ok k → k < w.heap.size → w1.heap[k]? = w.heap[k]?) : d.M w1 base ok x cs :=
  d.M_mono (fun _ hk => hk.1) (d.M_move (fun k hk => hm k hk.1 hk.2.2.1) (d.M_bound h))
theorem R_below (h : d.R e w base ok v xs) (hb : Below w.heap.size w w1) : d.R e w1 base ok v xs := R_step h (fun k _ hk => hb.block k hk)
theorem M_below {x : α} {cs : List Value} (h : d.M w base ok x cs) (hb : Below w.heap.size w w1) : d.M w1 base ok x cs := M_step h (fun k _ hk => hb.block k hk)
theorem R_far (h : d.R e w base ok v xs) {p : Addr} (hok : ∀ k, ok k → k ≠ p.block) (u : Value) : d.R e (w.setCell p u) base ok v xs := R_step h (fun k ho _ => Below.heap_setCell w p u k (hok k ho))
theorem R_reads (h : d.R e w base ok v xs) : ∃ A c, v = .slice A xs.length c ∧ xs.length ≤ c ∧ d.C w A xs.length xs := by
  obtain ⟨A, c, he, hl, hr⟩ := OwnRow.reads h.2
  exact ⟨A, c, he, hl, hr.imp_ (Below.refl _ _) (fun _ _ hp => d.K_of_M hp)⟩
theorem R_slice (h : d.R e w base ok v xs) : ∃ A c, v = .slice A xs.length c := by
  obtain ⟨A, c, he, _⟩ := R_reads h
  exact ⟨A, c, he⟩
theorem R_own (h : d.R e w base ok v xs) : ∃ inner, w.ownsRow base e d.sz v xs.length inner := by
  obtain ⟨_, inner, ho, _⟩ := h
  exact ⟨inner, ho⟩
end
def scalar {α : Type} (enc : α → Value) (h1 : ∀ x, (enc x).oneCell' = true) : Kd α where
  sz := 1
  E := []
  K := fun _ x cs => cs = [enc x]
  M := fun _ _ _ x cs => cs = [enc x]
  K_len := fun h => by rw [h]; rfl
  K_one := fun h u hu => by
    rw [h] at hu
    rw [List.mem_singleton.1 hu]
    exact h1 _
  K_below := fun _ h => h
  K_of_M := fun h => h
  M_mono := fun _ h => h
  M_bound := fun h => h
  M_move := fun _ h => h
  M_lower := fun _ h => h
def int (k : IntKind) : Kd Int := scalar (Value.int k) (fun _ => rfl)
def bool : Kd Bool := scalar Value.bool (fun _ => rfl)
def string : Kd ByteArray := scalar Value.string (fun _ => rfl)
def slice {α : Type} (e : Nat) (d : Kd α) : Kd (List α) where
  sz := 1
  E := e :: d.E
  K := fun w xs cs => ∃ A c, cs = [.slice A xs.length c] ∧ xs.length ≤ c ∧ d.C w A xs.length xs
  M := fun w base ok xs cs => ∃ v, cs = [v] ∧ d.R e w base ok v xs
  K_len := by
    rintro w x cs ⟨A, c, rfl, _⟩
    rfl
  K_one := by
    rintro w x cs ⟨A, c, rfl, _⟩ u hu
    rw [List.mem_singleton.1 hu]
    rfl
  K_below := by
    rintro w w1 x cs hb ⟨A, c, rfl, hl, hr⟩
    exact ⟨A, c, rfl, hl, C_below hr hb⟩
  K_of_M := by
    rintro w base ok x cs ⟨v, rfl, h⟩
    obtain ⟨A, c, rfl, hl, hr⟩ := R_reads h
    exact ⟨A, c, rfl, hl, hr⟩
  M_mono := by
    rintro w base ok ok' x cs hok ⟨v, rfl, h⟩
    exact ⟨v, rfl, R_mono h hok⟩
  M_bound := by
    rintro w base ok x cs ⟨v, rfl, h⟩
    exact ⟨v, rfl, R_bound h⟩
  M_move := by
    rintro w w1 base ok x cs hm ⟨v, rfl, h⟩
    exact ⟨v, rfl, R_move h hm⟩
  M_lower := by
    rintro w base base' ok x cs hb ⟨v, rfl, h⟩
    exact ⟨v, rfl, R_lower h hb⟩
def pair {α β : Type} (a : Kd α) (b : Kd β) : Kd (α × β) where
  sz := a.sz + b.sz
  E := a.E ++ b.E
  K := fun w x cs => ∃ c0 c1, cs = c0 ++ c1 ∧ a.K w x.1 c0 ∧ b.K w x.2 c1
  M := fun w base ok x cs => ∃ c0 c1, cs = c0 ++ c1 ∧ a.M w base ok x.1 c0 ∧ b.M w base ok x.2 c1
  K_len := by
    rintro w x cs ⟨c0, c1, rfl, h0, h1⟩
    rw [List.length_append, a.K_len h0, b.K_len h1]
  K_one := by
    rintro w x cs ⟨c0, c1, rfl, h0, h1⟩ u hu
    rcases List.mem_append.1 hu with hu | hu
    · exact a.K_one h0 u hu
    · exact b.K_one h1 u hu
  K_below := by
    rintro w w1 x cs hb ⟨c0, c1, rfl, h0, h1⟩
    exact ⟨c0, c1, rfl, a.K_below hb h0, b.K_below hb h1⟩
  K_of_M := by
    rintro w base ok x cs ⟨c0, c1, rfl, h0, h1⟩
    exact ⟨c0, c1, rfl, a.K_of_M h0, b.K_of_M h1⟩
  M_mono := by
    rintro w base ok ok' x cs hok ⟨c0, c1, rfl, h0, h1⟩
    exact ⟨c0, c1, rfl, a.M_mono hok h0, b.M_mono hok h1⟩
  M_bound := by
    rintro w base ok x cs ⟨c0, c1, rfl, h0, h1⟩
    refine ⟨c0, c1, rfl, a.M_mono ?_ (a.M_bound h0), b.M_mono ?_ (b.M_bound h1)⟩
    · rintro k ⟨h2, h3, h4, q, hq, hc⟩
      exact ⟨h2, h3, h4, q, List.mem_append_left _ hq, hc⟩
    · rintro k ⟨h2, h3, h4, q, hq, hc⟩
      exact ⟨h2, h3, h4, q, List.mem_append_right _ hq, hc⟩
  M_move := by
    rintro w w1 base ok x cs hm ⟨c0, c1, rfl, h0, h1⟩
    exact ⟨c0, c1, rfl, a.M_move hm h0, b.M_move hm h1⟩
  M_lower := by
    rintro w base base' ok x cs hb ⟨c0, c1, rfl, h0, h1⟩
    exact ⟨c0, c1, rfl, a.M_lower hb h0, b.M_lower hb h1⟩
def iso {α β : Type} (d : Kd α) (f : β → α) : Kd β where
  sz := d.sz
  E := d.E
  K := fun w x cs => d.K w (f x) cs
  M := fun w base ok x cs => d.M w base ok (f x) cs
  K_len := d.K_len
  K_one := d.K_one
  K_below := d.K_below
  K_of_M := d.K_of_M
  M_mono := d.M_mono
  M_bound := d.M_bound
  M_move := d.M_move
  M_lower := d.M_lower
def bot {α : Type} (sz : Nat) (E : List Nat) : Kd α where
  sz := sz
  E := E
  K := fun _ _ _ => False
  M := fun _ _ _ _ _ => False
  K_len := fun h => h.elim
  K_one := fun h => h.elim
  K_below := fun _ h => h
  K_of_M := fun h => h
  M_mono := fun _ h => h
  M_bound := fun h => h
  M_move := fun _ h => h
  M_lower := fun _ h => h
def upto {α : Type} (F : Kd α → Kd α) (sz : Nat) (E : List Nat) : Nat → Kd α
  | 0 => bot sz E
  | n + 1 => F (upto F sz E n)
theorem C_get {α : Type} {d : Kd α} {w : World} {A : Option Addr} {n : Nat} {xs : List α} (h : d.C w A n xs) (z : α) (i : Int) (h0 : 0 ≤ i) (h1 : i < n) :
    ∃ ad c, A = some ad ∧ c.length = d.sz ∧ d.K w (xs.getD i.toNat z) c ∧ ∀ j u, c[j]? = some u → w.cell? (ad.add (i.toNat * d.sz + j)) = some u := ReadsRow.get_ h z i h0 h1
theorem R_appended {α : Type} {d : Kd α} {e base : Nat} {ok okp : Nat → Prop} {W w1 : World} {v v1 : Value} {xs : List α} {p : α} {inner cs : List Value} (h0 : ∀ k, v.ownBlock = some k → ok k) (hr : Reps (d.M W base (fun k => ok k ∧ some k ≠ v.ownBlock)) d.sz xs inner) (hp : d.M W base okp p cs) (hokp : ∀ k, okp k → ok k ∧ some k ≠ v.ownBlock) (hfresh : ∀ k, W.heap.size ≤ k → ok k)
    (hown : w1.ownsRow base e d.sz v1 (xs.length + 1) (inner ++ cs)) (hg : W.grownBy w1 v.ownBlock) (hat : v1.ownBlock = v.ownBlock ∨ ∃ b, v1.ownBlock = some b ∧ W.heap.size ≤ b) : d.R e w1 base ok v1 (xs ++ [p]) := by
  have hne : ∀ k, some k ≠ v.ownBlock → k < W.heap.size → some k ≠ v1.ownBlock := by
    intro k hk hlt
    rcases hat with hat | ⟨b, hb, hle⟩
    · rw [hat]; exact hk
    · rw [hb]
      intro he
      injection he with he
      omega
  have step : ∀ {q : α} {c : List Value} {o : Nat → Prop}, d.M W base o q c → (∀ k, o k → ok k ∧ some k ≠ v.ownBlock) → d.M w1 base (fun k => ok k ∧ some k ≠ v1.ownBlock) q c := by
    intro q c o hq ho
    have h1 := d.M_move (w1 := w1) (fun k hk => hg.block k hk.2.2.1 (ho k hk.1).2) (d.M_bound hq)
    exact d.M_mono (fun k hk => ⟨(ho k hk.1).1, hne k (ho k hk.1).2 hk.2.2.1⟩) h1
  refine ⟨fun k hk => ?_, inner ++ cs, by rw [List.length_append, List.length_singleton]; exact hown, ?_⟩
  · rcases hat with hat | ⟨b, hb, hle⟩
    · exact h0 k (hat ▸ hk)
    · rw [hb] at hk
      injection hk with hk
      exact hfresh k (by omega)
  · exact (hr.imp_ (fun _ _ hq => step hq (fun _ hk => hk))).snoc (step hp hokp) (d.K_len (d.K_of_M hp))
section
variable {P : Program} {ops : Array Oper} {rest : List Oper} {o : Oper} {a : Act} {Q : Exit → Act → World → Prop} {α : Type}
theorem R_append (d : Kd α) {w0 W : World} (base : Nat) (hgd : o.guard = none) (s x : Operand) (t e : TypeId) (z : Value) (bytes : Nat)
    (ho : o.op = .call { callee := .builtin .append, args := #[s, x], argTypes := #[t, t] })
    (ht : P.underlying t = some (.slice e)) (hinfo : (P.info? e).map (fun i => (i.zero, i.size, i.bytes)) = some (some z, d.sz, bytes)) (hz : z.cells.size = d.sz) (hs0 : 0 < d.sz) (hb0 : 0 < bytes)
    (v : Value) (xs : List α) (p : α) (cs : List Value) (ok okp : Nat → Prop) (hs : a.eval s = v) (hx : a.eval x = .slice (some ⟨W.heap.size, 0, none⟩) 1 1) (hp : d.M W base okp p cs) (hokp : ∀ k, okp k → ok k ∧ some k ≠ v.ownBlock) (hfresh : ∀ k, W.heap.size ≤ k → ok k)
    (HO : d.R e W base ok v xs) (HB : Below base w0 W) (hbase : base ≤ W.heap.size) (hl : (xs.length + 1) * bytes ≤ 140737488355328)
    (h : ∀ v1 w1, d.R e w1 base ok v1 (xs ++ [p]) → Below base w0 w1 → W.grownBy w1 v.ownBlock → (v1.ownBlock = v.ownBlock ∨ ∃ b, v1.ownBlock = some b ∧ W.heap.size ≤ b) → wpList P ops Q rest (a.put o.dst v1) w1) :
    wpList P ops Q (o :: rest) a (W.alloc (.cells cs.toArray e)) := by
  obtain ⟨h0, inner, hown, hr⟩ := HO
  refine print_append_cells base hgd s x t e z d.sz bytes ho ht hinfo hz hs0 hb0 v xs.length inner cs hs hx (d.K_len (d.K_of_M hp)) (d.K_one (d.K_of_M hp)) hown HB hbase hl ?_
  intro v1 w1 hown1 hb1 hg1 hat1
  exact h v1 w1 (R_appended h0 hr hp hokp hfresh hown1 hg1 hat1) hb1 hg1 hat1
end
section
variable {P : Program} {ops : Array Oper} {o : Oper} {a : Act} {Q : Exit → Act → World → Prop} {Kc : Act → World → Prop} {α : Type}
end
end Kd
namespace Kd
structure Mono {α β : Type} (F : Kd α → Kd β) : Prop where
  sz : ∀ d d' : Kd α, d.sz = d'.sz → (F d).sz = (F d').sz
  K : ∀ d d' : Kd α, d.sz = d'.sz → (∀ w x cs, d.K w x cs → d'.K w x cs) → ∀ w x cs, (F d).K w x cs → (F d').K w x cs
  M : ∀ d d' : Kd α, d.sz = d'.sz → (∀ w base ok x cs, d.M w base ok x cs → d'.M w base ok x cs) → ∀ w base ok x cs, (F d).M w base ok x cs → (F d').M w base ok x cs
def Sub {α β : Type} (F : Kd α → Kd β) (E : List Nat) : Prop := ∀ d : Kd α, (∀ q, q ∈ d.E → q ∈ E) → ∀ q, q ∈ (F d).E → q ∈ E
section
variable {α : Type} {F : Kd α → Kd α} {sz : Nat} {E : List Nat} {hs : ∀ n, (upto F sz E n).sz = sz} {hE : ∀ n q, q ∈ (upto F sz E n).E → q ∈ E}
end
end Kd
namespace Kd
theorem R_after {α : Type} {d : Kd α} {e base : Nat} {ok : Nat → Prop} {W w1 : World} {u v v1 : Value} {xs : List α} (h : d.R e W base (fun k => ok k ∧ some k ≠ v.ownBlock) u xs) (hg : W.grownBy w1 v.ownBlock) (hat : v1.ownBlock = v.ownBlock ∨ ∃ b, v1.ownBlock = some b ∧ W.heap.size ≤ b) : d.R e w1 base (fun k => ok k ∧ some k ≠ v1.ownBlock) u xs := by
  refine R_mono (R_move (R_bound h) (fun k hk => hg.block k hk.2.2.1 hk.1.2)) (fun k hk => ⟨hk.1.1, ?_⟩)
  rcases hat with hat | ⟨b, hb, hle⟩
  · rw [hat]; exact hk.1.2
  · rw [hb]
    intro he
    injection he with he
    have := hk.2.2.1
    omega
end Kd
namespace Kd
section
variable {α β : Type} {d : Kd α} {d' : Kd β} {e e' : Nat} {w w1 W : World} {base b b' : Nat} {ok ok' okv oku : Nat → Prop} {v u : Value} {xs : List α} {ys : List β}
theorem R_alloc (h : d.R e w base ok v xs) (o : Obj) : d.R e (w.alloc o) base ok v xs := R_below h (below_alloc (Below.refl _ _) o)
theorem R_drew (h : d.R e w base ok v xs) : d.R e w.drew base ok v xs := R_below h (below_drew (Below.refl _ _))
theorem R_drewN (h : d.R e w base ok v xs) (m : Nat) : d.R e (w.drewN m) base ok v xs := R_below h (pw_below_drewN (Below.refl _ _) m)
theorem C_alloc {A : Option Addr} {n : Nat} (h : d.C w A n xs) (o : Obj) : d.C (w.alloc o) A n xs := C_below h (below_alloc (Below.refl _ _) o)
theorem C_drew {A : Option Addr} {n : Nat} (h : d.C w A n xs) : d.C w.drew A n xs := C_below h (below_drew (Below.refl _ _))
theorem C_drewN {A : Option Addr} {n : Nat} (h : d.C w A n xs) (m : Nat) : d.C (w.drewN m) A n xs := C_below h (pw_below_drewN (Below.refl _ _) m)
theorem C_nil (d : Kd α) (w : World) : d.C w none ([] : List α).length [] := ⟨rfl, by simp, fun h => absurd h (Nat.lt_irrefl 0)⟩
theorem R_reads' {A : Option Addr} {n c : Nat} (h : d.R e w base ok (.slice A n c) xs) : n = xs.length ∧ n ≤ c ∧ d.C w A xs.length xs := by
  obtain ⟨A', c', he, hl, hr⟩ := R_reads h
  injection he with h1 h2 h3
  subst h1
  exact ⟨h2, by omega, hr⟩
theorem R_lt (h : d.R e w base ok v xs) : ∀ k, v.ownBlock = some k → k < w.heap.size := by
  obtain ⟨inner, ho⟩ := R_own h
  exact own_lt ho
theorem R_base (h : d.R e w base ok v xs) : ∀ k, v.ownBlock = some k → base ≤ k := by
  obtain ⟨inner, ho⟩ := R_own h
  exact own_base ho
theorem R_away (h : d.R e w base ok v xs) {g : Nat} (hok : ∀ k, ok k → k ≠ g) : some g ≠ v.ownBlock := fun e => hok g (h.1 g e.symm) rfl
theorem R_form (h : d.R e w base ok v xs) (hp : 0 < xs.length) : ∃ g cap, v = .slice (some ⟨g, 0, none⟩) xs.length cap ∧ base ≤ g ∧ g < w.heap.size ∧ ∃ cells, w.heap[g]? = some (.cells cells e (0, 0)) := by
  obtain ⟨inner, ho⟩ := R_own h
  obtain ⟨g, cap, he, hb, hl⟩ := ho.form hp
  obtain ⟨cells, hc⟩ := own_typed ho g (by rw [he]; simp [Value.ownBlock])
  exact ⟨g, cap, he, hb, hl, cells, hc⟩
end
section
variable {w W : World} {A : Option Addr} {n : Nat}
variable {α : Type} {enc : α → Value} {h1 : ∀ x, (enc x).oneCell' = true} {e base g cap : Nat} {ok : Nat → Prop} {xs : List α}
end
section
variable {P : Program} {ops : Array Oper} {rest : List Oper} {o : Oper} {a : Act} {Q : Exit → Act → World → Prop}
theorem event_run {W w1 : World} {v : Value} (hgd : o.guard = none) (hrun : (execOp a.eval o).run P W = .ok (.value v) w1) (h : wpList P ops Q rest (a.put o.dst v) w1) : wpList P ops Q (o :: rest) a W := by
  refine wpList_plain hgd fun K hK => ?_
  unfold Oper.wp
  rw [hrun]
  exact hK _ _ h
variable {α : Type}
theorem R_lit (d : Kd α) {w0 W : World} (base e : Nat) (hgd : o.guard = none) {N : Tmp} (_hd : o.dst = some N) {xs : List α} {inner : List Value} {ok okp : Nat → Prop}
    (hrun : (execOp a.eval o).run P W = .ok (.value (.slice (some ⟨W.heap.size, 0, none⟩) xs.length xs.length)) (W.alloc (.cells inner.toArray e)))
    (hrep : Reps (d.M W base okp) d.sz xs inner) (hok : ∀ k, okp k → ok k) (hfresh : ok W.heap.size) (HB : Below base w0 W) (hbase : base ≤ W.heap.size) (hm : xs.length ≤ 9223372036854775807)
    (h : ∀ v1 w1, d.R e w1 base ok v1 xs → Below base w0 w1 → W.grownBy w1 none → (∃ b, v1.ownBlock = some b ∧ W.heap.size ≤ b) → wpList P ops Q rest (a.put o.dst v1) w1) : wpList P ops Q (o :: rest) a W := by
  refine event_run hgd hrun (h _ _ ⟨fun k hk => ?_, inner, ?_, ?_⟩ (HB.alloc hbase _) (World.grownBy_alloc W _ none) ⟨W.heap.size, by simp [Value.ownBlock], Nat.le_refl _⟩)
  · have : W.heap.size = k := by simpa [Value.ownBlock] using hk
    subst this
    exact hfresh
  · have h2 := World.ownsRow_lit (base := base) (e := e) (size := d.sz) W inner.toArray xs.length hbase (by simpa [maxLen] using hm) (by simpa using hrep.1)
    simpa using h2
  · refine hrep.imp_ (fun p c hp => d.M_mono (fun k hk => ⟨hok k hk.1, fun he => ?_⟩) (M_below (d.M_bound hp) (below_alloc (Below.refl _ _) _)))
    have h3 : k = W.heap.size := by simpa [Value.ownBlock] using he
    have := hk.2.2.1
    omega
end
end Kd
section
variable {P : Program}
end
def QRow (w : World) (base : Nat) (e : TypeId) (size : Nat) (v : Value) (n : Nat) (xs : List Value) : Prop :=
  xs.length = n * size ∧
  ((n = 0 ∧ ∃ A, v = .slice A 0 0 ∧ ∀ a, A = some a → base ≤ a.block ∧ ∃ cur, w.heap[a.block]? = some (.cells cur e (0, 0))) ∨
   ∃ g off cap cur, v = .slice (some ⟨g, off * size, none⟩) n cap ∧ base ≤ g ∧ w.heap[g]? = some (.cells cur e (0, 0)) ∧ n ≤ cap ∧ off + cap ≤ maxLen ∧ cur.size = (off + cap) * size ∧ (cur.toList.drop (off * size)).take (n * size) = xs)
section
variable {w w1 : World} {base n size : Nat} {e : TypeId} {v : Value} {xs : List Value}
theorem q_of_own (h : w.ownsRow base e size v n xs) : QRow w base e size v n xs := by
  obtain ⟨h1, h2⟩ := h
  refine ⟨h1, ?_⟩
  rcases h2 with ⟨rfl, h0⟩ | ⟨g, cap, cur, rfl, hb, hh, hnc, hcm, hcs, ht⟩
  · exact .inl ⟨h0, none, rfl, fun a ha => by cases ha⟩
  · exact .inr ⟨g, 0, cap, cur, by rw [Nat.zero_mul], hb, hh, hnc, by rw [Nat.zero_add]; exact hcm, by rw [Nat.zero_add]; exact hcs, by rw [Nat.zero_mul, List.drop_zero]; exact ht⟩
theorem setCells_far {g : Nat} : ∀ (vs : List Value) (o : Nat) {w : World} (k : Nat), k ≠ g → (w.setCells g o vs).heap[k]? = w.heap[k]?
  | [], _, _, _, _ => rfl
  | v :: r, o, w, k, hk => by
    rw [World.setCells, setCells_far r (o + 1) k hk]
    exact Below.heap_setCell w ⟨g, o, none⟩ v k hk
theorem setCells_same (g : Nat) : ∀ (vs : List Value) (o : Nat) (w : World), (w.setCells g o vs).os = w.os ∧ (w.setCells g o vs).tape = w.tape ∧ (w.setCells g o vs).output = w.output ∧ (w.setCells g o vs).heap.size = w.heap.size
  | [], _, _ => ⟨rfl, rfl, rfl, rfl⟩
  | v :: r, o, w => by
    obtain ⟨h1, h2, h3, h4⟩ := setCells_same g r (o + 1) (w.setCell ⟨g, o, none⟩ v)
    rw [World.setCells]
    exact ⟨h1, h2, h3, by rw [h4]; simp [World.setCell]⟩
theorem setCells_row {g : Nat} {e : TypeId} : ∀ (vs : List Value) (o : Nat) (w : World) (cur : Array Value), w.heap[g]? = some (.cells cur e (0, 0)) → o + vs.length ≤ cur.size →
    ∃ cur', (w.setCells g o vs).heap[g]? = some (.cells cur' e (0, 0)) ∧ cur'.size = cur.size ∧ cur'.toList = cur.toList.take o ++ vs ++ cur.toList.drop (o + vs.length)
  | [], o, w, cur, h, _ => ⟨cur, h, rfl, by simp⟩
  | v :: r, o, w, cur, h, hl => by
    have h2 := blk_set h o v
    simp only [List.length_cons] at hl
    obtain ⟨cur', h3, h4, h5⟩ := setCells_row r (o + 1) (w.setCell ⟨g, o, none⟩ v) _ h2 (by simp; omega)
    refine ⟨cur', h3, by rw [h4]; simp, ?_⟩
    rw [h5, Array.toList_setIfInBounds]
    have ho : o < cur.toList.length := by rw [Array.length_toList]; omega
    rw [List.take_set, List.drop_set_of_lt (by omega)]
    simp only [List.length_cons]
    rw [show o + 1 + r.length = o + (r.length + 1) by omega]
    congr 1
    rw [List.take_succ_eq_append_getElem ho, List.set_append_right _ _ (by rw [List.length_take]; omega)]
    have ho' : o < cur.size := by omega
    simp [Nat.min_eq_left (Nat.le_of_lt ho')]
end
section
variable {P : Program}
end
namespace Kd
def Q {α : Type} (d : Kd α) (e : Nat) (w : World) (base : Nat) (ok : Nat → Prop) (v : Value) (xs : List α) : Prop :=
  (∀ k, v.ownBlock = some k → ok k) ∧ ∃ inner, QRow w base e d.sz v xs.length inner ∧ Reps (d.M w base (fun k => ok k ∧ some k ≠ v.ownBlock)) d.sz xs inner
section
variable {α : Type} {d : Kd α} {e : Nat} {w w1 W : World} {base : Nat} {ok ok' : Nat → Prop} {v : Value} {xs : List α}
theorem Q_of_R (h : d.R e w base ok v xs) : d.Q e w base ok v xs := by
  obtain ⟨h0, inner, ho, hr⟩ := h
  exact ⟨h0, inner, q_of_own ho, hr⟩
theorem Q_nil (d : Kd α) (e : Nat) (w : World) (base : Nat) (ok : Nat → Prop) : d.Q e w base ok (.slice none 0 0) [] := Q_of_R (R_nil d e w base ok)
end
section
variable {P : Program} {ops : Array Oper} {rest : List Oper} {o : Oper} {a : Act} {Q' : Exit → Act → World → Prop} {Kc : Act → World → Prop} {α : Type}
end
end Kd
namespace Kd
section
variable {α : Type} {d : Kd α} {e e' : Nat} {w w1 W : World} {base : Nat} {ok : Nat → Prop} {u v : Value} {xs : List α}
theorem R_elder' (hu : d.R e W base ok u xs) (hbase : ∀ k, v.ownBlock = some k → W.heap.size ≤ k) (hb : Below W.heap.size W w1) : d.R e w1 base (fun k => ok k ∧ some k ≠ v.ownBlock) u xs :=
  R_mono (R_move (R_bound hu) (fun k hk => hb.block k hk.2.2.1)) (fun k hk => ⟨hk.1, fun he => by have := hbase k he.symm; have := hk.2.2.1; omega⟩)
theorem R_new' (h : d.R e w1 W.heap.size ok v xs) (hlt : ∀ k, u.ownBlock = some k → k < W.heap.size) : d.R e w1 W.heap.size (fun k => ok k ∧ some k ≠ u.ownBlock) v xs :=
  R_mono (R_bound h) (fun k hk => ⟨hk.1, fun he => by have := hlt k he.symm; have := hk.2.1; omega⟩)
theorem fresh' (hlt : ∀ k, u.ownBlock = some k → k < W.heap.size) : ∀ k, W.heap.size ≤ k → some k ≠ u.ownBlock := fun k hk he => by have := hlt k he.symm; omega
end
end Kd
theorem seg_get {α : Type} (a seg : List α) (o : Nat) (h : o + seg.length ≤ a.length) (q : Nat) :
    (a.take o ++ seg ++ a.drop (o + seg.length))[q]? = if q < o then a[q]? else if q < o + seg.length then seg[q - o]? else a[q]? := by
  have hl : (a.take o).length = o := by rw [List.length_take]; omega
  rw [List.append_assoc]
  by_cases h1 : q < o
  · rw [if_pos h1, List.getElem?_append_left (by omega), List.getElem?_take, if_pos h1]
  · rw [if_neg h1, List.getElem?_append_right (by omega), hl]
    by_cases h2 : q < o + seg.length
    · rw [if_pos h2, List.getElem?_append_left (by omega)]
    · rw [if_neg h2, List.getElem?_append_right (by omega), List.getElem?_drop]
      congr 1
      omega
namespace Kd
section
variable {α : Type} {d : Kd α} {e base g n cap : Nat} {ok okp : Nat → Prop} {W : World} {xs : List α}
theorem R_elem (h : d.R e W base ok (.slice (some ⟨g, 0, none⟩) n cap) xs) (z : α) (i : Int) (h0 : 0 ≤ i) (h1 : i < n) :
    ∃ c, c.length = d.sz ∧ d.M W base (fun k => ok k ∧ k ≠ g) (xs.getD i.toNat z) c ∧ (∀ j u, c[j]? = some u → W.cell? ⟨g, i.toNat * d.sz + j, none⟩ = some u) ∧ ∀ j, W.frozen? ⟨g, i.toNat * d.sz + j, none⟩ = false := by
  obtain ⟨hn, hnc, hC⟩ := R_reads' h
  obtain ⟨_, inner, ho, hr⟩ := h
  have hil : i.toNat < xs.length := by omega
  have hseg : i.toNat * d.sz + d.sz ≤ inner.length := by rw [hr.1, ← Nat.succ_mul]; exact Nat.mul_le_mul_right _ hil
  have hM := hr.2 i.toNat _ (List.getElem?_eq_getElem hil)
  refine ⟨(inner.drop (i.toNat * d.sz)).take d.sz, by rw [List.length_take, List.length_drop]; omega, ?_, fun j u hu => ?_, fun j => ?_⟩
  · rw [List.getD_eq_getElem?_getD, List.getElem?_eq_getElem hil]
    exact d.M_mono (fun k hk => ⟨hk.1, fun he => hk.2 (by rw [he]; simp [Value.ownBlock])⟩) hM
  · rw [List.getElem?_take] at hu
    split at hu
    · rw [List.getElem?_drop] at hu
      have := ho.cells (g := g) (by simp [Value.ownBlock]) _ u hu
      rwa [add_plain] at this
    · cases hu
  · obtain ⟨cells, hc⟩ := own_typed ho g (by simp [Value.ownBlock])
    exact blk_frozen hc _
theorem R_seg (h : d.R e W base ok (.slice (some ⟨g, 0, none⟩) n cap) xs) (i : Int) (h0 : 0 ≤ i) (h1 : i < n) {c seg : List Value} {j : Nat} (hcl : c.length = d.sz) (hcc : ∀ j u, c[j]? = some u → W.cell? ⟨g, i.toNat * d.sz + j, none⟩ = some u)
    (hj : j + seg.length ≤ d.sz) {x' : α} (hM : d.M W base okp x' (c.take j ++ seg ++ c.drop (j + seg.length))) (hokp : ∀ k, okp k → ok k ∧ k ≠ g) :
    d.R e (W.setCells g (i.toNat * d.sz + j) seg) base ok (.slice (some ⟨g, 0, none⟩) n cap) (xs.set i.toNat x') ∧ W.grownBy (W.setCells g (i.toNat * d.sz + j) seg) (some g) := by
  obtain ⟨hn, hnc, _⟩ := R_reads' h
  obtain ⟨hok, inner, ho, hr⟩ := h
  have hil : i.toNat < xs.length := by omega
  have hseg : i.toNat * d.sz + d.sz ≤ inner.length := by rw [hr.1, ← Nat.succ_mul]; exact Nat.mul_le_mul_right _ hil
  have hin : inner.length = n * d.sz := by rw [hr.1, hn]
  obtain ⟨ho1, ho2⟩ := ho
  rcases ho2 with ⟨hv, _⟩ | ⟨g', cap', cur, hv, hb, hh, hnc', hcm, hcs, ht⟩
  · cases hv
  injection hv with ha _ hc
  injection ha with ha
  injection ha with hg
  subst hg; subst hc
  have hfit : i.toNat * d.sz + j + seg.length ≤ cur.size := by
    have : n * d.sz ≤ cap * d.sz := Nat.mul_le_mul_right _ hnc
    omega
  obtain ⟨cur', h3, h4, h5⟩ := setCells_row seg (i.toNat * d.sz + j) W cur hh hfit
  obtain ⟨s1, s2, s3, s4⟩ := setCells_same g seg (i.toNat * d.sz + j) W
  have hfar : ∀ k, k ≠ g → (W.setCells g (i.toNat * d.sz + j) seg).heap[k]? = W.heap[k]? := fun k hk => setCells_far seg _ k hk
  have hcin : ∀ q, q < d.sz → c[q]? = inner[i.toNat * d.sz + q]? := by
    intro q hq
    have hq' : q < c.length := by omega
    have h6 := hcc q _ (List.getElem?_eq_getElem hq')
    rw [cell_of_row W g _ cur e (0, 0) hh] at h6
    rw [List.getElem?_eq_getElem hq', ← h6, ← ht, List.getElem?_take, if_pos (by rw [← hn]; omega), Array.getElem?_toList]
  refine ⟨⟨hok, inner.take (i.toNat * d.sz + j) ++ seg ++ inner.drop (i.toNat * d.sz + j + seg.length), ⟨?_, .inr ⟨g, cap, cur', by rw [List.length_set, hn], hb, h3, by rw [List.length_set, ← hn]; exact hnc, hcm, by rw [h4, hcs], ?_⟩⟩, ?_⟩,
    ⟨s1, s2, s3, by rw [s4]; exact Nat.le_refl _, fun k _ hk => hfar k (fun he => hk (by rw [he]))⟩⟩
  · rw [List.length_set]
    simp only [List.length_append, List.length_take, List.length_drop]
    rw [hr.1] at hseg ⊢
    omega
  · rw [List.length_set, ← hn]
    apply List.ext_getElem?
    intro q
    rw [List.getElem?_take, h5]
    rw [seg_get cur.toList seg (i.toNat * d.sz + j) (by rw [Array.length_toList]; omega) q, seg_get inner seg (i.toNat * d.sz + j) (by omega) q]
    have hcur : ∀ q, q < n * d.sz → cur.toList[q]? = inner[q]? := by
      intro q hq
      rw [← ht, List.getElem?_take, if_pos (by rw [← hn]; exact hq)]
    by_cases hq : q < n * d.sz
    · rw [if_pos hq, hcur q hq]
    · rw [if_neg hq, if_neg (by omega), if_neg (by omega), List.getElem?_eq_none (by omega)]
  · refine ⟨?_, fun m p hm => ?_⟩
    · rw [List.length_set]
      simp only [List.length_append, List.length_take, List.length_drop]
      rw [hr.1] at hseg ⊢
      omega
    · have hml : m < xs.length := by
        have := (List.getElem?_eq_some_iff.1 hm).1
        rwa [List.length_set] at this
      have hmfit : m * d.sz + d.sz ≤ inner.length := by rw [hr.1, ← Nat.succ_mul]; exact Nat.mul_le_mul_right _ hml
      have hgo : some g = (Value.slice (some ⟨g, 0, none⟩) n cap).ownBlock := by simp [Value.ownBlock]
      by_cases hmi : m = i.toNat
      · subst hmi
        rw [List.getElem?_set_self (by omega)] at hm
        injection hm with hm
        subst hm
        have hcells : ((inner.take (i.toNat * d.sz + j) ++ seg ++ inner.drop (i.toNat * d.sz + j + seg.length)).drop (i.toNat * d.sz)).take d.sz = c.take j ++ seg ++ c.drop (j + seg.length) := by
          apply List.ext_getElem?
          intro q
          rw [List.getElem?_take, List.getElem?_drop, seg_get inner seg _ (by omega), seg_get c seg j (by omega) q]
          by_cases hq : q < d.sz
          · rw [if_pos hq, hcin q hq]
            by_cases hq1 : q < j
            · rw [if_pos (by omega), if_pos hq1]
            · rw [if_neg (by omega), if_neg hq1]
              by_cases hq2 : q < j + seg.length
              · rw [if_pos (by omega), if_pos hq2]
                congr 1
                omega
              · rw [if_neg (by omega), if_neg hq2]
          · rw [if_neg hq, if_neg (by omega), if_neg (by omega), List.getElem?_eq_none (by omega)]
        rw [hcells]
        refine d.M_mono (fun k hk => ?_) (d.M_move (w1 := W.setCells g (i.toNat * d.sz + j) seg) (fun k hk => hfar k (hokp k hk).2) hM)
        exact ⟨(hokp k hk).1, fun he => (hokp k hk).2 (by rw [← hgo] at he; injection he)⟩
      · rw [List.getElem?_set_ne (by omega)] at hm
        have hold := hr.2 m p hm
        have hcells : ((inner.take (i.toNat * d.sz + j) ++ seg ++ inner.drop (i.toNat * d.sz + j + seg.length)).drop (m * d.sz)).take d.sz = (inner.drop (m * d.sz)).take d.sz := by
          apply List.ext_getElem?
          intro q
          rw [List.getElem?_take, List.getElem?_take, List.getElem?_drop, List.getElem?_drop, seg_get inner seg _ (by omega)]
          by_cases hq : q < d.sz
          · rw [if_pos hq, if_pos hq]
            rcases Nat.lt_or_gt_of_ne hmi with hlt | hgt
            · have : m * d.sz + d.sz ≤ i.toNat * d.sz := by rw [← Nat.succ_mul]; exact Nat.mul_le_mul_right _ hlt
              rw [if_pos (by omega)]
            · have : i.toNat * d.sz + d.sz ≤ m * d.sz := by rw [← Nat.succ_mul]; exact Nat.mul_le_mul_right _ hgt
              rw [if_neg (by omega), if_neg (by omega)]
          · rw [if_neg hq, if_neg hq]
        rw [hcells]
        refine d.M_move (fun k hk => hfar k (fun he => hk.2 (by rw [he]; exact hgo))) hold
end
end Kd
namespace Kd
section
variable {α : Type} {F : Kd α → Kd α} {sz : Nat} {E : List Nat} {hs : ∀ n, (upto F sz E n).sz = sz} {hE : ∀ n q, q ∈ (upto F sz E n).E → q ∈ E}
end
end Kd
namespace Kd
theorem reps_append {α : Type} {R : α → List Value → Prop} {size : Nat} {ps qs : List α} {cs ds : List Value} (h : Reps R size ps cs) (h' : Reps R size qs ds) : Reps R size (ps ++ qs) (cs ++ ds) := by
  refine ⟨by rw [List.length_append, List.length_append, h.1, h'.1, Nat.add_mul], fun j p hj => ?_⟩
  rcases Nat.lt_or_ge j ps.length with hlt | hge
  · rw [List.getElem?_append_left hlt] at hj
    have hle : j * size + size ≤ cs.length := by rw [h.1, ← Nat.succ_mul]; exact Nat.mul_le_mul_right _ hlt
    rw [List.drop_append_of_le_length (by omega), List.take_append_of_le_length (by rw [List.length_drop]; omega)]
    exact h.2 j p hj
  · rw [List.getElem?_append_right hge] at hj
    have h2 := h'.2 (j - ps.length) p hj
    have hle : ps.length * size ≤ j * size := Nat.mul_le_mul_right _ hge
    rw [List.drop_append, List.drop_eq_nil_of_le (by rw [h.1]; exact hle), List.nil_append, h.1, ← Nat.sub_mul]
    exact h2
section
variable {P : Program} {ops : Array Oper} {rest : List Oper} {o : Oper} {a : Act} {Q : Exit → Act → World → Prop} {α : Type}
theorem R_append_rows (d : Kd α) {Rr : α → List Value → Prop} {w0 W : World} (base : Nat) (hgd : o.guard = none) (s x : Operand) (t e : TypeId) (z : Value) (bytes : Nat)
    (ho : o.op = .call { callee := .builtin .append, args := #[s, x], argTypes := #[t, t] })
    (ht : P.underlying t = some (.slice e)) (hinfo : (P.info? e).map (fun i => (i.zero, i.size, i.bytes)) = some (some z, d.sz, bytes)) (hz : z.cells.size = d.sz) (hs0 : 0 < d.sz) (hb0 : 0 < bytes)
    (v : Value) (xs ys : List α) (A : Option Addr) (m c : Nat) (ok okp : Nat → Prop) (hs : a.eval s = v) (hx : a.eval x = .slice A m c)
    (HO : d.R e W base ok v xs) (HR : ReadsRow Rr d.sz W A m ys) (hKM : ∀ x cs, Rr x cs → d.M W base okp x cs) (hokp : ∀ k, okp k → ok k ∧ some k ≠ v.ownBlock) (hfresh : ∀ k, W.heap.size ≤ k → ok k)
    (HB : Below base w0 W) (hbase : base ≤ W.heap.size) (hl : (xs.length + m) * bytes ≤ 140737488355328)
    (h : ∀ v1 w1, d.R e w1 base ok v1 (xs ++ ys) → Below base w0 w1 → W.grownBy w1 v.ownBlock → (v1.ownBlock = v.ownBlock ∨ ∃ b, v1.ownBlock = some b ∧ W.heap.size ≤ b) → wpList P ops Q rest (a.put o.dst v1) w1) :
    wpList P ops Q (o :: rest) a W := by
  obtain ⟨i0, hi, hzz⟩ := Option.map_eq_some_iff.1 hinfo
  simp only [Prod.mk.injEq] at hzz
  obtain ⟨hz0, hz1, hz2⟩ := hzz
  have hm : ys.length = m := HR.1
  have hlen : xs.length + m ≤ 140737488355328 := Nat.le_trans (Nat.le_mul_of_pos_right _ hb0) hl
  obtain ⟨hok, inner, hown, hr⟩ := HO
  have hrun : ∃ v1 w1, (Builtin.append_ #[t, t] o.type #[v, .slice A m c]).run P W = .ok v1 w1 ∧ d.R e w1 base ok v1 (xs ++ ys) ∧ W.grownBy w1 v.ownBlock ∧ (v1.ownBlock = v.ownBlock ∨ ∃ b, v1.ownBlock = some b ∧ W.heap.size ≤ b) := by
    rcases A with _ | ad
    · have h0 : m = 0 := by
        rcases Nat.eq_zero_or_pos m with h0 | h0
        · exact h0
        · obtain ⟨ad, h, _⟩ := HR.2.2 h0
          cases h
      subst h0
      obtain rfl : ys = [] := List.eq_nil_of_length_eq_zero hm
      refine ⟨v, W, ?_, by rw [List.append_nil]; exact ⟨hok, inner, hown, hr⟩, World.grownBy.refl W _, .inl rfl⟩
      rcases hown.2 with ⟨rfl, hn⟩ | ⟨g, cap, cur, rfl, _, _, hnc, _⟩
      · simp [Builtin.append_, run_underlying ht, sizeOf, typeInfo, hi, Builtin.lenOf, Builtin.firstCells]
      · simp [Builtin.append_, run_underlying ht, sizeOf, typeInfo, hi, Builtin.lenOf, Builtin.firstCells, hnc, storeCells]
    · obtain ⟨news, hnr, hnc⟩ := ReadsRow.inner_ HR
      have hnM : Reps (d.M W base okp) d.sz ys news := hnr.imp_ (fun p c hp => hKM p c hp)
      have hone : ∀ u ∈ news, u.oneCell' = true := by
        intro u hu
        obtain ⟨q, hq, rfl⟩ := List.mem_iff_getElem.1 hu
        have hql : q / d.sz < ys.length := by
          rw [Nat.div_lt_iff_lt_mul hs0]
          rw [← hnM.1]
          exact hq
        have hc := hnM.2 (q / d.sz) _ (List.getElem?_eq_getElem hql)
        refine d.K_one (d.K_of_M hc) _ ?_
        rw [List.mem_iff_getElem?]
        refine ⟨q % d.sz, ?_⟩
        rw [List.getElem?_take, if_pos (Nat.mod_lt _ hs0), List.getElem?_drop, Nat.mul_comm, Nat.div_add_mod, List.getElem?_eq_getElem hq]
      obtain ⟨v1, w1, hrun, h2, hg, _, hat⟩ := run_append_own_at (P := P) W base t o.type e i0 z d.sz bytes ht hi hz0 hz1 hz2 hz hs0 v xs.length inner hown ad m c news (by rw [hnM.1, hm]) hnc hone (by simp only [maxLen]; omega) hl hbase
      have hat' : v1.ownBlock = v.ownBlock ∨ ∃ b, v1.ownBlock = some b ∧ W.heap.size ≤ b := by
        rcases hat with hat | hat
        · exact .inl hat
        · exact .inr ⟨_, hat, Nat.le_refl _⟩
      have hne : ∀ k, some k ≠ v.ownBlock → k < W.heap.size → some k ≠ v1.ownBlock := by
        intro k hk hlt
        rcases hat' with hat | ⟨b, hb, hle⟩
        · rw [hat]; exact hk
        · rw [hb]
          intro he
          injection he with he
          omega
      have step : ∀ {q : α} {c : List Value} {o : Nat → Prop}, d.M W base o q c → (∀ k, o k → ok k ∧ some k ≠ v.ownBlock) → d.M w1 base (fun k => ok k ∧ some k ≠ v1.ownBlock) q c := by
        intro q c o hq ho
        have h1 := d.M_move (w1 := w1) (fun k hk => hg.block k hk.2.2.1 (ho k hk.1).2) (d.M_bound hq)
        exact d.M_mono (fun k hk => ⟨(ho k hk.1).1, hne k (ho k hk.1).2 hk.2.2.1⟩) h1
      refine ⟨v1, w1, hrun, ⟨fun k hk => ?_, inner ++ news, by rw [List.length_append, hm]; exact h2, reps_append (hr.imp_ (fun _ _ hq => step hq (fun _ hk => hk))) (hnM.imp_ (fun _ _ hq => step hq hokp))⟩, hg, hat'⟩
      rcases hat' with hat | ⟨b, hb, hle⟩
      · exact hok k (hat ▸ hk)
      · rw [hb] at hk
        injection hk with hk
        exact hfresh k (by omega)
  obtain ⟨v1, w1, hr1, h1, hg, hat⟩ := hrun
  refine wpList_plain hgd fun K hK => ?_
  unfold Oper.wp execOp
  simp only [ho, resolve, invoke, builtin, Sem.run_bind, Sem.run_pure, Result.andThen_ok, List.map_toArray, List.map_cons, List.map_nil, hs, hx, hr1]
  exact hK _ _ (h v1 w1 h1 (HB.grown hg hbase (own_base hown)) hg hat)
end
end Kd
namespace Kd
section
variable {P : Program} {ops : Array Oper} {rest : List Oper} {o : Oper} {a : Act} {Q : Exit → Act → World → Prop} {α : Type}
end
end Kd
namespace Kd
section
variable {α : Type} {k : Kd α} {w : World} {A : Option Addr} {xs : List α} {m c : Nat}
end
end Kd
section
variable {P : Program}
end
theorem below_size {w W : World} (h : Below w.heap.size w W) : w.heap.size ≤ W.heap.size := h.size
theorem below_step {w W w2 : World} (h : Below w.heap.size w W) (k : Below W.heap.size W w2) : Below w.heap.size w w2 := below_then h h.size k
theorem ReadsInt.nil (W : World) (k : IntKind) : ReadsInt W k none ([] : List Int).length [] := ⟨rfl, by simp, fun h => absurd h (Nat.lt_irrefl 0)⟩
theorem ReadsInt.drewN {W : World} {k : IntKind} {A : Option Addr} {n : Nat} {xs : List Int} (h : ReadsInt W k A n xs) (m : Nat) : ReadsInt (W.drewN m) k A n xs := h
theorem below_set {w W : World} {g j : Nat} {v : Value} (h : Below w.heap.size w W) (hg : w.heap.size ≤ g) : Below w.heap.size w (W.setCell ⟨g, j, none⟩ v) := h.setCell hg _
theorem add_block (a : Addr) (i : Nat) : (a.add i).block = a.block := by unfold Addr.add; split <;> rfl
theorem ReadsOf.nil {α : Type} (enc : α → Value) (d : α) (W : World) : ReadsOf enc d W none ([] : List α).length [] := ⟨rfl, by simp, fun h => absurd h (Nat.lt_irrefl 0)⟩
theorem ReadsOf.drewN {α : Type} {enc : α → Value} {d : α} {W : World} {A : Option Addr} {n : Nat} {xs : List α} (h : ReadsOf enc d W A n xs) (m : Nat) : ReadsOf enc d (W.drewN m) A n xs := h
theorem cell_far {W : World} {p a : Addr} (h : a.block ≠ p.block) (u : Value) : (W.setCell p u).cell? a = W.cell? a := by
  have := Below.heap_setCell W p u a.block h
  simp [World.cell?, this]
theorem blk_put {w : World} {g : Nat} {t : TypeId} {cs cs' : Array Value} (h : w.heap[g]? = some (.cells cs t (0, 0))) (i : Nat) (u : Value) (e : cs.setIfInBounds i u = cs') : (w.setCell ⟨g, i, none⟩ u).heap[g]? = some (.cells cs' t (0, 0)) := e ▸ blk_set h i u
theorem below_drew1 {base : Nat} {w W : World} (h : Below base w W) : Below base w W.drew := h.drew
namespace Kd
section
variable {α β : Type} {d : Kd α} {d' : Kd β} {e e' base base' n : Nat} {ok ok' : Nat → Prop} {w W w1 W1 : World} {v u : Value} {xs : List α} {ys : List β} {A : Option Addr} {c : Nat}
end
section
variable {α : Type} {enc : α → Value} {h1 : ∀ x, (enc x).oneCell' = true} {w W : World} {A : Option Addr} {n g : Nat} {xs : List α}
end
end Kd
namespace Kd
section
variable {α : Type} {d : Kd α} {e base g : Nat} {ok : Nat → Prop} {w w1 : World} {v : Value} {xs : List α} {o : Obj}
theorem R_elderB (h : d.R e w base ok v xs) (a : Nat) (ha : w.heap.size ≤ a) : d.R e w base (fun k => ok k ∧ k ≠ a) v xs := R_mono (R_bound h) (fun k hk => ⟨hk.1, by have := hk.2.2.1; omega⟩)
theorem R_newB (h : d.R e w1 w.heap.size ok v xs) (hb : w.heap[g]? = some o) : d.R e w1 w.heap.size (fun k => ok k ∧ k ≠ g) v xs := R_mono (R_bound h) (fun k hk => ⟨hk.1, by have := blk_lt hb; have := hk.2.1; omega⟩)
theorem freshB (hb : w.heap[g]? = some o) : ∀ k, w.heap.size ≤ k → k ≠ g := fun k hk => by have := blk_lt hb; omega
end
end Kd
section
variable {P : Program} {ops : Array Oper} {rest : List Oper} {o : Oper} {a : Act} {Q : Exit → Act → World → Prop}
theorem box_event {W : World} (hgd : o.guard = none) {N : Tmp} (_hd : o.dst = some N) {cs : Array Value} {t : TypeId}
    (hrun : (execOp a.eval o).run P W = .ok (.value (.pointer (some ⟨W.heap.size, 0, none⟩))) (W.alloc (.cells cs t (0, 0))))
    (h : ∀ g, g = W.heap.size → ∀ w1, w1.heap[g]? = some (.cells cs t (0, 0)) → Below W.heap.size W w1 → wpList P ops Q rest (a.put o.dst (.pointer (some ⟨g, 0, none⟩))) w1) : wpList P ops Q (o :: rest) a W :=
  Kd.event_run hgd hrun (h _ rfl _ (blk_new W _) (below_alloc (Below.refl _ _) _))
end
namespace Kd
section
variable {α : Type} {enc : α → Value} {h1 : ∀ x, (enc x).oneCell' = true} {e base g n cap : Nat} {ok : Nat → Prop} {W : World} {xs : List α}
end
end Kd
section
variable {P : Program} {ops : Array Oper} {rest : List Oper} {o : Oper} {a : Act} {Q : Exit → Act → World → Prop}
end
namespace Kd
section
variable {α : Type} {enc : α → Value} {h1 : ∀ x, (enc x).oneCell' = true} {e base g n cap : Nat} {ok : Nat → Prop} {W : World} {xs : List α}
end
end Kd
section
variable {P : Program} {ops : Array Oper} {rest : List Oper} {o : Oper} {a : Act} {Q : Exit → Act → World → Prop} {W : World}
theorem gate_dst {N : Tmp} (_hN : o.dst = some N) (h : wpList P ops Q (o :: rest) a W) : wpList P ops Q (o :: rest) a W := h
end
section
variable {P : Program} {ops : Array Oper} {o : Oper} {a : Act} {Q : Exit → Act → World → Prop} {Kc : Act → World → Prop}
theorem event_step {W w1 : World} {v : Value} (hw : Region.wanted o (yielded ops a.tmps) = true) (hrun : (execOp a.eval o).run P W = .ok (.value v) w1) (h : Kc (a.put o.dst v) w1) : if Region.wanted o (yielded ops a.tmps) = true then Oper.wp P o a W Kc Q else Kc (a.put o.dst undef) W := by
  rw [if_pos hw]
  unfold Oper.wp
  rw [hrun]
  exact h
theorem box_step {W : World} (hw : Region.wanted o (yielded ops a.tmps) = true) {N : Tmp} (_hd : o.dst = some N) {cs : Array Value} {t : TypeId}
    (hrun : (execOp a.eval o).run P W = .ok (.value (.pointer (some ⟨W.heap.size, 0, none⟩))) (W.alloc (.cells cs t (0, 0))))
    (h : ∀ g, g = W.heap.size → ∀ w1, w1.heap[g]? = some (.cells cs t (0, 0)) → Below W.heap.size W w1 → Kc (a.put o.dst (.pointer (some ⟨g, 0, none⟩))) w1) : if Region.wanted o (yielded ops a.tmps) = true then Oper.wp P o a W Kc Q else Kc (a.put o.dst undef) W :=
  event_step hw hrun (h _ rfl _ (blk_new W _) (below_alloc (Below.refl _ _) _))
namespace Kd
variable {α : Type}
end Kd
end
inductive Vals (P : Program) (tmps : Array Value) (w : World) : List ResultVar → List Value → Prop where
  | nil : Vals P tmps w [] []
  | tmp {u : Tmp} {rs : List ResultVar} {vs : List Value} (h : Vals P tmps w rs vs) : Vals P tmps w (.tmp u :: rs) (tmps.getD u undef :: vs)
  | cell {p : Tmp} {ty : TypeId} {rs : List ResultVar} {vs : List Value} (g : Nat) (t : TypeId) (cs : Array Value) (fr : Nat × Nat) (d : TypeDesc)
      (hp : tmps.getD p undef = .pointer (some ⟨g, 0, none⟩)) (hg : w.heap[g]? = some (.cells cs t fr))
      (hu : P.underlying ty = some d) (hd : (match d with | .struct _ | .array _ _ => true | _ => false) = true) (hi : (P.info? ty).map (·.size) = some cs.size)
      (h : Vals P tmps w rs vs) : Vals P tmps w (.cell p ty :: rs) (.agg cs :: vs)
section
variable {P : Program} {tmps : Array Value} {w : World}
end
namespace Kd
section
variable {P : Program} {α : Type}
end
section
variable {P : Program} {ops : Array Oper} {rest : List Oper} {o : Oper} {a : Act} {Q : Exit → Act → World → Prop} {Kc : Act → World → Prop} {α : Type}
end
end Kd
end Go.Proofs.YtaooefnmdlajcaaW.PrintWords

namespace Go.Proofs.YtaooefnmdlajcaaW.PrintLast
section
variable {P : Program} {ops : Array Oper} {Q : Exit → Act → World → Prop} {md : Region.Mode} {S : World → Prop} {ds : List Nat}
def Region.reachB (md : Region.Mode) (ops : Array Oper) (i : Nat) : Nat → Nat → Bool
  | 0, _ => false
  | fuel + 1, d => match ops[d]? with
    | some o => o.after.any fun e => Region.binds md e && (e.on == i || Region.reachB md ops i fuel e.on)
    | none => false
def Region.closedB (md : Region.Mode) (ops : Array Oper) (listed : Array Bool) : Bool :=
  (List.range ops.size).all fun j => !listed.getD j false || match ops[j]? with
    | some o => o.after.all fun e => !Region.binds md e || listed.getD e.on false
    | none => true
def Region.lastB (md : Region.Mode) (ops : Array Oper) (listed : Array Bool) (ds : List Nat) (i : Nat) : Bool :=
  ds.all fun d => listed.getD d true || Region.reachB md ops i ops.size d
def ListedClosed (md : Region.Mode) (ops : Array Oper) (listed : Array Bool) : Prop :=
  ∀ j oj, ops[j]? = some oj → listed.getD j false = true → ∀ e ∈ oj.after, Region.binds md e = true → listed.getD e.on false = true
theorem Region.closedB_spec {listed : Array Bool} (h : Region.closedB md ops listed = true) : ListedClosed md ops listed := by
  intro j oj hj hl e he hb
  have hlt : j < ops.size := (Array.getElem?_eq_some_iff.1 hj).1
  have h1 := List.all_eq_true.1 h j (List.mem_range.2 hlt)
  simp only [hl, hj, Bool.not_true, Bool.false_or] at h1
  have h2 := Array.all_eq_true_iff_forall_mem.1 h1 e he
  simpa [hb] using h2
theorem ListedClosed.set {listed : Array Bool} {i : Nat} (h : ListedClosed md ops listed) (hi : i ∈ Region.ready md ops listed) : ListedClosed md ops (listed.setIfInBounds i true) := by
  obtain ⟨_, oi, hoi, hall⟩ := mem_ready.1 hi
  intro j oj hj hl e he hb
  by_cases hij : i = j
  · subst hij
    have : oj = oi := Option.some.inj (hj.symm.trans hoi)
    subst this
    exact getD_set_true (hall e he hb)
  · rw [getD_set_ne false hij] at hl
    exact getD_set_true (h j oj hj hl e he hb)
theorem Region.reach_listed {listed : Array Bool} {i : Nat} (hc : ListedClosed md ops listed) : ∀ (fuel d : Nat), Region.reachB md ops i fuel d = true → listed.getD d false = true → listed.getD i false = true
  | 0, _, h, _ => by simp [Region.reachB] at h
  | fuel + 1, d, h, hl => by
    unfold Region.reachB at h
    cases ho : ops[d]? with
    | none => rw [ho] at h; simp at h
    | some o =>
      rw [ho] at h
      obtain ⟨e, he, h1⟩ := Array.any_eq_true'.1 h
      simp only [Bool.and_eq_true, Bool.or_eq_true, beq_iff_eq] at h1
      have hle := hc d o ho hl e he h1.1
      rcases h1.2 with h2 | h2
      · rw [← h2]; exact hle
      · exact Region.reach_listed hc fuel e.on h2 hle
theorem Region.reach_not_ready {listed : Array Bool} {i d fuel : Nat} (hc : ListedClosed md ops listed) (hr : Region.reachB md ops i fuel d = true) (hun : listed.getD i true = false) : d ∉ Region.ready md ops listed := by
  intro hd
  obtain ⟨_, o, ho, hall⟩ := mem_ready.1 hd
  have hi : listed.getD i false = true := by
    cases fuel with
    | zero => simp [Region.reachB] at hr
    | succ n =>
      unfold Region.reachB at hr
      rw [ho] at hr
      obtain ⟨e, he, h1⟩ := Array.any_eq_true'.1 hr
      simp only [Bool.and_eq_true, Bool.or_eq_true, beq_iff_eq] at h1
      have hle := hall e he h1.1
      rcases h1.2 with h2 | h2
      · rw [← h2]; exact hle
      · exact Region.reach_listed hc n e.on h2 hle
  rcases Nat.lt_or_ge i listed.size with h' | h'
  · simp [h'] at hun hi
    rw [hun] at hi
    cases hi
  · simp [Array.getElem?_eq_none h'] at hun
def wpAnyLast (P : Program) (md : Region.Mode) (ops : Array Oper) (Q : Exit → Act → World → Prop) (S : World → Prop) (ds : List Nat) : Nat → Array Bool → Act → World → Prop
  | 0, listed, a, w => Region.ready md ops listed = [] ∧ Q .normal a w
  | fuel + 1, listed, a, w =>
    (Region.ready md ops listed = [] → Q .normal a w) ∧
    ∀ i ∈ Region.ready md ops listed, wpOp P ops Q i (fun a' w' => (i ∉ ds → S w → S w') ∧ wpAnyLast P md ops Q S ds fuel (listed.setIfInBounds i true) a' w') a w
theorem wpAny_of_last : ∀ (fuel : Nat) (listed : Array Bool) (a : Act) (w : World), wpAnyLast P md ops Q S ds fuel listed a w → wpAny P md ops Q fuel listed a w
  | 0, _, _, _, h => h
  | fuel + 1, _, _, _, h => ⟨h.1, fun i hi => wpOp_mono (fun a' w' h' => wpAny_of_last fuel _ a' w' h'.2) (h.2 i hi)⟩
theorem wpAnyLast_first {i : Nat} {oi : Oper} {v : Value} (hi : ops[i]? = some oi) (hsel : ∀ (j : Nat) (o : Oper) cs b, ops[j]? = some o → o.op ≠ .select cs b)
    (hQ : ∀ c a w, Q (.panic c) (a.put oi.dst v) w → Q (.panic c) a w) (n : Nat) :
    ∀ (fuel : Nat) (listed : Array Bool) (a : Act) (w : World),
      (∀ j oj, ops[j]? = some oj → j ≠ i → listed.getD j true = false → (∀ e ∈ oj.after, Region.binds md e = true → e.on ≠ i) → oi.apart ops oj = true) →
      ListedClosed md ops listed → (∀ d ∈ ds, listed.getD d true = false → Region.reachB md ops i n d = true) →
      i ∈ Region.ready md ops listed → YieldsIf P ops S oi v a → S w →
      wpAnyLast P md ops Q S ds fuel (listed.setIfInBounds i true) (a.put oi.dst v) w → wpAnyLast P md ops Q S ds (fuel + 1) listed a w := by
  intro fuel
  induction fuel with
  | zero =>
    intro listed a w _ _ _ hr hy hS H
    refine ⟨fun h => (by rw [h] at hr; cases hr), fun j hj => ?_⟩
    by_cases hji : j = i
    · subst hji; exact hy.wpOp hi hS ⟨fun _ h => h, H⟩
    · have := ready_mono hj hji
      rw [H.1] at this
      cases this
  | succ fuel ih =>
    intro listed a w hfree hc hd hr hy hS H
    refine ⟨fun h => (by rw [h] at hr; cases hr), fun j hj => ?_⟩
    by_cases hji : j = i
    · subst hji; exact hy.wpOp hi hS ⟨fun _ h => h, H⟩
    · have h1 := H.2 j (ready_mono hj hji)
      obtain ⟨hjun, oj, hoj, hall⟩ := mem_ready.1 hj
      have hiun := (mem_ready.1 hr).1
      have hnot : ∀ e ∈ oj.after, Region.binds md e = true → e.on ≠ i := fun e he hb heq => by
        have h1 := hall e he hb
        rw [heq] at h1
        rcases Nat.lt_or_ge i listed.size with h' | h'
        · simp [h'] at hiun h1; rw [hiun] at h1; cases h1
        · simp [Array.getElem?_eq_none h'] at h1
      have hjd : j ∉ ds := fun hm => Region.reach_not_ready hc (hd j hm hjun) hiun hj
      have h2 := wpOp_putIf hoj (hfree j oj hoj hji hjun hnot) (fun cs b => hsel i oi cs b hi) (fun cs b => hsel j oj cs b hoj) hQ hy h1
      have hfree' : ∀ k ok, ops[k]? = some ok → k ≠ i → (listed.setIfInBounds j true).getD k true = false →
          (∀ e ∈ ok.after, Region.binds md e = true → e.on ≠ i) → oi.apart ops ok = true := fun k ok hk hki hun hno => by
        refine hfree k ok hk hki ?_ hno
        by_cases hjk : j = k
        · subst hjk; exact hjun
        · rw [getD_set_ne true hjk] at hun; exact hun
      have hd' : ∀ d ∈ ds, (listed.setIfInBounds j true).getD d true = false → Region.reachB md ops i n d = true := fun d hm hun => by
        refine hd d hm ?_
        by_cases hjk : j = d
        · subst hjk; exact hjun
        · rw [getD_set_ne true hjk] at hun; exact hun
      refine wpOp_mono (fun a' w' h3 => ⟨h3.2.1, ih (listed.setIfInBounds j true) a' w' hfree' (hc.set hj) hd' (ready_mono hr (Ne.symm hji)) h3.1 (h3.2.1 hjd hS) ?_⟩) h2
      rw [Array.setIfInBounds_comm _ _ hji]
      exact h3.2.2
theorem wpAnyLast_any {i : Nat} {oi : Oper} {v : Value} (hi : ops[i]? = some oi) (hsel : ∀ (j : Nat) (o : Oper) cs b, ops[j]? = some o → o.op ≠ .select cs b)
    (hQ : ∀ c a w, Q (.panic c) (a.put oi.dst v) w → Q (.panic c) a w) :
    ∀ (fuel : Nat) (listed : Array Bool) (a : Act) (w : World),
      (∀ j oj, ops[j]? = some oj → j ≠ i → listed.getD j true = false → (∀ e ∈ oj.after, Region.binds md e = true → e.on ≠ i) → oi.apart ops oj = true) →
      i ∈ Region.ready md ops listed → Yields P ops oi v a →
      wpAnyLast P md ops Q S ds fuel (listed.setIfInBounds i true) (a.put oi.dst v) w → wpAnyLast P md ops Q S ds (fuel + 1) listed a w := by
  intro fuel
  induction fuel with
  | zero =>
    intro listed a w _ hr hy H
    refine ⟨fun h => (by rw [h] at hr; cases hr), fun j hj => ?_⟩
    by_cases hji : j = i
    · subst hji; exact (hy.yieldsIf (S := fun _ => True)).wpOp hi trivial ⟨fun _ h => h, H⟩
    · have := ready_mono hj hji
      rw [H.1] at this
      cases this
  | succ fuel ih =>
    intro listed a w hfree hr hy H
    refine ⟨fun h => (by rw [h] at hr; cases hr), fun j hj => ?_⟩
    by_cases hji : j = i
    · subst hji; exact (hy.yieldsIf (S := fun _ => True)).wpOp hi trivial ⟨fun _ h => h, H⟩
    · have h1 := H.2 j (ready_mono hj hji)
      obtain ⟨hjun, oj, hoj, hall⟩ := mem_ready.1 hj
      have hiun := (mem_ready.1 hr).1
      have hnot : ∀ e ∈ oj.after, Region.binds md e = true → e.on ≠ i := fun e he hb heq => by
        have h1 := hall e he hb
        rw [heq] at h1
        rcases Nat.lt_or_ge i listed.size with h' | h'
        · simp [h'] at hiun h1; rw [hiun] at h1; cases h1
        · simp [Array.getElem?_eq_none h'] at h1
      have h2 := wpOp_put hoj (hfree j oj hoj hji hjun hnot) (fun cs b => hsel i oi cs b hi) (fun cs b => hsel j oj cs b hoj) hQ hy h1
      have hfree' : ∀ k ok, ops[k]? = some ok → k ≠ i → (listed.setIfInBounds j true).getD k true = false →
          (∀ e ∈ ok.after, Region.binds md e = true → e.on ≠ i) → oi.apart ops ok = true := fun k ok hk hki hun hno => by
        refine hfree k ok hk hki ?_ hno
        by_cases hjk : j = k
        · subst hjk; exact hjun
        · rw [getD_set_ne true hjk] at hun; exact hun
      refine wpOp_mono (fun a' w' h3 => ⟨h3.2.1, ih (listed.setIfInBounds j true) a' w' hfree' (ready_mono hr (Ne.symm hji)) h3.1 ?_⟩) h2
      rw [Array.setIfInBounds_comm _ _ hji]
      exact h3.2.2
theorem wpAnyLast_take {i : Nat} {oi : Oper} {v : Value} {fuel : Nat} {listed : Array Bool} {a : Act} {w : World} (hi : ops[i]? = some oi)
    (hs : Region.noSelect ops = true) (hf : Region.free md ops listed i = true) (hr : (Region.ready md ops listed).contains i = true)
    (hc : Region.closedB md ops listed = true) (hl : Region.lastB md ops listed ds i = true)
    (hQ : ∀ c a w, Q (.panic c) (a.put oi.dst v) w → Q (.panic c) a w) (hy : YieldsIf P ops S oi v a) (hS : S w)
    (h : wpAnyLast P md ops Q S ds fuel (listed.setIfInBounds i true) (a.put oi.dst v) w) : wpAnyLast P md ops Q S ds (fuel + 1) listed a w :=
  wpAnyLast_first hi (Region.noSelect_spec hs) hQ ops.size fuel listed a w (Region.free_spec hi hf) (Region.closedB_spec hc)
    (fun d hm hun => by have := List.all_eq_true.1 hl d hm; rw [hun] at this; simpa using this) (by simpa using hr) hy hS h
theorem wpAnyLast_all {rs : List Nat} {fuel : Nat} {listed : Array Bool} {a : Act} {w : World} (hr : Region.ready md ops listed = rs) (hne : rs ≠ [])
    (h : ∀ i ∈ rs, wpOp P ops Q i (fun a' w' => (i ∉ ds → S w → S w') ∧ wpAnyLast P md ops Q S ds fuel (listed.setIfInBounds i true) a' w') a w) : wpAnyLast P md ops Q S ds (fuel + 1) listed a w :=
  ⟨fun h0 => absurd (hr ▸ h0) hne, hr ▸ h⟩
theorem wpAnyLast_done {listed : Array Bool} {a : Act} {w : World} (hr : Region.ready md ops listed = []) (h : Q .normal a w) :
    ∀ fuel, wpAnyLast P md ops Q S ds fuel listed a w
  | 0 => ⟨hr, h⟩
  | _ + 1 => ⟨fun _ => h, by rw [hr]; simp⟩
theorem wp_region_last {id : Nat} {a : Act} {w : World} (hm : P.follows .mixedOrders = true)
    (h : wpAnyLast P .any ops Q S ds ops.size (Array.replicate ops.size false) a { w with drawn := w.drawn + 1 }) : (Code.region id ops true).wp P Q a w :=
  wp_region_any hm (wpAny_of_last _ _ _ _ h)
end
section
variable {P : Program} {ops : Array Oper} {Q : Exit → Act → World → Prop} {md : Region.Mode} {S : World → Prop} {ds : List Nat}
def AllReadyL (P : Program) (md : Region.Mode) (ops : Array Oper) (Q : Exit → Act → World → Prop) (S : World → Prop) (ds : List Nat) (fuel : Nat) (listed : Array Bool) (a : Act) (w : World) (rs : List Nat) : Prop :=
  ∀ i ∈ rs, wpOp P ops Q i (fun a' w' => (i ∉ ds → S w → S w') ∧ wpAnyLast P md ops Q S ds fuel (listed.setIfInBounds i true) a' w') a w
theorem AllReadyL.nil {fuel : Nat} {listed : Array Bool} {a : Act} {w : World} : AllReadyL P md ops Q S ds fuel listed a w [] := fun _ h => by cases h
theorem AllReadyL.cons {fuel : Nat} {listed : Array Bool} {a : Act} {w : World} {i : Nat} {o : Oper} {rs : List Nat} (ho : ops[i]? = some o) (hd : i ∉ ds)
    (h : ∀ K' : Act → World → Prop, Shut (∀ a w, S w → (S w → wpAnyLast P md ops Q S ds fuel (listed.setIfInBounds i true) a w) → K' a w) → if Region.wanted o (yielded ops a.tmps) = true then Oper.wp P o a w K' Q else K' (a.put o.dst undef) w)
    (hs : AllReadyL P md ops Q S ds fuel listed a w rs) : AllReadyL P md ops Q S ds fuel listed a w (i :: rs) := fun j hj => by
  rcases List.mem_cons.1 hj with rfl | hj
  · exact wpOp_step ho (fun K' hK => h K' (fun a w hS hW => hK a w ⟨fun _ _ => hS, hW hS⟩))
  · exact hs j hj
theorem AllReadyL.cons_last {fuel : Nat} {listed : Array Bool} {a : Act} {w : World} {i : Nat} {o : Oper} {rs : List Nat} (ho : ops[i]? = some o) (hd : i ∈ ds)
    (h : ∀ K' : Act → World → Prop, Shut (∀ a w, wpAnyLast P md ops Q S ds fuel (listed.setIfInBounds i true) a w → K' a w) → if Region.wanted o (yielded ops a.tmps) = true then Oper.wp P o a w K' Q else K' (a.put o.dst undef) w)
    (hs : AllReadyL P md ops Q S ds fuel listed a w rs) : AllReadyL P md ops Q S ds fuel listed a w (i :: rs) := fun j hj => by
  rcases List.mem_cons.1 hj with rfl | hj
  · exact wpOp_step ho (fun K' hK => h K' (fun a w hW => hK a w ⟨fun hn => absurd hd hn, hW⟩))
  · exact hs j hj
theorem wpAnyLast_ready {rs : List Nat} {fuel : Nat} {listed : Array Bool} {a : Act} {w : World} (hr : Region.ready md ops listed = rs) (hne : rs ≠ [])
    (h : AllReadyL P md ops Q S ds fuel listed a w rs) : wpAnyLast P md ops Q S ds (fuel + 1) listed a w := wpAnyLast_all hr hne h
theorem start_ {id n : Nat} {a : Act} {w : World} (l : Array Bool) (hm : P.follows .mixedOrders = true) (hn : ops.size = n) (hl : Array.replicate n false = l) (hS : S w.drew)
    (h : S w.drew → wpAnyLast P .any ops Q S ds n l a w.drew) : (Code.region id ops true).wp P Q a w := by
  subst hn
  subst hl
  exact wp_region_last hm (h hS)
def takeB (md : Region.Mode) (ops : Array Oper) (ds : List Nat) (l l' : Array Bool) (i : Nat) : Bool :=
  Region.noSelect ops && Region.free md ops l i && (Region.ready md ops l).contains i && Region.closedB md ops l && Region.lastB md ops l ds i && (l.setIfInBounds i true == l')
theorem take_ {i : Nat} {N : Option Tmp} {oi : Oper} {v : Value} {fuel : Nat} {l : Array Bool} {a : Act} {w : World} (l' : Array Bool) (hi : ops[i]? = some oi) (hN : oi.dst = N) (hc : takeB md ops ds l l' i = true)
    (hQ : ∀ c a w, Q (.panic c) (a.put oi.dst v) w → Q (.panic c) a w) (hy : YieldsIf P ops S oi v a) (hS : S w) {a' : Act} (ha : a.put N v = a')
    (h : wpAnyLast P md ops Q S ds fuel l' a' w) : wpAnyLast P md ops Q S ds (fuel + 1) l a w := by
  subst ha
  subst hN
  simp only [takeB, Bool.and_eq_true, beq_iff_eq] at hc
  obtain ⟨⟨⟨⟨⟨h1, h2⟩, h3⟩, h4⟩, h5⟩, h6⟩ := hc
  subst h6
  exact wpAnyLast_take hi h1 h2 h3 h4 h5 hQ hy hS h
def anyB (md : Region.Mode) (ops : Array Oper) (l l' : Array Bool) (i : Nat) : Bool :=
  Region.noSelect ops && Region.free md ops l i && (Region.ready md ops l).contains i && (l.setIfInBounds i true == l')
theorem pure_ {i : Nat} {N : Option Tmp} {oi : Oper} {v : Value} {fuel : Nat} {l : Array Bool} {a : Act} {w : World} (l' : Array Bool) (hi : ops[i]? = some oi) (hN : oi.dst = N) (hc : anyB md ops l l' i = true)
    (hQ : ∀ c a w, Q (.panic c) (a.put oi.dst v) w → Q (.panic c) a w) (hy : Yields P ops oi v a) {a' : Act} (ha : a.put N v = a')
    (h : wpAnyLast P md ops Q S ds fuel l' a' w) : wpAnyLast P md ops Q S ds (fuel + 1) l a w := by
  subst ha
  subst hN
  simp only [anyB, Bool.and_eq_true, beq_iff_eq] at hc
  obtain ⟨⟨⟨h1, h2⟩, h3⟩, h6⟩ := hc
  subst h6
  exact wpAnyLast_any hi (Region.noSelect_spec h1) hQ fuel l a w (Region.free_spec hi h2) (by simpa using h3) hy h
def readyB (md : Region.Mode) (ops : Array Oper) (l l' : Array Bool) (i : Nat) : Bool := (Region.ready md ops l == [i]) && (l.setIfInBounds i true == l')
theorem one_ {i : Nat} {N : Option Tmp} {oi : Oper} {fuel : Nat} {l : Array Bool} {a : Act} {w : World} (l' : Array Bool) (hi : ops[i]? = some oi) (hN : oi.dst = N) (hc : readyB md ops l l' i = true) (hd : i ∉ ds)
    (h : ∀ K : Act → World → Prop, Shut (∀ a' w', S w' → (S w' → wpAnyLast P md ops Q S ds fuel l' a' w') → K a' w') → if Region.wanted oi (yielded ops a.tmps) = true then Oper.wp P oi a w K Q else K (a.put N undef) w) :
    wpAnyLast P md ops Q S ds (fuel + 1) l a w := by
  subst hN
  simp only [readyB, Bool.and_eq_true, beq_iff_eq] at hc
  obtain ⟨h1, h2⟩ := hc
  subst h2
  exact wpAnyLast_ready h1 (by simp) (AllReadyL.cons hi hd (fun K hK => h K hK) AllReadyL.nil)
theorem last_ {i : Nat} {N : Option Tmp} {oi : Oper} {fuel : Nat} {l : Array Bool} {a : Act} {w : World} (l' : Array Bool) (hi : ops[i]? = some oi) (hN : oi.dst = N) (hc : readyB md ops l l' i = true) (hd : i ∈ ds)
    (h : ∀ K : Act → World → Prop, Shut (∀ a' w', wpAnyLast P md ops Q S ds fuel l' a' w' → K a' w') → if Region.wanted oi (yielded ops a.tmps) = true then Oper.wp P oi a w K Q else K (a.put N undef) w) :
    wpAnyLast P md ops Q S ds (fuel + 1) l a w := by
  subst hN
  simp only [readyB, Bool.and_eq_true, beq_iff_eq] at hc
  obtain ⟨h1, h2⟩ := hc
  subst h2
  exact wpAnyLast_ready h1 (by simp) (AllReadyL.cons_last hi hd (fun K hK => h K hK) AllReadyL.nil)
theorem done_ {l : Array Bool} {a : Act} {w : World} {n : Nat} (hr : (Region.ready md ops l == []) = true) (h : Q .normal a w) : wpAnyLast P md ops Q S ds n l a w := wpAnyLast_done (by simpa using hr) h n
theorem two_ {i j : Nat} {Ni Nj : Option Tmp} {oi oj : Oper} {fuel : Nat} {l : Array Bool} {a : Act} {w : World} (li lj : Array Bool) (hi : ops[i]? = some oi) (hj : ops[j]? = some oj) (hNi : oi.dst = Ni) (hNj : oj.dst = Nj)
    (hc : (Region.ready md ops l == [i, j] && l.setIfInBounds i true == li && l.setIfInBounds j true == lj) = true) (hdi : i ∉ ds) (hdj : j ∉ ds)
    (h1 : ∀ K : Act → World → Prop, Shut (∀ a' w', S w' → (S w' → wpAnyLast P md ops Q S ds fuel li a' w') → K a' w') → if Region.wanted oi (yielded ops a.tmps) = true then Oper.wp P oi a w K Q else K (a.put Ni undef) w)
    (h2 : ∀ K : Act → World → Prop, Shut (∀ a' w', S w' → (S w' → wpAnyLast P md ops Q S ds fuel lj a' w') → K a' w') → if Region.wanted oj (yielded ops a.tmps) = true then Oper.wp P oj a w K Q else K (a.put Nj undef) w) :
    wpAnyLast P md ops Q S ds (fuel + 1) l a w := by
  subst hNi
  subst hNj
  simp only [Bool.and_eq_true, beq_iff_eq] at hc
  obtain ⟨⟨h3, h4⟩, h5⟩ := hc
  subst h4
  subst h5
  exact wpAnyLast_ready h3 (by simp) (AllReadyL.cons hi hdi (fun K hK => h1 K hK) (AllReadyL.cons hj hdj (fun K hK => h2 K hK) AllReadyL.nil))
def putAll : Act → List (Tmp × Value) → Act
  | a, [] => a
  | a, (n, v) :: r => putAll (a.put (some n) v) r
theorem join_ {σ : Type} {fuel : Nat} {l : Array Bool} {a : Act} {w : World} (fuel' : Nat) (l' : Array Bool) (ns : σ → List (Tmp × Value)) (F : σ → World → Prop)
    (hcont : ∀ s w', F s w' → wpAnyLast P md ops Q S ds fuel' l' (putAll a (ns s)) w')
    (h : (∀ s w', F s w' → wpAnyLast P md ops Q S ds fuel' l' (putAll a (ns s)) w') → wpAnyLast P md ops Q S ds fuel l a w) : wpAnyLast P md ops Q S ds fuel l a w := h hcont
theorem norm_ {fuel : Nat} {l : Array Bool} {a a' : Act} {w : World} (ha : a = a') (h : wpAnyLast P md ops Q S ds fuel l a' w) : wpAnyLast P md ops Q S ds fuel l a w := by
  subst ha
  exact h
theorem enters_ {f : FuncId} {fn : Func} (hf : P.funcs[f]? = some fn) (hname : (fn.name == "runtime.NumGoroutine") = false) (hb : fn.body.isSome = true) (args : Array Value) (w : World) : (callFunc f args).run P w = .ok (.enter f args) w := by
  have h1 : fn.name ≠ "runtime.NumGoroutine" := by simpa using hname
  obtain ⟨c, hc⟩ := Option.isSome_iff_exists.1 hb
  simp [callFunc, hf, h1, hc]
theorem goesL_ {rest : List Oper} {oi : Oper} {a : Act} {w : World} (N : Option Tmp) (hd : oi.dst = N) (hg : oi.guard = none) {f : FuncId} {fn : Func} {as : Array Operand} {ts : Array TypeId} (hf : P.funcs[f]? = some fn) (hname : (fn.name == "runtime.NumGoroutine") = false) (hb : fn.body.isSome = true) (args : Array Value)
    (hop : oi.op = .call { callee := .value (.func f), args := as, argTypes := ts }) (hargs : as.map a.eval = args)
    (h : Calls P f args w fun e w' => ∃ v, e = .returned v ∧ wpList P ops Q rest (a.put N v) w') : wpList P ops Q (oi :: rest) a w := by
  refine wpList_plain hg fun K hK => ?_
  have he := enters_ hf hname hb args w
  have hrun : (execOp a.eval oi).run P w = .ok (.enter f args) w := by
    unfold execOp
    simp [hop, resolve, Deferred.ofValue, invoke, Act.eval, hargs, he]
  unfold Oper.wp
  rw [hrun, Oper.upon_enter]
  refine h.mono fun e w'' hh => ?_
  obtain ⟨v, rfl, hk⟩ := hh
  subst hd
  exact hK _ _ hk
theorem skip_ {oi : Oper} {a : Act} {w w1 : World} {K : Act → World → Prop} (hw : Region.wanted oi (yielded ops a.tmps) = true) (hN : oi.dst = none) (hrun : (execOp a.eval oi).run P w = .ok .skip w1)
    (h : K a w1) : if Region.wanted oi (yielded ops a.tmps) = true then Oper.wp P oi a w K Q else K (a.put none undef) w := by
  rw [if_pos hw]
  unfold Oper.wp
  rw [hrun]
  show K (a.put oi.dst undef) w1
  rw [hN]
  exact h
theorem i64_w (n : Int) : IntKind.i64.wrap n = Go.RowKit.wrap64 n := by unfold Go.RowKit.wrap64; exact IntKind.wrap_i64 n
theorem i32_w (n : Int) : IntKind.i32.wrap n = Go.RowKit.wrap32 n := by unfold Go.RowKit.wrap32; exact IntKind.wrap_i32 n
end
end Go.Proofs.YtaooefnmdlajcaaW.PrintLast

namespace Go.Proofs.YtaooefnmdlajcaaW.PrintLast
open Go.Proofs.YtaooefnmdlajcaaW.PrintWords (Aside0)
def needsOf (md : Region.Mode) (o : Oper) : List Nat := (o.after.toList.filter (fun e => Region.binds md e)).map (fun e => e.on)
def clashOf (md : Region.Mode) (ops : Array Oper) (i : Nat) (oi : Oper) : List Nat := (List.range ops.size).filter fun j => !(j == i) && match ops[j]? with
  | some oj => !(oj.after.any (fun e => Region.binds md e && e.on == i) || oi.apart ops oj)
  | none => false
def rtab (md : Region.Mode) (ops : Array Oper) : Bool × List (List Nat × List Nat) := (Region.noSelect ops, (List.range ops.size).map fun i => match ops[i]? with
  | some o => (needsOf md o, clashOf md ops i o)
  | none => ([], []))
def readyAt (T : List (List Nat × List Nat)) (l : List Bool) (i : Nat) : Bool := !l.getD i true && match T[i]? with
  | some r => r.1.all (fun j => l.getD j false)
  | none => false
def readyT (T : List (List Nat × List Nat)) (l : List Bool) : List Nat := (List.range T.length).filter (readyAt T l)
def freeT (T : List (List Nat × List Nat)) (l : List Bool) (i : Nat) : Bool := match T[i]? with
  | some r => r.2.all (fun j => l.getD j true)
  | none => false
def closedT (T : List (List Nat × List Nat)) (l : List Bool) : Bool := (List.range T.length).all fun j => !l.getD j false || match T[j]? with
  | some r => r.1.all (fun k => l.getD k false)
  | none => true
def reachT (T : List (List Nat × List Nat)) (i : Nat) : Nat → Nat → Bool
  | 0, _ => false
  | fuel + 1, d => match T[d]? with
    | some r => r.1.any fun j => j == i || reachT T i fuel j
    | none => false
def lastT (T : List (List Nat × List Nat)) (l : List Bool) (ds : List Nat) (i : Nat) : Bool := ds.all fun d => l.getD d true || reachT T i T.length d
section
variable {md : Region.Mode} {ops : Array Oper} {T : Bool × List (List Nat × List Nat)} {l l' li lj lk : Array Bool} {ds : List Nat} {i j k : Nat}
theorem gd (l : Array Bool) (j : Nat) (b : Bool) : l.getD j b = l.toList.getD j b := by simp [Array.getD_eq_getD_getElem?, List.getD_eq_getElem?_getD]
theorem needs_all (o : Oper) (p : Nat → Bool) : o.after.all (fun e => !Region.binds md e || p e.on) = (needsOf md o).all p := by
  unfold needsOf
  rw [← Array.all_toList]
  induction o.after.toList with
  | nil => rfl
  | cons e r ih =>
    rw [List.all_cons, ih, List.filter_cons]
    cases h : Region.binds md e <;> simp
theorem needs_any (o : Oper) (p : Nat → Bool) : o.after.any (fun e => Region.binds md e && p e.on) = (needsOf md o).any p := by
  unfold needsOf
  rw [← Array.any_toList]
  induction o.after.toList with
  | nil => rfl
  | cons e r ih =>
    rw [List.any_cons, ih, List.filter_cons]
    cases h : Region.binds md e <;> simp
theorem rtab_length : (rtab md ops).2.length = ops.size := by simp [rtab]
theorem rtab_some {o : Oper} (h : ops[i]? = some o) : (rtab md ops).2[i]? = some (needsOf md o, clashOf md ops i o) := by
  have hi := (Array.getElem?_eq_some_iff.1 h).1
  unfold rtab
  rw [List.getElem?_map, List.getElem?_range hi, Option.map_some, h]
theorem rtab_none (h : ops[i]? = none) : (rtab md ops).2[i]? = none := by
  have hi : ops.size ≤ i := Array.getElem?_eq_none_iff.1 h
  exact List.getElem?_eq_none (by rw [rtab_length]; exact hi)
theorem readyAt_eq : readyAt (rtab md ops).2 l.toList i = (!l.getD i true && ((ops[i]?).map (·.after.all fun e => !Region.binds md e || l.getD e.on false)).getD false) := by
  unfold readyAt
  rw [gd]
  cases h : ops[i]? with
  | none => rw [rtab_none h]; rfl
  | some o =>
    rw [rtab_some h]
    simp only [Option.map_some, Option.getD_some]
    rw [← needs_all]
    simp only [gd]
theorem ready_eq : Region.ready md ops l = readyT (rtab md ops).2 l.toList := by
  unfold Region.ready readyT
  rw [rtab_length]
  refine List.filter_congr (fun i _ => ?_)
  rw [readyAt_eq]
theorem free_eq : Region.free md ops l i = freeT (rtab md ops).2 l.toList i := by
  unfold Region.free freeT
  cases h : ops[i]? with
  | none => rw [rtab_none h]
  | some oi =>
    rw [rtab_some h]
    simp only [clashOf]
    rw [List.all_filter]
    congr 1
    funext j
    rw [gd]
    cases hj : ops[j]? with
    | none => cases (j == i) <;> cases (l.toList.getD j true) <;> simp
    | some oj =>
      cases (j == i) <;> cases (l.toList.getD j true) <;> cases (oj.after.any (fun e => Region.binds md e && e.on == i) || oi.apart ops oj) <;> simp_all
theorem closed_eq : Region.closedB md ops l = closedT (rtab md ops).2 l.toList := by
  unfold Region.closedB closedT
  rw [rtab_length]
  congr 1
  funext j
  rw [gd]
  cases h : ops[j]? with
  | none => rw [rtab_none h]
  | some o =>
    rw [rtab_some h]
    simp only
    rw [← needs_all]
    simp only [gd]
theorem reach_eq : ∀ (fuel d : Nat), Region.reachB md ops i fuel d = reachT (rtab md ops).2 i fuel d
  | 0, _ => rfl
  | fuel + 1, d => by
    unfold Region.reachB reachT
    cases h : ops[d]? with
    | none => rw [rtab_none h]
    | some o =>
      rw [rtab_some h]
      simp only
      rw [← needs_any]
      congr 1
      funext e
      rw [reach_eq fuel]
theorem last_eq : Region.lastB md ops l ds i = lastT (rtab md ops).2 l.toList ds i := by
  unfold Region.lastB lastT
  rw [rtab_length]
  congr 1
  funext d
  rw [gd, reach_eq]
theorem readyAt_mem (h : readyAt T.2 l.toList i = true) (hT : rtab md ops = T) : (Region.ready md ops l).contains i = true := by
  subst hT
  rw [ready_eq]
  unfold readyT
  rw [List.contains_iff_mem, List.mem_filter, List.mem_range]
  refine ⟨?_, h⟩
  unfold readyAt at h
  rw [Bool.and_eq_true] at h
  cases hq : (rtab md ops).2[i]? with
  | none => rw [hq] at h; simp at h
  | some r => exact (List.getElem?_eq_some_iff.1 hq).1
theorem set_of (h : (l.toList.set i true == l'.toList) = true) : (l.setIfInBounds i true == l') = true := by
  rw [beq_iff_eq] at h ⊢
  apply Array.ext'
  rw [Array.toList_setIfInBounds]
  exact h
def anyT (T : Bool × List (List Nat × List Nat)) (l l' : List Bool) (i : Nat) : Bool := T.1 && freeT T.2 l i && readyAt T.2 l i && (l.set i true == l')
theorem any_of (hT : rtab md ops = T) (h : anyT T l.toList l'.toList i = true) : anyB md ops l l' i = true := by
  simp only [anyT, Bool.and_eq_true] at h
  obtain ⟨⟨⟨h1, h2⟩, h3⟩, h4⟩ := h
  have h5 := readyAt_mem h3 hT
  have h6 := set_of h4
  subst hT
  simp only [anyB, Bool.and_eq_true]
  exact ⟨⟨⟨h1, by rw [free_eq]; exact h2⟩, h5⟩, h6⟩
def takeT (T : Bool × List (List Nat × List Nat)) (ds : List Nat) (l l' : List Bool) (i : Nat) : Bool := T.1 && freeT T.2 l i && readyAt T.2 l i && closedT T.2 l && lastT T.2 l ds i && (l.set i true == l')
theorem take_of (hT : rtab md ops = T) (h : takeT T ds l.toList l'.toList i = true) : takeB md ops ds l l' i = true := by
  simp only [takeT, Bool.and_eq_true] at h
  obtain ⟨⟨⟨⟨⟨h1, h2⟩, h3⟩, h4⟩, h5⟩, h6⟩ := h
  have h7 := readyAt_mem h3 hT
  have h8 := set_of h6
  subst hT
  simp only [takeB, Bool.and_eq_true]
  exact ⟨⟨⟨⟨⟨h1, by rw [free_eq]; exact h2⟩, h7⟩, by rw [closed_eq]; exact h4⟩, by rw [last_eq]; exact h5⟩, h8⟩
theorem one_of (hT : rtab md ops = T) (h : (readyT T.2 l.toList == [i] && l.toList.set i true == l'.toList) = true) : readyB md ops l l' i = true := by
  simp only [Bool.and_eq_true] at h
  obtain ⟨h1, h2⟩ := h
  subst hT
  simp only [readyB, Bool.and_eq_true]
  exact ⟨by rw [ready_eq]; exact h1, set_of h2⟩
theorem two_of (hT : rtab md ops = T) (h : (readyT T.2 l.toList == [i, j] && l.toList.set i true == li.toList && l.toList.set j true == lj.toList) = true) : (Region.ready md ops l == [i, j] && l.setIfInBounds i true == li && l.setIfInBounds j true == lj) = true := by
  simp only [Bool.and_eq_true] at h ⊢
  obtain ⟨⟨h1, h2⟩, h3⟩ := h
  subst hT
  exact ⟨⟨by rw [ready_eq]; exact h1, set_of h2⟩, set_of h3⟩
theorem done_of (hT : rtab md ops = T) (h : (readyT T.2 l.toList == []) = true) : (Region.ready md ops l == []) = true := by
  subst hT
  rw [ready_eq]
  exact h
def upM (B : List Nat) (d : Nat) : List Nat → Nat
  | [] => 0
  | n :: r => (2 ^ n ||| (if n < d then B.getD n 0 else 0)) ||| upM B d r
def waitsOk (T : List (List Nat × List Nat)) (B : List Nat) : Bool := (List.range T.length).all fun d => match T[d]? with
  | some r => (B.getD d 0 ||| upM B d r.1) == upM B d r.1
  | none => false
theorem upM_bit {B : List Nat} {d i : Nat} : ∀ {ns : List Nat}, (upM B d ns).testBit i = true → ∃ n ∈ ns, n = i ∨ (n < d ∧ (B.getD n 0).testBit i = true)
  | [], h => by simp [upM] at h
  | n :: r, h => by
    unfold upM at h
    rw [Nat.testBit_or, Nat.testBit_or, Bool.or_eq_true, Bool.or_eq_true] at h
    rcases h with (h | h) | h
    · rw [Nat.testBit_two_pow] at h
      exact ⟨n, List.mem_cons_self, .inl (by simpa using h)⟩
    · by_cases hn : n < d
      · rw [if_pos hn] at h
        exact ⟨n, List.mem_cons_self, .inr ⟨hn, h⟩⟩
      · rw [if_neg hn] at h
        simp at h
    · obtain ⟨m, hm, h2⟩ := upM_bit h
      exact ⟨m, List.mem_cons_of_mem _ hm, h2⟩
theorem reach_bit {T : List (List Nat × List Nat)} {B : List Nat} (hB : waitsOk T B = true) : ∀ (fuel d : Nat), d < fuel → d < T.length → (B.getD d 0).testBit i = true → reachT T i fuel d = true
  | 0, d, h, _, _ => by omega
  | fuel + 1, d, h, hd, hb => by
    have h1 := List.all_eq_true.1 hB d (List.mem_range.2 hd)
    cases hr : T[d]? with
    | none => rw [hr] at h1; simp at h1
    | some r =>
      rw [hr] at h1
      simp only [beq_iff_eq] at h1
      have h2 : (upM B d r.1).testBit i = true := by rw [← h1, Nat.testBit_or, hb, Bool.true_or]
      obtain ⟨n, hn, h3⟩ := upM_bit h2
      unfold reachT
      rw [hr]
      simp only
      rw [List.any_eq_true]
      refine ⟨n, hn, ?_⟩
      rcases h3 with rfl | ⟨h4, h5⟩
      · simp
      · rw [reach_bit hB fuel n (by omega) (by omega) h5, Bool.or_true]
def lastW (T : List (List Nat × List Nat)) (B : List Nat) (l : List Bool) (ds : List Nat) (i : Nat) : Bool := ds.all fun d => l.getD d true || (decide (d < T.length) && (B.getD d 0).testBit i)
def takeW (T : Bool × List (List Nat × List Nat)) (B : List Nat) (ds : List Nat) (l l' : List Bool) (i : Nat) : Bool := T.1 && freeT T.2 l i && readyAt T.2 l i && closedT T.2 l && lastW T.2 B l ds i && (l.set i true == l')
theorem take_ofW {B : List Nat} (hT : rtab md ops = T) (hB : waitsOk T.2 B = true) (h : takeW T B ds l.toList l'.toList i = true) : takeB md ops ds l l' i = true := by
  refine take_of hT ?_
  simp only [takeW, takeT, Bool.and_eq_true] at h ⊢
  obtain ⟨⟨⟨⟨⟨h1, h2⟩, h3⟩, h4⟩, h5⟩, h6⟩ := h
  refine ⟨⟨⟨⟨⟨h1, h2⟩, h3⟩, h4⟩, ?_⟩, h6⟩
  unfold lastW at h5
  unfold lastT
  rw [List.all_eq_true] at h5 ⊢
  intro d hd
  have h7 := h5 d hd
  rw [Bool.or_eq_true, Bool.and_eq_true, decide_eq_true_eq] at h7
  rcases h7 with h7 | ⟨h8, h9⟩
  · rw [h7, Bool.true_or]
  · rw [reach_bit hB _ d h8 h8 h9, Bool.or_true]
theorem with_tabW {P : Program} {Q : Exit → Act → World → Prop} {S : World → Prop} {n : Nat} {a : Act} {w : World} {B : List Nat} (hT : rtab md ops = T) (hB : waitsOk T.2 B = true) (h : Aside0 (rtab md ops = T) → Aside0 (waitsOk T.2 B = true) → wpAnyLast P md ops Q S ds n l a w) : wpAnyLast P md ops Q S ds n l a w := h ⟨hT⟩ ⟨hB⟩
end
def opsIn : Code → Nat → Option (Array Oper)
  | .region id ops _, k => if id == k then some ops else none
  | .seq a b, k => match opsIn a k with
    | some o => some o
    | none => opsIn b k
  | .cond _ a b, k => match opsIn a k with
    | some o => some o
    | none => opsIn b k
  | .block _ c, k => opsIn c k
  | .loop c, k => opsIn c k
  | .scope c, k => opsIn c k
  | .rangeFunc _ _ a b, k => match opsIn a k with
    | some o => some o
    | none => opsIn b k
  | _, _ => none
def opsOf (f : Func) (k : Nat) : Array Oper := ((f.body.bind fun c => opsIn c k)).getD #[]
end Go.Proofs.YtaooefnmdlajcaaW.PrintLast

namespace Go.Proofs.YtaooefnmdlajcaaW.PrintLast
section
variable {P : Program} {ops : Array Oper} {Q : Exit → Act → World → Prop} {md : Region.Mode} {S : World → Prop} {ds : List Nat} {T : Bool × List (List Nat × List Nat)}
end
end Go.Proofs.YtaooefnmdlajcaaW.PrintLast

namespace Go.Proofs.YtaooefnmdlajcaaW.PrintWords
open Go.RowKit
namespace Kd
section
variable {α : Type} {d : Kd α} {e base g o n cap : Nat} {ok okp : Nat → Prop} {w W : World} {v : Value} {xs : List α}
end
section
variable {α : Type} {enc : α → Value} {h1 : ∀ x, (enc x).oneCell' = true} {e base g o n cap : Nat} {ok : Nat → Prop} {W : World} {xs : List α}
end
end Kd
end Go.Proofs.YtaooefnmdlajcaaW.PrintWords

namespace Go.Proofs.YtaooefnmdlajcaaW.PrintWords
open Go.RowKit
namespace Kd
def tag {α : Type} (f : Nat → Nat) (d : Kd α) : Kd (α × Nat) where
  sz := d.sz
  E := d.E
  K := fun w x cs => d.K w x.1 cs
  M := fun w base ok x cs => d.M w base (fun k => ok k ∧ f k = x.2) x.1 cs
  K_len := fun h => d.K_len h
  K_one := fun h => d.K_one h
  K_below := fun hb h => d.K_below hb h
  K_of_M := fun h => d.K_of_M h
  M_mono := fun hok h => d.M_mono (fun k hk => ⟨hok k hk.1, hk.2⟩) h
  M_bound := fun h => d.M_mono (fun _ hk => ⟨⟨hk.1.1, hk.2⟩, hk.1.2⟩) (d.M_bound h)
  M_move := fun hm h => d.M_move (fun k hk => hm k hk.1) h
  M_lower := fun hb h => d.M_lower hb h
def raw (sz : Nat) : Kd (List Value) where
  sz := sz
  E := []
  K := fun _ x cs => cs = x ∧ cs.length = sz ∧ ∀ u ∈ cs, u.oneCell' = true
  M := fun _ _ _ x cs => cs = x ∧ cs.length = sz ∧ ∀ u ∈ cs, u.oneCell' = true
  K_len := fun h => h.2.1
  K_one := fun h => h.2.2
  K_below := fun _ h => h
  K_of_M := fun h => h
  M_mono := fun _ h => h
  M_bound := fun h => h
  M_move := fun _ h => h
  M_lower := fun _ h => h
def S {α : Type} (d : Kd α) (e : Nat) (w : World) (base : Nat) (ok : Nat → Prop) (v : Value) (xs : List α) : Prop := ∃ f, (tag f d).R e w base ok v xs.zipIdx
section
variable {α β : Type} {d : Kd α} {d' : Kd β} {e e' : Nat} {w w1 W : World} {base b : Nat} {ok ok' okv oku : Nat → Prop} {u v : Value} {xs : List α} {ys : List β}
theorem R_tight (hE : d.E = []) (h : d.R e w base ok v xs) : d.R e w base (fun k => some k = v.ownBlock) v xs := by
  obtain ⟨h0, inner, ho, hr⟩ := h
  refine ⟨fun k hk => hk.symm, inner, ho, hr.imp_ (fun p c hp => d.M_mono (fun k hk => ?_) (d.M_bound hp))⟩
  obtain ⟨_, _, _, q, hq, _⟩ := hk
  rw [hE] at hq
  cases hq
theorem S_nil (d : Kd α) (e : Nat) (w : World) (base : Nat) (ok : Nat → Prop) : S d e w base ok (.slice none 0 0) [] := ⟨fun _ => 0, R_nil _ _ _ _ _⟩
end
section
variable {α β : Type} {d : Kd α} {d' : Kd β} {e e' g : Nat} {w w1 W : World} {base b : Nat} {ok ok' okv oku : Nat → Prop} {u v : Value} {xs : List α} {ys : List β}
end
section
open Classical in
variable {P : Program} {ops : Array Oper} {rest : List Oper} {o : Oper} {a : Act} {Q : Exit → Act → World → Prop} {Kc : Act → World → Prop} {α : Type}
end
def gap {α : Type} (f : Nat → Nat) (d : Kd α) (i : Nat) (c : List Value) : Kd (α × Nat) where
  sz := d.sz
  E := d.E
  K := fun w x cs => (x.2 = i → cs = c ∧ cs.length = d.sz ∧ ∀ u ∈ cs, u.oneCell' = true) ∧ (x.2 ≠ i → d.K w x.1 cs)
  M := fun w base ok x cs => (x.2 = i → cs = c ∧ cs.length = d.sz ∧ ∀ u ∈ cs, u.oneCell' = true) ∧ (x.2 ≠ i → d.M w base (fun k => ok k ∧ f k = x.2) x.1 cs)
  K_len := fun {w x cs} h => by
    by_cases hx : x.2 = i
    · exact (h.1 hx).2.1
    · exact d.K_len (h.2 hx)
  K_one := fun {w x cs} h => by
    by_cases hx : x.2 = i
    · exact (h.1 hx).2.2
    · exact d.K_one (h.2 hx)
  K_below := fun hb h => ⟨h.1, fun hx => d.K_below hb (h.2 hx)⟩
  K_of_M := fun h => ⟨h.1, fun hx => d.K_of_M (h.2 hx)⟩
  M_mono := fun hok h => ⟨h.1, fun hx => d.M_mono (fun k hk => ⟨hok k hk.1, hk.2⟩) (h.2 hx)⟩
  M_bound := fun h => ⟨h.1, fun hx => d.M_mono (fun _ hk => ⟨⟨hk.1.1, hk.2⟩, hk.1.2⟩) (d.M_bound (h.2 hx))⟩
  M_move := fun hm h => ⟨h.1, fun hx => d.M_move (fun k hk => hm k hk.1) (h.2 hx)⟩
  M_lower := fun hb h => ⟨h.1, fun hx => d.M_lower hb (h.2 hx)⟩
def H {α : Type} (d : Kd α) (e : Nat) (w : World) (base : Nat) (ok : Nat → Prop) (v : Value) (xs : List α) (i : Int) (oki : Nat → Prop) (c : List Value) : Prop :=
  (∀ k, oki k → ok k) ∧ ∃ f, (gap f d i.toNat c).R e w base (fun k => ok k ∧ ¬ oki k) v xs.zipIdx
section
variable {α β : Type} {d : Kd α} {e e' g n cap : Nat} {w w1 W : World} {base : Nat} {ok ok' oki okp : Nat → Prop} {u v : Value} {xs : List α} {i : Int} {c : List Value}
open Classical in
end
section
variable {P : Program} {ops : Array Oper} {rest : List Oper} {o : Oper} {a : Act} {Q : Exit → Act → World → Prop} {α : Type}
end
end Kd
end Go.Proofs.YtaooefnmdlajcaaW.PrintWords

namespace Go.Proofs.YtaooefnmdlajcaaW.PrintWords
open Go.RowKit
namespace Kd
section
variable {α : Type} {n : Nat} {d : Kd α} {hs : 0 < d.sz} {w : World} {base : Nat} {ok : Nat → Prop} {xs : List α} {cs : List Value}
end
section
variable {α : Type} {n : Nat} {enc : α → Value} {h1 : ∀ x, (enc x).oneCell' = true} {hs : 0 < (scalar enc h1).sz} {w : World} {base : Nat} {ok : Nat → Prop} {xs : List α} {cs : List Value}
end
end Kd
end Go.Proofs.YtaooefnmdlajcaaW.PrintWords

namespace Go.Proofs.YtaooefnmdlajcaaW.PrintWords
open Go.RowKit
section
variable {P : Program}
end
namespace Kd
section
variable {P : Program} {ops : Array Oper} {rest : List Oper} {o : Oper} {a : Act} {Q : Exit → Act → World → Prop} {Kc : Act → World → Prop} {α : Type}
end
section
variable {α : Type} {d : Kd α} {e : Nat} {w : World} {base : Nat} {ok : Nat → Prop} {v : Value} {xs : List α}
end
section
variable {P : Program} {ops : Array Oper} {rest : List Oper} {o : Oper} {a : Act} {Q : Exit → Act → World → Prop} {Kc : Act → World → Prop} {α : Type}
end
end Kd
end Go.Proofs.YtaooefnmdlajcaaW.PrintWords

namespace Go.Proofs.YtaooefnmdlajcaaW.PrintWords
open Go.RowKit
namespace Kd
structure Heap {α : Type} (d : Kd α) : Prop where
  K : ∀ {w w1 : World} {x : α} {cs : List Value}, (∀ k, k < w.heap.size → w1.heap[k]? = w.heap[k]?) → d.K w x cs → d.K w1 x cs
theorem cell_heap {w w1 : World} (hb : ∀ k, k < w.heap.size → w1.heap[k]? = w.heap[k]?) {a : Addr} {v : Value} (h : w.cell? a = some v) : w1.cell? a = some v := by
  have := hb a.block (World.block_lt_of_cell? w a h)
  simpa [World.cell?, this] using h
theorem Heap.C {α : Type} {d : Kd α} (hd : Heap d) {w w1 : World} {A : Option Addr} {n : Nat} {xs : List α} (hb : ∀ k, k < w.heap.size → w1.heap[k]? = w.heap[k]?) (h : d.C w A n xs) : d.C w1 A n xs :=
  ⟨h.1, h.2.1, fun hn => by
    obtain ⟨ad, e, hc⟩ := h.2.2 hn
    refine ⟨ad, e, fun j p hj => ?_⟩
    obtain ⟨c, hs, hr, hcell⟩ := hc j p hj
    exact ⟨c, hs, hd.K hb hr, fun i u hu => cell_heap hb (hcell i u hu)⟩⟩
section
variable {α : Type} {d : Kd α} {e base g n c : Nat} {ok : Nat → Prop} {w w0 W : World} {A : Option Addr} {xs : List α}
end
end Kd
end Go.Proofs.YtaooefnmdlajcaaW.PrintWords

namespace Go.Proofs.YtaooefnmdlajcaaW.PrintWords
open Go.RowKit
def Kept (w W : World) (S : Nat → Prop) : Prop := w.heap.size ≤ W.heap.size ∧ ∀ i, i < w.heap.size → ¬ S i → W.heap[i]? = w.heap[i]?
section
variable {w W W2 : World} {S S2 S' : Nat → Prop}
theorem Kept.refl (w : World) (S : Nat → Prop) : Kept w w S := ⟨Nat.le_refl _, fun _ _ _ => rfl⟩
theorem Kept.of_below (h : Below w.heap.size w W) (S : Nat → Prop) : Kept w W S := ⟨h.size, fun i hi _ => h.block i hi⟩
theorem Kept.mono (h : Kept w W S) (hs : ∀ k, S k → S' k) : Kept w W S' := ⟨h.1, fun i hi hn => h.2 i hi (fun hk => hn (hs i hk))⟩
theorem Kept.then_ (h : Kept w W S) (k : Kept W W2 S2) (hs : ∀ k, S2 k → S k ∨ w.heap.size ≤ k) : Kept w W2 S :=
  ⟨Nat.le_trans h.1 k.1, fun i hi hn => (k.2 i (Nat.lt_of_lt_of_le hi h.1) (fun h2 => (hs i h2).elim hn (fun h3 => by omega))).trans (h.2 i hi hn)⟩
theorem Kept.below (h : Kept w W S) (hb : Below W.heap.size W W2) : Kept w W2 S := h.then_ (Kept.of_below hb (fun _ => False)) (fun _ hk => hk.elim)
theorem Kept.alloc (h : Kept w W S) (o : Obj) : Kept w (W.alloc o) S := h.below (below_alloc (Below.refl _ _) o)
theorem Kept.drew (h : Kept w W S) : Kept w W.drew S := h
theorem Kept.drewN (h : Kept w W S) (m : Nat) : Kept w (W.drewN m) S := h
theorem Kept.setCell (h : Kept w W S) {p : Addr} (hp : S p.block ∨ w.heap.size ≤ p.block) (u : Value) : Kept w (W.setCell p u) S :=
  h.then_ (S2 := fun k => k = p.block) ⟨by simp [World.setCell], fun i _ hn => Below.heap_setCell W p u i hn⟩ (fun k hk => by rw [hk]; exact hp)
end
namespace Kd
section
variable {α : Type} {d : Kd α} {e base n c : Nat} {ok oki S S2 : Nat → Prop} {w w0 W W1 W2 : World} {v : Value} {A : Option Addr} {xs : List α} {i : Int} {cs : List Value}
theorem R_kept (h : d.R e W base ok v xs) (hk : Kept W W2 S) (hne : ∀ k, ok k → ¬ S k) : d.R e W2 base ok v xs := R_step h (fun k ho hlt => hk.2 k hlt (hne k ho))
end
end Kd
end Go.Proofs.YtaooefnmdlajcaaW.PrintWords

namespace Go.Proofs.YtaooefnmdlajcaaW.PrintWords
open Go.RowKit
def Foot (P : World → Prop) (W : World) (ok : Nat → Prop) : Prop := ∀ W' : World, (∀ k, ok k → k < W.heap.size → W'.heap[k]? = W.heap[k]?) → P W'
theorem heap_lt {W W1 : World} {k : Nat} (h : W1.heap[k]? = W.heap[k]?) (hlt : k < W.heap.size) : k < W1.heap.size := by
  rw [Array.getElem?_eq_getElem hlt] at h
  exact (Array.getElem?_eq_some_iff.1 h).1
namespace Foot
variable {P Q : World → Prop} {W W1 : World} {ok ok' : Nat → Prop}
theorem now (h : Foot P W ok) : P W := h W (fun _ _ _ => rfl)
theorem mono (h : Foot P W ok) (hok : ∀ k, ok k → ok' k) : Foot P W ok' := fun W' hW => h W' (fun k hk hlt => hW k (hok k hk) hlt)
theorem step (h : Foot P W ok) (hm : ∀ k, ok k → k < W.heap.size → W1.heap[k]? = W.heap[k]?) : Foot P W1 ok := fun W' hW => h W' (fun k hk hlt => (hW k hk (heap_lt (hm k hk hlt) hlt)).trans (hm k hk hlt))
theorem imp (h : Foot P W ok) (hi : ∀ W', P W' → Q W') : Foot Q W ok := fun W' hW => hi W' (h W' hW)
end Foot
namespace Kd
def F {α : Type} (d : Kd α) (W : World) (ok : Nat → Prop) (A : Option Addr) (n : Nat) (xs : List α) : Prop := Foot (fun W => d.C W A n xs) W ok
def FK {α : Type} (d : Kd α) (W : World) (ok : Nat → Prop) (x : α) (c : List Value) : Prop := Foot (fun W => d.K W x c) W ok
section
variable {α β : Type} {d : Kd α} {e base n n' cc g N : Nat} {ok ok' okp S : Nat → Prop} {w w0 w1 W W1 : World} {A A' : Option Addr} {u v v1 : Value} {xs : List α} {xs' : List β} {d' : Kd β} {x : α} {c : List Value}
theorem F_nil (d : Kd α) (W : World) (ok : Nat → Prop) : F d W ok none ([] : List α).length [] := fun W' _ => C_nil d W'
theorem FK_of_M (h : d.M W base ok x c) : FK d W ok x c := fun _ hW => d.K_of_M (M_step h hW)
end
end Kd
end Go.Proofs.YtaooefnmdlajcaaW.PrintWords

namespace Go.Proofs.YtaooefnmdlajcaaW.PrintWords
open Go.RowKit
namespace Kd
def chunks (sz : Nat) (n : Nat) (inner : List Value) : List (List Value) := (List.range n).map fun j => (inner.drop (j * sz)).take sz
theorem chunks_length (sz n : Nat) (inner : List Value) : (chunks sz n inner).length = n := by simp [chunks]
theorem chunks_at {sz n : Nat} {inner : List Value} {j : Nat} (hj : j < n) : (chunks sz n inner)[j]? = some ((inner.drop (j * sz)).take sz) := by simp [chunks, hj]
theorem chunks_get {sz n : Nat} {inner : List Value} {j : Nat} {c : List Value} (h : (chunks sz n inner)[j]? = some c) : c = (inner.drop (j * sz)).take sz := by
  have hj : j < n := by have := (List.getElem?_eq_some_iff.1 h).1; rwa [chunks_length] at this
  rw [chunks_at hj] at h
  injection h with h
  exact h.symm
theorem reps_raw {α : Type} {Rr : α → List Value → Prop} {sz : Nat} {xs : List α} {inner : List Value} (h : Reps Rr sz xs inner) (hR : ∀ x c, Rr x c → c.length = sz ∧ ∀ u ∈ c, u.oneCell' = true) : Reps (fun x cs => cs = x ∧ cs.length = sz ∧ ∀ u ∈ cs, u.oneCell' = true) sz (chunks sz xs.length inner) inner := by
  refine ⟨by rw [chunks_length]; exact h.1, fun j p hj => ?_⟩
  have hjl : j < xs.length := by have := (List.getElem?_eq_some_iff.1 hj).1; rwa [chunks_length] at this
  have hp := chunks_get hj
  exact ⟨hp.symm, hR _ _ (h.2 j _ (List.getElem?_eq_getElem hjl))⟩
section
variable {α : Type} {d : Kd α} {e base n cc g : Nat} {ok ok' okp S : Nat → Prop} {w w1 W W1 : World} {A : Option Addr} {u v v1 : Value} {xs : List α} {x : α} {c : List Value}
def N {α : Type} (d : Kd α) (e : Nat) (w : World) (base : Nat) (ok : Nat → Prop) (v : Value) (xs : List α) : Prop :=
  (∀ k, v.ownBlock = some k → ok k) ∧ ∃ rows : List (List Value), rows.length = xs.length ∧ (raw d.sz).R e w base (fun k => some k = v.ownBlock) v rows ∧ ∀ (j : Nat) (x : α) (c : List Value), xs[j]? = some x → rows[j]? = some c → FK d w (fun k => ok k ∧ some k ≠ v.ownBlock) x c
theorem R_N (h : d.R e w base ok v xs) : N d e w base ok v xs := by
  obtain ⟨h0, inner, ho, hr⟩ := h
  refine ⟨h0, chunks d.sz xs.length inner, chunks_length _ _ _, ⟨fun k hk => hk.symm, inner, by rw [chunks_length]; exact ho, reps_raw hr (fun x c hp => ⟨d.K_len (d.K_of_M hp), d.K_one (d.K_of_M hp)⟩)⟩, fun j x c hx hc => ?_⟩
  rw [chunks_get hc]
  exact FK_of_M (hr.2 j x hx)
theorem N_nil (d : Kd α) (e : Nat) (w : World) (base : Nat) (ok : Nat → Prop) : N d e w base ok (.slice none 0 0) [] := R_N (R_nil _ _ _ _ _)
end
end Kd
end Go.Proofs.YtaooefnmdlajcaaW.PrintWords

namespace Go.Proofs.YtaooefnmdlajcaaW.PrintWords
open Go.RowKit
namespace Kd
section
variable {α : Type} {d : Kd α} {W : World} {g n : Nat} {S ok : Nat → Prop} {A : Option Addr} {ad : Addr} {xs : List α}
end
end Kd
end Go.Proofs.YtaooefnmdlajcaaW.PrintWords

namespace Go.Proofs.YtaooefnmdlajcaaW.PrintWords
open Go.RowKit
section
variable {w w' u : World} {m B g : Nat} {o : Obj} {row : Option Nat} {S : Nat → Prop} {a : Addr} {v : Value}
end
namespace Kd
section
variable {α : Type} {d : Kd α} {e base n m : Nat} {ok : Nat → Prop} {w w' : World} {v : Value} {A : Option Addr} {xs : List α}
end
end Kd
end Go.Proofs.YtaooefnmdlajcaaW.PrintWords

namespace Go.Proofs.YtaooefnmdlajcaaW.PrintWords
open Go.RowKit
section
variable {P : Program} {d : Nat} {xs ys : Array Value} {f : Field} {fs : List Field} {a b : Value} {r s : Bool} {w : World}
theorem eqf_last (hn : (f.name == "_") = false) (ha : (part f.type xs f.offset).run P w = .ok a w) (hb : (part f.type ys f.offset).run P w = .ok b w) (he : (Op.equalIn d f.type a b).run P w = .ok r w) : (Op.eqFields d xs ys [f]).run P w = .ok r w := by
  have hn' : f.name ≠ "_" := by simpa using hn
  simp only [Op.eqFields, if_pos hn', Sem.run_bind, ha, hb, he, Result.andThen_ok]
  cases r <;> simp
theorem eqf_cons (hn : (f.name == "_") = false) (ha : (part f.type xs f.offset).run P w = .ok a w) (hb : (part f.type ys f.offset).run P w = .ok b w) (he : (Op.equalIn d f.type a b).run P w = .ok r w) (hr : (Op.eqFields d xs ys fs).run P w = .ok s w) : (Op.eqFields d xs ys (f :: fs)).run P w = .ok (r && s) w := by
  have hn' : f.name ≠ "_" := by simpa using hn
  rw [Op.eqFields]
  simp only [if_pos hn', Sem.run_bind, ha, hb, he, Result.andThen_ok]
  cases r
  · simp
  · simpa using hr
theorem eqA_of {t : TypeId} {fs : Array Field} (hu : P.underlying t = some (.struct fs)) (hp : P.stoodInHeld t = false) (h : (Op.eqFields d xs ys fs.toList).run P w = .ok r w) : (Op.equalIn (d + 1) t (.agg xs) (.agg ys)).run P w = .ok r w := by
  have hf : P.fieldsOf t = fs := by simp [Program.fieldsOf, hu]
  rw [run_equalIn_struct (P := P) w d t xs ys (by rw [hf]; exact hu) hp, hf]
  exact h
end
end Go.Proofs.YtaooefnmdlajcaaW.PrintWords

namespace Go.Proofs.YtaooefnmdlajcaaW.PrintWords
theorem Reps.one {α : Type} {R : α → List Value → Prop} {ps : List α} {cs : List Value} {p : α} {v : Value} (hp : R p [v]) (h : Reps R 1 ps cs) : Reps R 1 (p :: ps) (v :: cs) := by
  refine ⟨by simp [h.1], fun j q hq => ?_⟩
  cases j with
  | zero =>
    simp only [List.getElem?_cons_zero, Option.some.injEq] at hq
    subst hq
    simpa using hp
  | succ j =>
    simp only [List.getElem?_cons_succ] at hq
    have h1 := h.2 j q hq
    simpa [Nat.mul_one] using h1
theorem Reps.front {α : Type} {R : α → List Value → Prop} {size : Nat} {ps : List α} {cs c all : List Value} {p : α} (hp : R p c) (hc : c.length = size) (h : Reps R size ps cs) (ha : c ++ cs = all) : Reps R size (p :: ps) all := by
  subst ha
  refine ⟨by rw [List.length_append, hc, h.1, List.length_cons, Nat.succ_mul, Nat.add_comm], fun j q hq => ?_⟩
  cases j with
  | zero =>
    simp only [List.getElem?_cons_zero, Option.some.injEq] at hq
    subst hq
    rw [Nat.zero_mul, List.drop_zero, List.take_append_of_le_length (by omega), List.take_of_length_le (by omega)]
    exact hp
  | succ j =>
    simp only [List.getElem?_cons_succ] at hq
    have h1 := h.2 j q hq
    rw [Nat.succ_mul, List.drop_append, List.drop_of_length_le (by rw [hc]; exact Nat.le_add_left _ _), List.nil_append, hc, Nat.add_sub_cancel]
    exact h1
theorem Reps.c2 {α : Type} {R : α → List Value → Prop} {ps : List α} {cs : List Value} {p : α} {va vb : Value} (hp : R p [va, vb]) (h : Reps R 2 ps cs) : Reps R 2 (p :: ps) (va :: vb :: cs) := Reps.front hp rfl h rfl
theorem Reps.c3 {α : Type} {R : α → List Value → Prop} {ps : List α} {cs : List Value} {p : α} {va vb vc : Value} (hp : R p [va, vb, vc]) (h : Reps R 3 ps cs) : Reps R 3 (p :: ps) (va :: vb :: vc :: cs) := Reps.front hp rfl h rfl
theorem Reps.c4 {α : Type} {R : α → List Value → Prop} {ps : List α} {cs : List Value} {p : α} {va vb vc vd : Value} (hp : R p [va, vb, vc, vd]) (h : Reps R 4 ps cs) : Reps R 4 (p :: ps) (va :: vb :: vc :: vd :: cs) := Reps.front hp rfl h rfl
theorem Reps.c5 {α : Type} {R : α → List Value → Prop} {ps : List α} {cs : List Value} {p : α} {va vb vc vd ve : Value} (hp : R p [va, vb, vc, vd, ve]) (h : Reps R 5 ps cs) : Reps R 5 (p :: ps) (va :: vb :: vc :: vd :: ve :: cs) := Reps.front hp rfl h rfl
theorem Reps.c6 {α : Type} {R : α → List Value → Prop} {ps : List α} {cs : List Value} {p : α} {va vb vc vd ve vf : Value} (hp : R p [va, vb, vc, vd, ve, vf]) (h : Reps R 6 ps cs) : Reps R 6 (p :: ps) (va :: vb :: vc :: vd :: ve :: vf :: cs) := Reps.front hp rfl h rfl
theorem Reps.c7 {α : Type} {R : α → List Value → Prop} {ps : List α} {cs : List Value} {p : α} {va vb vc vd ve vf vg : Value} (hp : R p [va, vb, vc, vd, ve, vf, vg]) (h : Reps R 7 ps cs) : Reps R 7 (p :: ps) (va :: vb :: vc :: vd :: ve :: vf :: vg :: cs) := Reps.front hp rfl h rfl
theorem Reps.c8 {α : Type} {R : α → List Value → Prop} {ps : List α} {cs : List Value} {p : α} {va vb vc vd ve vf vg vh : Value} (hp : R p [va, vb, vc, vd, ve, vf, vg, vh]) (h : Reps R 8 ps cs) : Reps R 8 (p :: ps) (va :: vb :: vc :: vd :: ve :: vf :: vg :: vh :: cs) := Reps.front hp rfl h rfl
theorem Reps.c9 {α : Type} {R : α → List Value → Prop} {ps : List α} {cs : List Value} {p : α} {va vb vc vd ve vf vg vh vi : Value} (hp : R p [va, vb, vc, vd, ve, vf, vg, vh, vi]) (h : Reps R 9 ps cs) : Reps R 9 (p :: ps) (va :: vb :: vc :: vd :: ve :: vf :: vg :: vh :: vi :: cs) := Reps.front hp rfl h rfl
theorem Reps.c10 {α : Type} {R : α → List Value → Prop} {ps : List α} {cs : List Value} {p : α} {va vb vc vd ve vf vg vh vi vj : Value} (hp : R p [va, vb, vc, vd, ve, vf, vg, vh, vi, vj]) (h : Reps R 10 ps cs) : Reps R 10 (p :: ps) (va :: vb :: vc :: vd :: ve :: vf :: vg :: vh :: vi :: vj :: cs) := Reps.front hp rfl h rfl
end Go.Proofs.YtaooefnmdlajcaaW.PrintWords

namespace Go.Proofs.YtaooefnmdlajcaaW.PrintLast
section
variable {P : Program} {ops : Array Oper} {Q : Exit → Act → World → Prop} {md : Region.Mode} {T : Bool × List (List Nat × List Nat)} {B : List Nat} {O : List Nat} {b : Nat → Bool} {i j n : Nat}
end
end Go.Proofs.YtaooefnmdlajcaaW.PrintLast

namespace Go.Proofs.YtaooefnmdlajcaaW.PrintWords
open Go.RowKit
end Go.Proofs.YtaooefnmdlajcaaW.PrintWords
namespace Go.Proofs.YtaooefnmdlajcaaW.PrintLast
section
variable {ops : Array Oper} {a : Act} {o og : Oper} {g : Nat} {t : Tmp} {u : Bool}
end
end Go.Proofs.YtaooefnmdlajcaaW.PrintLast

namespace Go.Proofs.YtaooefnmdlajcaaW.PrintWords
open Go.RowKit
section
variable {P : Program} {ops : Array Oper} {rest : List Oper} {o : Oper} {a : Act} {Q : Exit → Act → World → Prop} {W : World}
theorem gate_guard (hw : Region.wanted o (yielded ops a.tmps) = true) (h : wpList P ops Q ({ o with guard := none } :: rest) a W) : wpList P ops Q (o :: rest) a W := by
  have h1 : Region.wanted { o with guard := none } (yielded ops a.tmps) = true := rfl
  unfold wpList at h ⊢
  rw [if_pos h1] at h
  rw [if_pos hw]
  exact h
end
end Go.Proofs.YtaooefnmdlajcaaW.PrintWords

namespace Go.Proofs.YtaooefnmdlajcaaW.PrintWords
open Go.RowKit
namespace Kd
section
variable {α : Type} {d : Kd α} {e base n cap g : Nat} {ok ok' okp : Nat → Prop} {w w1 W : World} {v v1 : Value} {xs ys : List α}
end
section
variable {P : Program} {ops : Array Oper} {rest : List Oper} {o : Oper} {a : Act} {Q : Exit → Act → World → Prop} {Kc : Act → World → Prop} {α : Type}
end
end Kd
end Go.Proofs.YtaooefnmdlajcaaW.PrintWords

namespace Go.Proofs.YtaooefnmdlajcaaW.PrintMore
open Go.RowKit Go.Proofs.YtaooefnmdlajcaaW.PrintWords
namespace Kd
open Go.Proofs.YtaooefnmdlajcaaW.PrintWords.Kd
end Kd
namespace Kd
open Go.Proofs.YtaooefnmdlajcaaW.PrintWords.Kd
section
variable {α : Type} {d : Kd α} {e base g N : Nat} {ok : Nat → Prop} {W w1 : World} {u v : Value} {xs : List α}
end
end Kd
theorem max2_int (k k' : IntKind) (x y : Int) : Builtin.max2 (.int k x) (.int k' y) = pure (.int k (if x < y then y else x)) := by simp only [Builtin.max2, gt_iff_lt]
theorem min2_int (k k' : IntKind) (x y : Int) : Builtin.min2 (.int k x) (.int k' y) = pure (.int k (if y < x then y else x)) := by simp only [Builtin.min2]
theorem max_two (ats : Array TypeId) (ty : TypeId) (a b : Value) : Builtin.max_ ats ty #[a, b] = (Builtin.max2 a b >>= fun s => pure s) := by simp only [Builtin.max_, List.foldlM_cons, List.foldlM_nil]
theorem min_two (ats : Array TypeId) (ty : TypeId) (a b : Value) : Builtin.min_ ats ty #[a, b] = (Builtin.min2 a b >>= fun s => pure s) := by simp only [Builtin.min_, List.foldlM_cons, List.foldlM_nil]
theorem max_three (ats : Array TypeId) (ty : TypeId) (a b c : Value) : Builtin.max_ ats ty #[a, b, c] = (Builtin.max2 a b >>= fun s => Builtin.max2 s c >>= fun s => pure s) := by simp only [Builtin.max_, List.foldlM_cons, List.foldlM_nil]
theorem min_three (ats : Array TypeId) (ty : TypeId) (a b c : Value) : Builtin.min_ ats ty #[a, b, c] = (Builtin.min2 a b >>= fun s => Builtin.min2 s c >>= fun s => pure s) := by simp only [Builtin.min_, List.foldlM_cons, List.foldlM_nil]
theorem max_four (ats : Array TypeId) (ty : TypeId) (a b c d : Value) : Builtin.max_ ats ty #[a, b, c, d] = (Builtin.max2 a b >>= fun s => Builtin.max2 s c >>= fun s => Builtin.max2 s d >>= fun s => pure s) := by simp only [Builtin.max_, List.foldlM_cons, List.foldlM_nil]
theorem min_four (ats : Array TypeId) (ty : TypeId) (a b c d : Value) : Builtin.min_ ats ty #[a, b, c, d] = (Builtin.min2 a b >>= fun s => Builtin.min2 s c >>= fun s => Builtin.min2 s d >>= fun s => pure s) := by simp only [Builtin.min_, List.foldlM_cons, List.foldlM_nil]
end Go.Proofs.YtaooefnmdlajcaaW.PrintMore
namespace Go.Proofs.YtaooefnmdlajcaaW.PrintWords
open Go.RowKit
section
variable {P : Program} {ops : Array Oper} {rest : List Oper} {o : Oper} {a : Act} {Q : Exit → Act → World → Prop} {W : World}
theorem gate_callee {f : FuncId} {as : Array Operand} {ts : Array TypeId} (_ho : o.op = .call { callee := .value (.func f), args := as, argTypes := ts }) (h : wpList P ops Q (o :: rest) a W) : wpList P ops Q (o :: rest) a W := h
theorem gate_builtin {b : Builtin} {xs : Array Operand} {ts : Array TypeId} (_ho : o.op = .call { callee := .builtin b, args := xs, argTypes := ts }) (h : wpList P ops Q (o :: rest) a W) : wpList P ops Q (o :: rest) a W := h
end
def mx (a b : Int) : Int := if a < b then b else a
def shl (k : IntKind) (x y : Int) : Int := k.wrap (x * 2 ^ min y.toNat k.bits)
def shr (k : IntKind) (x y : Int) : Int := x / 2 ^ min y.toNat k.bits
namespace Kd
section
variable {α : Type} {d : Kd α} {e base : Nat} {ok : Nat → Prop} {W w1 : World} {v : Value} {xs : List α}
end
section
variable {α : Type} {d : Kd α} {e base g n cap : Nat} {ok oki okp : Nat → Prop} {W : World} {xs : List α} {i : Int} {c : List Value}
end
section
variable {α : Type} {d : Kd α} {e base b b' g N : Nat} {ok ok1 : Nat → Prop} {W W2 w1 : World} {u v : Value} {xs ys : List α} {S : Nat → Prop}
theorem R_keptB (h : d.R e W base ok v xs) (hk : Kept W W2 S) (hne : ∀ k, ok k → ¬ S k) : d.R e W2 base (fun k => ok k ∧ (¬ S k ∧ k < W.heap.size)) v xs :=
  R_kept (R_mono (R_bound h) (fun k hk => ⟨hk.1, hne k hk.1, hk.2.2.1⟩)) hk (fun _ hk => hk.2.1)
end
end Kd
end Go.Proofs.YtaooefnmdlajcaaW.PrintWords
namespace Go.Proofs.YtaooefnmdlajcaaW.PrintWords
open Go.RowKit
namespace Kd
def V {α : Type} (d : Kd α) (_e : Nat) (W : World) (_base : Nat) (ok : Nat → Prop) (v : Value) (xs : List α) : Prop := ∃ A c, v = .slice A xs.length c ∧ xs.length ≤ c ∧ F d W ok A xs.length xs
section
variable {α β : Type} {d : Kd α} {e base base' n m c g N' lo hi : Nat} {ok ok' S : Nat → Prop} {w W w1 : World} {A : Option Addr} {ad : Addr} {u v v1 : Value} {xs : List α}
theorem V_nil (d : Kd α) (e : Nat) (W : World) (base : Nat) (ok : Nat → Prop) : V d e W base ok (.slice none 0 0) [] := ⟨none, 0, rfl, Nat.le_refl _, F_nil d W ok⟩
end
end Kd
end Go.Proofs.YtaooefnmdlajcaaW.PrintWords

set_option linter.unusedVariables false
set_option linter.unusedSectionVars false
namespace Go.Eng
class Dr where
  p : Prop
open Go.RowKit
variable [Dr]
inductive AV where
  | bool (b : Bool)
  | int (k : IntKind) (n : Int)
  | str (s : ByteArray)
  | ptr (id idx off : Nat)
  | dptr (sz : Nat) (cell : Nat → AV)
  | nilp
  | sl (id off len cap : Nat)
  | dsl (sz n : Nat) (elem : Nat → Nat → AV)
  | nils
  | map (id : Nat)
  | nilm
  | fn (f : Fn) (first cap : List AV)
  | nilfn
  | iface (t : TypeId) (v : AV)
  | nili
  | agg (cs : List AV)
  | tup (vs : List AV)
instance : Inhabited AV := ⟨.nilp⟩
inductive Flat : AV → Prop where
  | bool (b : Bool) : Flat (.bool b)
  | int (k : IntKind) (n : Int) : Flat (.int k n)
  | str (s : ByteArray) : Flat (.str s)
  | nilp : Flat .nilp
  | nils : Flat .nils
  | nilm : Flat .nilm
  | nilfn : Flat .nilfn
  | nili : Flat .nili
  | iface {t : TypeId} {v : AV} (h : Flat v) : Flat (.iface t v)
  | agg {l : List AV} (h : ∀ a ∈ l, Flat a) : Flat (.agg l)
  | tup {l : List AV} (h : ∀ a ∈ l, Flat a) : Flat (.tup l)
  | dsl {sz n : Nat} {elem : Nat → Nat → AV} (h : ∀ i k, i < n → k < sz → Flat (elem i k)) : Flat (.dsl sz n elem)
  | dptr {sz : Nat} {cell : Nat → AV} (h : ∀ k, k < sz → Flat (cell k)) : Flat (.dptr sz cell)
  | fn {f : Fn} {l1 l2 : List AV} (h1 : ∀ a ∈ l1, Flat a) (h2 : ∀ a ∈ l2, Flat a) : Flat (.fn f l1 l2)
structure Loc where
  blk : Nat
  base : Nat
  sz : Nat
  m : Nat
  real : Bool
inductive VRel (ρ : Nat → Option Loc) (RO : Nat → Prop) (w : World) : AV → Value → Prop where
  | bool (b : Bool) : VRel ρ RO w (.bool b) (.bool b)
  | int (k : IntKind) (n : Int) : VRel ρ RO w (.int k n) (.int k n)
  | str (s : ByteArray) : VRel ρ RO w (.str s) (.string s)
  | ptr {id idx off : Nat} {L : Loc} (h : ρ id = some L) : VRel ρ RO w (.ptr id idx off) (.pointer (some ⟨L.blk, L.base + (idx * L.sz + off), none⟩))
  | dptr {sz : Nat} {cell : Nat → AV} {blk o : Nat} (vs : Nat → Value) (hr : RO blk)
      (hc : ∀ k, k < sz → w.cell? ⟨blk, o + k, none⟩ = some (vs k)) (h1 : ∀ k, k < sz → (vs k).oneCell' = true) (hf : ∀ k, k < sz → Flat (cell k)) (hv : ∀ k, k < sz → VRel ρ RO w (cell k) (vs k)) :
      VRel ρ RO w (.dptr sz cell) (.pointer (some ⟨blk, o, none⟩))
  | nilp : VRel ρ RO w .nilp (.pointer none)
  | sl {id off len cap c : Nat} {L : Loc} {A : Option Addr} (h : ρ id = some L) (hl : len ≤ cap) (hc : cap ≤ c)
      (hA : c ≠ 0 → A = some ⟨L.blk, L.base + off * L.sz, none⟩ ∧ L.base + (off + c) * L.sz = L.m) (h0 : c = 0 → off = 0 → A = bif L.real then some ⟨L.blk, L.base, none⟩ else none) (hs : c ≤ 9223372036854775807) (hm : L.base + (off + c) * L.sz = L.m) : VRel ρ RO w (.sl id off len cap) (.slice A len c)
  | dsl {sz n c : Nat} {elem : Nat → Nat → AV} {A : Option Addr} (hn : n ≤ c) (vs : Nat → Nat → Value)
      (hA : n ≠ 0 → ∃ blk o, A = some ⟨blk, o, none⟩ ∧ RO blk ∧ ∀ i k, i < n → k < sz → w.cell? ⟨blk, o + (i * sz + k), none⟩ = some (vs i k))
      (h1 : ∀ i k, i < n → k < sz → (vs i k).oneCell' = true) (hf : ∀ i k, i < n → k < sz → Flat (elem i k)) (hv : ∀ i k, i < n → k < sz → VRel ρ RO w (elem i k) (vs i k)) : VRel ρ RO w (.dsl sz n elem) (.slice A n c)
  | nils : VRel ρ RO w .nils (.slice none 0 0)
  | map {id : Nat} {L : Loc} (h : ρ id = some L) : VRel ρ RO w (.map id) (.map (some L.blk))
  | nilm : VRel ρ RO w .nilm (.map none)
  | fn {f : Fn} {l1 l2 : List AV} {v1 v2 : List Value} (e1 : l1.length = v1.length) (e2 : l2.length = v2.length)
      (h1 : ∀ (i : Nat) (a : AV) (v : Value), l1[i]? = some a → v1[i]? = some v → VRel ρ RO w a v) (h2 : ∀ (i : Nat) (a : AV) (v : Value), l2[i]? = some a → v2[i]? = some v → VRel ρ RO w a v) :
      VRel ρ RO w (.fn f l1 l2) (.func f v1.toArray v2.toArray)
  | nilfn : VRel ρ RO w .nilfn .nilFunc
  | iface {t : TypeId} {a : AV} {v : Value} (h : VRel ρ RO w a v) : VRel ρ RO w (.iface t a) (.iface t v)
  | nili : VRel ρ RO w .nili .nilIface
  | agg {l : List AV} {vs : List Value} (e : l.length = vs.length) (h1 : ∀ x ∈ vs, x.oneCell' = true) (h : ∀ (i : Nat) (a : AV) (v : Value), l[i]? = some a → vs[i]? = some v → VRel ρ RO w a v) :
      VRel ρ RO w (.agg l) (.agg vs.toArray)
  | tup {l : List AV} {vs : List Value} (e : l.length = vs.length) (h : ∀ (i : Nat) (a : AV) (v : Value), l[i]? = some a → vs[i]? = some v → VRel ρ RO w a v) :
      VRel ρ RO w (.tup l) (.tuple vs.toArray)
def VRels (ρ : Nat → Option Loc) (RO : Nat → Prop) (w : World) (l : List AV) (vs : List Value) : Prop :=
  l.length = vs.length ∧ ∀ (i : Nat) (a : AV) (v : Value), l[i]? = some a → vs[i]? = some v → VRel ρ RO w a v
structure Ext (ρ : Nat → Option Loc) (RO : Nat → Prop) (w : World) (ρ' : Nat → Option Loc) (RO' : Nat → Prop) (w' : World) : Prop where
  ids : ∀ id x, ρ id = some x → ρ' id = some x
  ro : ∀ b, RO b → RO' b
  same : ∀ b, RO b → w'.heap[b]? = w.heap[b]?
theorem Ext.refl (ρ : Nat → Option Loc) (RO : Nat → Prop) (w : World) : Ext ρ RO w ρ RO w := ⟨fun _ _ h => h, fun _ h => h, fun _ _ => rfl⟩
theorem Ext.trans {ρ ρ' ρ'' : Nat → Option Loc} {RO RO' RO'' : Nat → Prop} {w w' w'' : World} (h : Ext ρ RO w ρ' RO' w') (h' : Ext ρ' RO' w' ρ'' RO'' w'') : Ext ρ RO w ρ'' RO'' w'' :=
  ⟨fun id x e => h'.ids id x (h.ids id x e), fun b e => h'.ro b (h.ro b e), fun b e => (h'.same b (h.ro b e)).trans (h.same b e)⟩
theorem cell_same {w w' : World} {b : Nat} (h : w'.heap[b]? = w.heap[b]?) (o : Nat) : w'.cell? ⟨b, o, none⟩ = w.cell? ⟨b, o, none⟩ := by
  unfold World.cell?; simp only [h]
theorem Flat.move {ρ ρ' : Nat → Option Loc} {RO RO' : Nat → Prop} {w w' : World} (hro : ∀ b, RO b → RO' b) (hsame : ∀ b, RO b → w'.heap[b]? = w.heap[b]?) {a : AV} {v : Value} (h : VRel ρ RO w a v) (hf : Flat a) : VRel ρ' RO' w' a v := by
  induction h with
  | bool b => exact .bool b
  | int k n => exact .int k n
  | str s => exact .str s
  | ptr h => cases hf
  | dptr vs hr hc h1 hfl _ ih => exact .dptr vs (hro _ hr) (fun k hk => (cell_same (hsame _ hr) _).trans (hc k hk)) h1 hfl (fun k hk => ih k hk (hfl k hk))
  | nilp => exact .nilp
  | sl h hl hc hA h0 hs hm => cases hf
  | dsl hn vs hA h1 hfl _ ih =>
    refine .dsl hn vs (fun h => ?_) h1 hfl (fun i k hi hk => ih i k hi hk (hfl i k hi hk))
    obtain ⟨blk, o, q1, q2, q3⟩ := hA h
    exact ⟨blk, o, q1, hro _ q2, fun i k hi hk => (cell_same (hsame _ q2) _).trans (q3 i k hi hk)⟩
  | nils => exact .nils
  | map h => cases hf
  | nilm => exact .nilm
  | fn e1 e2 _ _ ih1 ih2 =>
    cases hf with
    | fn h1 h2 => exact .fn e1 e2 (fun i a v q1 q2 => ih1 i a v q1 q2 (h1 a (List.mem_of_getElem? q1))) (fun i a v q1 q2 => ih2 i a v q1 q2 (h2 a (List.mem_of_getElem? q1)))
  | nilfn => exact .nilfn
  | iface _ ih =>
    cases hf with
    | iface h => exact .iface (ih h)
  | nili => exact .nili
  | agg he h1 _ ih =>
    cases hf with
    | agg h => exact .agg he h1 (fun i a v q1 q2 => ih i a v q1 q2 (h a (List.mem_of_getElem? q1)))
  | tup he _ ih =>
    cases hf with
    | tup h => exact .tup he (fun i a v q1 q2 => ih i a v q1 q2 (h a (List.mem_of_getElem? q1)))
theorem VRel.mono {ρ ρ' : Nat → Option Loc} {RO RO' : Nat → Prop} {w w' : World} (e : Ext ρ RO w ρ' RO' w') {a : AV} {v : Value} (h : VRel ρ RO w a v) : VRel ρ' RO' w' a v := by
  induction h with
  | bool b => exact .bool b
  | int k n => exact .int k n
  | str s => exact .str s
  | ptr h => exact .ptr (e.ids _ _ h)
  | dptr vs hr hc h1 hf _ ih => exact .dptr vs (e.ro _ hr) (fun k hk => (cell_same (e.same _ hr) _).trans (hc k hk)) h1 hf ih
  | nilp => exact .nilp
  | sl h hl hc hA h0 hs hm => exact .sl (e.ids _ _ h) hl hc hA h0 hs hm
  | dsl hn vs hA h1 hf _ ih =>
    refine .dsl hn vs (fun h => ?_) h1 hf ih
    obtain ⟨blk, o, h1, h2, h3⟩ := hA h
    exact ⟨blk, o, h1, e.ro _ h2, fun i k hi hk => (cell_same (e.same _ h2) _).trans (h3 i k hi hk)⟩
  | nils => exact .nils
  | map h => exact .map (e.ids _ _ h)
  | nilm => exact .nilm
  | fn e1 e2 _ _ ih1 ih2 => exact .fn e1 e2 ih1 ih2
  | nilfn => exact .nilfn
  | iface _ ih => exact .iface ih
  | nili => exact .nili
  | agg he h1 _ ih => exact .agg he h1 ih
  | tup he _ ih => exact .tup he ih
theorem VRels.mono {ρ ρ' : Nat → Option Loc} {RO RO' : Nat → Prop} {w w' : World} (e : Ext ρ RO w ρ' RO' w') {l : List AV} {vs : List Value} (h : VRels ρ RO w l vs) : VRels ρ' RO' w' l vs :=
  ⟨h.1, fun i a v h1 h2 => (h.2 i a v h1 h2).mono e⟩
theorem VRels.nil {ρ : Nat → Option Loc} {RO : Nat → Prop} {w : World} : VRels ρ RO w [] [] := ⟨rfl, fun i a v h => by simp at h⟩
theorem VRels.cons {ρ : Nat → Option Loc} {RO : Nat → Prop} {w : World} {a : AV} {v : Value} {l : List AV} {vs : List Value} (h : VRel ρ RO w a v) (t : VRels ρ RO w l vs) : VRels ρ RO w (a :: l) (v :: vs) :=
  ⟨by simp [t.1], fun i x y h1 h2 => by
    cases i with
    | zero => simp at h1 h2; subst h1; subst h2; exact h
    | succ i => simp at h1 h2; exact t.2 i x y h1 h2⟩
theorem VRels.inv_cons {ρ : Nat → Option Loc} {RO : Nat → Prop} {w : World} {a : AV} {l : List AV} {vs : List Value} (h : VRels ρ RO w (a :: l) vs) : ∃ v t, vs = v :: t ∧ VRel ρ RO w a v ∧ VRels ρ RO w l t := by
  obtain ⟨h1, h2⟩ := h
  cases vs with
  | nil => simp at h1
  | cons v t => exact ⟨v, t, rfl, h2 0 a v rfl rfl, by simpa using h1, fun i x y e1 e2 => h2 (i + 1) x y (by simpa using e1) (by simpa using e2)⟩
theorem VRels.inv_nil {ρ : Nat → Option Loc} {RO : Nat → Prop} {w : World} {vs : List Value} (h : VRels ρ RO w [] vs) : vs = [] := by
  cases vs with
  | nil => rfl
  | cons v t => have := h.1; simp at this
theorem VRels.get {ρ : Nat → Option Loc} {RO : Nat → Prop} {w : World} {l : List AV} {vs : List Value} (h : VRels ρ RO w l vs) {i : Nat} {a : AV} (e : l[i]? = some a) : ∃ v, vs[i]? = some v ∧ VRel ρ RO w a v := by
  have hi : i < vs.length := by rw [← h.1]; exact (List.getElem?_eq_some_iff.1 e).1
  exact ⟨vs[i], List.getElem?_eq_getElem hi, h.2 i a _ e (List.getElem?_eq_getElem hi)⟩
theorem VRels.append {ρ : Nat → Option Loc} {RO : Nat → Prop} {w : World} {l l' : List AV} {vs vs' : List Value} (h : VRels ρ RO w l vs) (h' : VRels ρ RO w l' vs') : VRels ρ RO w (l ++ l') (vs ++ vs') := by
  refine ⟨by simp [h.1, h'.1], fun i a v e1 e2 => ?_⟩
  by_cases hi : i < l.length
  · rw [List.getElem?_append_left hi] at e1
    rw [List.getElem?_append_left (h.1 ▸ hi)] at e2
    exact h.2 i a v e1 e2
  · rw [List.getElem?_append_right (by omega)] at e1
    rw [List.getElem?_append_right (by rw [← h.1]; omega)] at e2
    rw [← h.1] at e2
    exact h'.2 _ a v e1 e2
theorem VRels.take_drop {ρ : Nat → Option Loc} {RO : Nat → Prop} {w : World} {l : List AV} {vs : List Value} (h : VRels ρ RO w l vs) (o n : Nat) : VRels ρ RO w ((l.drop o).take n) ((vs.drop o).take n) := by
  refine ⟨by simp [h.1], fun i a v e1 e2 => ?_⟩
  have hi : i < n := by
    have := (List.getElem?_eq_some_iff.1 e1).1
    simp at this; omega
  rw [List.getElem?_take_of_lt hi, List.getElem?_drop] at e1 e2
  exact h.2 _ a v e1 e2
theorem VRels.set {ρ : Nat → Option Loc} {RO : Nat → Prop} {w : World} {l : List AV} {vs : List Value} (h : VRels ρ RO w l vs) (i : Nat) {a : AV} {v : Value} (hv : VRel ρ RO w a v) : VRels ρ RO w (l.set i a) (vs.set i v) := by
  refine ⟨by simp [h.1], fun j x y e1 e2 => ?_⟩
  rw [List.getElem?_set] at e1 e2
  by_cases hij : i = j
  · subst hij
    simp only [if_true] at e1 e2
    by_cases hlt : i < l.length
    · rw [if_pos hlt] at e1
      rw [if_pos (h.1 ▸ hlt)] at e2
      cases e1; cases e2; exact hv
    · rw [if_neg hlt] at e1; cases e1
  · rw [if_neg hij] at e1 e2
    exact h.2 j x y e1 e2
inductive AObj where
  | box (ty : TypeId) (cells : List AV)
  | row (ty : TypeId) (sz n : Nat) (elem : Nat → Nat → AV)
  | map (es : List (AV × AV))
def ORel (ρ : Nat → Option Loc) (RO : Nat → Prop) (w : World) (x : Loc) : AObj → Prop
  | .box ty cells => x.base = 0 ∧ x.sz = cells.length ∧ x.m = cells.length ∧ ∃ cs, w.heap[x.blk]? = some (.cells (List.toArray cs) ty (0, 0)) ∧ (∀ v ∈ cs, v.oneCell' = true) ∧ VRels ρ RO w cells cs
  | .row ty sz n elem => x.sz = sz ∧ ∃ cs : Array Value, w.heap[x.blk]? = some (.cells cs ty (0, 0)) ∧ cs.size = x.m ∧ ∀ i k, i < n → k < sz → ∃ v, cs[x.base + (i * sz + k)]? = some v ∧ v.oneCell' = true ∧ VRel ρ RO w (elem i k) v
  | .map es => ∃ (ms : List MapEntry) (clock : Nat), w.heap[x.blk]? = some (.map ms.toArray clock) ∧ es.length = ms.length ∧
      ∀ (i : Nat) (e : AV × AV) (m : MapEntry), es[i]? = some e → ms[i]? = some m → VRel ρ RO w e.1 m.key ∧ VRel ρ RO w e.2 m.val
theorem ORel.mono {ρ ρ' : Nat → Option Loc} {RO RO' : Nat → Prop} {w w' : World} (e : Ext ρ RO w ρ' RO' w') {x : Loc} (hx : w'.heap[x.blk]? = w.heap[x.blk]?) {o : AObj} (h : ORel ρ RO w x o) : ORel ρ' RO' w' x o := by
  cases o with
  | box ty cells =>
    obtain ⟨h0, h1, h2, cs, h3, h4, h5⟩ := h
    exact ⟨h0, h1, h2, cs, hx.trans h3, h4, h5.mono e⟩
  | row ty sz n elem =>
    obtain ⟨h1, cs, h3, h4, h5⟩ := h
    refine ⟨h1, cs, hx.trans h3, h4, fun i k hi hk => ?_⟩
    obtain ⟨v, e1, e3, e2⟩ := h5 i k hi hk
    exact ⟨v, e1, e3, e2.mono e⟩
  | map es =>
    obtain ⟨ms, clock, h3, h4, h5⟩ := h
    exact ⟨ms, clock, hx.trans h3, h4, fun i a m e1 e2 => ⟨(h5 i a m e1 e2).1.mono e, (h5 i a m e1 e2).2.mono e⟩⟩
def look {α : Type} : List (Nat × α) → Nat → Option α
  | [], _ => none
  | (k, v) :: r, t => match Nat.beq k t with | true => some v | false => look r t
theorem look_cons {α : Type} (k : Nat) (v : α) (r : List (Nat × α)) (t : Nat) : look ((k, v) :: r) t = if k = t then some v else look r t := by
  by_cases h : k = t
  · subst h; simp [look]
  · have hb : Nat.beq k t = false := by
      cases hb : Nat.beq k t with
      | false => rfl
      | true => exact absurd (Nat.eq_of_beq_eq_true hb) h
    simp [look, hb, h]
abbrev Heap := List (Nat × Option AObj)
def lookH (h : Heap) (id : Nat) : Option AObj := match look h id with | some (some o) => some o | _ => none
theorem lookH_cons (k : Nat) (o : Option AObj) (h : Heap) (id : Nat) : lookH ((k, o) :: h) id = if k = id then o else lookH h id := by
  unfold lookH
  rw [look_cons]
  by_cases e : k = id
  · simp only [e, if_true]; cases o <;> rfl
  · simp only [e, if_false]
structure Frame (w0 : World) (F : Nat → Prop) (w : World) : Prop where
  os : w.os = w0.os
  tape : w.tape = w0.tape
  output : w.output = w0.output
  size : w0.heap.size ≤ w.heap.size
  block : ∀ k, k < w0.heap.size → ¬ F k → w.heap[k]? = w0.heap[k]?
  drawn : Dr.p → w0.drawn ≤ w.drawn
theorem Frame.refl (w : World) (F : Nat → Prop) : Frame w F w := ⟨rfl, rfl, rfl, Nat.le_refl _, fun _ _ _ => rfl, fun _ => Nat.le_refl _⟩
theorem Frame.below {w0 w : World} (h : Frame w0 (fun _ => False) w) : Below w0.heap.size w0 w := ⟨h.os, h.tape, h.output, h.size, fun k hk => h.block k hk (fun x => x)⟩
def Ghost (x : Loc) (o : AObj) : Prop := ∃ ty sz elem, o = .row ty sz 0 elem ∧ x.m = 0 ∧ x.sz = sz ∧ 1 ≤ sz ∧ x.real = false
structure Solid (w0 : World) (F : Nat → Prop) (ρ : Nat → Option Loc) (RO : Nat → Prop) (w : World) (x : Loc) (o : AObj) : Prop where
  rel : ORel ρ RO w x o
  lt : x.blk < w.heap.size
  own : w0.heap.size ≤ x.blk ∨ F x.blk
  free : ¬ RO x.blk
  base : x.base = 0
  real : x.real = true
structure HRel (w0 : World) (F : Nat → Prop) (h : Heap) (next : Nat) (ρ : Nat → Option Loc) (RO : Nat → Prop) (w : World) : Prop where
  frame : Frame w0 F w
  objs : ∀ id o, lookH h id = some o → ∃ x, ρ id = some x ∧ (Ghost x o ∨ Solid w0 F ρ RO w x o)
  dis : ∀ id id' o o' x x', id ≠ id' → lookH h id = some o → lookH h id' = some o' → ρ id = some x → ρ id' = some x' → Ghost x o ∨ Ghost x' o' ∨ x.blk ≠ x'.blk
  fresh : ∀ id, next ≤ id → ρ id = none
  ro : ∀ b, RO b → b < w.heap.size
theorem Solid.mono {w0 w w' : World} {F : Nat → Prop} {ρ ρ' : Nat → Option Loc} {RO : Nat → Prop} {x : Loc} {o : AObj} (s : Solid w0 F ρ RO w x o) (e : Ext ρ RO w ρ' RO w') (hx : w'.heap[x.blk]? = w.heap[x.blk]?) (hs : w.heap.size ≤ w'.heap.size) :
    Solid w0 F ρ' RO w' x o := ⟨s.rel.mono e hx, Nat.lt_of_lt_of_le s.lt hs, s.own, s.free, s.base, s.real⟩
theorem HRel.add {w0 : World} {F : Nat → Prop} {h : Heap} {next : Nat} {ρ : Nat → Option Loc} {RO : Nat → Prop} {w w' : World} (H : HRel w0 F h next ρ RO w) (o : AObj) (L : Loc)
    (hf : Frame w0 F w') (hsame : ∀ k, k < w.heap.size → w'.heap[k]? = w.heap[k]?) (hsize : w.heap.size ≤ w'.heap.size) :
    let ρ' : Nat → Option Loc := fun id => if id = next then some L else ρ id
    Ext ρ RO w ρ' RO w' ∧ ((Ghost L o ∨ (w.heap.size ≤ L.blk ∧ Solid w0 F ρ' RO w' L o)) → HRel w0 F ((next, some o) :: h) (next + 1) ρ' RO w') := by
  intro ρ'
  have hn : ∀ id x, ρ id = some x → id ≠ next := by
    intro id x hx e
    rw [e, H.fresh next (Nat.le_refl _)] at hx
    cases hx
  have ext : Ext ρ RO w ρ' RO w' :=
    ⟨fun id x hx => by
      show (if id = next then _ else ρ id) = _
      rw [if_neg (hn id x hx)]
      exact hx, fun _ hb => hb, fun b hb => hsame b (H.ro b hb)⟩
  have hnew : ρ' next = some L := if_pos rfl
  have hold : ∀ id o x, next ≠ id → lookH h id = some o → ρ' id = some x → ρ id = some x := by
    intro id o x hne hl hx
    obtain ⟨y, h1, _⟩ := H.objs id o hl
    have := ext.ids _ _ h1; rw [hx] at this; cases this; exact h1
  refine ⟨ext, fun ho => ?_⟩
  constructor
  · exact hf
  · intro id o' hl
    rw [lookH_cons] at hl
    by_cases e : next = id
    · subst e
      simp only [if_true] at hl; cases hl
      exact ⟨_, hnew, ho.imp id (·.2)⟩
    · rw [if_neg e] at hl
      obtain ⟨x, h1, h2⟩ := H.objs id o' hl
      exact ⟨x, ext.ids _ _ h1, h2.imp (fun g => g) (fun s => s.mono ext (hsame _ s.lt) hsize)⟩
  · intro id id' o1 o2 x x' hne h1 h2 e1 e2
    rw [lookH_cons] at h1 h2
    by_cases e : next = id
    · subst e
      rw [if_neg hne] at h2
      simp only [if_true] at h1; cases h1
      rw [hnew] at e1; cases e1
      rcases ho with ho | ⟨ho, _⟩
      · exact .inl ho
      · obtain ⟨y, g1, g2⟩ := H.objs id' o2 h2
        have := ext.ids _ _ g1; rw [e2] at this; cases this
        rcases g2 with g2 | g2
        · exact .inr (.inl g2)
        · have := g2.lt
          exact .inr (.inr (by omega))
    · by_cases e' : next = id'
      · subst e'
        rw [if_neg e] at h1
        simp only [if_true] at h2; cases h2
        rw [hnew] at e2; cases e2
        rcases ho with ho | ⟨ho, _⟩
        · exact .inr (.inl ho)
        · obtain ⟨y, g1, g2⟩ := H.objs id o1 h1
          have := ext.ids _ _ g1; rw [e1] at this; cases this
          rcases g2 with g2 | g2
          · exact .inl g2
          · have := g2.lt
            exact .inr (.inr (by omega))
      · rw [if_neg e] at h1; rw [if_neg e'] at h2
        exact H.dis id id' o1 o2 _ _ hne h1 h2 (hold _ _ _ e h1 e1) (hold _ _ _ e' h2 e2)
  · intro id hid
    show (if id = next then _ else ρ id) = none
    rw [if_neg (by omega)]
    exact H.fresh id (by omega)
  · intro b hb
    have := H.ro b hb
    omega
theorem HRel.alloc {w0 : World} {F : Nat → Prop} {h : Heap} {next : Nat} {ρ : Nat → Option Loc} {RO : Nat → Prop} {w : World} (H : HRel w0 F h next ρ RO w) (ob : Obj) (o : AObj) (sz m : Nat) :
    let ρ' : Nat → Option Loc := fun id => if id = next then some ⟨w.heap.size, 0, sz, m, true⟩ else ρ id
    Ext ρ RO w ρ' RO (w.alloc ob) ∧ (ORel ρ' RO (w.alloc ob) ⟨w.heap.size, 0, sz, m, true⟩ o → HRel w0 F ((next, some o) :: h) (next + 1) ρ' RO (w.alloc ob)) := by
  have hsame : ∀ k, k < w.heap.size → (w.alloc ob).heap[k]? = w.heap[k]? := fun k hk => by simp only [World.alloc, Array.getElem?_push]; rw [if_neg (by omega)]
  obtain ⟨ext, fin⟩ := H.add (w' := w.alloc ob) o ⟨w.heap.size, 0, sz, m, true⟩
    ⟨H.frame.os, H.frame.tape, H.frame.output, by have := H.frame.size; simp; omega, fun k hk hF => (hsame k (by have := H.frame.size; omega)).trans (H.frame.block k hk hF), H.frame.drawn⟩ hsame (by simp)
  exact ⟨ext, fun ho => fin (.inr ⟨Nat.le_refl _, ho, by simp, .inl H.frame.size, fun hr => absurd (H.ro _ hr) (by simp), rfl, rfl⟩)⟩
theorem HRel.renew {w0 : World} {F : Nat → Prop} {h : Heap} {next : Nat} {ρ : Nat → Option Loc} {RO : Nat → Prop} {w w' : World} (H : HRel w0 F h next ρ RO w) {id : Nat} {o : AObj} (hl : lookH h id = some o) {x : Loc} (hx : ρ id = some x) (hg : ¬ Ghost x o)
    (hos : w'.os = w.os) (htape : w'.tape = w.tape) (hout : w'.output = w.output) (hdr : w'.drawn = w.drawn) (hsize : w'.heap.size = w.heap.size) (hsame : ∀ k, k ≠ x.blk → w'.heap[k]? = w.heap[k]?) (L : Loc) (hL : L.blk = x.blk) (hb : L.base = 0) (hr : L.real = true) :
    let ρ' : Nat → Option Loc := fun id => if id = next then some L else ρ id
    Ext ρ RO w ρ' RO w' ∧ ∀ o' : AObj, ORel ρ' RO w' L o' → HRel w0 F ((next, some o') :: (id, none) :: h) (next + 1) ρ' RO w' := by
  intro ρ'
  obtain ⟨y, h1, h2⟩ := H.objs id o hl
  rw [hx] at h1; cases h1
  have h2 := h2.resolve_left hg
  have hn : ∀ id x, ρ id = some x → id ≠ next := by
    intro id x hx e
    rw [e, H.fresh next (Nat.le_refl _)] at hx
    cases hx
  have ext : Ext ρ RO w ρ' RO w' :=
    ⟨fun id x hx => by
      show (if id = next then _ else ρ id) = _
      rw [if_neg (hn id x hx)]
      exact hx, fun _ hb => hb, fun b hb => hsame b (fun e => h2.free (e ▸ hb))⟩
  have hnew : ρ' next = some L := if_pos rfl
  have back : ∀ k ok, lookH ((id, none) :: h) k = some ok → k ≠ id ∧ lookH h k = some ok := by
    intro k ok hk
    rw [lookH_cons] at hk
    by_cases e : id = k
    · rw [if_pos e] at hk; cases hk
    · rw [if_neg e] at hk; exact ⟨fun e' => e e'.symm, hk⟩
  have hold : ∀ id o x, lookH h id = some o → ρ' id = some x → ρ id = some x := by
    intro id o x hl hx
    obtain ⟨y, h1, _⟩ := H.objs id o hl
    have := ext.ids _ _ h1; rw [hx] at this; cases this; exact h1
  refine ⟨ext, fun o' ho => ?_⟩
  have hsol : Solid w0 F ρ' RO w' L o' := ⟨ho, by rw [hL, hsize]; exact h2.lt, by rw [hL]; exact h2.own, by rw [hL]; exact h2.free, hb, hr⟩
  have away : ∀ k ok z, k ≠ id → lookH h k = some ok → ρ k = some z → Ghost z ok ∨ z.blk ≠ x.blk := by
    intro k ok z hk hlk hz
    rcases H.dis k id ok o z x hk hlk hl hz hx with q | q | q
    · exact .inl q
    · exact absurd q hg
    · exact .inr q
  constructor
  · refine ⟨hos.trans H.frame.os, htape.trans H.frame.tape, hout.trans H.frame.output, by rw [hsize]; exact H.frame.size, fun k hk hF => ?_, fun d => by rw [hdr]; exact H.frame.drawn d⟩
    by_cases e : k = x.blk
    · subst e; rcases h2.own with h4 | h4
      · omega
      · exact absurd h4 hF
    · exact (hsame k e).trans (H.frame.block k hk hF)
  · intro id' o1 hl'
    rw [lookH_cons] at hl'
    by_cases e : next = id'
    · subst e; simp only [if_true] at hl'; cases hl'
      exact ⟨L, hnew, .inr hsol⟩
    · rw [if_neg e] at hl'
      obtain ⟨hne, hl'⟩ := back _ _ hl'
      obtain ⟨z, g1, g2⟩ := H.objs id' o1 hl'
      refine ⟨z, ext.ids _ _ g1, ?_⟩
      rcases g2 with g2 | g2
      · exact .inl g2
      · rcases away id' o1 z hne hl' g1 with q | q
        · exact .inl q
        · exact .inr (g2.mono ext (hsame _ q) (by omega))
  · intro i j o1 o2 z z' hne g1 g2 e1 e2
    rw [lookH_cons] at g1 g2
    by_cases e : next = i
    · subst e
      rw [if_neg hne] at g2
      rw [hnew] at e1; cases e1
      obtain ⟨hne2, g2⟩ := back _ _ g2
      rcases away j o2 z' hne2 g2 (hold _ _ _ g2 e2) with q | q
      · exact .inr (.inl q)
      · exact .inr (.inr (by rw [hL]; exact fun e => q e.symm))
    · rw [if_neg e] at g1
      obtain ⟨hne1, g1⟩ := back _ _ g1
      by_cases e' : next = j
      · subst e'
        rw [hnew] at e2; cases e2
        rcases away i o1 z hne1 g1 (hold _ _ _ g1 e1) with q | q
        · exact .inl q
        · exact .inr (.inr (by rw [hL]; exact q))
      · rw [if_neg e'] at g2
        obtain ⟨hne2, g2⟩ := back _ _ g2
        exact H.dis i j o1 o2 z z' hne g1 g2 (hold _ _ _ g1 e1) (hold _ _ _ g2 e2)
  · intro k hk
    show (if k = next then _ else ρ k) = none
    rw [if_neg (by omega)]
    exact H.fresh k (by omega)
  · intro b hb; rw [hsize]; exact H.ro b hb
theorem HRel.turn {w0 : World} {F : Nat → Prop} {h : Heap} {next : Nat} {ρ : Nat → Option Loc} {RO : Nat → Prop} {w w' : World} (H : HRel w0 F h next ρ RO w) {id : Nat} {o : AObj} (hl : lookH h id = some o) {x : Loc} (hx : ρ id = some x) (hg : ¬ Ghost x o)
    (hos : w'.os = w.os) (htape : w'.tape = w.tape) (hout : w'.output = w.output) (hdr : w'.drawn = w.drawn) (hsize : w'.heap.size = w.heap.size) (hsame : ∀ k, k ≠ x.blk → w'.heap[k]? = w.heap[k]?) :
    Ext ρ RO w ρ RO w' ∧ ∀ o' : AObj, ORel ρ RO w' x o' → HRel w0 F ((id, some o') :: h) next ρ RO w' := by
  obtain ⟨y, h1, h2⟩ := H.objs id o hl
  rw [hx] at h1; cases h1
  have h2 := h2.resolve_left hg
  have ext : Ext ρ RO w ρ RO w' := ⟨fun _ _ e => e, fun _ e => e, fun b hb => hsame b (fun e => h2.free (e ▸ hb))⟩
  refine ⟨ext, fun o' ho => ?_⟩
  constructor
  · refine ⟨hos.trans H.frame.os, htape.trans H.frame.tape, hout.trans H.frame.output, by rw [hsize]; exact H.frame.size, fun k hk hF => ?_, fun d => by rw [hdr]; exact H.frame.drawn d⟩
    by_cases e : k = x.blk
    · subst e; rcases h2.own with h4 | h4
      · omega
      · exact absurd h4 hF
    · exact (hsame k e).trans (H.frame.block k hk hF)
  · intro id' o1 hl'
    rw [lookH_cons] at hl'
    by_cases e : id = id'
    · subst e; simp only [if_true] at hl'; cases hl'
      exact ⟨x, hx, .inr ⟨ho, by rw [hsize]; exact h2.lt, h2.own, h2.free, h2.base, h2.real⟩⟩
    · rw [if_neg e] at hl'
      obtain ⟨z, g1, g2⟩ := H.objs id' o1 hl'
      refine ⟨z, g1, ?_⟩
      rcases g2 with g2 | g2
      · exact .inl g2
      · rcases H.dis id id' o o1 x z e hl hl' hx g1 with q | q | q
        · exact absurd q hg
        · exact .inl q
        · exact .inr (g2.mono ext (hsame _ (fun e => q e.symm)) (by omega))
  · intro i j o1 o2 z z' hne g1 g2 e1 e2
    rw [lookH_cons] at g1 g2
    by_cases e : id = i
    · subst e
      rw [if_neg hne] at g2
      rw [hx] at e1; cases e1
      rcases H.dis id j o o2 x z' hne hl g2 hx e2 with q | q | q
      · exact absurd q hg
      · exact .inr (.inl q)
      · exact .inr (.inr q)
    · rw [if_neg e] at g1
      by_cases e' : id = j
      · subst e'
        rw [hx] at e2; cases e2
        rcases H.dis i id o1 o z x hne g1 hl e1 hx with q | q | q
        · exact .inl q
        · exact absurd q hg
        · exact .inr (.inr q)
      · rw [if_neg e'] at g2
        exact H.dis i j o1 o2 z z' hne g1 g2 e1 e2
  · exact H.fresh
  · intro b hb; rw [hsize]; exact H.ro b hb
theorem HRel.forget {w0 : World} {F : Nat → Prop} {h h' : Heap} {next : Nat} {ρ : Nat → Option Loc} {RO : Nat → Prop} {w : World} (H : HRel w0 F h next ρ RO w) (hs : ∀ id o, lookH h' id = some o → lookH h id = some o) : HRel w0 F h' next ρ RO w :=
  ⟨H.frame, fun id o e => H.objs id o (hs id o e), fun id id' o o' x x' hne e e' => H.dis id id' o o' x x' hne (hs _ _ e) (hs _ _ e'), H.fresh, H.ro⟩
theorem HRel.more {w0 : World} {F : Nat → Prop} {h : Heap} {next n : Nat} {ρ : Nat → Option Loc} {RO : Nat → Prop} {w : World} (H : HRel w0 F h next ρ RO w) (hn : next ≤ n) : HRel w0 F h n ρ RO w :=
  ⟨H.frame, H.objs, H.dis, fun id hid => H.fresh id (by omega), H.ro⟩
theorem HRel.drew {w0 : World} {F : Nat → Prop} {h : Heap} {next : Nat} {ρ : Nat → Option Loc} {RO : Nat → Prop} {w : World} (H : HRel w0 F h next ρ RO w) : Ext ρ RO w ρ RO w.drew ∧ HRel w0 F h next ρ RO w.drew := by
  have ext : Ext ρ RO w ρ RO w.drew := ⟨fun _ _ e => e, fun _ e => e, fun _ _ => rfl⟩
  exact ⟨ext, ⟨⟨H.frame.os, H.frame.tape, H.frame.output, H.frame.size, H.frame.block, fun d => Nat.le_trans (H.frame.drawn d) (Nat.le_succ _)⟩, fun id o e => by
    obtain ⟨x, h1, h2⟩ := H.objs id o e
    exact ⟨x, h1, h2.imp (fun g => g) (fun s => s.mono ext rfl (Nat.le_refl _))⟩, H.dis, H.fresh, H.ro⟩⟩
theorem not_ghost_box {x : Loc} {ty : TypeId} {cells : List AV} : ¬ Ghost x (.box ty cells) := by rintro ⟨_, _, _, h, _⟩; cases h
theorem not_ghost_map {x : Loc} {es : List (AV × AV)} : ¬ Ghost x (.map es) := by rintro ⟨_, _, _, h, _⟩; cases h
theorem not_ghost_row {x : Loc} {ty : TypeId} {sz n : Nat} {elem : Nat → Nat → AV} (hn : 0 < n) : ¬ Ghost x (.row ty sz n elem) := by rintro ⟨_, _, _, h, _⟩; cases h; omega
theorem HRel.box {w0 : World} {F : Nat → Prop} {h : Heap} {next : Nat} {ρ : Nat → Option Loc} {RO : Nat → Prop} {w : World} (H : HRel w0 F h next ρ RO w) {id : Nat} {ty : TypeId} {cells : List AV} (hl : lookH h id = some (.box ty cells)) {x : Loc} (hx : ρ id = some x) : ORel ρ RO w x (.box ty cells) := by
  obtain ⟨y, h1, h2⟩ := H.objs id _ hl
  rw [hx] at h1; cases h1
  exact (h2.resolve_left not_ghost_box).rel
theorem HRel.row {w0 : World} {F : Nat → Prop} {h : Heap} {next : Nat} {ρ : Nat → Option Loc} {RO : Nat → Prop} {w : World} (H : HRel w0 F h next ρ RO w) {id : Nat} {ty : TypeId} {sz n : Nat} {elem : Nat → Nat → AV} (hl : lookH h id = some (.row ty sz n elem)) {x : Loc} (hx : ρ id = some x) :
    x.sz = sz ∧ (0 < n → ORel ρ RO w x (.row ty sz n elem)) := by
  obtain ⟨y, h1, h2⟩ := H.objs id _ hl
  rw [hx] at h1; cases h1
  rcases h2 with h2 | h2
  · obtain ⟨_, _, _, e, _, e2, _⟩ := h2
    cases e
    exact ⟨e2, fun h => by omega⟩
  · exact ⟨h2.rel.1, fun _ => h2.rel⟩
theorem HRel.mapO {w0 : World} {F : Nat → Prop} {h : Heap} {next : Nat} {ρ : Nat → Option Loc} {RO : Nat → Prop} {w : World} (H : HRel w0 F h next ρ RO w) {id : Nat} {es : List (AV × AV)} (hl : lookH h id = some (.map es)) {x : Loc} (hx : ρ id = some x) : ORel ρ RO w x (.map es) := by
  obtain ⟨y, h1, h2⟩ := H.objs id _ hl
  rw [hx] at h1; cases h1
  exact (h2.resolve_left not_ghost_map).rel
end Go.Eng

set_option linter.unusedVariables false
set_option linter.unusedSectionVars false
namespace Go.Eng
variable [Dr]
abbrev Env := List (Nat × Option AV)
def lookE (env : Env) (t : Nat) : Option AV := match look env t with | some (some v) => some v | _ => none
abbrev Conds := List (Bool × Bool)
def constCell : Value → Option AV
  | .bool b => some (.bool b)
  | .int k n => some (.int k n)
  | .string s => some (.str s)
  | .pointer none => some .nilp
  | .slice none 0 0 => some .nils
  | .map none => some .nilm
  | .nilFunc => some .nilfn
  | .nilIface => some .nili
  | _ => none
def constCells : List Value → Option (List AV)
  | [] => some []
  | v :: r => match constCell v, constCells r with
    | some a, some l => some (a :: l)
    | _, _ => none
def constA : Value → Option AV
  | .agg cs => match constCells cs.toList with | some l => some (.agg l) | none => none
  | v => constCell v
def evA (env : Env) : Operand → Option AV
  | .tmp t => lookE env t
  | .const v => constA v
  | .func f => some (.fn (.func f) [] [])
  | .global _ => none
def evAs (env : Env) : List Operand → Option (List AV)
  | [] => some []
  | x :: r => match evA env x, evAs env r with
    | some a, some l => some (a :: l)
    | _, _ => none
def cellsA : AV → List AV
  | .agg cs => cs
  | v => [v]
def plainA : AV → Bool
  | .tup _ => false
  | _ => true
def szT (P : Program) (t : TypeId) : Option Nat := match P.info? t with | some i => some i.size | none => none
def aggT (P : Program) (t : TypeId) : Option Bool := match P.underlying t with | some (.struct _) | some (.array _ _) => some true | some _ => some false | none => none
def zeroT (P : Program) (t : TypeId) : Option AV := match P.info? t with | some i => (match i.zero with | some z => constA z | none => none) | none => none
def partA (P : Program) (t : TypeId) (cs : List AV) (off : Nat) : Option AV :=
  match szT P t with
  | none => none
  | some n => match aggT P t with
    | some true => match Nat.ble (off + n) cs.length with | true => some (.agg ((cs.drop off).take n)) | false => none
    | some false => cs[off]?
    | none => none
def sets {α : Type} : List α → Nat → List α → List α
  | cs, _, [] => cs
  | cs, o, v :: r => sets (cs.set o v) (o + 1) r
def fillA (place : Nat → Option (Nat × Nat)) : List AV → List (Nat × AV) → Option (List AV)
  | cells, [] => some cells
  | cells, (i, v) :: rest =>
    match place i with
    | none => none
    | some (off, size) =>
      match Nat.beq (cellsA v).length size && Nat.ble (off + size) cells.length && plainA v with
      | true => fillA place (sets cells off (cellsA v)) rest
      | false => none
def evParts (env : Env) : List (Nat × Operand) → Option (List (Nat × AV))
  | [] => some []
  | (i, x) :: r => match evA env x, evParts env r with
    | some a, some l => some ((i, a) :: l)
    | _, _ => none
def placesT (P : Program) : List Field → Option (List (Nat × Nat))
  | [] => some []
  | f :: r => match szT P f.type, placesT P r with
    | some n, some l => some ((f.offset, n) :: l)
    | _, _ => none
def buildA (P : Program) (t : TypeId) (parts : List (Nat × AV)) : Option AV :=
  match zeroT P t, P.underlying t with
  | some z, some (.array _ e) => match szT P e with
    | some n => match fillA (fun i => some (i * n, n)) (cellsA z) parts with | some l => some (.agg l) | none => none
    | none => none
  | some z, some (.struct fs) => match placesT P fs.toList with
    | some ps => match fillA (fun i => ps[i]?) (cellsA z) parts with | some l => some (.agg l) | none => none
    | none => none
  | _, _ => none
def rep (z : List AV) : Nat → List AV
  | 0 => []
  | n + 1 => z ++ rep z n
def buildSliceA (P : Program) (e : TypeId) (n len : Nat) (parts : List (Nat × AV)) : Option (List AV) :=
  match Nat.ble (len * n) 16777216, Nat.ble 1 n with
  | true, true => match len with
    | 0 => match parts with | [] => some [] | _ => none
    | len + 1 => match zeroT P e with
      | some z => match Nat.beq (cellsA z).length n with
        | true => fillA (fun i => some (i * n, n)) (rep (cellsA z) (len + 1)) parts
        | false => none
      | none => none
  | _, _ => none
def eqF (P : Program) (eq : TypeId → AV → AV → Option Bool) (xs ys : List AV) : List Field → Option Bool
  | [] => some true
  | f :: r =>
    match decide (f.name = "_") with
    | true => none
    | false => match partA P f.type xs f.offset, partA P f.type ys f.offset with
      | some a, some b => match eq f.type a b with
        | some q => match r with
          | [] => some q
          | g :: r' => match eqF P eq xs ys (g :: r') with | some s => some (q && s) | none => none
        | none => none
      | _, _ => none
def eqA (P : Program) : Nat → TypeId → AV → AV → Option Bool
  | 0, _, _, _ => none
  | d + 1, t, x, y =>
    match P.underlying t, x, y with
    | some .bool, .bool a, .bool b => some (a == b)
    | some (.int _), .int k a, .int k' b => match decide (k = k') with | true => some (a == b) | false => none
    | some .string, .str a, .str b => some (a.toList == b.toList)
    | some (.struct fs), .agg xs, .agg ys =>
      match P.stoodInHeld t with
      | true => none
      | false => eqF P (eqA P d) xs ys fs.toList
    | _, _, _ => none
def intA (op : BinOp) (k : IntKind) (a b : Int) : Option (AV × Conds) :=
  match op with
  | .add => some (.int k (k.wrap (a + b)), [])
  | .sub => some (.int k (k.wrap (a - b)), [])
  | .mul => some (.int k (k.wrap (a * b)), [])
  | .quo => some (.int k (k.wrap (a.tdiv b)), [(b == 0, false)])
  | .rem => some (.int k (a.tmod b), [(b == 0, false)])
  | .and => some (.int k (k.wrap (BitVec.ofInt k.bits a &&& BitVec.ofInt k.bits b).toNat), [])
  | .or => some (.int k (k.wrap (BitVec.ofInt k.bits a ||| BitVec.ofInt k.bits b).toNat), [])
  | .xor => some (.int k (k.wrap (BitVec.ofInt k.bits a ^^^ BitVec.ofInt k.bits b).toNat), [])
  | .andNot => some (.int k (k.wrap (BitVec.ofInt k.bits a &&& ~~~ BitVec.ofInt k.bits b).toNat), [])
  | .eql => some (.bool (a == b), [])
  | .neq => some (.bool (a != b), [])
  | .lss => some (.bool (decide (a < b)), [])
  | .leq => some (.bool (decide (a ≤ b)), [])
  | .gtr => some (.bool (decide (a > b)), [])
  | .geq => some (.bool (decide (a ≥ b)), [])
  | _ => none
def strA (op : BinOp) (a b : ByteArray) : Option (AV × Conds) :=
  match op with
  | .add => some (.str (a ++ b), [(decide (a.size + b.size ≤ 9223372036854775807), true)])
  | .eql => some (.bool (a.toList == b.toList), [])
  | .neq => some (.bool (!(a.toList == b.toList)), [])
  | .lss => some (.bool (Op.bytesLess a.toList b.toList), [])
  | .leq => some (.bool (Op.bytesLess a.toList b.toList || a.toList == b.toList), [])
  | .gtr => some (.bool (!(Op.bytesLess a.toList b.toList || a.toList == b.toList)), [])
  | .geq => some (.bool (!(Op.bytesLess a.toList b.toList)), [])
  | _ => none
def binA (P : Program) (op : BinOp) (t : TypeId) (x y : AV) : Option (AV × Conds) :=
  match op, x, y with
  | .shl, .int k a, .int _ b => some (.int k (k.wrap (a * 2 ^ (min b.toNat k.bits))), [(decide (b < 0), false)])
  | .shr, .int k a, .int _ b => some (.int k (a.fdiv (2 ^ (min b.toNat k.bits))), [(decide (b < 0), false)])
  | op, .int k a, .int k' b => match decide (k = k') with | true => intA op k a b | false => none
  | op, .str a, .str b => strA op a b
  | .eql, .bool a, .bool b => match P.underlying t with | some .bool => some (.bool (a == b), []) | _ => none
  | .neq, .bool a, .bool b => match P.underlying t with | some .bool => some (.bool (!(a == b)), []) | _ => none
  | .eql, .agg xs, .agg ys => match P.eqGuardType P.depth t, eqA P 40 t (.agg xs) (.agg ys) with | false, some q => some (.bool q, []) | _, _ => none
  | .neq, .agg xs, .agg ys => match P.eqGuardType P.depth t, eqA P 40 t (.agg xs) (.agg ys) with | false, some q => some (.bool (!q), []) | _, _ => none
  | _, _, _ => none
def unA (op : UnOp) (x : AV) : Option AV :=
  match op, x with
  | .not, .bool b => some (.bool (!b))
  | .neg, .int k n => some (.int k (k.wrap (0 - n)))
  | _, _ => none
def fieldT (P : Program) (s : TypeId) (f : Nat) : Option Field := match P.underlying s with | some (.struct fs) => fs[f]? | _ => none
def elemT (P : Program) (t : TypeId) : Option TypeId := match P.underlying t with | some (.slice e) => some e | _ => none
def addO (off i : Nat) : Nat := match off with | 0 => i | o + 1 => o + 1 + i
theorem addO_eq (off i : Nat) : addO off i = off + i := by cases off <;> simp [addO]
def rowOf (h : Heap) : AV → Option (Nat × Nat × (Nat → Nat → AV) × Bool)
  | .sl id off len _ => match lookH h id with
    | some (.row _ sz n elem) => some (sz, len, fun i k => elem (addO off i) k, decide (addO off len ≤ n))
    | _ => none
  | .dsl sz n elem => some (sz, n, elem, true)
  | _ => none
def intOfA : AV → Option Int
  | .int _ n => some n
  | _ => none
def boundA (env : Env) (d : Int) : Option Operand → Option Int
  | none => some d
  | some x => match evA env x with | some v => intOfA v | none => none
def knownA (h : Heap) (id : Nat) : Option (Nat × Nat) := match lookH h id with | some (.row _ sz n _) => some (sz, n) | _ => none
structure Got where
  val : Option AV
  heap : Heap
  next : Nat
  conds : Conds
def Got.pure (h : Heap) (n : Nat) (r : Option AV) : Option Got := match r with | some v => some ⟨some v, h, n, []⟩ | none => none
def Got.pureC (h : Heap) (n : Nat) (r : Option (AV × Conds)) : Option Got := match r with | some (v, c) => some ⟨some v, h, n, c⟩ | none => none
def boxA (h : Heap) (n : Nat) (t : TypeId) (v : AV) : Option Got := match plainA v with | true => some ⟨some (.ptr n 0 0), (n, some (.box t (cellsA v))) :: h, n + 1, []⟩ | false => none
def lodA (P : Program) (h : Heap) (n : Nat) (t : TypeId) (a : AV) : Option Got :=
  match a with
  | .ptr id idx off => match lookH h id with
    | some (.box _ cells) => match idx with
      | 0 => Got.pure h n (partA P t cells off)
      | _ => none
    | some (.row _ sz m elem) => match szT P t with
      | some s => match aggT P t, Nat.ble (off + s) sz, Nat.ble (off + 1) sz with
        | some true, true, _ => some ⟨some (.agg ((List.range s).map fun k => elem idx (off + k))), h, n, [(decide (idx < m), true)]⟩
        | some false, _, true => some ⟨some (elem idx off), h, n, [(decide (idx < m), true)]⟩
        | _, _, _ => none
      | none => none
    | _ => none
  | .dptr sz cell => match szT P t with
    | some s => match aggT P t, Nat.ble s sz, Nat.ble 1 sz with
      | some true, true, _ => some ⟨some (.agg ((List.range s).map fun k => cell k)), h, n, []⟩
      | some false, _, true => some ⟨some (cell 0), h, n, []⟩
      | _, _, _ => none
    | none => none
  | _ => none
def stoA (P : Program) (h : Heap) (n : Nat) (t : TypeId) (a v : AV) : Option Got :=
  match szT P t, plainA v with
  | some s, true => match Nat.beq (cellsA v).length s with
    | true => match a with
      | .ptr id idx off => match lookH h id with
        | some (.box ty cells) => match idx, Nat.ble (off + s) cells.length with
          | 0, true => some ⟨none, (id, some (.box ty (sets cells off (cellsA v)))) :: h, n, []⟩
          | _, _ => none
        | some (.row ty sz m elem) => match Nat.ble (off + s) sz with
          | true => some ⟨none, (id, some (.row ty sz m fun i k => if i = idx ∧ off ≤ k ∧ k < off + s then (cellsA v).getD (k - off) .nilp else elem i k)) :: h, n, [(decide (idx < m), true)]⟩
          | false => none
        | _ => none
      | _ => none
    | false => none
  | _, _ => none
def idxA (P : Program) (h : Heap) (n : Nat) (t : TypeId) (x i : AV) : Option Got :=
  match elemT P t, intOfA i with
  | some e, some j => match szT P e, x with
    | some s, .sl id off len cap => match knownA h id with
      | some (sz, m) => match Nat.beq s sz, Nat.ble 1 s with
        | true, true => some ⟨some (.ptr id (off + j.toNat) 0), h, n, [(decide (0 ≤ j ∧ j < (len : Int)), true)]⟩
        | _, _ => none
      | none => none
    | some s, .dsl sz len elem => match Nat.beq s sz, Nat.ble 1 s with
      | true, true => some ⟨some (.dptr sz (elem j.toNat)), h, n, [(decide (0 ≤ j ∧ j < (len : Int)), true)]⟩
      | _, _ => none
    | _, _ => none
  | _, _ => none
def fldA (P : Program) (s : TypeId) (a : AV) (f : Nat) : Option AV :=
  match fieldT P s f with
  | some fd => match szT P fd.type with
    | some (_ + 1) => match a with
      | .ptr id idx off => some (.ptr id idx (off + fd.offset))
      | .dptr sz cell => match Nat.ble fd.offset sz with | true => some (.dptr (sz - fd.offset) fun k => cell (fd.offset + k)) | false => none
      | _ => none
    | _ => none
  | none => none
def idxV (P : Program) (t : TypeId) (x i : AV) : Option (AV × Conds) :=
  match P.underlying t, x, i with
  | some (.array len e), .agg cs, .int _ j => match szT P e with
    | some s => match partA P e cs (j.toNat * s) with | some v => some (v, [(decide (0 ≤ j ∧ j < (len : Int)), true)]) | none => none
    | none => none
  | some .string, .str s, .int _ j => some (.int .u8 (s.data.getD j.toNat 0).toNat, [(decide (0 ≤ j ∧ j < (s.size : Int)), true)])
  | _, _, _ => none
def sliceA (P : Program) (env : Env) (h : Heap) (n : Nat) (t : TypeId) (x : AV) (lo hi : Option Operand) : Option Got :=
  match x with
  | .str s => match P.underlying t, boundA env 0 lo, boundA env s.size hi with
    | some .string, some l, some u => some ⟨some (.str (s.extract l.toNat u.toNat)), h, n, [(decide (0 ≤ l ∧ l ≤ u ∧ u ≤ (s.size : Int)), true)]⟩
    | _, _, _ => none
  | .sl id off len cap => match elemT P t, boundA env 0 lo, boundA env len hi with
    | some e, some l, some u => match szT P e, knownA h id with
      | some s, some (sz, m) => match Nat.beq s sz with
        | true => some ⟨some (.sl id (off + l.toNat) (u.toNat - l.toNat) (cap - l.toNat)), h, n, [(decide (0 ≤ l ∧ l ≤ u ∧ u ≤ (cap : Int)), true)]⟩
        | false => none
      | _, _ => none
    | _, _, _ => none
  | .dsl sz len elem => match elemT P t, boundA env 0 lo, boundA env len hi with
    | some e, some l, some u => match szT P e with
      | some s => match Nat.beq s sz with
        | true => some ⟨some (.dsl sz (u.toNat - l.toNat) fun i k => elem (l.toNat + i) k), h, n, [(decide (0 ≤ l ∧ l ≤ u ∧ u ≤ (len : Int)), true)]⟩
        | false => none
      | none => none
    | _, _, _ => none
  | .nils => match elemT P t, boundA env 0 lo, boundA env 0 hi with
    | some e, some l, some u => match szT P e with
      | some s => some ⟨some .nils, h, n, [(decide (l = 0 ∧ u = 0), true)]⟩
      | none => none
    | _, _, _ => none
  | _ => none
def lenA (P : Program) (h : Heap) (t : TypeId) (x : AV) : Option AV :=
  match P.underlying t, x with
  | some .string, .str s => some (.int .i64 s.size)
  | some (.slice _), .sl _ _ len _ => some (.int .i64 len)
  | some (.slice _), .dsl _ n _ => some (.int .i64 n)
  | some (.slice _), .nils => some (.int .i64 0)
  | some (.map _ _), .nilm => some (.int .i64 0)
  | some (.map _ _), .map id => match lookH h id with | some (.map es) => some (.int .i64 es.length) | _ => none
  | _, _ => none
def capA (P : Program) (t : TypeId) (x : AV) : Option AV := match P.underlying t, x with
  | some (.slice _), .nils => some (.int .i64 0)
  | _, _ => none
def appTo (h : Heap) (n : Nat) (e : TypeId) (size bytes m : Nat) (el : Nat → Nat → AV) (x : AV) : Option Got :=
  match x with
  | .nils => some ⟨some (.sl n 0 m m), (n, some (.row e size m el)) :: h, n + 1, [(decide (m * bytes ≤ 140737488355328), true)]⟩
  | .sl id off len cap => match lookH h id with
    | some (.row ty sz k elem) => match Nat.beq sz size && (Nat.beq ty e && Nat.beq off 0) with
      | true => some ⟨some (.sl n 0 (len + m) (len + m)), (n, some (.row e size (len + m) fun i c => if i < len then elem (off + i) c else el (i - len) c)) :: (id, none) :: h, n + 1,
          [(decide ((len + m) * bytes ≤ 140737488355328), true), (decide (off + len ≤ k), true)]⟩
      | false => none
    | _ => none
  | _ => none
def moreA (h : Heap) (size : Nat) (y : AV) : Option (Nat × (Nat → Nat → AV) × Bool) :=
  match y with
  | .nils => some (0, fun _ _ => .nilp, true)
  | y => match rowOf h y with | some (sz, m, el, b) => (match Nat.beq sz size with | true => some (m, el, b) | false => none) | none => none
def appA (P : Program) (h : Heap) (n : Nat) (t : TypeId) (x y : AV) : Option Got :=
  match elemT P t with
  | some e => match P.info? e with
    | some ie => match ie.zero, Nat.ble 1 ie.size, Nat.ble 1 ie.bytes with
      | some z, true, true => match Nat.beq z.cells.size ie.size, moreA h ie.size y with
        | true, some (m, el, b) => match appTo h n e ie.size ie.bytes m el x with
          | some g => some ⟨g.val, g.heap, g.next, (b, true) :: g.conds⟩
          | none => none
        | _, _ => none
      | _, _, _ => none
    | none => none
  | none => none
def minmaxA (mx : Bool) : List AV → Option AV
  | .int k a :: .int k' b :: r => match decide (k = k') with
    | true => match r with
      | [] => some (.int k (match mx with | true => if b > a then b else a | false => if b < a then b else a))
      | _ => none
    | false => none
  | _ => none
def makA (P : Program) (h : Heap) (n : Nat) (t : TypeId) (l c : AV) : Option Got :=
  match elemT P t, l, c with
  | some e, .int .i64 a, .int .i64 b => match P.info? e with
    | some ie => match ie.zero with
      | some z => match constA z with
        | some za => match Nat.beq (cellsA za).length ie.size, Nat.ble 1 ie.size with
          | true, true => some ⟨some (.sl n 0 a.toNat a.toNat), (n, some (.row e ie.size a.toNat fun _ k => (cellsA za).getD k .nilp)) :: h, n + 1,
              [(a == b, true), (decide (0 ≤ a ∧ a * ie.bytes ≤ 140737488355328 ∧ a ≤ 140737488355328), true)]⟩
          | _, _ => none
        | none => none
      | none => none
    | none => none
  | _, _, _ => none
def appZ (P : Program) (h : Heap) (n : Nat) (t : TypeId) (a : Int) : Option Got :=
  match elemT P t with
  | some e => match P.info? e with
    | some ie => match ie.zero with
      | some z => match constA z with
        | some za => match Nat.beq (cellsA za).length ie.size, Nat.ble 1 ie.size, Nat.ble 1 ie.bytes with
          | true, true, true => some ⟨some (.sl n 0 a.toNat a.toNat), (n, some (.row e ie.size a.toNat fun _ k => (cellsA za).getD k .nilp)) :: h, n + 1,
              [(decide (0 ≤ a ∧ a * ie.bytes ≤ 140737488355328 ∧ a ≤ 140737488355328), true)]⟩
          | _, _, _ => none
        | none => none
      | none => none
    | none => none
  | none => none
def stepA (P : Program) (env : Env) (h : Heap) (n : Nat) (o : Op) : Option Got :=
  match o with
  | .move x | .assign x => Got.pure h n (evA env x)
  | .pick c a b => match evA env c with
    | some (.bool true) => Got.pure h n (evA env a)
    | some (.bool false) => Got.pure h n (evA env b)
    | _ => none
  | .alloc t => match zeroT P t with | some z => boxA h n t z | none => none
  | .box t x => match evA env x with | some v => boxA h n t v | none => none
  | .build t parts => match evParts env parts.toList with | some ps => Got.pure h n (buildA P t ps) | none => none
  | .buildSlice t len parts => match evParts env parts.toList, elemT P t with
    | some ps, some e => match szT P e with
      | some s => match buildSliceA P e s len ps with
        | some cells => some ⟨some (.sl n 0 len len), (n, some (.row e s len fun i k => cells.getD (i * s + k) .nilp)) :: h, n + 1, []⟩
        | none => none
      | none => none
    | _, _ => none
  | .load t a => match evA env a with | some v => lodA P h n t v | none => none
  | .store t a x => match evA env a, evA env x with | some v, some u => stoA P h n t v u | _, _ => none
  | .nilCheck x => match evA env x with
    | some (.ptr id idx off) => Got.pure h n (some (.ptr id idx off))
    | some (.dptr sz c) => Got.pure h n (some (.dptr sz c))
    | _ => none
  | .binOp op t x y _ => match evA env x, evA env y with | some a, some b => Got.pureC h n (binA P op t a b) | _, _ => none
  | .unOp op _ x => match evA env x with | some a => Got.pure h n (unA op a) | none => none
  | .convert s t x => match evA env x, P.underlying s, P.underlying t with
    | some (.int _ a), some (.int _), some (.int k) => Got.pure h n (some (.int k (k.wrap a)))
    | some (.str a), some .string, some .string => Got.pure h n (some (.str a))
    | _, _, _ => none
  | .makeInterface t x => match evA env x, P.concrete t with | some a, true => Got.pure h n (some (.iface t a)) | _, _ => none
  | .makeFunc f first cap => match evAs env first.toList, evAs env cap.toList with | some a, some b => Got.pure h n (some (.fn f a b)) | _, _ => none
  | .makeSlice t l c => match evA env l, evA env c with | some a, some b => makA P h n t a b | _, _ => none
  | .slice t x lo hi none => match evA env x with | some v => sliceA P env h n t v lo hi | none => none
  | .fieldAddr s x f => match evA env x with | some v => Got.pure h n (fldA P s v f) | none => none
  | .field s x f => match evA env x, fieldT P s f with | some (.agg cs), some fd => Got.pure h n (partA P fd.type cs fd.offset) | _, _ => none
  | .indexAddr t x i => match evA env x, evA env i with | some v, some j => idxA P h n t v j | _, _ => none
  | .index t x i => match evA env x, evA env i with | some v, some j => Got.pureC h n (idxV P t v j) | _, _ => none
  | .extract x i => match evA env x with | some (.tup l) => Got.pure h n l[i]? | _ => none
  | .call { callee := .builtin .len, args := args, argTypes := ts } => match args.toList, ts.toList with
    | [x], [t] => match evA env x with | some v => Got.pure h n (lenA P h t v) | none => none
    | _, _ => none
  | .call { callee := .builtin .cap, args := args, argTypes := ts } => match args.toList, ts.toList with
    | [x], [t] => match evA env x with | some v => Got.pure h n (capA P t v) | none => none
    | _, _ => none
  | .call { callee := .builtin .append, args := args, argTypes := ts } => match args.toList, ts.toList with
    | [x, y], [t, u] => match evA env x, evA env y, P.underlying u with
      | some v, some z, some (.slice _) => appA P h n t v z
      | some .nils, some (.int .i64 a), some (.int _) => appZ P h n t a
      | _, _, _ => none
    | _, _ => none
  | .call { callee := .builtin .max, args := args, argTypes := _ } => match evAs env args.toList with | some l => Got.pure h n (minmaxA true l) | none => none
  | .call { callee := .builtin .min, args := args, argTypes := _ } => match evAs env args.toList with | some l => Got.pure h n (minmaxA false l) | none => none
  | _ => none
inductive AEnd where
  | ret (v : AV)
  | pan (v : AV)
inductive Dec where
  | go (k : Nat) (d : Bool)
  | halt (k : Nat)
def decideA : List Dec → Bool → Option (Bool × List Dec × Conds)
  | [], b => some (b, [], [])
  | .go k d :: r, b => match k with
    | 0 => some (d, r, [(d, b)])
    | k + 1 => some (b, .go k d :: r, [])
  | .halt k :: r, b => match k with
    | 0 => none
    | k + 1 => some (b, .halt k :: r, [])
structure Came (α : Type) where
  out : α
  heap : Heap
  next : Nat
  ds : List Dec
  conds : Conds
inductive AExit where
  | normal
  | exit (id : Nat)
  | goto (l : Nat)
  | ret
  | panic (v : AV)
structure AOut where
  exit : AExit
  env : Env
abbrev CallF := FuncId → List AV → Heap → Nat → List Dec → Option (Came AEnd)
abbrev Delta := FuncId → List AV → Heap → Nat → Option (AEnd × Heap × Nat × Conds)
def lostA (env : Env) : Option Tmp → Env
  | some t => (t, some (.tup [])) :: env
  | none => env
def isGuardL (j : Nat) : List Oper → Bool
  | [] => false
  | o :: l => match o.guard with | some (k, _) => (match Nat.beq k j with | true => true | false => isGuardL j l) | none => isGuardL j l
def isGuard (ops : Array Oper) (j : Nat) : Bool := isGuardL j ops.toList
def putA (env : Env) : Option Tmp → Option AV → Option Env
  | some t, some v => some ((t, some v) :: env)
  | none, _ => some env
  | some _, none => none
def calleeA (env : Env) : Callee → Option (FuncId × List AV × List AV)
  | .value f => match evA env f with
    | some (.fn (.func k) first cap) => some (k, first, cap)
    | _ => none
  | _ => none
def wantedA (ops : Array Oper) (env : Env) (o : Oper) : Option Bool := match o.guard with
  | none => some true
  | some (g, want) => match ((ops[g]?).bind (·.dst)) with
    | some t => match lookE env t with
      | some (.bool true) => some want
      | some (.bool false) => some (!want)
      | some (.tup _) => some false
      | _ => none
    | none => none
def runOps (P : Program) (N : Nat) (cf : CallF) (ops : Array Oper) : List Oper → Nat → Env → Heap → Nat → List Dec → Option (Came AOut)
  | [], _, env, h, n, ds => some ⟨⟨.normal, env⟩, h, n, ds, []⟩
  | o :: rest, j, env, h, n, ds =>
    let dstOk : Bool := match o.dst with | some t => Nat.blt t N | none => true
    match dstOk, wantedA ops env o with
    | true, some false => runOps P N cf ops rest (j + 1) (lostA env o.dst) h n ds
    | true, some true =>
      let fin (env : Env) (h : Heap) (n : Nat) (ds : List Dec) (c : Conds) : Option (Came AOut) :=
        match runOps P N cf ops rest (j + 1) env h n ds with
        | some r => some ⟨r.out, r.heap, r.next, r.ds, c ++ r.conds⟩
        | none => none
      let put (v : Option AV) (h : Heap) (n : Nat) (ds : List Dec) (c : Conds) : Option (Came AOut) :=
        match isGuard ops j with
        | false => match putA env o.dst v with | some e => fin e h n ds c | none => none
        | true => match v with
          | some (.bool b) => match decideA ds b with
            | some (true, ds, c2) => match putA env o.dst (some (.bool true)) with | some e => fin e h n ds (c2 ++ c) | none => none
            | some (false, ds, c2) => match putA env o.dst (some (.bool false)) with | some e => fin e h n ds (c2 ++ c) | none => none
            | none => none
          | _ => none
      match o.op with
      | .call { callee := .value f, args := args, argTypes := _ } =>
        match calleeA env (.value f), evAs env args.toList with
        | some (k, first, cap), some l => match cf k (first ++ l ++ cap) h n ds with
          | some r => match r.out with
            | .ret v => match put (some v) r.heap r.next r.ds [] with
              | some s => some ⟨s.out, s.heap, s.next, s.ds, r.conds ++ s.conds⟩
              | none => none
            | .pan v => some ⟨⟨.panic v, env⟩, r.heap, r.next, r.ds, r.conds⟩
          | none => none
        | _, _ => none
      | .panic x => match evA env x with
        | some (.iface t v) => some ⟨⟨.panic (.iface t v), env⟩, h, n, ds, []⟩
        | _ => none
      | op => match stepA P env h n op with
        | some g => put g.val g.heap g.next ds g.conds
        | none => none
    | _, _ => none
def dIds (env : Env) : Op → Option (Option Nat × Bool)
  | .move _ | .assign _ | .pick _ _ _ | .build _ _ | .binOp _ _ _ _ _ | .unOp _ _ _ | .convert _ _ _ | .makeInterface _ _ | .makeFunc _ _ _ | .field _ _ _ | .fieldAddr _ _ _ | .nilCheck _ | .index _ _ _ | .extract _ _ => some (none, false)
  | .load _ a => match evA env a with | some (.ptr id _ _) => some (some id, false) | some (.dptr _ _) => some (none, false) | _ => none
  | .store _ a _ => match evA env a with | some (.ptr id _ _) => some (some id, true) | _ => none
  | .indexAddr _ x _ => match evA env x with | some (.sl id _ _ _) => some (some id, false) | some (.dsl _ _ _) => some (none, false) | _ => none
  | .slice _ x _ _ none => match evA env x with | some (.sl id _ _ _) => some (some id, false) | some (.dsl _ _ _) => some (none, false) | some (.str _) => some (none, false) | _ => none
  | .call { callee := .value _, args := _, argTypes := _ } => some (none, false)
  | .call { callee := .builtin .len, args := args, argTypes := _ } => match args.toList with
    | [x] => match evA env x with
      | some (.map id) => some (some id, false)
      | some _ => some (none, false)
      | none => none
    | _ => none
  | .call { callee := .builtin .max, args := _, argTypes := _ } => some (none, false)
  | .call { callee := .builtin .min, args := _, argTypes := _ } => some (none, false)
  | _ => none
def flatCell : AV → Bool
  | .bool _ | .int _ _ | .str _ | .nilp | .nils | .nilm | .nilfn | .nili | .dsl _ _ _ | .dptr _ _ => true
  | _ => false
def flatA : AV → Bool
  | .agg l => l.all flatCell
  | .iface _ v => flatCell v
  | v => flatCell v
def flatV : AV → Bool
  | .tup l => l.all flatA
  | v => flatA v
def bareCell : AV → Bool
  | .bool _ | .int _ _ | .str _ | .nilp | .nils | .nilm | .nilfn | .nili => true
  | _ => false
def bareA : AV → Bool
  | .agg l => l.all bareCell
  | .iface _ v => bareCell v
  | v => bareCell v
def bareV : AV → Bool
  | .tup l => l.all bareA
  | v => bareA v
def stepD (P : Program) (cf : CallF) (cds : List Dec) (env : Env) (h : Heap) (n : Nat) (o : Op) : Option (Option AV × Heap × Conds) :=
  match o with
  | .call { callee := .value f, args := args, argTypes := _ } =>
    match calleeA env (.value f), evAs env args.toList with
    | some (k, first, cap), some l => match (first ++ l ++ cap).all flatV, cf k (first ++ l ++ cap) [] 0 cds with
      | true, some r => match r.out with
        | .ret v => match bareV v with | true => some (some v, h, r.conds) | false => none
        | .pan _ => none
      | _, _ => none
    | _, _ => none
  | op => match stepA P env h n op with
    | some g => match Nat.beq g.next n with | true => some (g.val, g.heap, g.conds) | false => none
    | none => none
structure DSt where
  env : Env
  heap : Heap
structure DTab where
  id : Option Nat
  wr : Bool
  lit : Option Bool
  cds : List Dec
def eqON : Option Nat → Option Nat → Bool
  | some a, some b => Nat.beq a b
  | none, none => true
  | _, _ => false
def litA (v : Option AV) : Option Bool → Option (Option AV × Conds)
  | none => some (v, [])
  | some d => match v with | some (.bool b) => some (some (.bool d), [(d, b)]) | _ => none
def dStep (P : Program) (cf : CallF) (N n : Nat) (ops : Array Oper) (tab : Nat → DTab) (i : Nat) (s : DSt) : Option (DSt × Conds) :=
  match ops[i]? with
  | none => none
  | some o =>
    match (match o.dst with | some t => Nat.blt t N | none => true), wantedA ops s.env o with
    | true, some false => some (⟨lostA s.env o.dst, s.heap⟩, [])
    | true, some true => match dIds s.env o.op with
      | some (id, wr) => match eqON id (tab i).id && wr == (tab i).wr with
        | true => match stepD P cf (tab i).cds s.env s.heap n o.op with
          | some (v, h, c) => match litA v (tab i).lit with
            | some (v, c2) => match putA s.env o.dst v with
              | some env => some (⟨env, h⟩, c2 ++ c)
              | none => none
            | none => none
          | none => none
        | false => none
      | none => none
    | _, _ => none
def dRun (P : Program) (cf : CallF) (N n : Nat) (ops : Array Oper) (tab : Nat → DTab) : List Nat → DSt → Option (DSt × Conds)
  | [], s => some (s, [])
  | i :: l, s => match dStep P cf N n ops tab i s with
    | some (s1, c1) => match dRun P cf N n ops tab l s1 with
      | some (s2, c2) => some (s2, c1 ++ c2)
      | none => none
    | none => none
def dTab (P : Program) (cf : CallF) (N n : Nat) (ops : Array Oper) : List Oper → Nat → DSt → List Dec → Option (List DTab × List Dec)
  | [], _, _, ds => some ([], ds)
  | o :: l, i, s, ds =>
    let go (t : DTab) (ds' : List Dec) : Option (List DTab × List Dec) :=
      match dStep P cf N n ops (fun _ => t) i s with
      | some (s1, _) => match dTab P cf N n ops l (i + 1) s1 ds' with
        | some (ts, ds) => some (t :: ts, ds)
        | none => none
      | none => none
    match wantedA ops s.env o with
    | some false => go ⟨none, false, none, []⟩ ds
    | some true =>
      match dIds s.env o.op, stepD P cf ds s.env s.heap n o.op with
      | some (id, wr), some (v, _, _) =>
        let ds1 : List Dec := match o.op with
          | .call { callee := .value f, args := args, argTypes := _ } => match calleeA s.env (.value f), evAs s.env args.toList with
            | some (k, first, cap), some l => match cf k (first ++ l ++ cap) [] 0 ds with
              | some r => r.ds
              | none => ds
            | _, _ => ds
          | _ => ds
        match isGuard ops i, v with
        | true, some (.bool b) => match ds1, decideA ds1 b with
          | .go 0 d :: _, some (_, ds2, _) => go ⟨id, wr, some d, ds⟩ ds2
          | _, some (true, ds2, _) => go ⟨id, wr, none, ds⟩ ds2
          | _, some (false, ds2, _) => go ⟨id, wr, none, ds⟩ ds2
          | _, none => none
        | _, _ => go ⟨id, wr, none, ds⟩ ds1
      | _, _ => none
    | none => none
def befs : List Oper → List Nat → List Nat
  | [], acc => acc
  | o :: l, acc => befs l (acc ++ [o.after.toList.foldl (fun s e => match Region.binds .any e with | true => s ||| 2 ^ e.on ||| acc.getD e.on 0 | false => s) 0])
def apartT (a b : DTab) : Bool := match a.id, b.id with
  | some x, some y => !(Nat.beq x y) || (!a.wr && !b.wr)
  | _, _ => true
def pairOk (ops : Array Oper) (B : List Nat) (tab : Nat → DTab) (j i : Nat) : Bool :=
  (B.getD i 0).testBit j || (match ops[j]?, ops[i]? with | some x, some y => x.apart ops y && apartT (tab j) (tab i) | _, _ => false)
def pairsOk (ops : Array Oper) (B : List Nat) (tab : Nat → DTab) (n : Nat) : Bool :=
  (List.range n).all fun i => (List.range i).all fun j => pairOk ops B tab j i
def edgesOk : List Oper → Nat → Bool
  | [], _ => true
  | o :: l, i => o.after.toList.all (fun e => match Region.binds .any e with | true => Nat.blt e.on i | false => true) && edgesOk l (i + 1)
def hasEdge (o : Oper) (j : Nat) : Bool := o.after.toList.any fun e => match Region.binds .any e with | true => Nat.beq e.on j | false => false
def chainOk : List Oper → Nat → Bool
  | [], _ => true
  | o :: l, j => hasEdge o j && chainOk l (j + 1)
def fullOk (B : List Nat) (c : Nat) : Bool := (B.drop c).all fun b => Nat.beq (Nat.land b (2 ^ c - 1)) (2 ^ c - 1)
def splitGo (ops : List Oper) (B : List Nat) : Nat → Nat → Nat
  | 0, best => best
  | c + 1, best => match (match ops.drop (c + 1) with | [] => true | o :: _ => hasEdge o c) with
    | true => splitGo ops B c (match fullOk B c with | true => c | false => best)
    | false => best
def runDrawA (P : Program) (cf : CallF) (N : Nat) (ops : Array Oper) (env : Env) (h : Heap) (n : Nat) (ds : List Dec) : Option (Came AOut) :=
  let B := befs ops.toList []
  let c := splitGo ops.toList B ops.size ops.size
  match dTab P cf N n ops (ops.toList.take c) 0 ⟨env, h⟩ ds with
  | some (ts, ds) =>
    let tab := fun i => ts.getD i ⟨none, false, none, []⟩
    match Nat.ble c ops.size && (pairsOk ops B tab c && edgesOk ops.toList 0 && (fullOk B c && chainOk (ops.toList.drop (c + 1)) c)), dRun P cf N n ops tab (List.range c) ⟨env, h⟩ with
    | true, some (s, c1) => match runOps P N cf ops (ops.toList.drop c) c s.env s.heap n ds with
      | some r => some ⟨r.out, r.heap, r.next, r.ds, c1 ++ r.conds⟩
      | none => none
    | _, _ => none
  | none => none
noncomputable def eqO {α : Type} (a b : α) : Bool := @decide (a = b) (Classical.propDecidable _)
theorem eqO_iff {α : Type} {a b : α} : eqO a b = true ↔ a = b := @decide_eq_true_iff _ (Classical.propDecidable _)
theorem eqO_self {α : Type} (a : α) : eqO a a = true := eqO_iff.2 rfl
def smallOp : Op → Bool
  | .move _ | .assign _ | .pick _ _ _ | .build _ _ | .binOp _ _ _ _ _ | .unOp _ _ _ | .convert _ _ _ | .makeInterface _ _ | .makeFunc _ _ _ | .field _ _ _ | .fieldAddr _ _ _ | .nilCheck _ | .index _ _ _ | .extract _ _ => true
  | .load _ _ | .indexAddr _ _ _ | .slice _ _ _ _ none => true
  | .call { callee := .builtin .len, args := _, argTypes := _ } => true
  | .call { callee := .builtin .max, args := _, argTypes := _ } => true
  | .call { callee := .builtin .min, args := _, argTypes := _ } => true
  | _ => false
def bigAt (ops : Array Oper) (i : Nat) : Bool := match ops[i]? with | some o => !(smallOp o.op) | none => false
def bStep (P : Program) (cf : CallF) (env : Env) (h : Heap) (n : Nat) (ds : List Dec) (o : Op) : Option (Came (Option AV)) :=
  match o with
  | .call { callee := .value f, args := args, argTypes := _ } =>
    match calleeA env (.value f), evAs env args.toList with
    | some (k, first, cap), some l => match cf k (first ++ l ++ cap) h n ds with
      | some r => match r.out with
        | .ret v => some ⟨some v, r.heap, r.next, r.ds, r.conds⟩
        | .pan _ => none
      | none => none
    | _, _ => none
  | op => match stepA P env h n op with
    | some g => some ⟨g.val, g.heap, g.next, ds, g.conds⟩
    | none => none
def bLit (g : Bool) (ds : List Dec) (v : Option AV) : Option (Option AV × List Dec × Conds) := match g with
  | false => some (v, ds, [])
  | true => match v with
    | some (.bool b) => match decideA ds b with
      | some (true, ds2, c2) => some (some (.bool true), ds2, c2)
      | some (false, ds2, c2) => some (some (.bool false), ds2, c2)
      | none => none
    | _ => none
def bOne (P : Program) (N : Nat) (cf : CallF) (ops : Array Oper) (i : Nat) (o : Oper) (env : Env) (h : Heap) (n : Nat) (ds : List Dec) : Option (Came Env) :=
  match (match o.dst with | some t => Nat.blt t N | none => true), wantedA ops env o with
  | true, some false => some ⟨lostA env o.dst, h, n, ds, []⟩
  | true, some true => match bStep P cf env h n ds o.op with
    | some r => match bLit (isGuard ops i) r.ds r.out with
      | some (v, ds2, c2) => match putA env o.dst v with
        | some e => some ⟨e, r.heap, r.next, ds2, c2 ++ r.conds⟩
        | none => none
      | none => none
    | none => none
  | _, _ => none
structure BSt where
  env : Env
  heap : Heap
  next : Nat
  ds : List Dec
def bRun (P : Program) (N : Nat) (cf : CallF) (ops : Array Oper) : List Oper → Nat → BSt → Option (List BSt × Conds)
  | [], _, s => some ([s], [])
  | o :: l, i, s => match bOne P N cf ops i o s.env s.heap s.next s.ds with
    | some r => match bRun P N cf ops l (i + 1) ⟨r.out, r.heap, r.next, r.ds⟩ with
      | some (ss, c) => some (s :: ss, r.conds ++ c)
      | none => none
    | none => none
def pairB (ops : Array Oper) (B : List Nat) (j i : Nat) : Bool :=
  match (B.getD i 0).testBit j with
  | true => true
  | false => match ops[j]?, ops[i]? with | some x, some y => (smallOp x.op || smallOp y.op) && x.apart ops y | _, _ => false
def pairsB (ops : Array Oper) (B : List Nat) (n : Nat) : Bool := (List.range n).all fun i => (List.range i).all fun j => pairB ops B j i
def lastB (ops : Array Oper) : Nat → Nat
  | 0 => 0
  | k + 1 => match bigAt ops k with | true => k + 1 | false => lastB ops k
def mayAt (ops : Array Oper) (B : List Nat) (i J : Nat) : Bool :=
  (match J with | 0 => true | j + 1 => bigAt ops j && !((B.getD j 0).testBit i)) &&
  (List.range ops.size).all (fun j => match (B.getD i 0).testBit j && bigAt ops j with | true => Nat.blt j J | false => true)
def shapeOp : Op → Bool
  | .indexAddr _ _ _ | .slice _ _ _ _ none => true
  | _ => false
noncomputable def winOne (P : Program) (st : Nat → BSt) (i : Nat) (op : Op) (id J : Nat) : Option Conds :=
  match shapeOp op with
  | true => match stepA P (st i).env (st J).heap (st J).next op with
    | some _ => some []
    | none => none
  | false => some [(eqO (lookH (st i).heap id) (lookH (st J).heap id), true)]
noncomputable def winJ (P : Program) (st : Nat → BSt) (i : Nat) (op : Op) (id : Nat) : List Nat → Option Conds
  | [] => some []
  | J :: l => match winOne P st i op id J, winJ P st i op id l with | some a, some b => some (a ++ b) | _, _ => none
noncomputable def winAt (P : Program) (ops : Array Oper) (st : Nat → BSt) (B : List Nat) (i : Nat) (o : Oper) : Option Conds :=
  match smallOp o.op with
  | false => some []
  | true => match wantedA ops (st i).env o with
    | some true => match dIds (st i).env o.op with
      | some (none, _) => some []
      | some (some id, _) => winJ P st i o.op id ((List.range (ops.size + 1)).filter fun J => mayAt ops B i J && !(Nat.beq J (lastB ops i)))
      | none => none
    | _ => some []
noncomputable def winAll (P : Program) (ops : Array Oper) (st : Nat → BSt) (B : List Nat) : List Oper → Nat → Option Conds
  | [], _ => some []
  | o :: l, i => match winAt P ops st B i o, winAll P ops st B l (i + 1) with
    | some a, some b => some (a ++ b)
    | _, _ => none
noncomputable def runDrawB (P : Program) (cf : CallF) (N : Nat) (ops : Array Oper) (env : Env) (h : Heap) (n : Nat) (ds : List Dec) : Option (Came AOut) :=
  match bRun P N cf ops ops.toList 0 ⟨env, h, n, ds⟩ with
  | some (ss, c) => match pairsB ops (befs ops.toList []) ops.size && edgesOk ops.toList 0, winAll P ops (fun i => ss.getD i ⟨env, h, n, ds⟩) (befs ops.toList []) ops.toList 0 with
    | true, some c2 => match ss.getD ops.size ⟨env, h, n, ds⟩ with
      | s => some ⟨⟨.normal, s.env⟩, s.heap, s.next, s.ds, c ++ c2⟩
    | _, _ => none
  | none => none
noncomputable def runDraw (P : Program) (cf : CallF) (N : Nat) (ops : Array Oper) (env : Env) (h : Heap) (n : Nat) (ds : List Dec) : Option (Came AOut) :=
  match runDrawA P cf N ops env h n ds with
  | some r => some r
  | none => runDrawB P cf N ops env h n ds
noncomputable def runC (P : Program) (N : Nat) (cf : CallF) (fuel : Nat) : Code → Env → Heap → Nat → List Dec → Option (Came AOut)
  | .skip, env, h, n, ds => some ⟨⟨.normal, env⟩, h, n, ds, []⟩
  | .label _, env, h, n, ds => some ⟨⟨.normal, env⟩, h, n, ds, []⟩
  | .region _ ops false, env, h, n, ds => runOps P N cf ops ops.toList 0 env h n ds
  | .region _ ops true, env, h, n, ds => runDraw P cf N ops env h n ds
  | .seq a b, env, h, n, ds =>
    match runC P N cf fuel a env h n ds with
    | some r => match r.out.exit with
      | .normal => match runC P N cf fuel b r.out.env r.heap r.next r.ds with
        | some s => some ⟨s.out, s.heap, s.next, s.ds, r.conds ++ s.conds⟩
        | none => none
      | _ => some r
    | none => none
  | .cond c x y, env, h, n, ds =>
    match evA env c with
    | some (.bool b) => match decideA ds b with
      | some (true, ds, c1) => match runC P N cf fuel x env h n ds with | some r => some ⟨r.out, r.heap, r.next, r.ds, c1 ++ r.conds⟩ | none => none
      | some (false, ds, c1) => match runC P N cf fuel y env h n ds with | some r => some ⟨r.out, r.heap, r.next, r.ds, c1 ++ r.conds⟩ | none => none
      | none => none
    | _ => none
  | .block id c, env, h, n, ds =>
    match runC P N cf fuel c env h n ds with
    | some r => match r.out.exit with
      | .exit id' => match Nat.beq id' id with
        | true => some ⟨⟨.normal, r.out.env⟩, r.heap, r.next, r.ds, r.conds⟩
        | false => some r
      | _ => some r
    | none => none
  | .loop c, env, h, n, ds => runLoop fuel (runC P N cf fuel c) env h n ds
  | .exit id, env, h, n, ds => some ⟨⟨.exit id, env⟩, h, n, ds, []⟩
  | .ret, env, h, n, ds => some ⟨⟨.ret, env⟩, h, n, ds, []⟩
  | _, _, _, _, _ => none
where
  runLoop : Nat → (Env → Heap → Nat → List Dec → Option (Came AOut)) → Env → Heap → Nat → List Dec → Option (Came AOut)
    | 0, _, _, _, _, _ => none
    | k + 1, f, env, h, n, ds =>
      match f env h n ds with
      | some r => match r.out.exit with
        | .normal => match runLoop k f r.out.env r.heap r.next r.ds with
          | some s => some ⟨s.out, s.heap, s.next, s.ds, r.conds ++ s.conds⟩
          | none => none
        | _ => some r
      | none => none
def params (l : List AV) : Nat → Env
  | i => match l with
    | [] => []
    | v :: r => (i, some v) :: params r (i + 1)
def resA (P : Program) (env : Env) (h : Heap) (n : Nat) : List ResultVar → Option (List AV)
  | [] => some []
  | .tmp t :: r => match lookE env t, resA P env h n r with
    | some v, some l => some (v :: l)
    | _, _ => none
  | .cell a t :: r => match lookE env a with
    | some (.ptr id idx off) => match lodA P h n t (.ptr id idx off), resA P env h n r with
      | some ⟨some v, _, _, []⟩, some l => some (v :: l)
      | _, _ => none
    | _ => none
def oneOf : List AV → AV
  | [v] => v
  | l => .tup l
noncomputable def runF (P : Program) (Δ : Delta) (fuel : Nat) : Nat → CallF
  | 0, _, _, _, _, _ => none
  | d + 1, f, args, h, n, ds =>
    match Δ f args h n with
    | some (e, h', n', c) => some ⟨e, h', n', ds, c⟩
    | none =>
      match P.funcs[f]? with
      | some fn => match fn.body with
        | some c => match Nat.ble args.length fn.ntmps, runC P fn.ntmps (runF P Δ fuel d) fuel c (params args 0) h n ds with
          | true, some r => match r.out.exit with
            | .normal => match resA P r.out.env r.heap r.next fn.results.toList with | some l => some ⟨.ret (oneOf l), r.heap, r.next, r.ds, r.conds⟩ | none => none
            | .ret => match resA P r.out.env r.heap r.next fn.results.toList with | some l => some ⟨.ret (oneOf l), r.heap, r.next, r.ds, r.conds⟩ | none => none
            | .panic v => some ⟨.pan v, r.heap, r.next, r.ds, r.conds⟩
            | _ => none
          | _, _ => none
        | none => none
      | none => none
end Go.Eng

set_option linter.unusedVariables false
set_option linter.unusedSimpArgs false
set_option linter.unusedSectionVars false
namespace Go.Eng
variable [Dr]
open Go.RowKit
variable {P : Program} {w0 w : World} {F : Nat → Prop} {ρ : Nat → Option Loc} {RO : Nat → Prop} {h : Heap} {n : Nat}
theorem constCell_rel {v : Value} {a : AV} (e : constCell v = some a) : VRel ρ RO w a v := by
  unfold constCell at e
  split at e <;> first | (cases e; constructor) | cases e
theorem constCells_rel : ∀ {l : List Value} {as : List AV}, constCells l = some as → VRels ρ RO w as l
  | [], as, e => by simp [constCells] at e; subst e; exact .nil
  | v :: r, as, e => by
    simp only [constCells] at e
    split at e
    · rename_i a l h1 h2
      cases e
      exact .cons (constCell_rel h1) (constCells_rel h2)
    · cases e
theorem constCells_one : ∀ {l : List Value} {as : List AV}, constCells l = some as → ∀ x ∈ l, x.oneCell' = true
  | [], as, e, x, hx => by simp at hx
  | v :: r, as, e, x, hx => by
    simp only [constCells] at e
    split at e
    · rename_i a l h1 h2
      rcases List.mem_cons.1 hx with rfl | hx
      · unfold constCell at h1
        split at h1 <;> first | rfl | cases h1
      · exact constCells_one h2 x hx
    · cases e
theorem constA_rel {v : Value} {a : AV} (e : constA v = some a) : VRel ρ RO w a v := by
  unfold constA at e
  split at e
  · rename_i cs
    split at e
    · rename_i l hl
      cases e
      have := constCells_rel (ρ := ρ) (RO := RO) (w := w) hl
      exact .agg this.1 (constCells_one hl) this.2
    · cases e
  · exact constCell_rel e
def ERel (ρ : Nat → Option Loc) (RO : Nat → Prop) (w : World) (env : Env) (a : Act) : Prop := ∀ t v, lookE env t = some v → VRel ρ RO w v (a.tmps.getD t undef)
theorem ERel.mono {ρ' : Nat → Option Loc} {RO' : Nat → Prop} {w' : World} {env : Env} {a : Act} (e : Ext ρ RO w ρ' RO' w') (h : ERel ρ RO w env a) : ERel ρ' RO' w' env a := fun t v hl => (h t v hl).mono e
theorem evA_rel {env : Env} {a : Act} (he : ERel ρ RO w env a) {x : Operand} {v : AV} (e : evA env x = some v) : VRel ρ RO w v (a.eval x) := by
  cases x with
  | tmp t => exact he t v e
  | const c => exact constA_rel e
  | func f =>
    simp only [evA] at e; cases e
    exact .fn (v1 := []) (v2 := []) rfl rfl (fun i a v h => by simp at h) (fun i a v h => by simp at h)
  | global g => cases e
theorem evAs_rel {env : Env} {a : Act} (he : ERel ρ RO w env a) : ∀ {xs : List Operand} {l : List AV}, evAs env xs = some l → VRels ρ RO w l (xs.map a.eval)
  | [], l, e => by simp [evAs] at e; subst e; exact .nil
  | x :: r, l, e => by
    simp only [evAs] at e
    split at e
    · rename_i b l' h1 h2
      cases e
      exact .cons (evA_rel he h1) (evAs_rel he h2)
    · cases e
def PRel (ρ : Nat → Option Loc) (RO : Nat → Prop) (w : World) : List (Nat × AV) → List (Nat × Value) → Prop
  | [], [] => True
  | (i, a) :: l, (j, v) :: r => i = j ∧ VRel ρ RO w a v ∧ PRel ρ RO w l r
  | _, _ => False
theorem evParts_rel {env : Env} {a : Act} (he : ERel ρ RO w env a) : ∀ {xs : List (Nat × Operand)} {l : List (Nat × AV)}, evParts env xs = some l → PRel ρ RO w l (xs.map fun (i, x) => (i, a.eval x))
  | [], l, e => by simp [evParts] at e; subst e; trivial
  | (i, x) :: r, l, e => by
    simp only [evParts] at e
    split at e
    · rename_i b l' h1 h2
      cases e
      exact ⟨rfl, evA_rel he h1, evParts_rel he h2⟩
    · cases e
theorem cells_rel {a : AV} {v : Value} (h : VRel ρ RO w a v) : VRels ρ RO w (cellsA a) v.cells.toList := by
  have one : ∀ {a : AV} {v : Value}, VRel ρ RO w a v → VRels ρ RO w [a] [v] := fun h => .cons h .nil
  have h' := h
  cases h <;> first
    | exact one h'
    | (simp only [cellsA, Value.cells]; exact ⟨by assumption, by assumption⟩)
theorem cells_one {a : AV} {v : Value} (h : VRel ρ RO w a v) (hp : plainA a = true) : ∀ x ∈ v.cells.toList, x.oneCell' = true := by
  have one : ∀ {v : Value}, v.oneCell' = true → ∀ x ∈ [v], x.oneCell' = true := fun h x hx => by simp at hx; subst hx; exact h
  cases h <;> first
    | exact one rfl
    | (rename_i h1 _; exact fun x hx => h1 x (by simpa [Value.cells] using hx))
    | (exact absurd hp (by simp [plainA]))
def GotOk (P : Program) (w0 : World) (F : Nat → Prop) (ρ : Nat → Option Loc) (RO : Nat → Prop) (w : World) (s : Sem Next) (g : Got) : Prop :=
  ∃ ρ' w', Ext ρ RO w ρ' RO w' ∧ HRel w0 F g.heap g.next ρ' RO w' ∧
    match g.val with
    | some av => ∃ v, s.run P w = .ok (.value v) w' ∧ VRel ρ' RO w' av v
    | none => s.run P w = .ok .skip w'
theorem GotOk.val {s : Sem Next} {av : AV} {v : Value} {c : Conds} (H : HRel w0 F h n ρ RO w) (hs : s.run P w = .ok (.value v) w) (hv : VRel ρ RO w av v) : GotOk P w0 F ρ RO w s ⟨some av, h, n, c⟩ :=
  ⟨ρ, w, .refl _ _ _, H, v, hs, hv⟩
theorem GotOk.pure {s : Sem Next} {r : Option AV} {g : Got} (H : HRel w0 F h n ρ RO w) (e : Got.pure h n r = some g) (hs : ∀ av, r = some av → ∃ v, s.run P w = .ok (.value v) w ∧ VRel ρ RO w av v) : GotOk P w0 F ρ RO w s g := by
  unfold Got.pure at e
  split at e
  · rename_i v
    cases e
    obtain ⟨v', h1, h2⟩ := hs _ rfl
    exact .val H h1 h2
  · cases e
theorem GotOk.pureC {s : Sem Next} {r : Option (AV × Conds)} {g : Got} (H : HRel w0 F h n ρ RO w) (e : Got.pureC h n r = some g) (hc : ∀ c ∈ g.conds, c.1 = c.2)
    (hs : ∀ av c, r = some (av, c) → (∀ x ∈ c, x.1 = x.2) → ∃ v, s.run P w = .ok (.value v) w ∧ VRel ρ RO w av v) : GotOk P w0 F ρ RO w s g := by
  unfold Got.pureC at e
  split at e
  · rename_i v c
    cases e
    obtain ⟨v', h1, h2⟩ := hs _ _ rfl hc
    exact .val H h1 h2
  · cases e
theorem szT_run {t : TypeId} {s : Nat} (e : szT P t = some s) (w : World) : (sizeOf t).run P w = .ok s w := by
  unfold szT at e
  split at e
  · rename_i i hi
    cases e
    simp [sizeOf, typeInfo, hi]
  · cases e
theorem szT_info {t : TypeId} {s : Nat} (e : szT P t = some s) : (P.info? t).map (·.size) = some s := by
  unfold szT at e
  split at e
  · rename_i i hi; cases e; simp [hi]
  · cases e
theorem agg_run {t : TypeId} {b : Bool} (e : aggT P t = some b) (w : World) : (isAgg t).run P w = .ok b w := by
  unfold aggT at e
  unfold isAgg
  rw [Sem.run_bind]
  split at e
  · rename_i hu; cases e; rw [run_underlying hu w]; simp
  · rename_i hu; cases e; rw [run_underlying hu w]; simp
  · rename_i d h1 h2 hu; cases e; rw [run_underlying hu w]
    cases d <;> simp_all
  · cases e
theorem part_ok {t : TypeId} {cs : List AV} {vs : List Value} {off : Nat} {a : AV} (hr : VRels ρ RO w cs vs) (hone : ∀ x ∈ vs, x.oneCell' = true) (e : partA P t cs off = some a) : ∃ v, (part t vs.toArray off).run P w = .ok v w ∧ VRel ρ RO w a v := by
  unfold partA at e
  split at e
  · cases e
  · rename_i n hn
    split at e
    · rename_i ha
      split at e
      · rename_i hb
        cases e
        have hb' : off + n ≤ cs.length := Nat.le_of_ble_eq_true hb
        refine ⟨.agg ((vs.drop off).take n).toArray, ?_, ?_⟩
        · unfold part
          simp only [Sem.run_bind, agg_run ha w, Result.andThen_ok, if_true, szT_run hn w, Sem.run_pure]
          congr 2
          simp [List.extract_toArray, List.extract_eq_take_drop]
        · have := hr.take_drop off n
          exact .agg this.1 (fun x hx => hone x (List.mem_of_mem_drop (List.mem_of_mem_take hx))) this.2
      · cases e
    · rename_i ha
      obtain ⟨v, h1, h2⟩ := hr.get e
      refine ⟨v, ?_, h2⟩
      unfold part
      simp [Sem.run_bind, agg_run ha w, h1]
    · cases e
theorem sets_length {α : Type} : ∀ (l : List α) (cs : List α) (o : Nat), (sets cs o l).length = cs.length
  | [], _, _ => rfl
  | v :: r, cs, o => by rw [sets, sets_length r]; simp
theorem sets_get {α : Type} : ∀ (l : List α) (cs : List α) (o j : Nat), (sets cs o l)[j]? = if o ≤ j ∧ j < o + l.length ∧ j < cs.length then l[j - o]? else cs[j]?
  | [], cs, o, j => by
    rw [sets, if_neg]
    intro hc; simp at hc; omega
  | v :: r, cs, o, j => by
    rw [sets, sets_get r]
    simp only [List.length_set, List.length_cons]
    by_cases h1 : o + 1 ≤ j ∧ j < o + 1 + r.length ∧ j < cs.length
    · rw [if_pos h1, if_pos (by omega)]
      rw [show j - o = (j - (o + 1)) + 1 by omega, List.getElem?_cons_succ]
    · rw [if_neg h1, List.getElem?_set]
      by_cases h2 : o = j
      · subst h2
        by_cases h3 : o < cs.length
        · simp [h3]
        · simp [h3]
      · rw [if_neg h2, if_neg (by omega)]
theorem sets_rel : ∀ {l : List AV} {us : List Value} {cs : List AV} {vs : List Value} (o : Nat), VRels ρ RO w cs vs → VRels ρ RO w l us → VRels ρ RO w (sets cs o l) (sets vs o us)
  | [], us, cs, vs, o, h, h' => by rw [h'.inv_nil]; exact h
  | a :: l, us, cs, vs, o, h, h' => by
    obtain ⟨v, t, rfl, h1, h2⟩ := h'.inv_cons
    exact sets_rel (o + 1) (h.set o h1) h2
theorem heap_setCells (b : Nat) (ty : TypeId) (fr : Nat × Nat) : ∀ (vs : List Value) (o : Nat) (w : World) (cs : List Value), w.heap[b]? = some (.cells cs.toArray ty fr) →
    (w.setCells b o vs).heap[b]? = some (.cells (sets cs o vs).toArray ty fr) ∧ (∀ k, k ≠ b → (w.setCells b o vs).heap[k]? = w.heap[k]?) ∧
      (w.setCells b o vs).os = w.os ∧ (w.setCells b o vs).tape = w.tape ∧ (w.setCells b o vs).output = w.output ∧ (w.setCells b o vs).heap.size = w.heap.size ∧ (w.setCells b o vs).drawn = w.drawn
  | [], o, w, cs, h => ⟨h, fun _ _ => rfl, rfl, rfl, rfl, rfl, rfl⟩
  | v :: r, o, w, cs, h => by
    have h1 : (w.setCell ⟨b, o, none⟩ v).heap[b]? = some (.cells (cs.set o v).toArray ty fr) := by
      simp [World.setCell, Array.getElem?_modify, h]
    have ih := heap_setCells b ty fr r (o + 1) (w.setCell ⟨b, o, none⟩ v) (cs.set o v) h1
    refine ⟨ih.1, fun k hk => (ih.2.1 k hk).trans ?_, ih.2.2.1, ih.2.2.2.1, ih.2.2.2.2.1, ih.2.2.2.2.2.1.trans (by simp), ih.2.2.2.2.2.2⟩
    exact heap_setCell_other _ _ _ _ hk
theorem agg_und {t : TypeId} (e : aggT P t = some true) : ∃ d, P.underlying t = some d ∧ d.isRow = true := by
  unfold aggT at e
  split at e
  · rename_i hu; exact ⟨_, hu, rfl⟩
  · rename_i hu; exact ⟨_, hu, rfl⟩
  · cases e
  · cases e
theorem load_agg {t : TypeId} {b o s : Nat} {l : List Value} (ha : aggT P t = some true) (hs : szT P t = some s) (hl : l.length = s) (hc : w.rangeAt b o l) : (loadVar t ⟨b, o, none⟩).run P w = .ok (.agg l.toArray) w := by
  obtain ⟨d, hu, hd⟩ := agg_und ha
  exact run_loadVar_mid w b o t l d hc hu hd (by rw [szT_info hs, hl])
theorem load_one {t : TypeId} {a : Addr} {v : Value} (ha : aggT P t = some false) (hc : w.cell? a = some v) : (loadVar t a).run P w = .ok v w := by
  simp [loadVar, Sem.run_bind, agg_run ha w, hc]
theorem store_var {t : TypeId} {b o s : Nat} {v : Value} (hs : szT P t = some s) (hv : v.cells.size = s) (ht : w.there b o s) (h1 : ∀ x ∈ v.cells.toList, x.oneCell' = true) :
    (storeVar t ⟨b, o, none⟩ v).run P w = .ok () (w.setCells b o v.cells.toList) := by
  have := run_storeCells_cells (P := P) b o v.cells.toList 0 w (fun j hj => by simpa using (ht j (by simpa [hv] using hj)).1) (fun j hj => by simpa using (ht j (by simpa [hv] using hj)).2) h1
  simp only [Nat.add_zero] at this
  simp [storeVar, szT_run hs, hv, this]
theorem cell_block {b o : Nat} {cs : Array Value} {ty : TypeId} {fr : Nat × Nat} (hb : w.heap[b]? = some (.cells cs ty fr)) : w.cell? ⟨b, o, none⟩ = cs[o]? := by
  simp [World.cell?, hb]
theorem there_block {b o s : Nat} {cs : Array Value} {ty : TypeId} (hb : w.heap[b]? = some (.cells cs ty (0, 0))) (hs : o + s ≤ cs.size) : w.there b o s := fun j hj =>
  ⟨by rw [cell_block hb]; simp; omega, by simp [World.frozen?, hb]⟩
theorem loadAt_eq (t : TypeId) (a : Addr) (w : World) : (Instr.loadAt t (.pointer (some a))).run P w = (loadVar t a).run P w := by
  simp [Instr.loadAt, Instr.sureAddr]
theorem lod_ok {t : TypeId} {x : AV} {v : Value} {g : Got} (H : HRel w0 F h n ρ RO w) (hx : VRel ρ RO w x v) (e : lodA P h n t x = some g) (hc : ∀ c ∈ g.conds, c.1 = c.2) :
    ∃ u av, (Instr.loadAt t v).run P w = .ok u w ∧ g.val = some av ∧ g.heap = h ∧ g.next = n ∧ VRel ρ RO w av u := by
  unfold lodA at e
  split at e
  · rename_i id idx off
    cases hx with
    | @ptr id idx off L hL =>
    split at e
    · rename_i ty cells hlk
      split at e
      · unfold Got.pure at e
        split at e
        · rename_i av hp
          cases e
          obtain ⟨g1, g2, g3, cs, g4, g6, g5⟩ := H.box hlk hL
          have hoff : L.base + (0 * L.sz + off) = off := by rw [g1]; omega
          unfold partA at hp
          split at hp
          · cases hp
          · rename_i s hs
            split at hp
            · rename_i ha
              split at hp
              · rename_i hb
                cases hp
                have hb' : off + s ≤ cells.length := Nat.le_of_ble_eq_true hb
                have hr := g5.take_drop off s
                refine ⟨.agg ((cs.drop off).take s).toArray, _, (loadAt_eq _ _ _).trans (load_agg ha hs (by rw [← hr.1]; simp; omega) ?_), rfl, rfl, rfl, .agg hr.1 (fun x hx => g6 x (List.mem_of_mem_drop (List.mem_of_mem_take hx))) hr.2⟩
                intro j v hv
                rw [cell_block g4, hoff]
                have hj : j < s := by have := (List.getElem?_eq_some_iff.1 hv).1; simp at this; omega
                rw [List.getElem?_take_of_lt hj, List.getElem?_drop] at hv
                simpa using hv
              · cases hp
            · rename_i ha
              obtain ⟨u, e1, e2⟩ := g5.get hp
              exact ⟨u, _, (loadAt_eq _ _ _).trans (load_one ha (by rw [cell_block g4, hoff]; simpa using e1)), rfl, rfl, rfl, e2⟩
            · cases hp
        · cases e
      · cases e
    · rename_i ty sz m elem hlk
      have hrow := H.row hlk hL
      split at e
      · rename_i s hs
        split at e
        · rename_i ha hb
          cases e
          have hb' : off + s ≤ sz := Nat.le_of_ble_eq_true hb
          have hi : idx < m := by simpa using hc (decide (idx < m), true) (by simp)
          obtain ⟨g1, cs, g3, g4, g5⟩ := hrow.2 (by omega)
          have hk : ∀ k, k < s → ∃ v, cs[L.base + (idx * sz + (off + k))]? = some v ∧ v.oneCell' = true ∧ VRel ρ RO w (elem idx (off + k)) v := fun k hk => g5 idx (off + k) hi (by omega)
          let vs : List Value := (List.range s).map fun k => (cs[L.base + (idx * sz + (off + k))]?).getD undef
          refine ⟨.agg vs.toArray, _, (loadAt_eq _ _ _).trans (load_agg ha hs (by simp [vs]) ?_), rfl, rfl, rfl, .agg (by simp [vs]) ?_ ?_⟩
          · intro j v hv
            have hj : j < s := by have := (List.getElem?_eq_some_iff.1 hv).1; simpa [vs] using this
            obtain ⟨u, e1, _⟩ := hk j hj
            simp only [vs, List.getElem?_map, List.getElem?_range hj, Option.map_some] at hv
            rw [cell_block g3, g1, show L.base + (idx * sz + off) + j = L.base + (idx * sz + (off + j)) by omega]
            rw [e1] at hv ⊢
            simpa using hv
          · intro x hx
            obtain ⟨j, hj, rfl⟩ := List.mem_map.1 hx
            obtain ⟨u, e1, e3, _⟩ := hk j (by simpa using hj)
            simpa [e1] using e3
          · intro j a v ea hv
            have hj : j < s := by have := (List.getElem?_eq_some_iff.1 hv).1; simpa [vs] using this
            obtain ⟨u, e1, _, e2⟩ := hk j hj
            simp only [List.getElem?_map, List.getElem?_range hj, Option.map_some, vs] at ea hv
            rw [e1] at hv
            simp at ea hv
            subst ea; subst hv; exact e2
        · rename_i ha hb
          cases e
          have hb' : off + 1 ≤ sz := Nat.le_of_ble_eq_true hb
          have hi : idx < m := by simpa using hc (decide (idx < m), true) (by simp)
          obtain ⟨g1, cs, g3, g4, g5⟩ := hrow.2 (by omega)
          obtain ⟨u, e1, _, e2⟩ := g5 idx off hi (by omega)
          exact ⟨u, _, (loadAt_eq _ _ _).trans (load_one ha (by rw [cell_block g3, g1]; exact e1)), rfl, rfl, rfl, e2⟩
        · cases e
      · cases e
    · cases e
  · rename_i sz cell
    cases hx with
    | @dptr sz cell blk o vs hr hcl hone hfl hv =>
    split at e
    · rename_i s hs
      split at e
      · rename_i ha hb
        cases e
        have hb' : s ≤ sz := Nat.le_of_ble_eq_true hb
        refine ⟨.agg ((List.range s).map vs).toArray, _, (loadAt_eq _ _ _).trans (load_agg ha hs (by simp) ?_), rfl, rfl, rfl, .agg (by simp) ?_ ?_⟩
        · intro j v hv
          have hj : j < s := by have := (List.getElem?_eq_some_iff.1 hv).1; simpa using this
          simp only [List.getElem?_map, List.getElem?_range hj, Option.map_some] at hv
          rw [hcl j (by omega)]; exact hv
        · intro x hx
          obtain ⟨j, hj, rfl⟩ := List.mem_map.1 hx
          have hj : j < s := by simpa using hj
          exact hone j (by omega)
        · intro j a v ea hv'
          have hj : j < s := by have := (List.getElem?_eq_some_iff.1 hv').1; simpa using this
          simp only [List.getElem?_map, List.getElem?_range hj, Option.map_some] at ea hv'
          cases ea; cases hv'
          exact hv j (by omega)
      · rename_i ha hb
        cases e
        have hb' : 1 ≤ sz := Nat.le_of_ble_eq_true hb
        exact ⟨vs 0, _, (loadAt_eq _ _ _).trans (load_one ha (hcl 0 (by omega))), rfl, rfl, rfl, hv 0 (by omega)⟩
      · cases e
    · cases e
  · cases e
end Go.Eng

set_option linter.unusedVariables false
set_option linter.unusedSimpArgs false
set_option linter.unusedSectionVars false
namespace Go.Eng
variable [Dr]
open Go.RowKit
variable {P : Program} {w0 w : World} {F : Nat → Prop} {ρ : Nat → Option Loc} {RO : Nat → Prop} {h : Heap} {n : Nat}
theorem sets_one : ∀ {l : List Value} {vs : List Value} (o : Nat), (∀ x ∈ vs, x.oneCell' = true) → (∀ x ∈ l, x.oneCell' = true) → ∀ x ∈ sets vs o l, x.oneCell' = true
  | [], vs, o, h1, _ => h1
  | v :: r, vs, o, h1, h2 => sets_one (o + 1) (fun x hx => by
      rcases List.mem_or_eq_of_mem_set hx with hx | rfl
      · exact h1 x hx
      · exact h2 x (by simp)) (fun x hx => h2 x (by simp [hx]))
theorem storeAt_eq (t : TypeId) (a : Addr) (v : Value) (w : World) : (Instr.storeAt t (.pointer (some a)) v).run P w = (storeVar t a v).run P w := by
  simp [Instr.storeAt, Instr.sureAddr]
theorem sto_ok {t : TypeId} {x y : AV} {v u : Value} {g : Got} (H : HRel w0 F h n ρ RO w) (hx : VRel ρ RO w x v) (hy : VRel ρ RO w y u) (e : stoA P h n t x y = some g) (hc : ∀ c ∈ g.conds, c.1 = c.2) :
    ∃ w', (Instr.storeAt t v u).run P w = .ok () w' ∧ g.val = none ∧ Ext ρ RO w ρ RO w' ∧ HRel w0 F g.heap g.next ρ RO w' := by
  unfold stoA at e
  split at e
  · rename_i s hs hone
    have hcells := cells_rel hy
    have hone1 := cells_one hy hone
    split at e
    · rename_i hlen
      have hlen : (cellsA y).length = s := Nat.eq_of_beq_eq_true hlen
      have hsz : u.cells.size = s := by rw [← hlen, hcells.1]; simp
      split at e
      · rename_i id idx off
        cases hx with
        | @ptr id idx off L hL =>
        split at e
        · rename_i ty cells hlk
          split at e
          · rename_i hb
            cases e
            have hb : off + s ≤ cells.length := Nat.le_of_ble_eq_true hb
            obtain ⟨g1, g2, g3, cs, g4, g6, g5⟩ := H.box hlk hL
            have hoff : L.base + (0 * L.sz + off) = off := by rw [g1]; omega
            have hst := store_var (P := P) (w := w) (b := L.blk) (o := off) hs hsz (there_block g4 (by simp [← g5.1]; exact hb)) hone1
            obtain ⟨a1, a2, a3, a4, a5, a6, a7⟩ := heap_setCells L.blk ty (0, 0) u.cells.toList off w cs g4
            obtain ⟨ext, fin⟩ := H.turn hlk hL not_ghost_box a3 a4 a5 a7 a6 a2
            exact ⟨_, (storeAt_eq _ _ _ _).trans (by rw [hoff]; exact hst), rfl, ext, fin _ ⟨g1, by rw [sets_length]; exact g2, by rw [sets_length]; exact g3, _, a1, sets_one off g6 hone1, (sets_rel off g5 hcells).mono ext⟩⟩
          · cases e
        · rename_i ty sz m elem hlk
          split at e
          · rename_i hb
            cases e
            have hb : off + s ≤ sz := Nat.le_of_ble_eq_true hb
            have hi : idx < m := by simpa using hc (decide (idx < m), true) (by simp)
            obtain ⟨g1, cs, g3, g4, g5⟩ := (H.row hlk hL).2 (by omega)
            obtain ⟨csl, rfl⟩ : ∃ l : List Value, cs = l.toArray := ⟨cs.toList, by simp⟩
            have hin : ∀ k, k < sz → L.base + (idx * sz + k) < csl.length := by
              intro k hk
              obtain ⟨v, e1, _, _⟩ := g5 idx k hi hk
              have := (Array.getElem?_eq_some_iff.1 e1).1
              simpa using this
            have hst : (storeVar t ⟨L.blk, L.base + (idx * sz + off), none⟩ u).run P w = .ok () (w.setCells L.blk (L.base + (idx * sz + off)) u.cells.toList) := by
              by_cases h0 : s = 0
              · refine store_var hs hsz (fun j hj => by omega) hone1
              · refine store_var hs hsz (there_block g3 ?_) hone1
                have := hin (off + s - 1) (by omega)
                simp; omega
            obtain ⟨a1, a2, a3, a4, a5, a6, a7⟩ := heap_setCells L.blk ty (0, 0) u.cells.toList (L.base + (idx * sz + off)) w csl g3
            obtain ⟨ext, fin⟩ := H.turn hlk hL (not_ghost_row (by omega)) a3 a4 a5 a7 a6 a2
            refine ⟨_, (storeAt_eq _ _ _ _).trans (by rw [g1]; exact hst), rfl, ext, fin _ ⟨g1, _, a1, by simp [sets_length]; simpa using g4, ?_⟩⟩
            intro i k hi' hk
            simp only [List.getElem?_toArray]
            have hul : u.cells.toList.length = s := by simpa using hsz
            by_cases hh : i = idx ∧ off ≤ k ∧ k < off + s
            · rw [if_pos hh]
              obtain ⟨rfl, k1, k2⟩ := hh
              have hlt : k - off < (cellsA y).length := by omega
              obtain ⟨z, z1, z2⟩ := hcells.get (List.getElem?_eq_getElem hlt)
              refine ⟨z, ?_, hone1 z (List.mem_of_getElem? z1), ?_⟩
              · rw [sets_get, if_pos ⟨by omega, by rw [hul]; omega, hin k hk⟩, show L.base + (i * sz + k) - (L.base + (i * sz + off)) = k - off by omega]
                exact z1
              · have : (cellsA y).getD (k - off) .nilp = (cellsA y)[k - off] := by simp [List.getD, List.getElem?_eq_getElem hlt]
                rw [this]; exact z2.mono ext
            · rw [if_neg hh]
              obtain ⟨z, z1, z3, z2⟩ := g5 i k hi' hk
              refine ⟨z, ?_, z3, z2.mono ext⟩
              rw [sets_get, if_neg]
              · simpa using z1
              · rintro ⟨q1, q2, _⟩
                rw [hul] at q2
                apply hh
                have e1 : i = idx := by
                  rcases Nat.lt_trichotomy i idx with hlt | heq | hgt
                  · have : (i + 1) * sz ≤ idx * sz := Nat.mul_le_mul_right _ hlt
                    rw [Nat.add_mul, Nat.one_mul] at this
                    omega
                  · exact heq
                  · have : (idx + 1) * sz ≤ i * sz := Nat.mul_le_mul_right _ hgt
                    rw [Nat.add_mul, Nat.one_mul] at this
                    omega
                subst e1
                exact ⟨rfl, by omega, by omega⟩
          · cases e
        · cases e
      · cases e
    · cases e
  · cases e
theorem box_ok {t : TypeId} {x : AV} {v : Value} {g : Got} (H : HRel w0 F h n ρ RO w) (hx : VRel ρ RO w x v) (e : boxA h n t x = some g) :
    ∃ ρ' w', Ext ρ RO w ρ' RO w' ∧ HRel w0 F g.heap g.next ρ' RO w' ∧ (newVar t v).run P w = .ok ⟨w.heap.size, 0, none⟩ w' ∧
      ∃ av, g.val = some av ∧ VRel ρ' RO w' av (.pointer (some ⟨w.heap.size, 0, none⟩)) := by
  unfold boxA at e
  split at e
  case h_2 => cases e
  rename_i hpl
  cases e
  have hc := cells_rel hx
  obtain ⟨ext, fin⟩ := H.alloc (.cells v.cells t) (.box t (cellsA x)) (cellsA x).length (cellsA x).length
  refine ⟨_, _, ext, fin ⟨rfl, rfl, rfl, v.cells.toList, by rw [heap_alloc_new], cells_one hx hpl, hc.mono ext⟩, ?_, _, rfl, ?_⟩
  · simp [newVar, newRow]
  · have := VRel.ptr (ρ := fun id => if id = n then some (⟨w.heap.size, 0, (cellsA x).length, (cellsA x).length, true⟩ : Loc) else ρ id) (RO := RO) (w := w.alloc (.cells v.cells t)) (id := n) (idx := 0) (off := 0) (L := ⟨w.heap.size, 0, (cellsA x).length, (cellsA x).length, true⟩) (if_pos rfl)
    simpa using this
theorem zeroT_run {t : TypeId} {z : AV} (e : zeroT P t = some z) (w : World) : ∃ v, (zeroValue t).run P w = .ok v w ∧ VRel ρ RO w z v := by
  unfold zeroT at e
  split at e
  · rename_i i hi
    split at e
    · rename_i v hv
      exact ⟨v, by simp [zeroValue, typeInfo, hi, hv], constA_rel e⟩
    · cases e
  · cases e
theorem fieldT_und {s : TypeId} {f : Nat} {fd : Field} (e : fieldT P s f = some fd) : ∃ fs, P.underlying s = some (.struct fs) ∧ fs[f]? = some fd := by
  unfold fieldT at e
  split at e
  · rename_i fs hu; exact ⟨fs, hu, e⟩
  · cases e
theorem fld_ok {s : TypeId} {x : AV} {v : Value} {f : Nat} {av : AV} (hx : VRel ρ RO w x v) (e : fldA P s x f = some av) : ∃ u, (Instr.fieldAt s v f).run P w = .ok u w ∧ VRel ρ RO w av u := by
  unfold fldA at e
  split at e
  · rename_i fd hfd
    obtain ⟨fs, hu, hf⟩ := fieldT_und hfd
    split at e
    · rename_i k hk
      have hplace : ∀ a : Addr, (fieldPlace a fd).run P w = .ok (a.add fd.offset) w := by
        intro a
        simp [fieldPlace, szT_run hk]
      split at e
      · rename_i id idx off
        cases e
        cases hx with
        | @ptr id idx off L hL =>
        refine ⟨.pointer (some ⟨L.blk, L.base + (idx * L.sz + (off + fd.offset)), none⟩), ?_, .ptr hL⟩
        simp [Instr.fieldAt, run_underlying hu, hf, Instr.sureAddr, hplace, Addr.add_lit, Nat.add_assoc]
      · rename_i sz cell
        split at e
        · rename_i hb
          cases e
          have hb : fd.offset ≤ sz := Nat.le_of_ble_eq_true hb
          cases hx with
          | @dptr sz cell blk o vs hr hcl hone hfl hv =>
          refine ⟨.pointer (some ⟨blk, o + fd.offset, none⟩), ?_, .dptr (fun k => vs (fd.offset + k)) hr (fun k hk => ?_) (fun k hk => hone _ (by omega)) (fun k hk => hfl _ (by omega)) (fun k hk => hv _ (by omega))⟩
          · simp [Instr.fieldAt, run_underlying hu, hf, Instr.sureAddr, hplace, Addr.add_lit]
          · rw [Nat.add_assoc]; exact hcl _ (by omega)
        · cases e
      · cases e
    · cases e
  · cases e
theorem elemT_und {t e : TypeId} (hq : elemT P t = some e) : P.underlying t = some (.slice e) := by
  unfold elemT at hq
  split at hq
  · rename_i e' hu; cases hq; exact hu
  · cases hq
theorem intOf_rel {x : AV} {v : Value} {j : Int} (hx : VRel ρ RO w x v) (e : intOfA x = some j) : ∃ k, v = .int k j := by
  unfold intOfA at e
  split at e
  · cases e; cases hx; exact ⟨_, rfl⟩
  · cases e
theorem idx_ok {t : TypeId} {x i : AV} {v u : Value} {g : Got} (H : HRel w0 F h n ρ RO w) (hx : VRel ρ RO w x v) (hi : VRel ρ RO w i u) (e : idxA P h n t x i = some g) (hc : ∀ c ∈ g.conds, c.1 = c.2) :
    ∃ z av, (Instr.indexAt t v u).run P w = .ok z w ∧ g.val = some av ∧ g.heap = h ∧ g.next = n ∧ VRel ρ RO w av z := by
  unfold idxA at e
  split at e
  · rename_i e' j hel hj
    obtain ⟨k, rfl⟩ := intOf_rel hi hj
    have hu := elemT_und hel
    split at e
    · rename_i s id off len cap hs
      split at e
      · rename_i sz m hkn
        split at e
        · rename_i hb h1
          cases e
          have hb : s = sz := Nat.eq_of_beq_eq_true hb
          subst hb
          have h1 : 1 ≤ s := Nat.le_of_ble_eq_true h1
          have hbd : 0 ≤ j ∧ j < (len : Int) := by simpa using hc (decide (0 ≤ j ∧ j < (len : Int)), true) (by simp)
          cases hx with
          | @sl id off len cap c L A hL hl hcap hA h00 hss hmm =>
          have hc0 : c ≠ 0 := by omega
          obtain ⟨rfl, hm⟩ := hA hc0
          have hsz : L.sz = s := by
            unfold knownA at hkn
            split at hkn
            · rename_i ty sz' k' el hlk
              cases hkn
              exact (H.row hlk hL).1
            · cases hkn
          refine ⟨.pointer (some ⟨L.blk, L.base + ((off + j.toNat) * L.sz + 0), none⟩), _, ?_, rfl, rfl, rfl, .ptr hL⟩
          simp [Instr.indexAt, run_underlying hu, asIntOf, hbd, szT_run hs, Addr.add_lit, hsz]
          rw [Nat.add_mul]; omega
        · cases e
      · cases e
    · rename_i s sz len elem hs
      split at e
      · rename_i hb h1
        cases e
        have hb : s = sz := Nat.eq_of_beq_eq_true hb
        subst hb
        have hbd : 0 ≤ j ∧ j < (len : Int) := by simpa using hc (decide (0 ≤ j ∧ j < (len : Int)), true) (by simp)
        cases hx with
        | @dsl sz n' c elem A hn vs hA hone hfl hv =>
        obtain ⟨blk, o, rfl, hr, hcl⟩ := hA (by omega)
        have hj : j.toNat < len := by omega
        refine ⟨.pointer (some ⟨blk, o + j.toNat * s, none⟩), _, ?_, rfl, rfl, rfl, .dptr (fun k => vs j.toNat k) hr (fun k hk => ?_) (fun k hk => hone _ _ hj hk) (fun k hk => hfl _ _ hj hk) (fun k hk => hv _ _ hj hk)⟩
        · simp [Instr.indexAt, run_underlying hu, asIntOf, hbd, szT_run hs, Addr.add_lit]
        · rw [Nat.add_assoc]; exact hcl _ _ hj hk
      · cases e
    · cases e
  · cases e
end Go.Eng

set_option linter.unusedVariables false
set_option linter.unusedSimpArgs false
set_option linter.unusedSectionVars false
namespace Go.Eng
variable [Dr]
open Go.RowKit
variable {P : Program} {w0 w : World} {F : Nat → Prop} {ρ : Nat → Option Loc} {RO : Nat → Prop} {h : Heap} {n : Nat}
theorem fold_sets (off : Nat) : ∀ (l : List Value) (s : Nat) (cs : List Value), (l.zipIdx s).foldl (fun (acc : Array Value) (x : Value × Nat) => acc.setIfInBounds (off + x.2) x.1) cs.toArray = (sets cs (off + s) l).toArray
  | [], s, cs => rfl
  | v :: r, s, cs => by
    rw [List.zipIdx_cons, List.foldl_cons, sets]
    have : (cs.toArray.setIfInBounds (off + s) v) = (cs.set (off + s) v).toArray := by simp
    show List.foldl _ (cs.toArray.setIfInBounds (off + s) v) _ = _
    rw [this, fold_sets off r (s + 1) _, Nat.add_assoc]
theorem fill_rel {place : Nat → Option (Nat × Nat)} : ∀ {parts : List (Nat × AV)} {vps : List (Nat × Value)} {cells r : List AV} {cs : List Value}, VRels ρ RO w cells cs → (∀ x ∈ cs, x.oneCell' = true) → PRel ρ RO w parts vps → fillA place cells parts = some r →
    ∃ rs : List Value, Instr.fill place cs.toArray vps = some rs.toArray ∧ VRels ρ RO w r rs ∧ (∀ x ∈ rs, x.oneCell' = true)
  | [], [], cells, r, cs, hc, ho, hp, e => by simp [fillA] at e; subst e; exact ⟨cs, rfl, hc, ho⟩
  | [], _ :: _, _, _, _, _, _, hp, _ => hp.elim
  | _ :: _, [], _, _, _, _, _, hp, _ => hp.elim
  | (i, a) :: parts, (j, v) :: vps, cells, r, cs, hc, ho, hp, e => by
    obtain ⟨rfl, hv, hp⟩ := hp
    simp only [fillA] at e
    split at e
    · cases e
    · rename_i off size hpl
      split at e
      · rename_i hb
        simp only [Bool.and_eq_true] at hb
        have h1 : (cellsA a).length = size := Nat.eq_of_beq_eq_true hb.1.1
        have h2 : off + size ≤ cells.length := Nat.le_of_ble_eq_true hb.1.2
        have hcl := cells_rel hv
        have hol := cells_one hv hb.2
        have hsz : v.cells.size = size := by rw [← h1, hcl.1]; simp
        have hlen : cs.length = cells.length := hc.1.symm
        obtain ⟨rs, q1, q2⟩ := fill_rel (sets_rel off hc hcl) (sets_one off ho hol) hp e
        refine ⟨rs, ?_, q2⟩
        simp only [Instr.fill, hpl]
        rw [if_neg (by simp [hsz]; omega)]
        have : v.cells.zipIdx.foldl (fun (acc : Array Value) (x : Value × Nat) => acc.setIfInBounds (off + x.2) x.1) cs.toArray = (sets cs off v.cells.toList).toArray := by
          rw [← Array.foldl_toList]
          simpa using fold_sets off v.cells.toList 0 cs
        rw [← this] at q1
        exact q1
      · cases e
theorem constA_plain {v : Value} {a : AV} (e : constA v = some a) : plainA a = true := by
  unfold constA at e
  split at e
  · split at e
    · cases e; rfl
    · cases e
  · unfold constCell at e
    split at e <;> first | (cases e; rfl) | cases e
theorem places_mapM : ∀ {fs : List Field} {ps : List (Nat × Nat)}, placesT P fs = some ps → fs.mapM (fun f => (P.info? f.type).map fun i => (f.offset, i.size)) = some ps
  | [], ps, e => by simp [placesT] at e; subst e; rfl
  | f :: r, ps, e => by
    simp only [placesT] at e
    split at e
    · rename_i k l h1 h2
      cases e
      have := places_mapM h2
      have hi := szT_info h1
      cases hq : P.info? f.type with
      | none => simp [hq] at hi
      | some i =>
        have hs : i.size = k := by simpa [hq] using hi
        simp [List.mapM_cons, hq, this, hs]
    · cases e
theorem build_ok {t : TypeId} {parts : List (Nat × AV)} {vps : Array (Nat × Value)} {av : AV} (hp : PRel ρ RO w parts vps.toList) (e : buildA P t parts = some av) : ∃ u, (Instr.build t vps).run P w = .ok u w ∧ VRel ρ RO w av u := by
  unfold buildA at e
  split at e
  · rename_i z len e' hz hu
    split at e
    · rename_i k hk
      split at e
      · rename_i l hl
        cases e
        unfold zeroT at hz
        split at hz
        · rename_i it hit
          split at hz
          · rename_i zv hzv
            have hc := cells_rel (ρ := ρ) (RO := RO) (w := w) (constA_rel hz)
            obtain ⟨rs, q1, q2, q3⟩ := fill_rel hc (cells_one (ρ := ρ) (RO := RO) (w := w) (constA_rel hz) (constA_plain hz)) hp hl
            refine ⟨.agg rs.toArray, run_build w t vps _ ?_, .agg q2.1 q3 q2.2⟩
            have hi := szT_info hk
            cases hq : P.info? e' with
            | none => simp [hq] at hi
            | some ie =>
              have hs : ie.size = k := by simpa [hq] using hi
              simp only [Program.built, hit, hu, hzv, hq, hs]
              simpa using q1
          · cases hz
        · cases hz
      · cases e
    · cases e
  · rename_i z fs hz hu
    split at e
    · rename_i ps hps
      split at e
      · rename_i l hl
        cases e
        unfold zeroT at hz
        split at hz
        · rename_i it hit
          split at hz
          · rename_i zv hzv
            have hc := cells_rel (ρ := ρ) (RO := RO) (w := w) (constA_rel hz)
            obtain ⟨rs, q1, q2, q3⟩ := fill_rel hc (cells_one (ρ := ρ) (RO := RO) (w := w) (constA_rel hz) (constA_plain hz)) hp hl
            refine ⟨.agg rs.toArray, run_build w t vps _ ?_, .agg q2.1 q3 q2.2⟩
            simp only [Program.built, hit, hu, hzv, places_mapM hps]
            simpa using q1
          · cases hz
        · cases hz
      · cases e
    · cases e
  · cases e
theorem rep_length (z : List AV) : ∀ k, (rep z k).length = k * z.length
  | 0 => by simp [rep]
  | k + 1 => by simp [rep, rep_length z k, Nat.add_mul]; omega
theorem rep_get (z : List AV) (hz : 0 < z.length) : ∀ (k i : Nat), i < k * z.length → (rep z k)[i]? = z[i % z.length]?
  | 0, i, hi => by simp at hi
  | k + 1, i, hi => by
    rw [rep]
    by_cases h1 : i < z.length
    · rw [List.getElem?_append_left h1, Nat.mod_eq_of_lt h1]
    · have hi' : i < k * z.length + z.length := by rw [Nat.add_mul, Nat.one_mul] at hi; exact hi
      rw [List.getElem?_append_right (by omega), rep_get z hz k (i - z.length) (by omega), ← Nat.mod_eq_sub_mod (by omega)]
theorem row_new {e : TypeId} {sz k : Nat} {cs : List Value} {elem : Nat → Nat → AV} {cells : List AV} (H : HRel w0 F h n ρ RO w) (hr : VRels ρ RO w cells cs) (ho : ∀ x ∈ cs, x.oneCell' = true) (hlen : cells.length = k * sz)
    (he : ∀ i c, i < k → c < sz → elem i c = cells.getD (i * sz + c) .nilp) (hk : k ≤ 9223372036854775807) :
    ∃ ρ', Ext ρ RO w ρ' RO (w.alloc (.cells cs.toArray e)) ∧ HRel w0 F ((n, some (.row e sz k elem)) :: h) (n + 1) ρ' RO (w.alloc (.cells cs.toArray e)) ∧
      VRel ρ' RO (w.alloc (.cells cs.toArray e)) (.sl n 0 k k) (.slice (some ⟨w.heap.size, 0, none⟩) k k) := by
  obtain ⟨ext, fin⟩ := H.alloc (.cells cs.toArray e) (.row e sz k elem) sz cs.length
  have hlen' : cs.length = k * sz := by rw [← hr.1, hlen]
  refine ⟨_, ext, fin ⟨rfl, cs.toArray, by rw [heap_alloc_new], by simp, fun i c hi hc => ?_⟩, ?_⟩
  · have hlt : i * sz + c < cells.length := by
      have : (i + 1) * sz ≤ k * sz := Nat.mul_le_mul_right _ hi
      rw [Nat.add_mul, Nat.one_mul] at this
      omega
    obtain ⟨v, e1, e2⟩ := hr.get (List.getElem?_eq_getElem hlt)
    refine ⟨v, by simpa using e1, ho v (List.mem_of_getElem? e1), ?_⟩
    rw [he i c hi hc, List.getD_eq_getElem?_getD, List.getElem?_eq_getElem hlt]
    exact e2.mono ext
  · exact .sl (L := ⟨w.heap.size, 0, sz, cs.length, true⟩) (if_pos rfl) (Nat.le_refl _) (Nat.le_refl _) (fun _ => ⟨by simp, by simp [hlen']⟩) (fun _ _ => rfl) hk (by simp [hlen'])
theorem buildSlice_ok {t e : TypeId} {s len : Nat} {parts : List (Nat × AV)} {vps : Array (Nat × Value)} {cells : List AV} (H : HRel w0 F h n ρ RO w) (hp : PRel ρ RO w parts vps.toList) (hel : elemT P t = some e) (hs : szT P e = some s)
    (hb : buildSliceA P e s len parts = some cells) :
    ∃ ρ' w' v, Ext ρ RO w ρ' RO w' ∧ HRel w0 F ((n, some (.row e s len fun i k => cells.getD (i * s + k) .nilp)) :: h) (n + 1) ρ' RO w' ∧ (Instr.buildSlice t len vps).run P w = .ok v w' ∧ VRel ρ' RO w' (.sl n 0 len len) v := by
  have hu := elemT_und hel
  unfold buildSliceA at hb
  split at hb
  · rename_i hb1 hb2
    have hb1 : len * s ≤ 16777216 := Nat.le_of_ble_eq_true hb1
    have hb2 : 1 ≤ s := Nat.le_of_ble_eq_true hb2
    have hi := szT_info hs
    cases hq : P.info? e with
    | none => simp [hq] at hi
    | some ie =>
      have hsz : ie.size = s := by simpa [hq] using hi
      split at hb
      · split at hb
        · cases hb
          have : vps = #[] := by
            cases hv : vps.toList with
            | nil => simpa using congrArg List.toArray hv
            | cons a l => rw [hv] at hp; exact hp.elim
          subst this
          obtain ⟨ρ', e1, e2, e3⟩ := row_new (e := e) (sz := s) (k := 0) (elem := fun i k => ([] : List AV).getD (i * s + k) .nilp) H .nil (by simp) (by simp) (fun i c hi => by omega) (by omega)
          refine ⟨ρ', _, _, e1, e2, ?_, e3⟩
          simp [Instr.buildSlice, run_underlying hu, szT_run hs, Instr.fill, newRow, show Array.range 0 = #[] from rfl]
        · cases hb
      · rename_i len _
        split at hb
        · rename_i z hz
          split at hb
          · rename_i hzl
            have hzl : (cellsA z).length = s := Nat.eq_of_beq_eq_true hzl
            unfold zeroT at hz
            rw [hq] at hz
            dsimp only at hz
            split at hz
            · rename_i zv hzv
              have hc := cells_rel (ρ := ρ) (RO := RO) (w := w) (constA_rel hz)
              have hzs : zv.cells.size = s := by rw [← hzl, hc.1]; simp
              have hrep : VRels ρ RO w (rep (cellsA z) (len + 1)) ((List.range ((len + 1) * s)).map (zv.cells[· % zv.cells.size]!)) := by
                refine ⟨by simp [rep_length, hzl], fun i a v ea ev => ?_⟩
                have hlt : i < (len + 1) * s := by have := (List.getElem?_eq_some_iff.1 ev).1; simpa using this
                rw [rep_get _ (by omega) _ _ (by rw [hzl]; exact hlt)] at ea
                simp only [List.getElem?_map, List.getElem?_range hlt, Option.map_some, Option.some.injEq] at ev
                subst ev
                obtain ⟨u, q1, q2⟩ := hc.get ea
                rw [hzl] at q1
                have : zv.cells[i % zv.cells.size]! = u := by
                  rw [hzs]
                  simp only [Array.getElem?_toList] at q1
                  simp [getElem!_def, q1]
                rw [this]; exact q2
              have hrone : ∀ x ∈ (List.range ((len + 1) * s)).map (zv.cells[· % zv.cells.size]!), x.oneCell' = true := by
                intro x hx
                obtain ⟨i, hi, rfl⟩ := List.mem_map.1 hx
                have hmod : i % zv.cells.size < zv.cells.size := Nat.mod_lt _ (by omega)
                refine cells_one (ρ := ρ) (RO := RO) (w := w) (constA_rel hz) (constA_plain hz) _ ?_
                simp [getElem!_def, Array.getElem?_eq_getElem hmod]
              obtain ⟨rs, q1, q2, q3⟩ := fill_rel hrep hrone hp hb
              have hrl : cells.length = (len + 1) * s := by
                have : ∀ {ps : List (Nat × AV)} {c r : List AV} {pl : Nat → Option (Nat × Nat)}, fillA pl c ps = some r → r.length = c.length := by
                  intro ps
                  induction ps with
                  | nil => intro c r pl e; simp [fillA] at e; rw [e]
                  | cons a l ih =>
                    intro c r pl e
                    simp only [fillA] at e
                    split at e
                    · cases e
                    · split at e
                      · rw [ih e, sets_length]
                      · cases e
                rw [this hb, rep_length, hzl]
              obtain ⟨ρ', e1, e2, e3⟩ := row_new (e := e) (sz := s) (k := len + 1) (elem := fun i k => cells.getD (i * s + k) .nilp) H q2 q3 hrl (fun _ _ _ _ => rfl) (by have := Nat.le_trans (Nat.le_mul_of_pos_right (len + 1) (show 0 < s by omega)) hb1; omega)
              refine ⟨ρ', _, _, e1, e2, ?_, e3⟩
              refine run_buildSlice w t e (len + 1) vps rs.toArray ie zv hu hq hzv (by rw [hsz]; exact Nat.not_lt.2 hb1) (by rw [hsz]; intro h0; rw [Nat.mul_eq_zero] at h0; omega) ?_
              rw [hsz, ← q1]
              congr 1
              apply Array.ext'
              simp
            · cases hz
          · cases hb
        · cases hb
  · cases hb
theorem bound_rel {env : Env} {a : Act} (he : ERel ρ RO w env a) {d : Int} {x : Option Operand} {l : Int} (e : boundA env d x = some l) : (x = none ∧ l = d) ∨ ∃ y k, x = some y ∧ a.eval y = .int k l := by
  unfold boundA at e
  split at e
  · cases e; exact .inl ⟨rfl, rfl⟩
  · rename_i y
    split at e
    · rename_i v hv
      obtain ⟨k, hk⟩ := intOf_rel (evA_rel he hv) e
      exact .inr ⟨y, k, rfl, hk⟩
    · cases e
theorem sliceBounds_ok {isSlice : Bool} {len cap : Nat} {l u : Int} {lo hi : Option Value} (hlo : (lo = none ∧ l = 0) ∨ ∃ k, lo = some (.int k l)) (hhi : (hi = none ∧ u = (len : Int)) ∨ ∃ k, hi = some (.int k u))
    (h0 : 0 ≤ l) (h1 : l ≤ u) (h2 : u ≤ (cap : Int)) : (Instr.sliceBounds isSlice len cap lo hi none).run P w = .ok (l.toNat, u.toNat, cap) w := by
  have hb : ∀ (x : Value) (k : IntKind) (i : Int) (y : Nat) (code : BoundsCode), x = .int k i → 0 ≤ i → i ≤ (y : Int) → (Instr.sliceBound x y code).run P w = .ok i.toNat w := by
    rintro x k i y code rfl a b
    simp [Instr.sliceBound, asIntOf, a, b]
  unfold Instr.sliceBounds
  have hu' : u.toNat = u := Int.toNat_of_nonneg (by omega)
  rcases hhi with ⟨rfl, rfl⟩ | ⟨k, rfl⟩
  · rcases hlo with ⟨rfl, rfl⟩ | ⟨k', rfl⟩
    · simp
    · simp [hb _ k' l len .sliceB rfl h0 h1]
  · rcases hlo with ⟨rfl, rfl⟩ | ⟨k', rfl⟩
    · cases isSlice <;> simp [hb _ k u cap _ rfl (by omega) h2]
    · cases isSlice <;> simp [hb _ k u cap _ rfl (by omega) h2, hb _ k' l u.toNat .sliceB rfl h0 (by omega)]
theorem bound_vals {env : Env} {a : Act} (he : ERel ρ RO w env a) {d : Int} {x : Option Operand} {l : Int} (e : boundA env d x = some l) : (x.map a.eval = none ∧ l = d) ∨ ∃ k, x.map a.eval = some (.int k l) := by
  rcases bound_rel he e with ⟨rfl, rfl⟩ | ⟨y, k, rfl, hk⟩
  · exact .inl ⟨rfl, rfl⟩
  · exact .inr ⟨k, by simp [hk]⟩
theorem slice_ok {env : Env} {a : Act} {t : TypeId} {x : AV} {v : Value} {lo hi : Option Operand} {g : Got} (H : HRel w0 F h n ρ RO w) (he : ERel ρ RO w env a) (hx : VRel ρ RO w x v) (e : sliceA P env h n t x lo hi = some g) (hc : ∀ c ∈ g.conds, c.1 = c.2) :
    ∃ z av, (Instr.sliceAt t v (lo.map a.eval) (hi.map a.eval) none).run P w = .ok z w ∧ g.val = some av ∧ g.heap = h ∧ g.next = n ∧ VRel ρ RO w av z := by
  unfold sliceA at e
  split at e
  · rename_i s
    cases hx
    split at e
    · rename_i l u hu hl hr
      cases e
      have hbd : 0 ≤ l ∧ l ≤ u ∧ u ≤ (s.size : Int) := by simpa using hc (decide (0 ≤ l ∧ l ≤ u ∧ u ≤ (s.size : Int)), true) (by simp)
      refine ⟨.string (s.extract l.toNat u.toNat), _, ?_, rfl, rfl, rfl, .str _⟩
      have hsb := sliceBounds_ok (P := P) (w := w) (isSlice := false) (len := s.size) (cap := s.size) (bound_vals he hl) (bound_vals he hr) hbd.1 hbd.2.1 hbd.2.2
      simp [Instr.sliceAt, run_underlying hu, Instr.slice, hsb]
    · cases e
  · rename_i id off len cap
    split at e
    · rename_i e' l u hel hl hr
      have hu := elemT_und hel
      split at e
      · rename_i s sz m hs hkn
        split at e
        · rename_i hb
          cases e
          have hb : s = sz := Nat.eq_of_beq_eq_true hb
          subst hb
          have hbd : 0 ≤ l ∧ l ≤ u ∧ u ≤ (cap : Int) := by simpa using hc (decide (0 ≤ l ∧ l ≤ u ∧ u ≤ (cap : Int)), true) (by simp)
          cases hx with
          | @sl id off len cap c L A hL hll hcap hA h0 hss hmm =>
          have hsz : L.sz = s := by
            unfold knownA at hkn
            split at hkn
            · rename_i ty sz' k' el hlk
              cases hkn
              exact (H.row hlk hL).1
            · cases hkn
          have hsb := sliceBounds_ok (P := P) (w := w) (isSlice := true) (len := len) (cap := c) (bound_vals he hl) (bound_vals he hr) hbd.1 hbd.2.1 (by omega)
          refine ⟨.slice (if c = l.toNat then A else A.map (·.add (l.toNat * s))) (u.toNat - l.toNat) (c - l.toNat), _, ?_, rfl, rfl, rfl, ?_⟩
          · simp [Instr.sliceAt, run_underlying hu, Instr.slice, hsb, szT_run hs]
          · refine .sl hL (by omega) (by omega) (fun hne => ?_) (fun hc0 ho0 => by
              have e1 : l.toNat = 0 := by omega
              have e2 : c = 0 := by omega
              rw [if_pos (by omega)]
              exact h0 e2 (by omega)) (by omega) (by rw [show off + l.toNat + (c - l.toNat) = off + c by omega]; exact hmm)
            rw [if_neg (by omega)]
            obtain ⟨rfl, hm⟩ := hA (by omega)
            refine ⟨?_, ?_⟩
            · simp [Addr.add_lit, hsz, Nat.add_mul, Nat.add_assoc]
            · rw [show off + l.toNat + (c - l.toNat) = off + c by omega]; exact hm
        · cases e
      · cases e
    · cases e
  · rename_i sz len elem
    split at e
    · rename_i e' l u hel hl hr
      have hu := elemT_und hel
      split at e
      · rename_i s hs
        split at e
        · rename_i hb
          cases e
          have hb : s = sz := Nat.eq_of_beq_eq_true hb
          subst hb
          have hbd : 0 ≤ l ∧ l ≤ u ∧ u ≤ (len : Int) := by simpa using hc (decide (0 ≤ l ∧ l ≤ u ∧ u ≤ (len : Int)), true) (by simp)
          cases hx with
          | @dsl sz n' c elem A hn vs hA hone hfl hv =>
          have hsb := sliceBounds_ok (P := P) (w := w) (isSlice := true) (len := len) (cap := c) (bound_vals he hl) (bound_vals he hr) hbd.1 hbd.2.1 (by omega)
          refine ⟨.slice (if c = l.toNat then A else A.map (·.add (l.toNat * s))) (u.toNat - l.toNat) (c - l.toNat), _, ?_, rfl, rfl, rfl, ?_⟩
          · simp [Instr.sliceAt, run_underlying hu, Instr.slice, hsb, szT_run hs]
          · refine .dsl (by omega) (fun i k => vs (l.toNat + i) k) (fun hne => ?_) (fun i k hi hk => hone _ _ (by omega) hk) (fun i k hi hk => hfl _ _ (by omega) hk) (fun i k hi hk => hv _ _ (by omega) hk)
            obtain ⟨blk, o, rfl, hro, hcl⟩ := hA (by omega)
            rw [if_neg (by omega)]
            refine ⟨blk, o + l.toNat * s, by simp [Addr.add_lit], hro, fun i k hi hk => ?_⟩
            rw [show o + l.toNat * s + (i * s + k) = o + ((l.toNat + i) * s + k) by rw [Nat.add_mul]; omega]
            exact hcl _ _ (by omega) hk
        · cases e
      · cases e
    · cases e
  · split at e
    · rename_i e' l u hel hl hr
      have hu := elemT_und hel
      split at e
      · rename_i s hs
        cases e
        have hbd : l = 0 ∧ u = 0 := by simpa using hc (decide (l = 0 ∧ u = 0), true) (by simp)
        cases hx
        have hsb := sliceBounds_ok (P := P) (w := w) (isSlice := true) (len := 0) (cap := 0) (bound_vals he hl) (bound_vals he hr) (by omega) (by omega) (by omega)
        refine ⟨.slice none 0 0, _, ?_, rfl, rfl, rfl, .nils⟩
        simp [Instr.sliceAt, run_underlying hu, Instr.slice, hsb, szT_run hs, hbd.1, hbd.2]
      · cases e
    · cases e
  · cases e
end Go.Eng

set_option linter.unusedVariables false
set_option linter.unusedSimpArgs false
set_option linter.unusedSectionVars false
namespace Go.Eng
variable [Dr]
open Go.RowKit
variable {P : Program} {w0 w : World} {F : Nat → Prop} {ρ : Nat → Option Loc} {RO : Nat → Prop} {h : Heap} {n : Nat}
theorem und_struct {t : TypeId} {fs : Array Field} (hu : P.underlying t = some (.struct fs)) : P.underlying t = some (.struct (P.fieldsOf t)) ∧ P.fieldsOf t = fs := by
  have : P.fieldsOf t = fs := by simp [Program.fieldsOf, hu]
  exact ⟨by rw [this]; exact hu, this⟩
theorem eqF_ok {eq : TypeId → AV → AV → Option Bool} {D : Nat} (ih : ∀ {t : TypeId} {x y : AV} {v u : Value} {q : Bool}, VRel ρ RO w x v → VRel ρ RO w y u → eq t x y = some q → (Op.equalIn D t v u).run P w = .ok q w) :
    ∀ {fs : List Field} {xs ys : List AV} {vs us : List Value} {q : Bool}, VRels ρ RO w xs vs → VRels ρ RO w ys us → (∀ x ∈ vs, x.oneCell' = true) → (∀ x ∈ us, x.oneCell' = true) → eqF P eq xs ys fs = some q → (Op.eqFields D vs.toArray us.toArray fs).run P w = .ok q w
  | [], xs, ys, vs, us, q, h1, h2, o1, o2, e => by simp [eqF] at e; subst e; simp [Op.eqFields]
  | f :: r, xs, ys, vs, us, q, h1, h2, o1, o2, e => by
    unfold eqF at e
    split at e
    · cases e
    · rename_i hname
      have hname : f.name ≠ "_" := by simpa using hname
      split at e
      · rename_i a b ha hb
        obtain ⟨va, p1, p2⟩ := part_ok (P := P) h1 o1 ha
        obtain ⟨vb, p3, p4⟩ := part_ok (P := P) h2 o2 hb
        split at e
        · rename_i q1 hq1
          have e1 := ih p2 p4 hq1
          rw [Op.eqFields, if_pos hname]
          simp only [Sem.run_bind, p1, p3, e1, Result.andThen_ok]
          split at e
          · cases e
            cases q <;> simp [Op.eqFields]
          · rename_i g r'
            split at e
            · rename_i s hs
              cases e
              have e2 := eqF_ok ih h1 h2 o1 o2 hs
              cases q1
              · simp
              · simp only [Bool.not_true, Bool.false_eq_true, if_false, Bool.true_and]
                exact e2
            · cases e
        · cases e
      · cases e
theorem eqA_ok : ∀ {d D : Nat} {t : TypeId} {x y : AV} {v u : Value} {q : Bool}, d ≤ D → VRel ρ RO w x v → VRel ρ RO w y u → eqA P d t x y = some q → (Op.equalIn D t v u).run P w = .ok q w
  | 0, D, t, x, y, v, u, q, hd, h1, h2, e => by cases e
  | d + 1, D, t, x, y, v, u, q, hd, h1, h2, e => by
    obtain ⟨D, rfl⟩ : ∃ k, D = k + 1 := ⟨D - 1, by omega⟩
    simp only [eqA] at e
    split at e
    · rename_i a b hu
      cases e; cases h1; cases h2
      exact run_equalIn_bool' w D t a b hu
    · rename_i k a k' b hu
      split at e
      · rename_i hk
        have : a = b → True := fun _ => trivial
        cases e
        cases h1; cases h2
        have hk := of_decide_eq_true hk
        subst hk
        exact run_equalIn_int w D t _ _ _ _ hu
      · cases e
    · rename_i a b hu
      cases e; cases h1; cases h2
      exact run_equalIn_string w D t a b hu
    · rename_i fs xs ys hu
      split at e
      · cases e
      · rename_i hst
        cases h1 with
        | agg e1 s1 r1 =>
        cases h2 with
        | agg e2 s2 r2 =>
        obtain ⟨hu', hfs⟩ := und_struct hu
        rw [run_equalIn_struct w D t _ _ hu' hst, hfs]
        exact eqF_ok (fun h1 h2 hq => eqA_ok (by omega) h1 h2 hq) ⟨e1, r1⟩ ⟨e2, r2⟩ s1 s2 e
    · cases e
theorem intA_ok {op : BinOp} {t : TypeId} {k : IntKind} {a b : Int} {av : AV} {c : Conds} (e : intA op k a b = some (av, c)) (hc : ∀ x ∈ c, x.1 = x.2) :
    ∃ v, (binOp op t (.int k a) (.int k b)).run P w = .ok v w ∧ VRel ρ RO w av v := by
  cases op
  case add => cases e; exact ⟨_, by rw [binOp_add]; rfl, .int _ _⟩
  case sub => cases e; exact ⟨_, by rw [binOp_sub]; rfl, .int _ _⟩
  case mul => cases e; exact ⟨_, by rw [binOp_mul]; rfl, .int _ _⟩
  case quo =>
    cases e
    have hb : b ≠ 0 := by simpa using hc (b == 0, false) (by simp)
    exact ⟨_, by rw [binOp_quo]; unfold Op.intDiv; rw [if_neg hb]; rfl, .int _ _⟩
  case rem =>
    cases e
    have hb : b ≠ 0 := by simpa using hc (b == 0, false) (by simp)
    exact ⟨_, by rw [binOp_rem]; unfold Op.intDiv; rw [if_neg hb]; rfl, .int _ _⟩
  case and => cases e; exact ⟨_, by rw [binOp_and]; rfl, .int _ _⟩
  case or => cases e; exact ⟨_, by rw [binOp_or]; rfl, .int _ _⟩
  case xor => cases e; exact ⟨_, by rw [binOp_xor]; rfl, .int _ _⟩
  case andNot => cases e; exact ⟨_, by rw [binOp_andNot]; rfl, .int _ _⟩
  case shl => cases e
  case shr => cases e
  case eql => cases e; exact ⟨_, by rw [binOp_eql]; rfl, .bool _⟩
  case neq => cases e; exact ⟨_, by rw [binOp_neq]; rfl, .bool _⟩
  case lss => cases e; exact ⟨_, by rw [binOp_lss]; rfl, .bool _⟩
  case leq => cases e; exact ⟨_, by rw [binOp_leq]; rfl, .bool _⟩
  case gtr => cases e; exact ⟨_, by rw [binOp_gtr]; rfl, .bool _⟩
  case geq => cases e; exact ⟨_, by rw [binOp_geq]; rfl, .bool _⟩
theorem strA_ok {op : BinOp} {t : TypeId} {a b : ByteArray} {av : AV} {c : Conds} (e : strA op a b = some (av, c)) (hc : ∀ x ∈ c, x.1 = x.2) :
    ∃ v, (binOp op t (.string a) (.string b)).run P w = .ok v w ∧ VRel ρ RO w av v := by
  cases op
  case add =>
    cases e
    have hb : a.size + b.size ≤ 9223372036854775807 := by simpa using hc (decide (a.size + b.size ≤ 9223372036854775807), true) (by simp)
    refine ⟨.string (a ++ b), ?_, .str _⟩
    simp only [binOp, Op.stringOp]
    rw [if_neg (by rw [IntKind.max_i64]; omega)]
    rfl
  case eql => cases e; exact ⟨_, rfl, .bool _⟩
  case neq => cases e; exact ⟨_, rfl, .bool _⟩
  case lss => cases e; exact ⟨_, rfl, .bool _⟩
  case leq => cases e; exact ⟨_, rfl, .bool _⟩
  case gtr => cases e; exact ⟨_, rfl, .bool _⟩
  case geq => cases e; exact ⟨_, rfl, .bool _⟩
  all_goals cases e
theorem bin_ok {op : BinOp} {t : TypeId} {x y : Operand} {a b : AV} {v u : Value} {av : AV} {c : Conds} (h1 : VRel ρ RO w a v) (h2 : VRel ρ RO w b u) (e : binA P op t a b = some (av, c)) (hc : ∀ x ∈ c, x.1 = x.2) :
    ∃ z, (do eqGuard op t x y v u; binOp op t v u : Sem Value).run P w = .ok z w ∧ VRel ρ RO w av z := by
  have guardOk : ∀ z : Value, (eqGuard op t x y v u).run P w = .ok () w → (binOp op t v u).run P w = .ok z w → (do eqGuard op t x y v u; binOp op t v u : Sem Value).run P w = .ok z w := by
    intro z g1 g2
    simp [Sem.run_bind, g1, g2]
  unfold binA at e
  split at e
  · rename_i k a k' b
    cases h1; cases h2
    cases e
    have hb : ¬ b < 0 := by simpa using hc (decide (b < 0), false) (by simp)
    exact ⟨_, guardOk _ (by rw [eqGuard_at_int]; rfl) (by simp [binOp, Op.shift, hb]), .int _ _⟩
  · rename_i k a k' b
    cases h1; cases h2
    cases e
    have hb : ¬ b < 0 := by simpa using hc (decide (b < 0), false) (by simp)
    exact ⟨_, guardOk _ (by rw [eqGuard_at_int]; rfl) (by simp [binOp, Op.shift, hb]), .int _ _⟩
  · rename_i op k a k' b _ _
    cases h1; cases h2
    split at e
    · rename_i hk
      have hk := of_decide_eq_true hk
      subst hk
      obtain ⟨z, z1, z2⟩ := intA_ok (P := P) (t := t) e hc
      exact ⟨z, guardOk _ (by rw [eqGuard_at_int]; rfl) z1, z2⟩
    · cases e
  · cases h1; cases h2
    obtain ⟨z, z1, z2⟩ := strA_ok (P := P) (t := t) e hc
    exact ⟨z, guardOk _ (by rw [eqGuard_at_string]; rfl) z1, z2⟩
  · rename_i a b
    cases h1; cases h2
    split at e
    · rename_i hu
      cases e
      exact ⟨_, guardOk _ (by rw [eqGuard_at_bool]; rfl) (run_eql_bool w t a b hu), .bool _⟩
    · cases e
  · rename_i a b
    cases h1; cases h2
    split at e
    · rename_i hu
      cases e
      exact ⟨_, guardOk _ (by rw [eqGuard_at_bool]; rfl) (run_neq_bool w t a b hu), .bool _⟩
    · cases e
  · rename_i xs ys
    split at e
    · rename_i q hg hq
      cases e
      have hrun := eqA_ok (D := 10000) (by omega) h1 h2 hq
      cases h1 with
      | agg e1 s1 r1 =>
      cases h2 with
      | agg e2 s2 r2 =>
      exact ⟨_, guardOk _ (run_eqGuard_agg w _ _ _ _ _ _ hg) (by rw [run_eql_struct, hrun]; rfl), .bool _⟩
    · cases e
  · rename_i xs ys
    split at e
    · rename_i q hg hq
      cases e
      have hrun := eqA_ok (D := 10000) (by omega) h1 h2 hq
      cases h1 with
      | agg e1 s1 r1 =>
      cases h2 with
      | agg e2 s2 r2 =>
      exact ⟨_, guardOk _ (run_eqGuard_agg w _ _ _ _ _ _ hg) (by rw [run_neq_struct, hrun]; rfl), .bool _⟩
    · cases e
  · cases e
theorem un_ok {op : UnOp} {a : AV} {v : Value} {av : AV} (h1 : VRel ρ RO w a v) (e : unA op a = some av) : ∃ z, (Op.unary op v).run P w = .ok z w ∧ VRel ρ RO w av z := by
  unfold unA at e
  split at e
  · cases h1; cases e; exact ⟨_, by simp [Op.unary], .bool _⟩
  · cases h1; cases e; exact ⟨_, by simp [Op.unary, Op.intArith], .int _ _⟩
  · cases e
theorem idxV_ok {t : TypeId} {x i : AV} {v u : Value} {av : AV} {c : Conds} (h1 : VRel ρ RO w x v) (h2 : VRel ρ RO w i u) (e : idxV P t x i = some (av, c)) (hc : ∀ x ∈ c, x.1 = x.2) :
    ∃ z, (Instr.index t v u).run P w = .ok z w ∧ VRel ρ RO w av z := by
  unfold idxV at e
  split at e
  · rename_i len e' cs k j hu
    split at e
    · rename_i s hs
      split at e
      · rename_i a ha
        cases e
        have hb : 0 ≤ j ∧ j < (len : Int) := by simpa using hc (decide (0 ≤ j ∧ j < (len : Int)), true) (by simp)
        cases h2
        cases h1 with
        | agg e1 s1 r1 =>
        obtain ⟨z, z1, z2⟩ := part_ok (P := P) ⟨e1, r1⟩ s1 ha
        refine ⟨z, ?_, z2⟩
        simp [Instr.index, asIntOf, run_underlying hu, hb, szT_run hs, z1]
      · cases e
    · cases e
  · rename_i s k j hu
    cases e
    have hb : 0 ≤ j ∧ j < (s.size : Int) := by simpa using hc (decide (0 ≤ j ∧ j < (s.size : Int)), true) (by simp)
    cases h2; cases h1
    have hlt : j.toNat < s.size := by omega
    refine ⟨.int .u8 (s.data.getD j.toNat 0).toNat, ?_, .int _ _⟩
    have hge : s[j.toNat]? = some s[j.toNat] := getElem?_pos s j.toNat hlt
    have hd : s.data.getD j.toNat 0 = s[j.toNat] := by
      rw [Array.getD_eq_getD_getElem?, Array.getElem?_eq_getElem (show j.toNat < s.data.size from hlt)]
      rfl
    simp [Instr.index, asIntOf, run_underlying hu, hb.1, hge, hd]
  · cases e
theorem len_ok {t : TypeId} {ty : TypeId} {x : AV} {v : Value} {av : AV} (H : HRel w0 F h n ρ RO w) (h1 : VRel ρ RO w x v) (e : lenA P h t x = some av) : ∃ z, (Builtin.len_ #[t] ty #[v]).run P w = .ok z w ∧ VRel ρ RO w av z := by
  unfold lenA at e
  split at e
  · rename_i hu
    cases e; cases h1
    exact ⟨_, by simp [Builtin.len_, run_underlying hu]; rfl, .int _ _⟩
  · rename_i hu
    cases e; cases h1
    exact ⟨_, by simp [Builtin.len_, run_underlying hu]; rfl, .int _ _⟩
  · rename_i hu
    cases e; cases h1
    exact ⟨_, by simp [Builtin.len_, run_underlying hu]; rfl, .int _ _⟩
  · rename_i hu
    cases e; cases h1
    exact ⟨_, by simp [Builtin.len_, run_underlying hu]; rfl, .int _ _⟩
  · rename_i hu
    cases e; cases h1
    exact ⟨_, by simp [Builtin.len_, run_underlying hu]; rfl, .int _ _⟩
  · rename_i id hu
    split at e
    · rename_i es hlk
      cases e
      cases h1 with
      | map hL =>
      obtain ⟨ms, clock, g1, g2, _⟩ := H.mapO hlk hL
      refine ⟨.int .i64 (es.length : Int), ?_, .int _ _⟩
      simp [Builtin.len_, run_underlying hu, getObj, Sem.run, g1, goInt, g2]
    · cases e
  · cases e
theorem cap_ok {t : TypeId} {ty : TypeId} {x : AV} {v : Value} {av : AV} (h1 : VRel ρ RO w x v) (e : capA P t x = some av) : ∃ z, (Builtin.cap_ #[t] ty #[v]).run P w = .ok z w ∧ VRel ρ RO w av z := by
  unfold capA at e
  split at e
  · rename_i hu
    cases e; cases h1
    exact ⟨_, by simp [Builtin.cap_, run_underlying hu]; rfl, .int _ _⟩
  · cases e
theorem minmax_ok {mx : Bool} {l : List AV} {vs : List Value} {ts : Array TypeId} {ty : TypeId} {av : AV} (h1 : VRels ρ RO w l vs) (e : minmaxA mx l = some av) :
    ∃ z, (if mx then Builtin.max_ ts ty vs.toArray else Builtin.min_ ts ty vs.toArray).run P w = .ok z w ∧ VRel ρ RO w av z := by
  unfold minmaxA at e
  split at e
  · rename_i k a k' b r
    split at e
    · rename_i hk
      have hk := of_decide_eq_true hk
      subst hk
      split at e
      · cases e
        obtain ⟨v1, t1, rfl, r1, h1⟩ := h1.inv_cons
        obtain ⟨v2, t2, rfl, r2, h1⟩ := h1.inv_cons
        obtain rfl := h1.inv_nil
        cases r1; cases r2
        cases mx
        · exact ⟨_, by simpa using run_min_int2 w ts ty k k a b, .int _ _⟩
        · exact ⟨_, by simpa using run_max_int2 w ts ty k k a b, .int _ _⟩
      · cases e
    · cases e
  · cases e
end Go.Eng

