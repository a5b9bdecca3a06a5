/- The operations are sound, on: appends, rows that are made; the whole step. -/
import Derived.Test.YtopeokonlaljlaaEng6
set_option linter.unusedVariables false
set_option linter.unusedSimpArgs false
set_option linter.unusedSectionVars false
namespace Go.Eng
variable [Dr]
open Go.RowKit

variable {P : Program} {w0 w : World} {F : Nat → Prop} {ρ : Nat → Option Loc} {RO : Nat → Prop} {h : Heap} {n : Nat}

/-- What the evaluator knows of a slice's elements, the model reads. -/
theorem rowOf_ok {x : AV} {v : Value} {sz m : Nat} {el : Nat → Nat → AV} (H : HRel w0 F h n ρ RO w) (hx : VRel ρ RO w x v) (e : rowOf h x = some (sz, m, el, true)) :
    ∃ (A : Option Addr) (c : Nat) (vs : Nat → Nat → Value), v = .slice A m c ∧ m ≤ c ∧ (0 < m → ∃ blk o, A = some ⟨blk, o, none⟩ ∧ ∀ i k, i < m → k < sz → w.cell? ⟨blk, o + (i * sz + k), none⟩ = some (vs i k)) ∧
      (∀ i k, i < m → k < sz → (vs i k).oneCell' = true) ∧ ∀ i k, i < m → k < sz → VRel ρ RO w (el i k) (vs i k) := by
  have main : ∀ {id off len cap : Nat} {ty : TypeId} {kn : Nat} {elem : Nat → Nat → AV}, VRel ρ RO w (.sl id off len cap) v → lookH h id = some (.row ty sz kn elem) → off + len ≤ kn →
      ∃ (A : Option Addr) (c : Nat) (vs : Nat → Nat → Value), v = .slice A len c ∧ len ≤ c ∧ (0 < len → ∃ blk o, A = some ⟨blk, o, none⟩ ∧ ∀ i k, i < len → k < sz → w.cell? ⟨blk, o + (i * sz + k), none⟩ = some (vs i k)) ∧
        (∀ i k, i < len → k < sz → (vs i k).oneCell' = true) ∧ ∀ i k, i < len → k < sz → VRel ρ RO w (elem (off + i) k) (vs i k) := by
    intro id off len cap ty kn elem hx hlk hle
    cases hx with
    | @sl id off len cap c L A hL hll hcap hA =>
    by_cases h0 : len = 0
    · subst h0
      exact ⟨A, c, fun _ _ => undef, rfl, by omega, fun h => by omega, fun i k hi => by omega, fun i k hi => by omega⟩
    · obtain ⟨rfl, hm⟩ := hA (by omega)
      obtain ⟨g1, cs, g3, g4, g5⟩ := (H.row hlk hL).2 (by omega)
      refine ⟨_, c, fun i k => (cs[L.base + ((off + i) * sz + k)]?).getD undef, rfl, by omega, fun _ => ⟨L.blk, L.base + off * L.sz, rfl, fun i k hi hk => ?_⟩, fun i k hi hk => ?_, fun i k hi hk => ?_⟩
      · obtain ⟨u, e1, _, e2⟩ := g5 (off + i) k (by omega) hk
        rw [cell_block g3, g1, show L.base + off * sz + (i * sz + k) = L.base + ((off + i) * sz + k) by rw [Nat.add_mul]; omega]
        simp only [e1, Option.getD_some]
      · obtain ⟨u, e1, e3, e2⟩ := g5 (off + i) k (by omega) hk
        simp only [e1, Option.getD_some]
        exact e3
      · obtain ⟨u, e1, _, e2⟩ := g5 (off + i) k (by omega) hk
        simp only [e1, Option.getD_some]
        exact e2
  unfold rowOf at e
  split at e
  · rename_i id off len cap
    split at e
    · rename_i ty sz' kn elem hlk
      split at e
      · simp only [Option.some.injEq, Prod.mk.injEq, decide_eq_true_eq] at e
        obtain ⟨rfl, rfl, rfl, hle⟩ := e
        have := main hx hlk (by omega)
        simpa using this
      · rename_i off
        simp only [Option.some.injEq, Prod.mk.injEq, decide_eq_true_eq] at e
        obtain ⟨rfl, rfl, rfl, hle⟩ := e
        exact main hx hlk hle
    · cases e
  · rename_i sz' m' el'
    simp only [Option.some.injEq, Prod.mk.injEq, and_true] at e
    obtain ⟨rfl, rfl, rfl⟩ := e
    cases hx with
    | @dsl sz m' c el' A hn vs hA hone hfl hv =>
    refine ⟨A, c, vs, rfl, hn, fun h0 => ?_, hone, hv⟩
    obtain ⟨blk, o, q1, _, q3⟩ := hA (by omega)
    exact ⟨blk, o, q1, q3⟩
  · cases e

/-- The cells of a slice as one list. -/
def flat (sz m : Nat) (vs : Nat → Nat → Value) : List Value := (List.range (m * sz)).map fun j => vs (j / sz) (j % sz)
theorem flat_length (sz m : Nat) (vs : Nat → Nat → Value) : (flat sz m vs).length = m * sz := by simp [flat]
theorem flat_get {sz m : Nat} (vs : Nat → Nat → Value) {i k : Nat} (hi : i < m) (hk : k < sz) : (flat sz m vs)[i * sz + k]? = some (vs i k) := by
  have hlt : i * sz + k < m * sz := by
    have : (i + 1) * sz ≤ m * sz := Nat.mul_le_mul_right _ hi
    rw [Nat.add_mul, Nat.one_mul] at this
    omega
  unfold flat
  rw [List.getElem?_map, List.getElem?_range hlt]
  simp only [Option.map_some]
  rw [Nat.mul_comm, Nat.mul_add_div (by omega), Nat.div_eq_of_lt hk, Nat.mul_add_mod, Nat.mod_eq_of_lt hk, Nat.add_zero]

theorem firstCells_ok {A : Option Addr} {m c sz : Nat} {vs : Nat → Nat → Value} (hA : 0 < m → ∃ blk o, A = some ⟨blk, o, none⟩ ∧ ∀ i k, i < m → k < sz → w.cell? ⟨blk, o + (i * sz + k), none⟩ = some (vs i k)) (hs : 1 ≤ sz) :
    (Builtin.firstCells sz m (.slice A m c)).run P w = .ok (flat sz m vs).toArray w := by
  by_cases h0 : m = 0
  · subst h0
    cases A <;> simp [Builtin.firstCells, flat, loadCells, loadCellsFrom]
  · obtain ⟨blk, o, rfl, hc⟩ := hA (by omega)
    have := run_loadCells_list (P := P) w ⟨blk, o, none⟩ (flat sz m vs) (fun j v hv => by
      have hj : j < m * sz := by have := (List.getElem?_eq_some_iff.1 hv).1; simpa [flat_length] using this
      have hi : j / sz < m := Nat.div_lt_of_lt_mul (by rw [Nat.mul_comm]; exact hj)
      have hk : j % sz < sz := Nat.mod_lt _ (by omega)
      have hjj : j / sz * sz + j % sz = j := by rw [Nat.mul_comm]; exact Nat.div_add_mod j sz
      have h1 := hc _ _ hi hk
      have h2 := flat_get vs hi hk
      rw [hjj] at h1 h2
      rw [hv] at h2
      rw [Addr.add_mid, h1, h2])
    rw [flat_length] at this
    simpa [Builtin.firstCells] using this

theorem one_flat {sz m : Nat} {vs : Nat → Nat → Value} (h : ∀ i k, i < m → k < sz → (vs i k).oneCell' = true) : ∀ x ∈ flat sz m vs, x.oneCell' = true := by
  intro x hx
  obtain ⟨j, hj, rfl⟩ := List.mem_map.1 hx
  have hj : j < m * sz := by simpa using hj
  have h0 : 0 < sz := by
    rcases Nat.eq_zero_or_pos sz with h0 | h0
    · subst h0; simp at hj
    · exact h0
  exact h _ _ (Nat.div_lt_of_lt_mul (by rw [Nat.mul_comm]; exact hj)) (Nat.mod_lt _ h0)

/-- Cells that lie in a block or are read as cells are no rows of cells: what is read one by one is one cell. -/
theorem app_ok {t u e : TypeId} {ty : TypeId} {ie : TypeInfo} {z : Value} {m : Nat} {el : Nat → Nat → AV} {x : AV} {v v' : Value} {g : Got} (H : HRel w0 F h n ρ RO w) (hu : P.underlying t = some (.slice e)) (hu2 : ∃ e', P.underlying u = some (.slice e')) (hie : P.info? e = some ie) (hz : ie.zero = some z) (hzs : z.cells.size = ie.size)
    (hs : 1 ≤ ie.size) (hby : 1 ≤ ie.bytes) (hx : VRel ρ RO w x v)
    {A : Option Addr} {c : Nat} {vs : Nat → Nat → Value} (hv' : v' = .slice A m c) (hA : 0 < m → ∃ blk o, A = some ⟨blk, o, none⟩ ∧ ∀ i k, i < m → k < ie.size → w.cell? ⟨blk, o + (i * ie.size + k), none⟩ = some (vs i k))
    (hv : ∀ i k, i < m → k < ie.size → VRel ρ RO w (el i k) (vs i k)) (hone : ∀ i k, i < m → k < ie.size → (vs i k).oneCell' = true)
    (e' : appTo h n e ie.size ie.bytes m el x = some g) (hc : ∀ c ∈ g.conds, c.1 = c.2) :
    ∃ ρ' w' zv av, Ext ρ RO w ρ' RO w' ∧ HRel w0 F g.heap g.next ρ' RO w' ∧ (Builtin.append_ #[t, u] ty #[v, v']).run P w = .ok zv w' ∧ g.val = some av ∧ VRel ρ' RO w' av zv := by
  obtain ⟨e2, hu2⟩ := hu2
  subst hv'
  have hfirst := firstCells_ok (P := P) (w := w) (c := c) hA hs
  have hsz : (sizeOf e).run P w = .ok ie.size w := by simp [sizeOf, typeInfo, hie]
  -- the new array
  have grow : ∀ (len : Nat) (A0 : Option Addr) (c0 : Nat) (olds : Nat → Nat → Value) (el0 el1 : Nat → Nat → AV) (h' : Heap) (n' : Nat),
      HRel w0 F h' n' ρ RO w → c0 < len + m → len ≤ c0 → (0 < len → ∃ blk o, A0 = some ⟨blk, o, none⟩ ∧ ∀ i k, i < len → k < ie.size → w.cell? ⟨blk, o + (i * ie.size + k), none⟩ = some (olds i k)) →
      (∀ i k, i < len → k < ie.size → (olds i k).oneCell' = true) → (∀ i k, i < len → k < ie.size → VRel ρ RO w (el0 i k) (olds i k)) → (len + m) * ie.bytes ≤ 140737488355328 →
      (∀ i k, i < len + m → k < ie.size → el1 i k = if i < len then el0 i k else el (i - len) k) →
      ∃ ρ' w' zv, Ext ρ RO w ρ' RO w' ∧ HRel w0 F ((n', some (.row e ie.size (len + m) el1)) :: h') (n' + 1) ρ' RO w' ∧
        (Builtin.append_ #[t, u] ty #[.slice A0 len c0, .slice A m c]).run P w = .ok zv w' ∧ VRel ρ' RO w' (.sl n' 0 (len + m) (len + m)) zv := by
    intro len A0 c0 olds el0 el1 h' n' H' hgt hlc hA0 hone0 hel0 hbytes hel1
    have hfirst0 := firstCells_ok (P := P) (w := w.drew) (c := c0) (A := A0) (m := len) (vs := olds) (fun h0 => by obtain ⟨b, o, q1, q2⟩ := hA0 h0; exact ⟨b, o, q1, q2⟩) hs
    have hfirst1 := firstCells_ok (P := P) (w := w.drew) (c := c) (A := A) (m := m) (vs := vs) (fun h0 => by obtain ⟨b, o, q1, q2⟩ := hA h0; exact ⟨b, o, q1, q2⟩) hs
    obtain ⟨d1, d2⟩ := H'.drew
    let nc := (Question.appendCap (len + m) c0 e).cut (w.tape w.drawn (.appendCap (len + m) c0 e))
    have hnc : len + m ≤ nc := by simp [nc, Question.cut]
    let cells : List Value := flat ie.size len olds ++ flat ie.size m vs ++ (Builtin.zeroCells z.cells (nc - (len + m))).toList
    have hcl : cells.length = nc * ie.size := by
      simp only [cells, List.length_append, flat_length, Array.length_toList, Builtin.zeroCells, Array.size_map, Array.size_range, hzs]
      rw [← Nat.add_mul, ← Nat.add_mul]
      congr 1
      omega
    obtain ⟨ext, fin⟩ := d2.alloc (.cells cells.toArray e) (.row e ie.size (len + m) el1) ie.size cells.length
    have ext := d1.trans ext
    refine ⟨_, _, .slice (some ⟨w.heap.size, 0, none⟩) (len + m) nc, ext, fin ⟨rfl, cells.toArray, heap_alloc_new w.drew _, by simp, fun i k hi hk => ?_⟩, ?_, ?_⟩
    · rw [hel1 i k hi hk]
      simp only [Nat.zero_add]
      by_cases h1 : i < len
      · rw [if_pos h1]
        refine ⟨olds i k, ?_, hone0 i k h1 hk, (hel0 i k h1 hk).mono ext⟩
        have hlt : i * ie.size + k < len * ie.size := by
          have : (i + 1) * ie.size ≤ len * ie.size := Nat.mul_le_mul_right _ h1
          rw [Nat.add_mul, Nat.one_mul] at this
          omega
        simp only [List.getElem?_toArray, cells]
        rw [List.append_assoc, List.getElem?_append_left (by rw [flat_length]; exact hlt)]
        exact flat_get olds h1 hk
      · rw [if_neg h1]
        have h2 : i - len < m := by omega
        refine ⟨vs (i - len) k, ?_, hone _ k h2 hk, (hv _ k h2 hk).mono ext⟩
        have hsub : i * ie.size + k = len * ie.size + ((i - len) * ie.size + k) := by
          have : i = len + (i - len) := by omega
          rw [← Nat.add_assoc, ← Nat.add_mul, ← this]
        have hlt : (i - len) * ie.size + k < m * ie.size := by
          have : (i - len + 1) * ie.size ≤ m * ie.size := Nat.mul_le_mul_right _ h2
          rw [Nat.add_mul, Nat.one_mul] at this
          omega
        simp only [List.getElem?_toArray, cells]
        rw [List.append_assoc, List.getElem?_append_right (by rw [flat_length]; omega), flat_length, hsub, Nat.add_sub_cancel_left, List.getElem?_append_left (by rw [flat_length]; exact hlt)]
        exact flat_get vs h2 hk
    · have hfit : ¬ (Builtin.nextslicecap (len + m) c0 * ie.bytes > 281474976710656) := Nat.not_lt.2 (growslice_fits hgt hbytes)
      have hb0 : ie.bytes ≠ 0 := by omega
      have hc1 : Result.ok (flat ie.size len olds).toArray w.drew = Result.ok (flat ie.size len olds).toArray w.drew := rfl
      simp only [Builtin.append_, Sem.run_bind, List.getElem?_toArray, List.getElem?_cons_zero, List.getElem?_cons_succ, run_underlying hu, run_underlying hu2, Result.andThen_ok, hsz, Builtin.lenOf, Sem.run_pure, Bool.false_eq_true, if_false, Nat.not_le.2 hgt,
        Sem.run_ite, hfit, typeInfo, run_program, hie, hb0, or_self, and_false, run_choose, Question.forced, World.drew_eq, run_askRoom, hfirst0, hfirst1, zeroValue, hz, newRow, run_newObj, World.alloc_eq, Bool.not_false, if_true]
      have hcells : (flat ie.size len olds).toArray ++ (flat ie.size m vs).toArray ++ Builtin.zeroCells z.cells (nc - (len + m)) = cells.toArray := by
        apply Array.ext'
        simp [cells]
      show Result.ok (Value.slice (some ⟨w.drew.heap.size, 0, none⟩) (len + m) nc) (w.drew.alloc (.cells ((flat ie.size len olds).toArray ++ (flat ie.size m vs).toArray ++ Builtin.zeroCells z.cells (nc - (len + m))) e)) = _
      rw [hcells]
      rfl
    · refine .sl (L := ⟨w.heap.size, 0, ie.size, cells.length⟩) (if_pos rfl) (Nat.le_refl _) hnc (fun _ => ⟨by simp, ?_⟩)
      simp [hcl]
  unfold appTo at e'
  split at e'
  · -- nil
    cases e'
    cases hx
    have hb : m * ie.bytes ≤ 140737488355328 := by simpa using hc (decide (m * ie.bytes ≤ 140737488355328), true) (by simp)
    by_cases h0 : m = 0
    · subst h0
      obtain ⟨ext, fin⟩ := H.add (w' := w) (.row e ie.size 0 el) ⟨0, 0, ie.size, 0⟩ H.frame (fun _ _ => rfl) (Nat.le_refl _)
      refine ⟨_, w, .slice none 0 0, _, ext, fin (.inl ⟨_, _, _, rfl, rfl, rfl, hs⟩), ?_, rfl, .sl (L := ⟨0, 0, ie.size, 0⟩) (if_pos rfl) (Nat.le_refl _) (Nat.le_refl _) (fun h => absurd rfl h)⟩
      have hf : (flat ie.size 0 vs).toArray = #[] := by simp [flat]
      simp only [Builtin.append_, Sem.run_bind, List.getElem?_toArray, List.getElem?_cons_zero, List.getElem?_cons_succ, run_underlying hu, run_underlying hu2, Result.andThen_ok, hsz, Builtin.lenOf, Sem.run_pure, Bool.false_eq_true, if_false,
        Sem.run_ite, Nat.add_zero, Nat.le_refl, if_true, hfirst, hf, Bool.not_false]
    · obtain ⟨ρ', w', zv, p1, p2, p3, p4⟩ := grow 0 none 0 (fun _ _ => undef) (fun _ _ => .nilp) el h n H (by omega) (Nat.le_refl _) (fun h => by omega) (fun i k h => by omega) (fun i k h => by omega) (by rw [Nat.zero_add]; exact hb)
        (fun i k hi hk => by rw [if_neg (by omega)]; rfl)
      simp only [Nat.zero_add] at p2 p4
      exact ⟨ρ', w', zv, _, p1, p2, p3, rfl, p4⟩
  · rename_i id off len cap
    split at e'
    · rename_i ty' sz k elem hlk
      split at e'
      · rename_i hb
        simp only [Bool.and_eq_true] at hb
        have hb1 : sz = ie.size := Nat.eq_of_beq_eq_true hb.1
        have hb2 : ty' = e := Nat.eq_of_beq_eq_true hb.2
        subst hb1; subst hb2
        cases e'
        have hbytes : (len + m) * ie.bytes ≤ 140737488355328 := by simpa using hc (decide ((len + m) * ie.bytes ≤ 140737488355328), true) (by simp)
        have hkn : off + len ≤ k := by simpa using hc (decide (off + len ≤ k), true) (by simp)
        obtain ⟨A0, c0, olds, q1, q2, q3, q4, q5⟩ := rowOf_ok H hx (sz := ie.size) (m := len) (el := fun i c => elem (off + i) c) (by
          unfold rowOf
          simp only [hlk]
          cases off with
          | zero => simp; omega
          | succ o => simp; omega)
        subst q1
        cases hx with
        | @sl id off len cap c0 L A0 hL hll hcap hA0 =>
        by_cases hroom : len + m ≤ c0
        · -- it fits
          by_cases hc0 : c0 = 0
          · -- nothing at all
            subst hc0
            obtain ⟨rfl, rfl⟩ : len = 0 ∧ m = 0 := by omega
            have H' : HRel w0 F ((id, none) :: h) n ρ RO w := H.forget (fun i o hi => by rw [lookH_cons] at hi; split at hi <;> first | cases hi | exact hi)
            obtain ⟨ext, fin⟩ := H'.add (w' := w) (.row ty' ie.size 0 fun i c => if i < 0 then elem (off + i) c else el (i - 0) c) ⟨0, 0, ie.size, 0⟩ H.frame (fun _ _ => rfl) (Nat.le_refl _)
            refine ⟨_, w, .slice A0 0 0, _, ext, fin (.inl ⟨_, _, _, rfl, rfl, rfl, hs⟩), ?_, rfl, .sl (L := ⟨0, 0, ie.size, 0⟩) (if_pos rfl) (Nat.le_refl _) (Nat.le_refl _) (fun h => absurd rfl h)⟩
            have hf : (flat ie.size 0 vs).toArray = #[] := by simp [flat]
            cases A0 <;> simp only [Builtin.append_, Sem.run_bind, List.getElem?_toArray, List.getElem?_cons_zero, List.getElem?_cons_succ, run_underlying hu, run_underlying hu2, Result.andThen_ok, hsz, Builtin.lenOf, Sem.run_pure, Bool.false_eq_true, if_false,
              Sem.run_ite, Nat.add_zero, Nat.le_refl, if_true, hfirst, hf, Bool.not_false, storeCells]
          · obtain ⟨rfl, hm⟩ := hA0 hc0
            have hsz' : L.sz = ie.size := (H.row hlk hL).1
            have hng : ¬ Ghost L (.row ty' ie.size k elem) := by
              rintro ⟨_, _, _, e1, e2, e3, _⟩
              have : 1 * 1 ≤ (off + c0) * L.sz := Nat.mul_le_mul (by omega) (by omega)
              omega
            obtain ⟨y, h1, h2⟩ := H.objs id _ hlk
            rw [hL] at h1; cases h1
            obtain ⟨g1, cs, g3, g4, g5⟩ := (h2.resolve_left hng).rel
            obtain ⟨csl, rfl⟩ : ∃ l : List Value, cs = l.toArray := ⟨cs.toList, by simp⟩
            have hcl : csl.length = L.m := by simpa using g4
            have hle : (off + len) * ie.size + m * ie.size ≤ (off + c0) * ie.size := by rw [← Nat.add_mul]; exact Nat.mul_le_mul_right _ (by omega)
            rw [hsz'] at hm
            have hadd : (off + len) * ie.size = off * ie.size + len * ie.size := Nat.add_mul _ _ _
            have hst := run_storeCells_cells (P := P) L.blk (L.base + off * ie.size + len * ie.size) (flat ie.size m vs) 0 w
              (fun j hj => by
                rw [flat_length] at hj
                rw [cell_block g3]
                simp; omega)
              (fun j hj => by simp [World.frozen?, g3]) (one_flat hone)
            simp only [Nat.add_zero] at hst
            obtain ⟨a1, a2, a3, a4, a5, a6, a7⟩ := heap_setCells L.blk ty' (0, 0) (flat ie.size m vs) (L.base + off * ie.size + len * ie.size) w csl g3
            obtain ⟨ext, fin⟩ := H.renew hlk hL hng a3 a4 a5 a7 a6 a2 ⟨L.blk, L.base + off * ie.size, ie.size, L.m⟩ rfl
            refine ⟨_, _, .slice (some ⟨L.blk, L.base + off * L.sz, none⟩) (len + m) c0, _, ext, fin _ ⟨rfl, _, a1, by simp [sets_length, hcl], fun i c hi hk => ?_⟩, ?_, rfl, ?_⟩
            · simp only [List.getElem?_toArray]
              rw [sets_get, flat_length]
              by_cases h1 : i < len
              · rw [if_pos h1]
                obtain ⟨v, e1, e3, e2⟩ := g5 (off + i) c (by omega) hk
                refine ⟨v, ?_, e3, e2.mono ext⟩
                have hlt : i * ie.size + c < len * ie.size := by
                  have : (i + 1) * ie.size ≤ len * ie.size := Nat.mul_le_mul_right _ h1
                  rw [Nat.add_mul, Nat.one_mul] at this
                  omega
                rw [if_neg (by omega)]
                rw [Nat.add_mul] at e1
                rw [show L.base + off * ie.size + (i * ie.size + c) = L.base + (off * ie.size + i * ie.size + c) by omega]
                simpa using e1
              · rw [if_neg h1]
                have h2 : i - len < m := by omega
                refine ⟨vs (i - len) c, ?_, hone _ c h2 hk, (hv _ c h2 hk).mono ext⟩
                have hsub : i * ie.size + c = len * ie.size + ((i - len) * ie.size + c) := by
                  have : i = len + (i - len) := by omega
                  rw [← Nat.add_assoc, ← Nat.add_mul, ← this]
                have hlt : (i - len) * ie.size + c < m * ie.size := by
                  have : (i - len + 1) * ie.size ≤ m * ie.size := Nat.mul_le_mul_right _ h2
                  rw [Nat.add_mul, Nat.one_mul] at this
                  omega
                rw [hsub, if_pos (by omega), show L.base + off * ie.size + (len * ie.size + ((i - len) * ie.size + c)) - (L.base + off * ie.size + len * ie.size) = (i - len) * ie.size + c by omega]
                exact flat_get vs h2 hk
            · rw [hsz']
              simp only [Builtin.append_, Sem.run_bind, List.getElem?_toArray, List.getElem?_cons_zero, List.getElem?_cons_succ, run_underlying hu, run_underlying hu2, Result.andThen_ok, hsz, Builtin.lenOf, Sem.run_pure, Bool.false_eq_true, if_false,
                Sem.run_ite, hroom, if_true, hfirst, Bool.not_false, Addr.add_lit, hst]
            · rw [hsz']
              exact .sl (L := ⟨L.blk, L.base + off * ie.size, ie.size, L.m⟩) (if_pos rfl) (Nat.le_refl _) hroom (fun _ => ⟨by simp, by
                show L.base + off * ie.size + (0 + c0) * ie.size ≤ L.m
                rw [Nat.zero_add]
                rw [Nat.add_mul] at hm
                omega⟩)
        · have H' : HRel w0 F ((id, none) :: h) n ρ RO w := H.forget (fun i o hi => by rw [lookH_cons] at hi; split at hi <;> first | cases hi | exact hi)
          obtain ⟨ρ', w', zv, p1, p2, p3, p4⟩ := grow len A0 c0 olds (fun i c => elem (off + i) c) (fun i c => if i < len then elem (off + i) c else el (i - len) c) _ n H' (by omega) (by omega) q3 q4 q5 hbytes (fun _ _ _ _ => rfl)
          exact ⟨ρ', w', zv, _, p1, p2, p3, rfl, p4⟩
      · cases e'
    · cases e'
  · cases e'

end Go.Eng
