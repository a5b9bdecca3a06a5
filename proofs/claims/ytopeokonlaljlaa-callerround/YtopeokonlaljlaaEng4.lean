/- The operations are sound, on: stores, new objects, addresses, slices. -/
import Derived.Test.YtopeokonlaljlaaEng3
set_option linter.unusedVariables false
set_option linter.unusedSimpArgs false
set_option linter.unusedSectionVars false
namespace Go.Eng
variable [Dr]
open Go.RowKit

variable {P : Program} {w0 w : World} {F : Nat → Prop} {ρ : Nat → Option Loc} {RO : Nat → Prop} {h : Heap} {n : Nat}

theorem sets_one : ∀ {l : List Value} {vs : List Value} (o : Nat), (∀ x ∈ vs, x.oneCell' = true) → (∀ x ∈ l, x.oneCell' = true) → ∀ x ∈ sets vs o l, x.oneCell' = true
  | [], vs, o, h1, _ => h1
  | v :: r, vs, o, h1, h2 => sets_one (o + 1) (fun x hx => by
      rcases List.mem_or_eq_of_mem_set hx with hx | rfl
      · exact h1 x hx
      · exact h2 x (by simp)) (fun x hx => h2 x (by simp [hx]))

theorem storeAt_eq (t : TypeId) (a : Addr) (v : Value) (w : World) : (Instr.storeAt t (.pointer (some a)) v).run P w = (storeVar t a v).run P w := by
  simp [Instr.storeAt, Instr.sureAddr]

theorem sto_ok {t : TypeId} {x y : AV} {v u : Value} {g : Got} (H : HRel w0 F h n ρ RO w) (hx : VRel ρ RO w x v) (hy : VRel ρ RO w y u) (e : stoA P h n t x y = some g) (hc : ∀ c ∈ g.conds, c.1 = c.2) :
    ∃ w', (Instr.storeAt t v u).run P w = .ok () w' ∧ g.val = none ∧ Ext ρ RO w ρ RO w' ∧ HRel w0 F g.heap g.next ρ RO w' := by
  unfold stoA at e
  split at e
  · rename_i s hs hone
    have hcells := cells_rel hy
    have hone1 := cells_one hy hone
    split at e
    · rename_i hlen
      have hlen : (cellsA y).length = s := Nat.eq_of_beq_eq_true hlen
      have hsz : u.cells.size = s := by rw [← hlen, hcells.1]; simp
      split at e
      · rename_i id idx off
        cases hx with
        | @ptr id idx off L hL =>
        split at e
        · rename_i ty cells hlk
          split at e
          · rename_i hb
            cases e
            have hb : off + s ≤ cells.length := Nat.le_of_ble_eq_true hb
            obtain ⟨g1, g2, g3, cs, g4, g6, g5⟩ := H.box hlk hL
            have hoff : L.base + (0 * L.sz + off) = off := by rw [g1]; omega
            have hst := store_var (P := P) (w := w) (b := L.blk) (o := off) hs hsz (there_block g4 (by simp [← g5.1]; exact hb)) hone1
            obtain ⟨a1, a2, a3, a4, a5, a6, a7⟩ := heap_setCells L.blk ty (0, 0) u.cells.toList off w cs g4
            obtain ⟨ext, fin⟩ := H.turn hlk hL not_ghost_box a3 a4 a5 a7 a6 a2
            exact ⟨_, (storeAt_eq _ _ _ _).trans (by rw [hoff]; exact hst), rfl, ext, fin _ ⟨g1, by rw [sets_length]; exact g2, by rw [sets_length]; exact g3, _, a1, sets_one off g6 hone1, (sets_rel off g5 hcells).mono ext⟩⟩
          · cases e
        · rename_i ty sz m elem hlk
          split at e
          · rename_i hb
            cases e
            have hb : off + s ≤ sz := Nat.le_of_ble_eq_true hb
            have hi : idx < m := by simpa using hc (decide (idx < m), true) (by simp)
            obtain ⟨g1, cs, g3, g4, g5⟩ := (H.row hlk hL).2 (by omega)
            obtain ⟨csl, rfl⟩ : ∃ l : List Value, cs = l.toArray := ⟨cs.toList, by simp⟩
            have hin : ∀ k, k < sz → L.base + (idx * sz + k) < csl.length := by
              intro k hk
              obtain ⟨v, e1, _, _⟩ := g5 idx k hi hk
              have := (Array.getElem?_eq_some_iff.1 e1).1
              simpa using this
            have hst : (storeVar t ⟨L.blk, L.base + (idx * sz + off), none⟩ u).run P w = .ok () (w.setCells L.blk (L.base + (idx * sz + off)) u.cells.toList) := by
              by_cases h0 : s = 0
              · refine store_var hs hsz (fun j hj => by omega) hone1
              · refine store_var hs hsz (there_block g3 ?_) hone1
                have := hin (off + s - 1) (by omega)
                simp; omega
            obtain ⟨a1, a2, a3, a4, a5, a6, a7⟩ := heap_setCells L.blk ty (0, 0) u.cells.toList (L.base + (idx * sz + off)) w csl g3
            obtain ⟨ext, fin⟩ := H.turn hlk hL (not_ghost_row (by omega)) a3 a4 a5 a7 a6 a2
            refine ⟨_, (storeAt_eq _ _ _ _).trans (by rw [g1]; exact hst), rfl, ext, fin _ ⟨g1, _, a1, by simp [sets_length]; simpa using g4, ?_⟩⟩
            intro i k hi' hk
            simp only [List.getElem?_toArray]
            have hul : u.cells.toList.length = s := by simpa using hsz
            by_cases hh : i = idx ∧ off ≤ k ∧ k < off + s
            · rw [if_pos hh]
              obtain ⟨rfl, k1, k2⟩ := hh
              have hlt : k - off < (cellsA y).length := by omega
              obtain ⟨z, z1, z2⟩ := hcells.get (List.getElem?_eq_getElem hlt)
              refine ⟨z, ?_, hone1 z (List.mem_of_getElem? z1), ?_⟩
              · rw [sets_get, if_pos ⟨by omega, by rw [hul]; omega, hin k hk⟩, show L.base + (i * sz + k) - (L.base + (i * sz + off)) = k - off by omega]
                exact z1
              · have : (cellsA y).getD (k - off) .nilp = (cellsA y)[k - off] := by simp [List.getD, List.getElem?_eq_getElem hlt]
                rw [this]; exact z2.mono ext
            · rw [if_neg hh]
              obtain ⟨z, z1, z3, z2⟩ := g5 i k hi' hk
              refine ⟨z, ?_, z3, z2.mono ext⟩
              rw [sets_get, if_neg]
              · simpa using z1
              · rintro ⟨q1, q2, _⟩
                rw [hul] at q2
                apply hh
                have e1 : i = idx := by
                  rcases Nat.lt_trichotomy i idx with hlt | heq | hgt
                  · have : (i + 1) * sz ≤ idx * sz := Nat.mul_le_mul_right _ hlt
                    rw [Nat.add_mul, Nat.one_mul] at this
                    omega
                  · exact heq
                  · have : (idx + 1) * sz ≤ i * sz := Nat.mul_le_mul_right _ hgt
                    rw [Nat.add_mul, Nat.one_mul] at this
                    omega
                subst e1
                exact ⟨rfl, by omega, by omega⟩
          · cases e
        · cases e
      · cases e
    · cases e
  · cases e

/-! ### New objects -/
theorem box_ok {t : TypeId} {x : AV} {v : Value} {g : Got} (H : HRel w0 F h n ρ RO w) (hx : VRel ρ RO w x v) (e : boxA h n t x = some g) :
    ∃ ρ' w', Ext ρ RO w ρ' RO w' ∧ HRel w0 F g.heap g.next ρ' RO w' ∧ (newVar t v).run P w = .ok ⟨w.heap.size, 0, none⟩ w' ∧
      ∃ av, g.val = some av ∧ VRel ρ' RO w' av (.pointer (some ⟨w.heap.size, 0, none⟩)) := by
  unfold boxA at e
  split at e
  case h_2 => cases e
  rename_i hpl
  cases e
  have hc := cells_rel hx
  obtain ⟨ext, fin⟩ := H.alloc (.cells v.cells t) (.box t (cellsA x)) (cellsA x).length (cellsA x).length
  refine ⟨_, _, ext, fin ⟨rfl, rfl, rfl, v.cells.toList, by rw [heap_alloc_new], cells_one hx hpl, hc.mono ext⟩, ?_, _, rfl, ?_⟩
  · simp [newVar, newRow]
  · have := VRel.ptr (ρ := fun id => if id = n then some (⟨w.heap.size, 0, (cellsA x).length, (cellsA x).length⟩ : Loc) else ρ id) (RO := RO) (w := w.alloc (.cells v.cells t)) (id := n) (idx := 0) (off := 0) (L := ⟨w.heap.size, 0, (cellsA x).length, (cellsA x).length⟩) (if_pos rfl)
    simpa using this

theorem zeroT_run {t : TypeId} {z : AV} (e : zeroT P t = some z) (w : World) : ∃ v, (zeroValue t).run P w = .ok v w ∧ VRel ρ RO w z v := by
  unfold zeroT at e
  split at e
  · rename_i i hi
    split at e
    · rename_i v hv
      exact ⟨v, by simp [zeroValue, typeInfo, hi, hv], constA_rel e⟩
    · cases e
  · cases e

/-! ### Addresses -/
theorem fieldT_und {s : TypeId} {f : Nat} {fd : Field} (e : fieldT P s f = some fd) : ∃ fs, P.underlying s = some (.struct fs) ∧ fs[f]? = some fd := by
  unfold fieldT at e
  split at e
  · rename_i fs hu; exact ⟨fs, hu, e⟩
  · cases e

theorem fld_ok {s : TypeId} {x : AV} {v : Value} {f : Nat} {av : AV} (hx : VRel ρ RO w x v) (e : fldA P s x f = some av) : ∃ u, (Instr.fieldAt s v f).run P w = .ok u w ∧ VRel ρ RO w av u := by
  unfold fldA at e
  split at e
  · rename_i fd hfd
    obtain ⟨fs, hu, hf⟩ := fieldT_und hfd
    split at e
    · rename_i k hk
      have hplace : ∀ a : Addr, (fieldPlace a fd).run P w = .ok (a.add fd.offset) w := by
        intro a
        simp [fieldPlace, szT_run hk]
      split at e
      · rename_i id idx off
        cases e
        cases hx with
        | @ptr id idx off L hL =>
        refine ⟨.pointer (some ⟨L.blk, L.base + (idx * L.sz + (off + fd.offset)), none⟩), ?_, .ptr hL⟩
        simp [Instr.fieldAt, run_underlying hu, hf, Instr.sureAddr, hplace, Addr.add_lit, Nat.add_assoc]
      · rename_i sz cell
        split at e
        · rename_i hb
          cases e
          have hb : fd.offset ≤ sz := Nat.le_of_ble_eq_true hb
          cases hx with
          | @dptr sz cell blk o vs hr hcl hone hfl hv =>
          refine ⟨.pointer (some ⟨blk, o + fd.offset, none⟩), ?_, .dptr (fun k => vs (fd.offset + k)) hr (fun k hk => ?_) (fun k hk => hone _ (by omega)) (fun k hk => hfl _ (by omega)) (fun k hk => hv _ (by omega))⟩
          · simp [Instr.fieldAt, run_underlying hu, hf, Instr.sureAddr, hplace, Addr.add_lit]
          · rw [Nat.add_assoc]; exact hcl _ (by omega)
        · cases e
      · cases e
    · cases e
  · cases e

theorem elemT_und {t e : TypeId} (hq : elemT P t = some e) : P.underlying t = some (.slice e) := by
  unfold elemT at hq
  split at hq
  · rename_i e' hu; cases hq; exact hu
  · cases hq

theorem intOf_rel {x : AV} {v : Value} {j : Int} (hx : VRel ρ RO w x v) (e : intOfA x = some j) : ∃ k, v = .int k j := by
  unfold intOfA at e
  split at e
  · cases e; cases hx; exact ⟨_, rfl⟩
  · cases e

theorem idx_ok {t : TypeId} {x i : AV} {v u : Value} {g : Got} (H : HRel w0 F h n ρ RO w) (hx : VRel ρ RO w x v) (hi : VRel ρ RO w i u) (e : idxA P h n t x i = some g) (hc : ∀ c ∈ g.conds, c.1 = c.2) :
    ∃ z av, (Instr.indexAt t v u).run P w = .ok z w ∧ g.val = some av ∧ g.heap = h ∧ g.next = n ∧ VRel ρ RO w av z := by
  unfold idxA at e
  split at e
  · rename_i e' j hel hj
    obtain ⟨k, rfl⟩ := intOf_rel hi hj
    have hu := elemT_und hel
    split at e
    · rename_i s id off len cap hs
      split at e
      · rename_i sz m hkn
        split at e
        · rename_i hb h1
          cases e
          have hb : s = sz := Nat.eq_of_beq_eq_true hb
          subst hb
          have h1 : 1 ≤ s := Nat.le_of_ble_eq_true h1
          have hbd : 0 ≤ j ∧ j < (len : Int) := by simpa using hc (decide (0 ≤ j ∧ j < (len : Int)), true) (by simp)
          cases hx with
          | @sl id off len cap c L A hL hl hcap hA =>
          have hc0 : c ≠ 0 := by omega
          obtain ⟨rfl, hm⟩ := hA hc0
          have hsz : L.sz = s := by
            unfold knownA at hkn
            split at hkn
            · rename_i ty sz' k' el hlk
              cases hkn
              exact (H.row hlk hL).1
            · cases hkn
          refine ⟨.pointer (some ⟨L.blk, L.base + ((off + j.toNat) * L.sz + 0), none⟩), _, ?_, rfl, rfl, rfl, .ptr hL⟩
          simp [Instr.indexAt, run_underlying hu, asIntOf, hbd, szT_run hs, Addr.add_lit, hsz]
          rw [Nat.add_mul]; omega
        · cases e
      · cases e
    · rename_i s sz len elem hs
      split at e
      · rename_i hb h1
        cases e
        have hb : s = sz := Nat.eq_of_beq_eq_true hb
        subst hb
        have hbd : 0 ≤ j ∧ j < (len : Int) := by simpa using hc (decide (0 ≤ j ∧ j < (len : Int)), true) (by simp)
        cases hx with
        | @dsl sz n' c elem A hn vs hA hone hfl hv =>
        obtain ⟨blk, o, rfl, hr, hcl⟩ := hA (by omega)
        have hj : j.toNat < len := by omega
        refine ⟨.pointer (some ⟨blk, o + j.toNat * s, none⟩), _, ?_, rfl, rfl, rfl, .dptr (fun k => vs j.toNat k) hr (fun k hk => ?_) (fun k hk => hone _ _ hj hk) (fun k hk => hfl _ _ hj hk) (fun k hk => hv _ _ hj hk)⟩
        · simp [Instr.indexAt, run_underlying hu, asIntOf, hbd, szT_run hs, Addr.add_lit]
        · rw [Nat.add_assoc]; exact hcl _ _ hj hk
      · cases e
    · cases e
  · cases e

end Go.Eng
