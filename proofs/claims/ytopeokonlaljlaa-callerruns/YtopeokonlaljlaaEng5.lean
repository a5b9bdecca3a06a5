/- The operations are sound, on: literals, slices, numbers. -/
import Derived.Test.YtopeokonlaljlaaEng4
set_option linter.unusedVariables false
set_option linter.unusedSimpArgs false
set_option linter.unusedSectionVars false
namespace Go.Eng
variable [Dr]
open Go.RowKit

variable {P : Program} {w0 w : World} {F : Nat → Prop} {ρ : Nat → Option Loc} {RO : Nat → Prop} {h : Heap} {n : Nat}

theorem fold_sets (off : Nat) : ∀ (l : List Value) (s : Nat) (cs : List Value), (l.zipIdx s).foldl (fun (acc : Array Value) (x : Value × Nat) => acc.setIfInBounds (off + x.2) x.1) cs.toArray = (sets cs (off + s) l).toArray
  | [], s, cs => rfl
  | v :: r, s, cs => by
    rw [List.zipIdx_cons, List.foldl_cons, sets]
    have : (cs.toArray.setIfInBounds (off + s) v) = (cs.set (off + s) v).toArray := by simp
    show List.foldl _ (cs.toArray.setIfInBounds (off + s) v) _ = _
    rw [this, fold_sets off r (s + 1) _, Nat.add_assoc]

theorem fill_rel {place : Nat → Option (Nat × Nat)} : ∀ {parts : List (Nat × AV)} {vps : List (Nat × Value)} {cells r : List AV} {cs : List Value}, VRels ρ RO w cells cs → (∀ x ∈ cs, x.oneCell' = true) → PRel ρ RO w parts vps → fillA place cells parts = some r →
    ∃ rs : List Value, Instr.fill place cs.toArray vps = some rs.toArray ∧ VRels ρ RO w r rs ∧ (∀ x ∈ rs, x.oneCell' = true)
  | [], [], cells, r, cs, hc, ho, hp, e => by simp [fillA] at e; subst e; exact ⟨cs, rfl, hc, ho⟩
  | [], _ :: _, _, _, _, _, _, hp, _ => hp.elim
  | _ :: _, [], _, _, _, _, _, hp, _ => hp.elim
  | (i, a) :: parts, (j, v) :: vps, cells, r, cs, hc, ho, hp, e => by
    obtain ⟨rfl, hv, hp⟩ := hp
    simp only [fillA] at e
    split at e
    · cases e
    · rename_i off size hpl
      split at e
      · rename_i hb
        simp only [Bool.and_eq_true] at hb
        have h1 : (cellsA a).length = size := Nat.eq_of_beq_eq_true hb.1.1
        have h2 : off + size ≤ cells.length := Nat.le_of_ble_eq_true hb.1.2
        have hcl := cells_rel hv
        have hol := cells_one hv hb.2
        have hsz : v.cells.size = size := by rw [← h1, hcl.1]; simp
        have hlen : cs.length = cells.length := hc.1.symm
        obtain ⟨rs, q1, q2⟩ := fill_rel (sets_rel off hc hcl) (sets_one off ho hol) hp e
        refine ⟨rs, ?_, q2⟩
        simp only [Instr.fill, hpl]
        rw [if_neg (by simp [hsz]; omega)]
        have : v.cells.zipIdx.foldl (fun (acc : Array Value) (x : Value × Nat) => acc.setIfInBounds (off + x.2) x.1) cs.toArray = (sets cs off v.cells.toList).toArray := by
          rw [← Array.foldl_toList]
          simpa using fold_sets off v.cells.toList 0 cs
        rw [← this] at q1
        exact q1
      · cases e

theorem constA_plain {v : Value} {a : AV} (e : constA v = some a) : plainA a = true := by
  unfold constA at e
  split at e
  · split at e
    · cases e; rfl
    · cases e
  · unfold constCell at e
    split at e <;> first | (cases e; rfl) | cases e

theorem places_mapM : ∀ {fs : List Field} {ps : List (Nat × Nat)}, placesT P fs = some ps → fs.mapM (fun f => (P.info? f.type).map fun i => (f.offset, i.size)) = some ps
  | [], ps, e => by simp [placesT] at e; subst e; rfl
  | f :: r, ps, e => by
    simp only [placesT] at e
    split at e
    · rename_i k l h1 h2
      cases e
      have := places_mapM h2
      have hi := szT_info h1
      cases hq : P.info? f.type with
      | none => simp [hq] at hi
      | some i =>
        have hs : i.size = k := by simpa [hq] using hi
        simp [List.mapM_cons, hq, this, hs]
    · cases e

theorem build_ok {t : TypeId} {parts : List (Nat × AV)} {vps : Array (Nat × Value)} {av : AV} (hp : PRel ρ RO w parts vps.toList) (e : buildA P t parts = some av) : ∃ u, (Instr.build t vps).run P w = .ok u w ∧ VRel ρ RO w av u := by
  unfold buildA at e
  split at e
  · rename_i z len e' hz hu
    split at e
    · rename_i k hk
      split at e
      · rename_i l hl
        cases e
        unfold zeroT at hz
        split at hz
        · rename_i it hit
          split at hz
          · rename_i zv hzv
            have hc := cells_rel (ρ := ρ) (RO := RO) (w := w) (constA_rel hz)
            obtain ⟨rs, q1, q2, q3⟩ := fill_rel hc (cells_one (ρ := ρ) (RO := RO) (w := w) (constA_rel hz) (constA_plain hz)) hp hl
            refine ⟨.agg rs.toArray, run_build w t vps _ ?_, .agg q2.1 q3 q2.2⟩
            have hi := szT_info hk
            cases hq : P.info? e' with
            | none => simp [hq] at hi
            | some ie =>
              have hs : ie.size = k := by simpa [hq] using hi
              simp only [Program.built, hit, hu, hzv, hq, hs]
              simpa using q1
          · cases hz
        · cases hz
      · cases e
    · cases e
  · rename_i z fs hz hu
    split at e
    · rename_i ps hps
      split at e
      · rename_i l hl
        cases e
        unfold zeroT at hz
        split at hz
        · rename_i it hit
          split at hz
          · rename_i zv hzv
            have hc := cells_rel (ρ := ρ) (RO := RO) (w := w) (constA_rel hz)
            obtain ⟨rs, q1, q2, q3⟩ := fill_rel hc (cells_one (ρ := ρ) (RO := RO) (w := w) (constA_rel hz) (constA_plain hz)) hp hl
            refine ⟨.agg rs.toArray, run_build w t vps _ ?_, .agg q2.1 q3 q2.2⟩
            simp only [Program.built, hit, hu, hzv, places_mapM hps]
            simpa using q1
          · cases hz
        · cases hz
      · cases e
    · cases e
  · cases e

theorem rep_length (z : List AV) : ∀ k, (rep z k).length = k * z.length
  | 0 => by simp [rep]
  | k + 1 => by simp [rep, rep_length z k, Nat.add_mul]; omega

theorem rep_get (z : List AV) (hz : 0 < z.length) : ∀ (k i : Nat), i < k * z.length → (rep z k)[i]? = z[i % z.length]?
  | 0, i, hi => by simp at hi
  | k + 1, i, hi => by
    rw [rep]
    by_cases h1 : i < z.length
    · rw [List.getElem?_append_left h1, Nat.mod_eq_of_lt h1]
    · have hi' : i < k * z.length + z.length := by rw [Nat.add_mul, Nat.one_mul] at hi; exact hi
      rw [List.getElem?_append_right (by omega), rep_get z hz k (i - z.length) (by omega), ← Nat.mod_eq_sub_mod (by omega)]

/-- A new row. -/
theorem row_new {e : TypeId} {sz k : Nat} {cs : List Value} {elem : Nat → Nat → AV} {cells : List AV} (H : HRel w0 F h n ρ RO w) (hr : VRels ρ RO w cells cs) (ho : ∀ x ∈ cs, x.oneCell' = true) (hlen : cells.length = k * sz)
    (he : ∀ i c, i < k → c < sz → elem i c = cells.getD (i * sz + c) .nilp) (hk : cs.length ≤ cs.length) :
    ∃ ρ', Ext ρ RO w ρ' RO (w.alloc (.cells cs.toArray e)) ∧ HRel w0 F ((n, some (.row e sz k elem)) :: h) (n + 1) ρ' RO (w.alloc (.cells cs.toArray e)) ∧
      VRel ρ' RO (w.alloc (.cells cs.toArray e)) (.sl n 0 k k) (.slice (some ⟨w.heap.size, 0, none⟩) k k) := by
  obtain ⟨ext, fin⟩ := H.alloc (.cells cs.toArray e) (.row e sz k elem) sz cs.length
  have hlen' : cs.length = k * sz := by rw [← hr.1, hlen]
  refine ⟨_, ext, fin ⟨rfl, cs.toArray, by rw [heap_alloc_new], by simp, fun i c hi hc => ?_⟩, ?_⟩
  · have hlt : i * sz + c < cells.length := by
      have : (i + 1) * sz ≤ k * sz := Nat.mul_le_mul_right _ hi
      rw [Nat.add_mul, Nat.one_mul] at this
      omega
    obtain ⟨v, e1, e2⟩ := hr.get (List.getElem?_eq_getElem hlt)
    refine ⟨v, by simpa using e1, ho v (List.mem_of_getElem? e1), ?_⟩
    rw [he i c hi hc, List.getD_eq_getElem?_getD, List.getElem?_eq_getElem hlt]
    exact e2.mono ext
  · exact .sl (L := ⟨w.heap.size, 0, sz, cs.length⟩) (if_pos rfl) (Nat.le_refl _) (Nat.le_refl _) (fun _ => ⟨by simp, by simp [hlen']⟩)

theorem buildSlice_ok {t e : TypeId} {s len : Nat} {parts : List (Nat × AV)} {vps : Array (Nat × Value)} {cells : List AV} (H : HRel w0 F h n ρ RO w) (hp : PRel ρ RO w parts vps.toList) (hel : elemT P t = some e) (hs : szT P e = some s)
    (hb : buildSliceA P e s len parts = some cells) :
    ∃ ρ' w' v, Ext ρ RO w ρ' RO w' ∧ HRel w0 F ((n, some (.row e s len fun i k => cells.getD (i * s + k) .nilp)) :: h) (n + 1) ρ' RO w' ∧ (Instr.buildSlice t len vps).run P w = .ok v w' ∧ VRel ρ' RO w' (.sl n 0 len len) v := by
  have hu := elemT_und hel
  unfold buildSliceA at hb
  split at hb
  · rename_i hb1 hb2
    have hb1 : len * s ≤ 16777216 := Nat.le_of_ble_eq_true hb1
    have hb2 : 1 ≤ s := Nat.le_of_ble_eq_true hb2
    have hi := szT_info hs
    cases hq : P.info? e with
    | none => simp [hq] at hi
    | some ie =>
      have hsz : ie.size = s := by simpa [hq] using hi
      split at hb
      · split at hb
        · cases hb
          have : vps = #[] := by
            cases hv : vps.toList with
            | nil => simpa using congrArg List.toArray hv
            | cons a l => rw [hv] at hp; exact hp.elim
          subst this
          obtain ⟨ρ', e1, e2, e3⟩ := row_new (e := e) (sz := s) (k := 0) (elem := fun i k => ([] : List AV).getD (i * s + k) .nilp) H .nil (by simp) (by simp) (fun i c hi => by omega) (Nat.le_refl _)
          refine ⟨ρ', _, _, e1, e2, ?_, e3⟩
          simp [Instr.buildSlice, run_underlying hu, szT_run hs, Instr.fill, newRow, show Array.range 0 = #[] from rfl]
        · cases hb
      · rename_i len _
        split at hb
        · rename_i z hz
          split at hb
          · rename_i hzl
            have hzl : (cellsA z).length = s := Nat.eq_of_beq_eq_true hzl
            unfold zeroT at hz
            rw [hq] at hz
            dsimp only at hz
            split at hz
            · rename_i zv hzv
              have hc := cells_rel (ρ := ρ) (RO := RO) (w := w) (constA_rel hz)
              have hzs : zv.cells.size = s := by rw [← hzl, hc.1]; simp
              have hrep : VRels ρ RO w (rep (cellsA z) (len + 1)) ((List.range ((len + 1) * s)).map (zv.cells[· % zv.cells.size]!)) := by
                refine ⟨by simp [rep_length, hzl], fun i a v ea ev => ?_⟩
                have hlt : i < (len + 1) * s := by have := (List.getElem?_eq_some_iff.1 ev).1; simpa using this
                rw [rep_get _ (by omega) _ _ (by rw [hzl]; exact hlt)] at ea
                simp only [List.getElem?_map, List.getElem?_range hlt, Option.map_some, Option.some.injEq] at ev
                subst ev
                obtain ⟨u, q1, q2⟩ := hc.get ea
                rw [hzl] at q1
                have : zv.cells[i % zv.cells.size]! = u := by
                  rw [hzs]
                  simp only [Array.getElem?_toList] at q1
                  simp [getElem!_def, q1]
                rw [this]; exact q2
              have hrone : ∀ x ∈ (List.range ((len + 1) * s)).map (zv.cells[· % zv.cells.size]!), x.oneCell' = true := by
                intro x hx
                obtain ⟨i, hi, rfl⟩ := List.mem_map.1 hx
                have hmod : i % zv.cells.size < zv.cells.size := Nat.mod_lt _ (by omega)
                refine cells_one (ρ := ρ) (RO := RO) (w := w) (constA_rel hz) (constA_plain hz) _ ?_
                simp [getElem!_def, Array.getElem?_eq_getElem hmod]
              obtain ⟨rs, q1, q2, q3⟩ := fill_rel hrep hrone hp hb
              have hrl : cells.length = (len + 1) * s := by
                have : ∀ {ps : List (Nat × AV)} {c r : List AV} {pl : Nat → Option (Nat × Nat)}, fillA pl c ps = some r → r.length = c.length := by
                  intro ps
                  induction ps with
                  | nil => intro c r pl e; simp [fillA] at e; rw [e]
                  | cons a l ih =>
                    intro c r pl e
                    simp only [fillA] at e
                    split at e
                    · cases e
                    · split at e
                      · rw [ih e, sets_length]
                      · cases e
                rw [this hb, rep_length, hzl]
              obtain ⟨ρ', e1, e2, e3⟩ := row_new (e := e) (sz := s) (k := len + 1) (elem := fun i k => cells.getD (i * s + k) .nilp) H q2 q3 hrl (fun _ _ _ _ => rfl) (Nat.le_refl _)
              refine ⟨ρ', _, _, e1, e2, ?_, e3⟩
              refine run_buildSlice w t e (len + 1) vps rs.toArray ie zv hu hq hzv (by rw [hsz]; exact Nat.not_lt.2 hb1) (by rw [hsz]; intro h0; rw [Nat.mul_eq_zero] at h0; omega) ?_
              rw [hsz, ← q1]
              congr 1
              apply Array.ext'
              simp
            · cases hz
          · cases hb
        · cases hb
  · cases hb

/-! ### Slices of slices and strings -/
theorem bound_rel {env : Env} {a : Act} (he : ERel ρ RO w env a) {d : Int} {x : Option Operand} {l : Int} (e : boundA env d x = some l) : (x = none ∧ l = d) ∨ ∃ y k, x = some y ∧ a.eval y = .int k l := by
  unfold boundA at e
  split at e
  · cases e; exact .inl ⟨rfl, rfl⟩
  · rename_i y
    split at e
    · rename_i v hv
      obtain ⟨k, hk⟩ := intOf_rel (evA_rel he hv) e
      exact .inr ⟨y, k, rfl, hk⟩
    · cases e

theorem sliceBounds_ok {isSlice : Bool} {len cap : Nat} {l u : Int} {lo hi : Option Value} (hlo : (lo = none ∧ l = 0) ∨ ∃ k, lo = some (.int k l)) (hhi : (hi = none ∧ u = (len : Int)) ∨ ∃ k, hi = some (.int k u))
    (h0 : 0 ≤ l) (h1 : l ≤ u) (h2 : u ≤ (cap : Int)) : (Instr.sliceBounds isSlice len cap lo hi none).run P w = .ok (l.toNat, u.toNat, cap) w := by
  have hb : ∀ (x : Value) (k : IntKind) (i : Int) (y : Nat) (code : BoundsCode), x = .int k i → 0 ≤ i → i ≤ (y : Int) → (Instr.sliceBound x y code).run P w = .ok i.toNat w := by
    rintro x k i y code rfl a b
    simp [Instr.sliceBound, asIntOf, a, b]
  unfold Instr.sliceBounds
  have hu' : u.toNat = u := Int.toNat_of_nonneg (by omega)
  rcases hhi with ⟨rfl, rfl⟩ | ⟨k, rfl⟩
  · rcases hlo with ⟨rfl, rfl⟩ | ⟨k', rfl⟩
    · simp
    · simp [hb _ k' l len .sliceB rfl h0 h1]
  · rcases hlo with ⟨rfl, rfl⟩ | ⟨k', rfl⟩
    · cases isSlice <;> simp [hb _ k u cap _ rfl (by omega) h2]
    · cases isSlice <;> simp [hb _ k u cap _ rfl (by omega) h2, hb _ k' l u.toNat .sliceB rfl h0 (by omega)]

theorem bound_vals {env : Env} {a : Act} (he : ERel ρ RO w env a) {d : Int} {x : Option Operand} {l : Int} (e : boundA env d x = some l) : (x.map a.eval = none ∧ l = d) ∨ ∃ k, x.map a.eval = some (.int k l) := by
  rcases bound_rel he e with ⟨rfl, rfl⟩ | ⟨y, k, rfl, hk⟩
  · exact .inl ⟨rfl, rfl⟩
  · exact .inr ⟨k, by simp [hk]⟩

theorem slice_ok {env : Env} {a : Act} {t : TypeId} {x : AV} {v : Value} {lo hi : Option Operand} {g : Got} (H : HRel w0 F h n ρ RO w) (he : ERel ρ RO w env a) (hx : VRel ρ RO w x v) (e : sliceA P env h n t x lo hi = some g) (hc : ∀ c ∈ g.conds, c.1 = c.2) :
    ∃ z av, (Instr.sliceAt t v (lo.map a.eval) (hi.map a.eval) none).run P w = .ok z w ∧ g.val = some av ∧ g.heap = h ∧ g.next = n ∧ VRel ρ RO w av z := by
  unfold sliceA at e
  split at e
  · rename_i s
    cases hx
    split at e
    · rename_i l u hu hl hr
      cases e
      have hbd : 0 ≤ l ∧ l ≤ u ∧ u ≤ (s.size : Int) := by simpa using hc (decide (0 ≤ l ∧ l ≤ u ∧ u ≤ (s.size : Int)), true) (by simp)
      refine ⟨.string (s.extract l.toNat u.toNat), _, ?_, rfl, rfl, rfl, .str _⟩
      have hsb := sliceBounds_ok (P := P) (w := w) (isSlice := false) (len := s.size) (cap := s.size) (bound_vals he hl) (bound_vals he hr) hbd.1 hbd.2.1 hbd.2.2
      simp [Instr.sliceAt, run_underlying hu, Instr.slice, hsb]
    · cases e
  · rename_i id off len cap
    split at e
    · rename_i e' l u hel hl hr
      have hu := elemT_und hel
      split at e
      · rename_i s sz m hs hkn
        split at e
        · rename_i hb
          cases e
          have hb : s = sz := Nat.eq_of_beq_eq_true hb
          subst hb
          have hbd : 0 ≤ l ∧ l ≤ u ∧ u ≤ (cap : Int) := by simpa using hc (decide (0 ≤ l ∧ l ≤ u ∧ u ≤ (cap : Int)), true) (by simp)
          cases hx with
          | @sl id off len cap c L A hL hll hcap hA =>
          have hsz : L.sz = s := by
            unfold knownA at hkn
            split at hkn
            · rename_i ty sz' k' el hlk
              cases hkn
              exact (H.row hlk hL).1
            · cases hkn
          have hsb := sliceBounds_ok (P := P) (w := w) (isSlice := true) (len := len) (cap := c) (bound_vals he hl) (bound_vals he hr) hbd.1 hbd.2.1 (by omega)
          refine ⟨.slice (if c = l.toNat then A else A.map (·.add (l.toNat * s))) (u.toNat - l.toNat) (c - l.toNat), _, ?_, rfl, rfl, rfl, ?_⟩
          · simp [Instr.sliceAt, run_underlying hu, Instr.slice, hsb, szT_run hs]
          · refine .sl hL (by omega) (by omega) (fun hne => ?_)
            rw [if_neg (by omega)]
            obtain ⟨rfl, hm⟩ := hA (by omega)
            refine ⟨?_, ?_⟩
            · simp [Addr.add_lit, hsz, Nat.add_mul, Nat.add_assoc]
            · rw [show off + l.toNat + (c - l.toNat) = off + c by omega]; exact hm
        · cases e
      · cases e
    · cases e
  · rename_i sz len elem
    split at e
    · rename_i e' l u hel hl hr
      have hu := elemT_und hel
      split at e
      · rename_i s hs
        split at e
        · rename_i hb
          cases e
          have hb : s = sz := Nat.eq_of_beq_eq_true hb
          subst hb
          have hbd : 0 ≤ l ∧ l ≤ u ∧ u ≤ (len : Int) := by simpa using hc (decide (0 ≤ l ∧ l ≤ u ∧ u ≤ (len : Int)), true) (by simp)
          cases hx with
          | @dsl sz n' c elem A hn vs hA hone hfl hv =>
          have hsb := sliceBounds_ok (P := P) (w := w) (isSlice := true) (len := len) (cap := c) (bound_vals he hl) (bound_vals he hr) hbd.1 hbd.2.1 (by omega)
          refine ⟨.slice (if c = l.toNat then A else A.map (·.add (l.toNat * s))) (u.toNat - l.toNat) (c - l.toNat), _, ?_, rfl, rfl, rfl, ?_⟩
          · simp [Instr.sliceAt, run_underlying hu, Instr.slice, hsb, szT_run hs]
          · refine .dsl (by omega) (fun i k => vs (l.toNat + i) k) (fun hne => ?_) (fun i k hi hk => hone _ _ (by omega) hk) (fun i k hi hk => hfl _ _ (by omega) hk) (fun i k hi hk => hv _ _ (by omega) hk)
            obtain ⟨blk, o, rfl, hro, hcl⟩ := hA (by omega)
            rw [if_neg (by omega)]
            refine ⟨blk, o + l.toNat * s, by simp [Addr.add_lit], hro, fun i k hi hk => ?_⟩
            rw [show o + l.toNat * s + (i * s + k) = o + ((l.toNat + i) * s + k) by rw [Nat.add_mul]; omega]
            exact hcl _ _ (by omega) hk
        · cases e
      · cases e
    · cases e
  · split at e
    · rename_i e' l u hel hl hr
      have hu := elemT_und hel
      split at e
      · rename_i s hs
        cases e
        have hbd : l = 0 ∧ u = 0 := by simpa using hc (decide (l = 0 ∧ u = 0), true) (by simp)
        cases hx
        have hsb := sliceBounds_ok (P := P) (w := w) (isSlice := true) (len := 0) (cap := 0) (bound_vals he hl) (bound_vals he hr) (by omega) (by omega) (by omega)
        refine ⟨.slice none 0 0, _, ?_, rfl, rfl, rfl, .nils⟩
        simp [Instr.sliceAt, run_underlying hu, Instr.slice, hsb, szT_run hs, hbd.1, hbd.2]
      · cases e
    · cases e
  · cases e

end Go.Eng
