/- The statement NodeAlone is proved: the call returns true for every input. No conditions. -/
import Derived.Test.YtaooefnmdlajcaaA3
import Derived.WalkKit
import Derived.ProofKit
import Derived.OpenShut
import Derived.ShutString
import Derived.ChangeOld
import Derived.Below
import Derived.SizedLaws
import Derived.Test.YtaooefnmdlajcaaRows
set_option linter.unusedVariables false
set_option linter.unusedSimpArgs false
set_option linter.unusedSectionVars false
section
set_option linter.unusedVariables false
set_option linter.unusedSimpArgs false
namespace Go.Proofs.Ytaooefnmdlajcaa
open Go Go.Eng
structure MsgA (x : GNode) (m : GMsg) : Prop where
  right : RightM m
  src : m.src = x.id
  to : m.to ≤ x.n - 1
  view : m.view = x.view
structure RA (a : GActor) : Prop where
  node : RightN a.state
  told : ∀ m ∈ a.told, MsgA a.state m
structure Grows (x y : GNode) : Prop where
  id : y.id = x.id
  n : y.n = x.n
  view : x.view ≤ y.view
  last : x.last ≤ y.last
theorem Grows.refl (x : GNode) : Grows x x := ⟨rfl, rfl, Int.le_refl _, Int.le_refl _⟩
theorem Grows.trans {x y z : GNode} (h : Grows x y) (g : Grows y z) : Grows x z := ⟨g.id.trans h.id, g.n.trans h.n, Int.le_trans h.view g.view, Int.le_trans h.last g.last⟩
end Go.Proofs.Ytaooefnmdlajcaa

end
section
set_option linter.unusedVariables false
set_option linter.unusedSimpArgs false
namespace Go.Proofs.Ytaooefnmdlajcaa
open Go Go.Eng
theorem RightN.ra {x : GNode} (h : RightN x) : RA ⟨x, []⟩ := ⟨h, by simp⟩
end Go.Proofs.Ytaooefnmdlajcaa

end
section
set_option linter.unusedVariables false
set_option linter.unusedSimpArgs false
namespace Go.Proofs.Ytaooefnmdlajcaa
open Go Go.Eng
end Go.Proofs.Ytaooefnmdlajcaa

end
section
set_option linter.unusedVariables false
set_option linter.unusedSimpArgs false
namespace Go.Proofs.Ytaooefnmdlajcaa
open Go Go.Eng
theorem f34_self {k : Nat} {l : List ByteArray} (hk : l.length < k) (hl : l.length ≤ 1000) : f34 k l l = some true := f34_same hk hl
def aloneS (l : List ByteArray) (late : Nat) (i : Nat) : S9_0 :=
  S9_0.mk l (late : Int) (i : Int) 0 1 ((min i late : Nat) : Int) ((min i late : Nat) : Int) 0 ((l.take i).length : Int) (l.take i) [((l.take i).length : Int)] 0 []
theorem alone_loop {k : Nat} (hk : 41 ≤ k) {l : List ByteArray} {late : Nat} (h1 : l.length ≤ 40) (h2 : late ≤ 40) :
    ∃ e, l9_0 k (aloneS l late 0) = some e ∧ (((∃ i, i < max l.length late ∧ ¬ (i < l.length → (l.getD i default).size ≤ 45)) ∧ ∃ c, e = .inl c ∧ c.x4 = true) ∨
      ((∀ i, i < max l.length late → i < l.length → (l.getD i default).size ≤ 45) ∧ ∃ c, e = .inr c ∧ c.x1 = late ∧ c.h0_2 = late ∧ c.x0 = l ∧ c.h0_6 = l)) := by
  have mk : ∀ v (rows : List ByteArray), GNode.mk 0 1 v v 0 (rows.length : Int) rows [(rows.length : Int)] 0 [] = aloneN v rows := fun _ _ => rfl
  have rows45 : ∀ i, (∀ j, j < i → j < l.length → (l.getD j default).size ≤ 45) → ∀ r ∈ l.take i, r.size ≤ 45 := by
    intro i hg r hr
    obtain ⟨j, hj, hjl, rfl⟩ := mem_take hr
    exact hg j hj hjl
  have late1 : ∀ i, i < late → (∀ j, j < i → j < l.length → (l.getD j default).size ≤ 45) → f32 k (aloneN ((min i late : Nat) : Int) (l.take i)) = some (aloneN ((min (i + 1) late : Nat) : Int) (l.take i), [], 0) := by
    intro i hi hg
    rw [late_alone hk (by omega) (by simp; omega) (rows45 i hg)]
    rw [show (((min i late : Nat) : Int) + 1) = ((min (i + 1) late : Nat) : Int) by omega]
  have ask1 : ∀ i (u : Nat), u ≤ 40 → i < l.length → (∀ j, j ≤ i → j < l.length → (l.getD j default).size ≤ 45) → f33 k (aloneN (u : Int) (l.take i)) (l.getD i default) = some (aloneN (u : Int) (l.take (i + 1)), [], 0) := by
    intro i u hu hi hg
    rw [ask_alone hk (by omega) (by simp; omega) (rows45 i fun j hj => hg j (by omega)) (hg i (Nat.le_refl i) hi), ← take_next hi]
  obtain ⟨e, he, hc⟩ := iter_cases (stp := pS9_0 k) (aloneS l late) (max l.length late) (fun i => i < l.length → (l.getD i default).size ≤ 45)
    (Qb := fun e => ∃ c, e = .inl c ∧ c.x4 = true) (Qe := fun e => ∃ c, e = .inr c ∧ c.x1 = late ∧ c.h0_2 = late ∧ c.x0 = l ∧ c.h0_6 = l)
    (by
      intro i hi hg
      have hlt : (l.take i).length = min i l.length := List.length_take
      unfold pS9_0 aloneS
      dsimp only
      rw [mk]
      by_cases hil : i < l.length
      · have hsz := hg i (Nat.le_refl i) hil
        have hlt1 : (l.take (i + 1)).length = i + 1 := by rw [List.length_take]; omega
        have hin : decide ((0 : Int) ≤ (i : Int) ∧ (i : Int) < ((l.take (i + 1)).length : Int)) = true := decide_eq_true (by omega)
        have tl : (!((l.take (i + 1)).getD i default).toList == (l.getD i default).toList) = false := by
          have : (l.take (i + 1)).getD i default = l.getD i default := by
            rw [List.getD_eq_getElem?_getD, List.getD_eq_getElem?_getD, List.getElem?_take_of_lt (by omega)]
          rw [this]; simp
        rw [br_t (lt_len hil)]
        by_cases hiv : i < late
        · have hL := late1 i hiv (fun j hj => hg j (by omega))
          have hA := ask1 i (min (i + 1) late) (by omega) hil hg
          rw [br_t (decide_eq_true (by omega)), hL, bindO_some]
          dsimp only [aloneN]
          rw [br_f (by rfl), br_f (by rfl), br_f (by rfl), br_f (by rw [wrap_next (by omega) (by omega), bne_eq_false_iff_eq]; omega), br_f (by simp), br_t (lt_len hil), br_t (in_len hil)]
          simp only [Int.toNat_natCast]
          rw [br_f (decide_eq_false (by omega)), br_t (in_len hil), mk, hA, bindO_some]
          dsimp only [aloneN]
          rw [br_f (by rfl), br_f (by rfl), br_f (by rw [wrap_next (by omega) (by omega), bne_eq_false_iff_eq]; omega), br_f (by rw [wrap_next (by omega) (by omega), bne_eq_false_iff_eq]; omega), br_t (by exact hin), br_t (in_len hil), br_f tl, next_ok (by omega)]
        · have hA := ask1 i (min i late) (by omega) hil hg
          rw [br_f (decide_eq_false (by omega)), br_t (lt_len hil), br_t (in_len hil)]
          simp only [Int.toNat_natCast]
          rw [br_f (decide_eq_false (by omega)), br_t (in_len hil), hA, bindO_some]
          dsimp only [aloneN]
          rw [br_f (by rfl), br_f (by rfl), br_f (by rw [wrap_next (by omega) (by omega), bne_eq_false_iff_eq]; omega), br_f (by rw [wrap_next (by omega) (by omega), bne_eq_false_iff_eq]; omega), br_t (by exact hin), br_t (in_len hil), br_f tl, next_ok (by omega),
            show ((min i late : Nat) : Int) = ((min (i + 1) late : Nat) : Int) by omega]
      · have hiv : i < late := by omega
        have hL := late1 i hiv (fun j hj => hg j (by omega))
        have htk : l.take (i + 1) = l.take i := by rw [List.take_of_length_le (by omega), List.take_of_length_le (by omega)]
        rw [br_f (decide_eq_false (by omega)), br_t (decide_eq_true (by omega)), br_t (decide_eq_true (by omega)), hL, bindO_some]
        dsimp only [aloneN]
        rw [br_f (by rfl), br_f (by rfl), br_f (by rfl), br_f (by rw [wrap_next (by omega) (by omega), bne_eq_false_iff_eq]; omega), br_f (by simp), br_f (decide_eq_false (by omega)), next_ok (by omega), htk])
    (by
      intro i hi hg hb
      have hil : i < l.length := Classical.byContradiction fun q => hb fun h => absurd h q
      have hsz : ¬ (l.getD i default).size ≤ 45 := fun q => hb fun _ => q
      unfold pS9_0 aloneS
      dsimp only
      rw [mk, br_t (lt_len hil)]
      by_cases hiv : i < late
      · have hL := late1 i hiv hg
        rw [br_t (decide_eq_true (by omega)), hL, bindO_some]
        dsimp only [aloneN]
        rw [br_f (by rfl), br_f (by rfl), br_f (by rfl), br_f (by rw [wrap_next (by omega) (by omega), bne_eq_false_iff_eq]; omega), br_f (by simp), br_t (lt_len hil), br_t (in_len hil)]
        simp only [Int.toNat_natCast]
        rw [br_t (decide_eq_true (by omega))]
        exact ⟨_, rfl, _, rfl, rfl⟩
      · rw [br_f (decide_eq_false (by omega)), br_t (lt_len hil), br_t (in_len hil)]
        simp only [Int.toNat_natCast]
        rw [br_t (decide_eq_true (by omega))]
        exact ⟨_, rfl, _, rfl, rfl⟩)
    (by
      intro hg
      unfold pS9_0 aloneS
      dsimp only
      rw [br_f (decide_eq_false (by omega)), br_f (decide_eq_false (by omega))]
      exact ⟨_, rfl, _, rfl, rfl, by dsimp only; omega, rfl, List.take_of_length_le (by omega)⟩) k (by omega)
  exact ⟨e, he, hc⟩
theorem alone_true {k : Nat} (hk : 41 ≤ k) (l : List ByteArray) (late : Int) : f9 k l late = some true := by
  unfold f9
  rw [new_alone, bindO_some]
  dsimp only
  rw [br_f (by rfl)]
  by_cases h1 : (l.length : Int) > 40
  · rw [br_t (decide_eq_true h1)]
  rw [br_f (decide_eq_false h1)]
  by_cases h2 : late < 0
  · rw [br_t (decide_eq_true h2)]
  rw [br_f (decide_eq_false h2)]
  by_cases h3 : late > 40
  · rw [br_t (decide_eq_true h3)]
  rw [br_f (decide_eq_false h3)]
  obtain ⟨u, rfl⟩ : ∃ u : Nat, late = u := ⟨late.toNat, by omega⟩
  obtain ⟨e, he, hc⟩ := alone_loop hk (l := l) (late := u) (by omega) (by omega)
  have h0 : aloneS l u 0 = S9_0.mk l (u : Int) 0 (aloneN 0 []).id (aloneN 0 []).n (aloneN 0 []).view (aloneN 0 []).last (aloneN 0 []).phase (aloneN 0 []).commit (aloneN 0 []).rows (aloneN 0 []).far (aloneN 0 []).starts (aloneN 0 []).votes := by
    unfold aloneS
    rw [show min 0 u = 0 by omega]
    rfl
  rw [h0] at he
  rw [he, bindO_some]
  rcases hc with ⟨_, c, rfl, hx⟩ | ⟨_, c, rfl, x1, x2, x3, x4⟩
  · dsimp only; rw [hx]
  · dsimp only
    rw [x1, x2, x3, x4, br_t (by simp), f34_self (by omega) (by omega), bindO_some]
theorem alone_all (l : List ByteArray) (late : Int) : ∃ k, f9 k l late = some true := ⟨41, alone_true (Nat.le_refl _) l late⟩
theorem nodeAlone_true (x0 : List ByteArray) (x1 : Int) (g0 : x0.length ≤ maxLen ∧ ∀ x1 ∈ x0, x1.size ≤ maxLen) (g1 : (Lit.int .i64 x1).wf = true) : ∃ k, f9 k x0 x1 = some true := alone_all x0 x1
end Go.Proofs.Ytaooefnmdlajcaa

end
section
set_option linter.unusedVariables false
namespace Go.Proofs.Ytaooefnmdlajcaa.nodeAlone
open Go.Eng Go.Proofs.Ytaooefnmdlajcaa
open Go.ChangeShapes Go.WideShapes Go.ChangeAt Go.RowKit
open Go.ChangeMaps (open_string shut_string)
theorem own : ownKnob Try.prog.godebug = none := by kernel_rfl
theorem laidOut : laidOutB Try.prog = true := by kernel_rfl
theorem rd9 {H : Type} {enc : TypeId × Value → H} {W : World} : RdL enc Try.prog W (fun x : ByteArray => [.str x]) 9 (fun x => x.size ≤ maxLen) := RdL.str Try.underlying9
theorem rd39 {H : Type} {enc : TypeId × Value → H} {W : World} : RdL enc Try.prog W (fun x : List ByteArray => [.dsl 9 x]) 39 (fun x => x.length ≤ maxLen ∧ ∀ x0 ∈ x, x0.size ≤ maxLen) := RdL.slice Try.underlying39 (by kernel_rfl) (RdL.iso rd9 (fun x => x) (fun _ => rfl) (fun _ h => h))
theorem rd3 {H : Type} {enc : TypeId × Value → H} {W : World} : RdL enc Try.prog W (fun x : Int => [.int .i64 x]) 3 (fun x => (Lit.int .i64 x).wf = true) := RdL.int Try.underlying3
set_option maxRecDepth 100000 in
theorem lifted (os : Os) (started : os.Started) (H : Type) (enc : TypeId × Value → H) :
    ReturnsInHanded {} Try.checked os 9 .any (Rows.nodeAloneSpec.pre6 enc Try.prog Try.f9 Rows.nodeAloneRow.domain false) (Rows.nodeAloneSpec.post enc Try.prog Try.f9 false true false false) := by
  refine returnsInHanded_of_change_sized (C := Try.checked) own started (by kernel_rfl) Try.func9
    (ChangeSpec.witness6 (enc := enc) (C := Try.checked) false ⟨#[], #[.slice none 0 0, .int .i64 0], []⟩ 8 (by kernel_rfl) (by kernel_rfl) (by kernel_rfl) (by kernel_rfl)) ?_
  intro W base args ds gs before hval0 hW hcnd hsz0 _
  have hval : ∀ (j : Nat) t v, Try.f9.params[j]? = some t → args[j]? = some v → Value.okWide Try.prog W .any base t v := hval0
  have hW' := hW
  obtain ⟨p, q, hA0, hV, rfl, hfz, hnd⟩ := hW
  have hA : DataW.TrodAll enc Try.prog W 0 (fun _ => true) true Try.f9.params.toList args.toList ds p := hA0
  rw [Try.params9] at hA hval
  obtain ⟨v0, vs0, d0, ds0, p0, q0, hargs, rfl, rfl, h0, r0⟩ := trodAll_cons hA
  obtain ⟨v1, vs1, d1, ds1, p1, q1, rfl, rfl, rfl, h1, r1⟩ := trodAll_cons r0
  obtain ⟨rfl, rfl, rfl⟩ := trodAll_nil r1
  obtain rfl : args = #[v0, v1] := by cases args; simp_all
  obtain ⟨rfl, rfl⟩ := trodVars_none hV
  have k0 := h0
  have lt0 : ∀ x ∈ p0, x.block < W.heap.size := by obtain ⟨m, hm⟩ := k0; exact DataW.trod_lt m _ _ _ hm
  obtain ⟨sa0, sl0, sc0, rfl⟩ := okWide_slice Try.underlying39 (hval 0 39 v0 rfl rfl)
  obtain ⟨a0, g0, c0⟩ := rd39 _ (Read.of h0) (by simp [Value.cells]; kernel_rfl)
  have e0 := (c0.2 0 _ _ rfl rfl).2
  have k1 := h1
  have lt1 : ∀ x ∈ p1, x.block < W.heap.size := by obtain ⟨m, hm⟩ := k1; exact DataW.trod_lt m _ _ _ hm
  obtain ⟨a1, rfl, rfl, rfl, g1⟩ := open_int Try.underlying3 (hval 1 3 v1 rfl rfl) h1
  have e1 : rel0 W (.int .i64 a1) (.int .i64 a1) := .int _ _
  clear hA0 hval0 hsz0
  obtain ⟨k, hk⟩ := nodeAlone_true a0 a1 g0 g1
  have hc : CallOk Try.prog 9 (A9 (a0, a1)) [] 0 (.ret (.bool true)) _ _ := entry_call elAll_ok (g9_ok k) (show d9 (A9 (a0, a1)) [] = some (a0, a1) by kernel_rfl) hk
  have hv : VRels (fun _ => none) (ro0 W) W (A9 (a0, a1)) [_, _] := .cons e0 (.cons e1 (VRels.nil))
  refine (law_call hc hv).mono fun e W' he => ?_
  obtain ⟨rfl, bel⟩ := he
  exact ⟨_, rfl, _, _, _, [], _, [], hW', trodAll_mk1 (shut_bool Try.underlying4 _), (trodAll_cons_mk (Below.trod laidOut (by kernel_rfl) (of_decide_eq_true (by kernel_rfl)) k0 bel lt0) (trodAll_cons_mk (Below.trod laidOut (by kernel_rfl) (of_decide_eq_true (by kernel_rfl)) k1 bel lt1) trodAll_mk0)), rfl, bel.frame _, fun h => by cases h⟩
theorem over : Rows.nodeAloneRow.holds Try.pinned (OpenSpec.ofChange Rows.nodeAloneSpec) :=
  OpenClaim.holds_of_wide 9 Try.f9 rfl rfl rfl rfl rfl rfl rfl ⟨rfl, rfl, rfl, rfl, rfl⟩ rfl rfl rfl rfl rfl (by kernel_rfl) Try.func9 (by kernel_rfl)
    (of_decide_eq_true (by kernel_rfl)) (by unfold Func.isWrapper; first | (rw [if_pos (by decide +kernel)]; kernel_rfl) | (rw [if_neg (by decide +kernel)]; exact ⟨rfl, rfl⟩))
    (fun os started H enc _ => lifted os started H enc)
end Go.Proofs.Ytaooefnmdlajcaa.nodeAlone
namespace Go.Proofs.Ytaooefnmdlajcaa
theorem nodeAlone_holds : Rows.NodeAloneSaid := nodeAlone.over
end Go.Proofs.Ytaooefnmdlajcaa

end
