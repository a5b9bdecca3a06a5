/- The statement MuteDoes is proved: the call returns true for every input. No conditions. -/
import Derived.Test.YtaooefnmdlajcaaA3
import Derived.WalkKit
import Derived.ProofKit
import Derived.OpenShut
import Derived.ShutString
import Derived.ChangeOld
import Derived.Below
import Derived.SizedLaws
import Derived.Test.YtaooefnmdlajcaaRows
set_option linter.unusedVariables false
set_option linter.unusedSimpArgs false
set_option linter.unusedSectionVars false
section
set_option linter.unusedVariables false
set_option linter.unusedSimpArgs false
namespace Go.Proofs.Ytaooefnmdlajcaa
open Go Go.Eng
theorem l82_0_ok {k : Nat} {l m : List Win} {both : Bool} (hk : 10000 < k) (hl : l.length ≤ 900) (hm : m.length ≤ 100) :
    ∀ (d b j : Nat) (out : List Win), d + b = 100 → 1 ≤ b → d < j → out.length + d * 4000 ≤ 400000 → (∀ o ∈ out.getLast?, o.bed < (b : Int)) →
    iterT (pS82_0 k) j (S82_0.mk l m both (l ++ m) (b : Int) out) = some (E82_0.mk ((segsAll l m both d b).foldl jstep out))
  | d, b, 0, out, hd, h1, hj, _, _ => by omega
  | 0, b, j + 1, out, hd, h1, hj, hout, hinv => by
    have : pS82_0 k (S82_0.mk l m both (l ++ m) (b : Int) out) = some (.inr (E82_0.mk out)) := by
      unfold pS82_0
      simp only
      rw [br_f (decide_eq_false (by omega))]
    simp only [iterT, this]
    rfl
  | d + 1, b, j + 1, out, hd, h1, hj, hout, hinv => by
    have hK := marksL_sorted (b : Int) (l ++ m) [] .nil
    have hKl := marksL_len (b : Int) (l ++ m) []
    rw [List.length_append, List.length_nil] at hKl
    have hs := segsB_len (inn := innF l m both b) (b := (b : Int)) (marksL (b : Int) [] (l ++ m))
    have hf := jfold_len (segsB (innF l m both b) b (marksL (b : Int) [] (l ++ m))) out
    have step : pS82_0 k (S82_0.mk l m both (l ++ m) (b : Int) out) = some (.inl (S82_0.mk l m both (l ++ m) ((b + 1 : Nat) : Int) ((segsB (innF l m both b) b (marksL b [] (l ++ m))).foldl jstep out))) := by
      have h2 := l82_2_ok (k := k) (l := l) (m := m) (all := l ++ m) (both := both) (b := (b : Int)) (K := marksL (b : Int) [] (l ++ m)) (by omega) (by omega) (by omega) (by omega) hK (by omega) _ 0 k out rfl (Nat.zero_le _) (by omega) (by omega) (fun o ho => .inl (hinv o ho))
      rw [List.drop_zero] at h2
      unfold pS82_0
      simp only
      rw [br_t (decide_eq_true (by omega)), f115_ok _ (by rw [List.length_append]; omega) (by rw [List.length_append]; omega), bindO_some]
      unfold l82_2
      have e0 : (((0 : Nat) : Int)) = 0 := rfl
      rw [e0] at h2
      rw [h2, bindO_some]
      simp only [next_ok (show b < 1000000 by omega)]
    simp only [iterT, step, segsAll, List.foldl_append]
    refine l82_0_ok hk hl hm d (b + 1) j _ (by omega) (by omega) (by omega) (by omega) fun o ho => ?_
    have := jfold_bed (b : Int) _ out (fun w hw => by have := (segsB_mem hK w hw).1; omega) (fun o ho => by have := hinv o ho; omega) o ho
    omega
theorem f82_ok {k : Nat} {l m : List Win} {both : Bool} (hk : 10000 < k) (hl : l.length ≤ 900) (hm : m.length ≤ 100) : f82 k l m both = some ((segsAll l m both 99 1).foldl jstep []) := by
  unfold f82
  rw [br_t (by rw [Bool.true_and]; exact decide_eq_true (by omega)), br_t (by rw [Bool.true_and]; exact decide_eq_true (by omega))]
  have h := l82_0_ok (both := both) hk hl hm 99 1 k [] rfl (by omega) (by omega) (by simp) (by simp)
  unfold l82_0
  have e1 : (((1 : Nat) : Int)) = 1 := rfl
  rw [e1] at h
  rw [h, bindO_some]
theorem f41_ok {k : Nat} {l m : List Win} {both : Bool} (hk : 10000 < k) (hl : l.length ≤ 900) (hm : m.length ≤ 100) : f41 k l m both = some (if Right l ∧ ∀ w ∈ m, May w then toldW ((segsAll l m both 99 1).foldl jstep []) else ([], 1)) := by
  unfold f41
  rw [f21_ok (by omega) (by omega), bindO_some]
  by_cases h : Right l
  · rw [decide_eq_true h, br_nt]
    obtain ⟨e, h1, h2⟩ := iter_cases (stp := pS41_0 k) (fun i => S41_0.mk l m both (i : Int)) m.length (fun i => May (m.getD i default)) (Qb := fun e => e = .inl (E41_0.mk [] 1)) (Qe := fun e => e = .inr (E41_0b.mk l m both))
      (by
        intro i hi hg
        unfold pS41_0
        simp only [Int.toNat_natCast]
        rw [br_t (lt_at hi), br_t (in_at hi), f45_ok, bindO_some, decide_eq_true (hg i (Nat.le_refl _)), br_nt, next_ok (by omega)])
      (by
        intro i hi _ hg
        unfold pS41_0
        simp only [Int.toNat_natCast]
        rw [br_t (lt_at hi), br_t (in_at hi), f45_ok, bindO_some, decide_eq_false hg, br_nf]
        exact ⟨_, rfl, rfl⟩)
      (by
        intro _
        unfold pS41_0
        simp only
        rw [br_f (by simp)]
        exact ⟨_, rfl, rfl⟩) k (by omega)
    have e0 : (((0 : Nat) : Int)) = 0 := rfl
    simp only [e0] at h1
    unfold l41_0
    rw [h1, bindO_some]
    rcases h2 with ⟨⟨i, hi, hg⟩, rfl⟩ | ⟨hg, rfl⟩
    · simp only
      rw [if_neg (fun q => hg (q.2 _ (getD_mem hi)))]
    · simp only
      rw [f82_ok hk hl hm, bindO_some, told_br, if_pos ⟨h, all_getD.2 hg⟩]
  · rw [decide_eq_false h, br_nf, if_neg (fun q => h q.1)]
theorem f13_ok {k : Nat} {l m : List Win} (hk : 10000 < k) (hl : l.length ≤ 900) (hm : m.length ≤ 100) : f13 k l m = some (addR l m) := by
  unfold f13 addR
  rw [f41_ok hk hl hm, bindO_some]
  by_cases h : Right l ∧ ∀ w ∈ m, May w
  · rw [if_pos h, if_pos h, windows_add h.1.2.2 h.2]
  · rw [if_neg h, if_neg h]
theorem f15_ok {k : Nat} {l m : List Win} (hk : 10000 < k) (hl : l.length ≤ 900) (hm : m.length ≤ 100) : f15 k l m = some (cutR l m) := by
  unfold f15 cutR
  rw [f41_ok hk hl hm, bindO_some]
  by_cases h : Right l ∧ ∀ w ∈ m, May w
  · rw [if_pos h, if_pos h, windows_cut h.1.2.1 h.1.2.2 h.2]
  · rw [if_neg h, if_neg h]
theorem toldW_len (l : List Win) : (toldW l).1.length ≤ 100 := by
  unfold toldW
  split
  · simp
  · simp only; omega
theorem addR_len (l m : List Win) : (addR l m).1.length ≤ 100 := by
  unfold addR
  split
  · exact toldW_len _
  · simp
theorem cutR_len (l m : List Win) : (cutR l m).1.length ≤ 100 := by
  unfold cutR
  split
  · exact toldW_len _
  · simp
theorem l3_0_ok {k : Nat} {a1 a2 a5 a6 : List Win} {a3 a4 : Int} {a7 : Bool} {c : List Win} : ∀ (d i j : Nat) (a : List Win), a.length - i = d → i ≤ a.length → a.length ≤ 1000 → d < j →
    iterT (pS3_0 k) j (S3_0.mk a1 a2 a3 a4 a5 a6 a7 (i : Int) a c) = some (E3_0.mk a1 a2 a3 a4 a5 a6 a7 c)
  | d, i, 0, a, hd, hi, ha, hj => by omega
  | d, i, j + 1, a, hd, hi, ha, hj => by
    simp only [iterT]
    by_cases hx : i < a.length
    · have step : ∃ a' : List Win, a'.length = a.length ∧ pS3_0 k (S3_0.mk a1 a2 a3 a4 a5 a6 a7 (i : Int) a c) = some (.inl (S3_0.mk a1 a2 a3 a4 a5 a6 a7 ((i + 1 : Nat) : Int) a' c)) := by
        unfold pS3_0
        simp only [Int.toNat_natCast, next_ok (show i < 1000000 by omega)]
        rw [br_t (lt_at hx), br_t (in_at hx), br_t (by rw [Bool.true_and]; exact decide_eq_true hx)]
        exact ⟨_, List.length_set, rfl⟩
      obtain ⟨a', hl, hs⟩ := step
      rw [hs]
      exact l3_0_ok (d - 1) (i + 1) j a' (by omega) (by omega) (by omega) (by omega)
    · have : pS3_0 k (S3_0.mk a1 a2 a3 a4 a5 a6 a7 (i : Int) a c) = some (.inr (E3_0.mk a1 a2 a3 a4 a5 a6 a7 c)) := by
        unfold pS3_0
        simp only
        rw [br_f (decide_eq_false (by omega))]
      rw [this]
theorem l3_2_ok {k : Nat} {a1 a2 a5 a6 : List Win} {a3 a4 : Int} {a7 : Bool} : ∀ (d i j : Nat) (a : List Win), a.length - i = d → i ≤ a.length → a.length ≤ 1000 → d < j →
    iterT (pS3_2 k) j (S3_2.mk a1 a2 a3 a4 a5 a6 a7 (i : Int) a) = some (E3_2.mk a1 a2 a3 a4 a5 a6 a7)
  | d, i, 0, a, hd, hi, ha, hj => by omega
  | d, i, j + 1, a, hd, hi, ha, hj => by
    simp only [iterT]
    by_cases hx : i < a.length
    · have step : ∃ a' : List Win, a'.length = a.length ∧ pS3_2 k (S3_2.mk a1 a2 a3 a4 a5 a6 a7 (i : Int) a) = some (.inl (S3_2.mk a1 a2 a3 a4 a5 a6 a7 ((i + 1 : Nat) : Int) a')) := by
        unfold pS3_2
        simp only [Int.toNat_natCast, next_ok (show i < 1000000 by omega)]
        rw [br_t (lt_at hx), br_t (in_at hx), br_t (by rw [Bool.true_and]; exact decide_eq_true hx)]
        exact ⟨_, List.length_set, rfl⟩
      obtain ⟨a', hl, hs⟩ := step
      rw [hs]
      exact l3_2_ok (d - 1) (i + 1) j a' (by omega) (by omega) (by omega) (by omega)
    · have : pS3_2 k (S3_2.mk a1 a2 a3 a4 a5 a6 a7 (i : Int) a) = some (.inr (E3_2.mk a1 a2 a3 a4 a5 a6 a7)) := by
        unfold pS3_2
        simp only
        rw [br_f (decide_eq_false (by omega))]
      rw [this]
theorem does_true (l m : List Win) (b t : Int) : ∃ k, f3 k l m b t = some true := by
  refine ⟨1000000000000, ?_⟩
  generalize hk : (1000000000000 : Nat) = k
  unfold f3
  by_cases h1 : l.length > 110
  · rw [br_t (decide_eq_true (by omega))]
  rw [br_f (decide_eq_false (by omega))]
  by_cases h2 : m.length > 30
  · rw [br_t (decide_eq_true (by omega))]
  rw [br_f (decide_eq_false (by omega))]
  have la := addR_len l m
  have lc := cutR_len l m
  have q0 := l3_0_ok (k := k) (a1 := l) (a2 := m) (a3 := b) (a4 := t) (a5 := l) (a6 := m) (a7 := true) (c := (cutR l m).1) _ 0 k (addR l m).1 rfl (Nat.zero_le _) (by omega) (by omega)
  have q2 := l3_2_ok (k := k) (a1 := l) (a2 := m) (a3 := b) (a4 := t) (a5 := l) (a6 := m) (a7 := true) _ 0 k (cutR l m).1 rfl (Nat.zero_le _) (by omega) (by omega)
  have e0 : (((0 : Nat) : Int)) = 0 := rfl
  simp only [e0] at q0 q2
  have bb : ∀ x : Bool, (x == x) = true := by decide
  have bi : ∀ x : Int, (x == x) = true := fun x => by simp
  rw [f11_ok k (by omega), bindO_some, f11_ok k (by omega), bindO_some, f12_ok (by omega) (by omega) (by omega), bindO_some, f13_ok (by omega) (by omega) (by omega), bindO_some,
    f14_ok (by omega) (by omega) (by omega), bindO_some, f15_ok (by omega) (by omega) (by omega), bindO_some, f16_ok b t (by omega) (by omega), bindO_some, f17_ok b t (by omega) (by omega), bindO_some,
    f18_ok (by omega) (by omega), bindO_some, br_t (decide_eq_true rfl), br_t (bi _), f18_ok (by omega) (by omega), bindO_some, br_t (decide_eq_true rfl), br_t (bi _), br_t (bi _), bb]
  unfold l3_0
  rw [q0, bindO_some]
  unfold l3_2
  simp only
  rw [q2, bindO_some]
  simp only
  rw [br_t rfl, f20_ok (by omega) (by omega), bindO_some, f21_ok (by omega) (by omega), bindO_some, br_t (bb _), f22_ok b t (by omega) (by omega), bindO_some, f23_ok b t (by omega) (by omega), bindO_some, br_t (bb _),
    f24_ok b (by omega) (by omega), bindO_some, f25_ok b (by omega) (by omega), bindO_some, br_t (bi _), f18_ok (by omega) (by omega), bindO_some, br_t (decide_eq_true rfl), f18_ok (by omega) (by omega), bindO_some, decide_eq_true rfl]
end Go.Proofs.Ytaooefnmdlajcaa

end
section
set_option linter.unusedVariables false
set_option linter.unusedSimpArgs false
namespace Go.Proofs.Ytaooefnmdlajcaa
open Go Go.Eng
end Go.Proofs.Ytaooefnmdlajcaa

end
section
set_option linter.unusedVariables false
namespace Go.Proofs.Ytaooefnmdlajcaa.muteDoes
open Go.Eng Go.Proofs.Ytaooefnmdlajcaa
open Go.ChangeShapes Go.WideShapes Go.ChangeAt Go.RowKit
open Go.ChangeMaps (open_string shut_string)
theorem own : ownKnob Try.prog.godebug = none := by kernel_rfl
theorem laidOut : laidOutB Try.prog = true := by kernel_rfl
theorem rd3 {H : Type} {enc : TypeId × Value → H} {W : World} : RdL enc Try.prog W (fun x : Int => [.int .i64 x]) 3 (fun x => (Lit.int .i64 x).wf = true) := RdL.int Try.underlying3
theorem rd32 {H : Type} {enc : TypeId × Value → H} {W : World} : RdL enc Try.prog W (fun x : GWindow => [.int .i64 x.bed, .int .i64 x.src, .int .i64 x.to]) 32 (fun x => ((Lit.int .i64 x.bed).wf = true) ∧ ((Lit.int .i64 x.src).wf = true) ∧ ((Lit.int .i64 x.to).wf = true)) := RdL.iso (RdL.struct (m := 3) Try.underlying32 (by kernel_rfl) (RdF.cons (o := 0) (n := 1) rd3 rfl (by kernel_rfl) (by decide) (RdF.cons (o := 1) (n := 1) rd3 rfl (by kernel_rfl) (by decide) (RdF.last (o := 2) (n := 1) rd3 rfl (by kernel_rfl) rfl)))) (fun p => (⟨p.1, p.2.1, p.2.2⟩ : GWindow)) (fun _ => rfl) (fun _ h => h)
theorem rd22 {H : Type} {enc : TypeId × Value → H} {W : World} : RdL enc Try.prog W (fun x : List GWindow => [.dsl 32 x]) 22 (fun x => x.length ≤ maxLen ∧ ∀ x0 ∈ x, ((Lit.int .i64 x0.bed).wf = true) ∧ ((Lit.int .i64 x0.src).wf = true) ∧ ((Lit.int .i64 x0.to).wf = true)) := RdL.slice Try.underlying22 (by kernel_rfl) (RdL.iso rd32 (fun x => x) (fun _ => rfl) (fun _ h => h))
set_option maxRecDepth 100000 in
theorem lifted (os : Os) (started : os.Started) (H : Type) (enc : TypeId × Value → H) :
    ReturnsInHanded {} Try.checked os 3 .any (Rows.muteDoesSpec.pre6 enc Try.prog Try.f3 Rows.muteDoesRow.domain false) (Rows.muteDoesSpec.post enc Try.prog Try.f3 false true false false) := by
  refine returnsInHanded_of_change_sized (C := Try.checked) own started (by kernel_rfl) Try.func3
    (ChangeSpec.witness6 (enc := enc) (C := Try.checked) false ⟨#[], #[.slice none 0 0, .slice none 0 0, .int .i64 0, .int .i64 0], []⟩ 8 (by kernel_rfl) (by kernel_rfl) (by kernel_rfl) (by kernel_rfl)) ?_
  intro W base args ds gs before hval0 hW hcnd hsz0 _
  have hval : ∀ (j : Nat) t v, Try.f3.params[j]? = some t → args[j]? = some v → Value.okWide Try.prog W .any base t v := hval0
  have hW' := hW
  obtain ⟨p, q, hA0, hV, rfl, hfz, hnd⟩ := hW
  have hA : DataW.TrodAll enc Try.prog W 0 (fun _ => true) true Try.f3.params.toList args.toList ds p := hA0
  rw [Try.params3] at hA hval
  obtain ⟨v0, vs0, d0, ds0, p0, q0, hargs, rfl, rfl, h0, r0⟩ := trodAll_cons hA
  obtain ⟨v1, vs1, d1, ds1, p1, q1, rfl, rfl, rfl, h1, r1⟩ := trodAll_cons r0
  obtain ⟨v2, vs2, d2, ds2, p2, q2, rfl, rfl, rfl, h2, r2⟩ := trodAll_cons r1
  obtain ⟨v3, vs3, d3, ds3, p3, q3, rfl, rfl, rfl, h3, r3⟩ := trodAll_cons r2
  obtain ⟨rfl, rfl, rfl⟩ := trodAll_nil r3
  obtain rfl : args = #[v0, v1, v2, v3] := by cases args; simp_all
  obtain ⟨rfl, rfl⟩ := trodVars_none hV
  have k0 := h0
  have lt0 : ∀ x ∈ p0, x.block < W.heap.size := by obtain ⟨m, hm⟩ := k0; exact DataW.trod_lt m _ _ _ hm
  obtain ⟨sa0, sl0, sc0, rfl⟩ := okWide_slice Try.underlying22 (hval 0 22 v0 rfl rfl)
  obtain ⟨a0, g0, c0⟩ := rd22 _ (Read.of h0) (by simp [Value.cells]; kernel_rfl)
  have e0 := (c0.2 0 _ _ rfl rfl).2
  have k1 := h1
  have lt1 : ∀ x ∈ p1, x.block < W.heap.size := by obtain ⟨m, hm⟩ := k1; exact DataW.trod_lt m _ _ _ hm
  obtain ⟨sa1, sl1, sc1, rfl⟩ := okWide_slice Try.underlying22 (hval 1 22 v1 rfl rfl)
  obtain ⟨a1, g1, c1⟩ := rd22 _ (Read.of h1) (by simp [Value.cells]; kernel_rfl)
  have e1 := (c1.2 0 _ _ rfl rfl).2
  have k2 := h2
  have lt2 : ∀ x ∈ p2, x.block < W.heap.size := by obtain ⟨m, hm⟩ := k2; exact DataW.trod_lt m _ _ _ hm
  obtain ⟨a2, rfl, rfl, rfl, g2⟩ := open_int Try.underlying3 (hval 2 3 v2 rfl rfl) h2
  have e2 : rel0 W (.int .i64 a2) (.int .i64 a2) := .int _ _
  have k3 := h3
  have lt3 : ∀ x ∈ p3, x.block < W.heap.size := by obtain ⟨m, hm⟩ := k3; exact DataW.trod_lt m _ _ _ hm
  obtain ⟨a3, rfl, rfl, rfl, g3⟩ := open_int Try.underlying3 (hval 3 3 v3 rfl rfl) h3
  have e3 : rel0 W (.int .i64 a3) (.int .i64 a3) := .int _ _
  clear hA0 hval0 hsz0
  obtain ⟨k, hk⟩ := does_true a0 a1 a2 a3
  have hc : CallOk Try.prog 3 (A3 (a0, a1, a2, a3)) [] 0 (.ret (.bool true)) _ _ := entry_call elAll_ok (g3_ok k) (show d3 (A3 (a0, a1, a2, a3)) [] = some (a0, a1, a2, a3) by kernel_rfl) hk
  have hv : VRels (fun _ => none) (ro0 W) W (A3 (a0, a1, a2, a3)) [_, _, _, _] := .cons e0 (.cons e1 (.cons e2 (.cons e3 (VRels.nil))))
  refine (law_call hc hv).mono fun e W' he => ?_
  obtain ⟨rfl, bel⟩ := he
  exact ⟨_, rfl, _, _, _, [], _, [], hW', trodAll_mk1 (shut_bool Try.underlying4 _), (trodAll_cons_mk (Below.trod laidOut (by kernel_rfl) (of_decide_eq_true (by kernel_rfl)) k0 bel lt0) (trodAll_cons_mk (Below.trod laidOut (by kernel_rfl) (of_decide_eq_true (by kernel_rfl)) k1 bel lt1) (trodAll_cons_mk (Below.trod laidOut (by kernel_rfl) (of_decide_eq_true (by kernel_rfl)) k2 bel lt2) (trodAll_cons_mk (Below.trod laidOut (by kernel_rfl) (of_decide_eq_true (by kernel_rfl)) k3 bel lt3) trodAll_mk0)))), rfl, bel.frame _, fun h => by cases h⟩
theorem over : Rows.muteDoesRow.holds Try.pinned (OpenSpec.ofChange Rows.muteDoesSpec) :=
  OpenClaim.holds_of_wide 3 Try.f3 rfl rfl rfl rfl rfl rfl rfl ⟨rfl, rfl, rfl, rfl, rfl⟩ rfl rfl rfl rfl rfl (by kernel_rfl) Try.func3 (by kernel_rfl)
    (of_decide_eq_true (by kernel_rfl)) (by unfold Func.isWrapper; first | (rw [if_pos (by decide +kernel)]; kernel_rfl) | (rw [if_neg (by decide +kernel)]; exact ⟨rfl, rfl⟩))
    (fun os started H enc _ => lifted os started H enc)
end Go.Proofs.Ytaooefnmdlajcaa.muteDoes
namespace Go.Proofs.Ytaooefnmdlajcaa
theorem muteDoes_holds : Rows.MuteDoesSaid := muteDoes.over
end Go.Proofs.Ytaooefnmdlajcaa

end
