/- Whole pieces of code, and whole calls: sound. -/
import Derived.Test.YtopeokonlaljlaaEng11
set_option linter.unusedVariables false
set_option linter.unusedSimpArgs false
set_option linter.unusedSectionVars false
namespace Go.Eng
variable [Dr]
open Go.RowKit

variable {P : Program} {w0 w : World} {F : Nat → Prop} {ρ : Nat → Option Loc} {RO : Nat → Prop} {h : Heap} {n : Nat}

theorem xrel_normal {x : AExit} (h : XRel ρ RO w x .normal) : x = .normal := by
  cases x with
  | normal => rfl
  | panic a => obtain ⟨v, h1, _⟩ := h; cases h1
  | _ => cases h
theorem xrel_exit {x : AExit} {id : Nat} (h : XRel ρ RO w x (.exit id)) : x = .exit id := by
  cases x with
  | exit i => cases h; rfl
  | panic a => obtain ⟨v, h1, _⟩ := h; cases h1
  | _ => cases h

theorem rounds_mono {c : Code} {Q Q' : Exit → Act → World → Prop} (hq : ∀ x a w, Q x a w → Q' x a w) : ∀ {k : Nat} {a : Act} {w : World}, Code.rounds P c Q k a w → Code.rounds P c Q' k a w
  | 0, _, _, h => h.elim
  | k + 1, a, w, h => by
    rw [rounds_succ] at h ⊢
    refine wp_mono h fun x a' w' q => ?_
    cases x with
    | normal => exact rounds_mono hq q
    | _ => exact hq _ _ _ q

theorem runC_ok {N : Nat} {cf : CallF} {fuel : Nat} (hP : NoNum P) (hm : P.follows .mixedOrders = true) (hcf : CfOk P cf) :
    ∀ (c : Code) (env : Env) (h : Heap) (n : Nat) (ds : List Dec) (r : Came AOut), runC P N cf fuel c env h n ds = some r → (∀ c ∈ r.conds, c.1 = c.2) →
      ∀ (ρ : Nat → Option Loc) (RO : Nat → Prop) (a : Act) (w : World), HRel w0 F h n ρ RO w → ARel N ρ RO w env a → c.wp P (Post w0 F N ρ RO w r.out.exit r.out.env r.heap r.next) a w := by
  intro c
  induction c with
  | skip =>
    intro env h n ds r e hc ρ RO a w H A
    simp only [runC] at e; cases e
    exact wp_skip ⟨ρ, RO, .refl _ _ _, H, rfl, A⟩
  | label l =>
    intro env h n ds r e hc ρ RO a w H A
    simp only [runC] at e; cases e
    exact wp_label ⟨ρ, RO, .refl _ _ _, H, rfl, A⟩
  | exit id =>
    intro env h n ds r e hc ρ RO a w H A
    simp only [runC] at e; cases e
    exact wp_exit ⟨ρ, RO, .refl _ _ _, H, rfl, A⟩
  | ret =>
    intro env h n ds r e hc ρ RO a w H A
    simp only [runC] at e; cases e
    exact wp_ret ⟨ρ, RO, .refl _ _ _, H, rfl, A⟩
  | region id ops draw =>
    intro env h n ds r e hc ρ RO a w H A
    cases draw with
    | true =>
      simp only [runC] at e
      exact runDraw_ok hP hm hcf e hc H A
    | false =>
      simp only [runC] at e
      exact wp_region_list (runOps_ok hP hcf ops ops.toList 0 env h n ds r e hc ρ RO a w H A)
  | seq x y ihx ihy =>
    intro env h n ds r e hc ρ RO a w H A
    simp only [runC] at e
    split at e
    · rename_i r1 hr1
      split at e
      · rename_i hex
        split at e
        · rename_i s hs
          cases e
          refine wp_seq (wp_mono (ihx _ _ _ _ _ hr1 (fun c hcc => hc c (by simp [hcc])) ρ RO a w H A) fun x' a' w' q => ?_)
          obtain ⟨ρ', RO', p1, p2, p3, p4⟩ := q
          rw [hex] at p3
          cases p3
          exact wp_mono (ihy _ _ _ _ _ hs (fun c hcc => hc c (by simp [hcc])) ρ' RO' a' w' p2 p4) fun x'' a'' w'' q => q.trans p1
        · cases e
      · rename_i hex
        cases e
        refine wp_seq (wp_mono (ihx _ _ _ _ _ hr1 hc ρ RO a w H A) fun x' a' w' q => ?_)
        have : x' ≠ .normal := by
          rintro rfl
          obtain ⟨ρ', RO', p1, p2, p3, p4⟩ := q
          exact hex (xrel_normal p3)
        cases x' <;> first | exact absurd rfl this | exact q
    · cases e
  | cond c x y ihx ihy =>
    intro env h n ds r e hc ρ RO a w H A
    simp only [runC] at e
    split at e
    · rename_i b hb
      have hbv := bool_inv (evA_rel A.env hb)
      split at e
      · rename_i ds1 c1 hde
        split at e
        · rename_i r1 hr1
          cases e
          have hbt := decideA_ok hde (fun c hcc => hc c (by simp [hcc]))
          subst hbt
          exact wp_cond_true hbv (ihx _ _ _ _ _ hr1 (fun c hcc => hc c (by simp [hcc])) ρ RO a w H A)
        · cases e
      · rename_i ds1 c1 hde
        split at e
        · rename_i r1 hr1
          cases e
          have hbt := decideA_ok hde (fun c hcc => hc c (by simp [hcc]))
          subst hbt
          exact wp_cond_false hbv (ihy _ _ _ _ _ hr1 (fun c hcc => hc c (by simp [hcc])) ρ RO a w H A)
        · cases e
      · cases e
    · cases e
  | block id c ih =>
    intro env h n ds r e hc ρ RO a w H A
    simp only [runC] at e
    split at e
    · rename_i r1 hr1
      have base := fun hcs => ih _ _ _ _ _ hr1 hcs ρ RO a w H A
      split at e
      · rename_i id' hex
        split at e
        · rename_i hid
          cases e
          have hid := Nat.eq_of_beq_eq_true hid
          subst hid
          refine wp_block (wp_mono (base hc) fun x' a' w' q => ?_)
          obtain ⟨ρ', RO', p1, p2, p3, p4⟩ := q
          rw [hex] at p3
          cases p3
          simp only [Exit.inBlock, if_true]
          exact ⟨ρ', RO', p1, p2, rfl, p4⟩
        · rename_i hid
          cases e
          refine wp_block (wp_mono (base hc) fun x' a' w' q => ?_)
          have q' := q
          obtain ⟨ρ', RO', p1, p2, p3, p4⟩ := q
          rw [hex] at p3
          cases p3
          have : ¬ id' = id := by
            intro hh; subst hh
            simp at hid
          simp only [Exit.inBlock, this, if_false]
          exact q'
      · rename_i hex
        cases e
        refine wp_block (wp_mono (base hc) fun x' a' w' q => ?_)
        cases x' with
        | exit id' =>
          obtain ⟨ρ', RO', p1, p2, p3, p4⟩ := q
          exact absurd (xrel_exit p3) (hex _)
        | _ => exact q
    · cases e
  | loop c ih =>
    intro env h n ds r e hc ρ RO a w H A
    simp only [runC] at e
    have key : ∀ (k : Nat) (env : Env) (h : Heap) (n : Nat) (ds : List Dec) (r : Came AOut), runC.runLoop k (runC P N cf fuel c) env h n ds = some r → (∀ c ∈ r.conds, c.1 = c.2) →
        ∀ (ρ : Nat → Option Loc) (RO : Nat → Prop) (a : Act) (w : World), HRel w0 F h n ρ RO w → ARel N ρ RO w env a → Code.rounds P c (Post w0 F N ρ RO w r.out.exit r.out.env r.heap r.next) k a w := by
      intro k
      induction k with
      | zero => intro env h n ds r e; simp [runC.runLoop] at e
      | succ k ihk =>
        intro env h n ds r e hc ρ RO a w H A
        simp only [runC.runLoop] at e
        split at e
        · rename_i r1 hr1
          split at e
          · rename_i hex
            split at e
            · rename_i s hs
              cases e
              rw [rounds_succ]
              refine wp_mono (ih _ _ _ _ _ hr1 (fun c hcc => hc c (by simp [hcc])) ρ RO a w H A) fun x' a' w' q => ?_
              obtain ⟨ρ', RO', p1, p2, p3, p4⟩ := q
              rw [hex] at p3
              cases p3
              exact rounds_mono (fun x'' a'' w'' q => q.trans p1) (ihk _ _ _ _ _ hs (fun c hcc => hc c (by simp [hcc])) ρ' RO' a' w' p2 p4)
            · cases e
          · rename_i hex
            cases e
            rw [rounds_succ]
            refine wp_mono (ih _ _ _ _ _ hr1 hc ρ RO a w H A) fun x' a' w' q => ?_
            have : x' ≠ .normal := by
              rintro rfl
              obtain ⟨ρ', RO', p1, p2, p3, p4⟩ := q
              exact hex (xrel_normal p3)
            cases x' <;> first | exact absurd rfl this | exact q
        · cases e
    exact wp_loop_rounds fuel (key fuel _ _ _ _ _ e hc ρ RO a w H A)
  | rangeFunc f ps x y _ _ => intro env h n ds r e; simp [runC] at e
  | scope c _ => intro env h n ds r e; simp [runC] at e
  | goto l => intro env h n ds r e; simp [runC] at e
  | refuse w => intro env h n ds r e; simp [runC] at e

theorem params_look : ∀ (l : List AV) (i t : Nat), lookE (params l i) t = if i ≤ t then l[t - i]? else none
  | [], i, t => by simp [params, lookE, look]
  | v :: r, i, t => by
    rw [params, lookE_cons, params_look r]
    by_cases h1 : i = t
    · subst h1; simp
    · rw [if_neg h1]
      by_cases h2 : i + 1 ≤ t
      · rw [if_pos h2, if_pos (by omega), show t - i = (t - (i + 1)) + 1 by omega]; simp
      · rw [if_neg h2, if_neg (by omega)]

theorem resA_ok {env : Env} {a : Act} (H : HRel w0 F h n ρ RO w) (he : ERel ρ RO w env a) : ∀ {rs : List ResultVar} {l : List AV}, resA P env h n rs = some l →
    ∃ vs : List Value, (rs.mapM fun
      | .tmp t => pure (a.tmps.getD t undef)
      | .cell x t => do loadVar t (← asAddr (a.tmps.getD x undef)) : Sem (List Value)).run P w = .ok vs w ∧ VRels ρ RO w l vs
  | [], l, e => by simp [resA] at e; subst e; exact ⟨[], by simp, .nil⟩
  | .tmp t :: r, l, e => by
    simp only [resA] at e
    split at e
    · rename_i v l' h1 h2
      cases e
      obtain ⟨vs, q1, q2⟩ := resA_ok H he h2
      exact ⟨_, by simp only [List.mapM_cons, Sem.run_bind, Sem.run_pure, Result.andThen_ok, q1], .cons (he _ _ h1) q2⟩
    · cases e
  | .cell x t :: r, l, e => by
    simp only [resA] at e
    split at e
    · rename_i id idx off hx
      split at e
      · rename_i v _ _ l' h1 h2
        cases e
        obtain ⟨vs, q1, q2⟩ := resA_ok H he h2
        obtain ⟨A, hA⟩ := ptr_inv (he _ _ hx)
        have hr := he _ _ hx
        rw [hA] at hr
        obtain ⟨u, av, u1, u2, u3, u4, u5⟩ := lod_ok (P := P) H hr h1 (by simp)
        cases u2
        rw [loadAt_eq] at u1
        have hAd : (asAddr (a.tmps.getD x undef)).run P w = .ok A w := by rw [hA]; rfl
        exact ⟨_, by simp only [List.mapM_cons, Sem.run_bind, hAd, Result.andThen_ok, u1, q1, Sem.run_pure], .cons u5 q2⟩
      · cases e
    · cases e

theorem oneOf_ok {l : List AV} {vs : List Value} (h : VRels ρ RO w l vs) (v : Value) (hv : v = if h : vs.toArray.size = 1 then vs.toArray[0] else .tuple vs.toArray) : VRel ρ RO w (oneOf l) v := by
  subst hv
  cases l with
  | nil => rw [h.inv_nil]; exact .tup (vs := []) rfl (fun i a v h => by simp at h)
  | cons a l =>
    obtain ⟨v, t, rfl, h1, h2⟩ := h.inv_cons
    cases l with
    | nil => rw [h2.inv_nil]; exact h1
    | cons b l =>
      obtain ⟨v2, t2, rfl, h3, h4⟩ := h2.inv_cons
      have := VRels.cons h1 h2
      simp only [oneOf]
      rw [dif_neg (by simp)]
      exact .tup this.1 this.2

theorem runF_ok {Δ : Delta} {fuel : Nat} (hP : NoNum P) (hm : P.follows .mixedOrders = true) (hΔ : DeltaOk P Δ) : ∀ d, CfOk P (runF P Δ fuel d)
  | 0 => fun k args h n ds r e => by simp [runF] at e
  | d + 1 => by
    intro k args h n ds r e hc
    simp only [runF] at e
    split at e
    · rename_i x h' n' c hd
      cases e
      exact hΔ _ _ _ _ _ _ _ _ hd hc
    · split at e
      · rename_i fn hfn
        split at e
        · rename_i c hbody
          refine ⟨⟨fn, hfn, by simp [hbody]⟩, fun w0 F ρ RO w vs H hvs => ?_⟩
          refine calls_of_wp hfn hbody ?_
          split at e
          · rename_i r1 hle hr1
            have hle : args.length ≤ fn.ntmps := Nat.le_of_ble_eq_true hle
            have A : ARel fn.ntmps ρ RO w (params args 0) { tmps := vs.toArray ++ Array.replicate (fn.ntmps - vs.toArray.size) undef, defers := [] } := by
              refine ⟨by have := hvs.1; simp; omega, rfl, fun t v hl => ?_⟩
              rw [params_look, if_pos (Nat.zero_le _), Nat.sub_zero] at hl
              obtain ⟨u, u1, u2⟩ := hvs.get hl
              have : (vs.toArray ++ Array.replicate (fn.ntmps - vs.toArray.size) undef).getD t undef = u := by
                have hlt : t < vs.length := (List.getElem?_eq_some_iff.1 u1).1
                rw [Array.getD_eq_getD_getElem?, Array.getElem?_append_left (by simpa using hlt)]
                simp [u1]
              rw [this]; exact u2
            have fin : ∀ (l : List AV) (e : Exit) (a' : Act) (w' : World), (e = .normal ∨ e = .ret) → resA P r1.out.env r1.heap r1.next fn.results.toList = some l → (∀ c ∈ r1.conds, c.1 = c.2) →
                Post w0 F fn.ntmps ρ RO w r1.out.exit r1.out.env r1.heap r1.next e a' w' →
                bodyPost P fn (fun e w' => ∃ ρ' RO', Ext ρ RO w ρ' RO' w' ∧ HRel w0 F r1.heap r1.next ρ' RO' w' ∧ EndRel ρ' RO' w' (.ret (oneOf l)) e) e a' w' := by
              intro l e a' w' hne hl hcc q
              obtain ⟨ρ', RO', p1, p2, p3, p4⟩ := q
              obtain ⟨us, q1, q2⟩ := resA_ok p2 p4.env hl
              have hres : (results fn a'.tmps).run P w' = .ok (if h : us.toArray.size = 1 then us.toArray[0] else .tuple us.toArray) w' := by
                unfold results
                have hm : (fn.results.mapM fun
                    | .tmp t => pure (a'.tmps.getD t undef)
                    | .cell x t => do loadVar t (← asAddr (a'.tmps.getD x undef)) : Sem (Array Value)).run P w' = .ok us.toArray w' := by
                  rw [Array.mapM_eq_mapM_toList]
                  simp only [Sem.run_map, q1]
                  rfl
                rw [Sem.run_bind]
                exact congrArg (fun r : Result (Array Value) => r.andThen fun (a : Array Value) w' => (Pure.pure (if h : a.size = 1 then a[0] else .tuple a) : Sem Value).run P w') hm
              rcases hne with rfl | rfl
              · exact ⟨p4.defers, _, hres, ρ', RO', p1, p2, _, rfl, oneOf_ok q2 _ rfl⟩
              · exact ⟨p4.defers, _, hres, ρ', RO', p1, p2, _, rfl, oneOf_ok q2 _ rfl⟩
            split at e
            · rename_i hex
              split at e
              · rename_i l hl
                cases e
                refine wp_mono (runC_ok hP hm (runF_ok hP hm hΔ d) c _ _ _ _ r1 hr1 hc ρ RO _ w H A) fun x' a' w' q => ?_
                have q' := q
                obtain ⟨ρ', RO', p1, p2, p3, p4⟩ := q
                rw [hex] at p3
                cases p3
                exact fin l _ a' w' (.inl rfl) hl hc q'
              · cases e
            · rename_i hex
              split at e
              · rename_i l hl
                cases e
                refine wp_mono (runC_ok hP hm (runF_ok hP hm hΔ d) c _ _ _ _ r1 hr1 hc ρ RO _ w H A) fun x' a' w' q => ?_
                have q' := q
                obtain ⟨ρ', RO', p1, p2, p3, p4⟩ := q
                rw [hex] at p3
                cases p3
                exact fin l _ a' w' (.inr rfl) hl hc q'
              · cases e
            · rename_i v hex
              cases e
              refine wp_mono (runC_ok hP hm (runF_ok hP hm hΔ d) c _ _ _ _ r1 hr1 hc ρ RO _ w H A) fun x' a' w' q => ?_
              obtain ⟨ρ', RO', p1, p2, p3, p4⟩ := q
              rw [hex] at p3
              obtain ⟨u, rfl, hu⟩ := p3
              exact ⟨p4.defers, ρ', RO', p1, p2, u, rfl, hu⟩
            · cases e
          · cases e
        · cases e
      · cases e

end Go.Eng
