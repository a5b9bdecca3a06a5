/- Code whose objects' numbers may be given anew: loops that lay memory. -/
import Derived.Test.YtopeokonlaljlaaEng17
set_option linter.unusedVariables false
set_option linter.unusedSimpArgs false
set_option linter.unusedSectionVars false
namespace Go.Eng
variable [Dr]
open Go.RowKit

variable {P : Program} {N : Nat}

/-- Memory at rest stays so. -/
structure RExt (RO : Nat → Prop) (w : World) (RO' : Nat → Prop) (w' : World) : Prop where
  ro : ∀ b, RO b → RO' b
  same : ∀ b, RO b → w'.heap[b]? = w.heap[b]?
theorem RExt.refl (RO : Nat → Prop) (w : World) : RExt RO w RO w := ⟨fun _ h => h, fun _ _ => rfl⟩
theorem RExt.trans {RO RO1 RO2 : Nat → Prop} {w w1 w2 : World} (h : RExt RO w RO1 w1) (h' : RExt RO1 w1 RO2 w2) : RExt RO w RO2 w2 :=
  ⟨fun b e => h'.ro b (h.ro b e), fun b e => (h'.same b (h.ro b e)).trans (h.same b e)⟩
theorem Ext.rext {ρ ρ' : Nat → Option Loc} {RO RO' : Nat → Prop} {w w' : World} (h : Ext ρ RO w ρ' RO' w') : RExt RO w RO' w' := ⟨h.ro, h.same⟩

def PostW (w0 : World) (F : Nat → Prop) (N : Nat) (RO : Nat → Prop) (w : World) (x : AExit) (env : Env) (h : Heap) (n : Nat) (e : Exit) (a' : Act) (w' : World) : Prop :=
  ∃ ρ' RO', RExt RO w RO' w' ∧ HRel w0 F h n ρ' RO' w' ∧ XRel ρ' RO' w' x e ∧ ARel N ρ' RO' w' env a'
theorem PostW.trans {w0 w w1 : World} {F : Nat → Prop} {RO RO1 : Nat → Prop} {x : AExit} {env : Env} {h' : Heap} {n' : Nat} {e : Exit} {a' : Act} {w' : World} (ext : RExt RO w RO1 w1) (p : PostW w0 F N RO1 w1 x env h' n' e a' w') : PostW w0 F N RO w x env h' n' e a' w' := by
  obtain ⟨ρ', RO', e1, e2⟩ := p
  exact ⟨ρ', RO', ext.trans e1, e2⟩
theorem Post.toW {w0 w : World} {F : Nat → Prop} {ρ : Nat → Option Loc} {RO : Nat → Prop} {x : AExit} {env : Env} {h' : Heap} {n' : Nat} {e : Exit} {a' : Act} {w' : World} (p : Post w0 F N ρ RO w x env h' n' e a' w') : PostW w0 F N RO w x env h' n' e a' w' := by
  obtain ⟨ρ', RO', e1, e2⟩ := p
  exact ⟨ρ', RO', e1.rext, e2⟩

def WOk (P : Program) (N : Nat) (c : Code) (env : Env) (h : Heap) (n : Nat) (x : AExit) (env' : Env) (h' : Heap) (n' : Nat) : Prop :=
  ∀ (w0 : World) (F : Nat → Prop) (ρ : Nat → Option Loc) (RO : Nat → Prop) (a : Act) (w : World), HRel w0 F h n ρ RO w → ARel N ρ RO w env a → c.wp P (PostW w0 F N RO w x env' h' n') a w

/-- Some rounds of a loop. -/
def WRok (P : Program) (N : Nat) (c : Code) (env : Env) (h : Heap) (n : Nat) (x : AExit) (env' : Env) (h' : Heap) (n' : Nat) : Prop :=
  ∃ k, ∀ (w0 : World) (F : Nat → Prop) (ρ : Nat → Option Loc) (RO : Nat → Prop) (a : Act) (w : World), HRel w0 F h n ρ RO w → ARel N ρ RO w env a → Code.rounds P c (PostW w0 F N RO w x env' h' n') k a w

theorem COk.toW {c : Code} {env env' : Env} {h h' : Heap} {n n' : Nat} {x : AExit} (o : COk P N c env h n x env' h' n') : WOk P N c env h n x env' h' n' :=
  fun w0 F ρ RO a w H A => wp_mono (o w0 F ρ RO a w H A) fun _ _ _ q => q.toW

/-! ### What is known of a state may be seen otherwise -/
/-- One state's knowledge gives another's. -/
def Sees (N : Nat) (env : Env) (h : Heap) (n : Nat) (env' : Env) (h' : Heap) (n' : Nat) : Prop :=
  ∀ (w0 : World) (F : Nat → Prop) (ρ : Nat → Option Loc) (RO : Nat → Prop) (a : Act) (w : World), HRel w0 F h n ρ RO w → ARel N ρ RO w env a → ∃ ρ', HRel w0 F h' n' ρ' RO w ∧ ARel N ρ' RO w env' a

theorem Sees.refl (env : Env) (h : Heap) (n : Nat) : Sees N env h n env h n := fun _ _ ρ _ _ _ H A => ⟨ρ, H, A⟩
theorem Sees.trans {env env1 env2 : Env} {h h1 h2 : Heap} {n n1 n2 : Nat} (s : Sees N env h n env1 h1 n1) (t : Sees N env1 h1 n1 env2 h2 n2) : Sees N env h n env2 h2 n2 := by
  intro w0 F ρ RO a w H A
  obtain ⟨ρ1, H1, A1⟩ := s w0 F ρ RO a w H A
  exact t w0 F ρ1 RO a w H1 A1
theorem Sees.sub {env env' : Env} {h h' : Heap} {n n' : Nat} (se : Sub env' env) (sh : SubH h' h) (hn : n ≤ n') : Sees N env h n env' h' n' :=
  fun _ _ ρ _ _ _ H A => ⟨ρ, (H.forget sh).more hn, A.sub se⟩

/-- Rows may be told in other words. -/
def ORef : AObj → AObj → Prop
  | .row ty sz n el, o' => ∃ n' el', o' = .row ty sz n' el' ∧ n' ≤ n ∧ ∀ i k, i < n' → k < sz → el i k = el' i k
  | o, o' => o' = o
theorem ORef.refl (o : AObj) : ORef o o := by
  cases o with
  | row ty sz n el => exact ⟨n, el, rfl, Nat.le_refl _, fun _ _ _ _ => rfl⟩
  | box => rfl
  | map => rfl
theorem ORef.rel {ρ : Nat → Option Loc} {RO : Nat → Prop} {w : World} {x : Loc} {o o' : AObj} (r : ORef o o') (h : ORel ρ RO w x o) : ORel ρ RO w x o' := by
  cases o with
  | row ty sz n el =>
    obtain ⟨n', el', rfl, hn, he⟩ := r
    obtain ⟨h1, cs, h3, h4, h5⟩ := h
    refine ⟨h1, cs, h3, h4, fun i k hi hk => ?_⟩
    rw [← he i k hi hk]
    exact h5 i k (by omega) hk
  | box => cases r; exact h
  | map => cases r; exact h
theorem ORef.ghost {x : Loc} {o o' : AObj} (r : ORef o o') (g : Ghost x o) : Ghost x o' := by
  obtain ⟨ty, sz, el, rfl, h1, h2, h3⟩ := g
  obtain ⟨n', el', rfl, hn, he⟩ := r
  have : n' = 0 := by omega
  subst this
  exact ⟨ty, sz, el', rfl, h1, h2, h3⟩
def HRef (h h' : Heap) : Prop := ∀ id o', lookH h' id = some o' → ∃ o, lookH h id = some o ∧ ORef o o'
theorem HRel.ref {w0 : World} {F : Nat → Prop} {h h' : Heap} {next : Nat} {ρ : Nat → Option Loc} {RO : Nat → Prop} {w : World} (H : HRel w0 F h next ρ RO w) (hr : HRef h h') : HRel w0 F h' next ρ RO w := by
  refine ⟨H.frame, fun id o' e => ?_, fun id id' o1 o2 x x' hne e1 e2 hx hx' => ?_, H.fresh, H.ro⟩
  · obtain ⟨o, h1, h2⟩ := hr id o' e
    obtain ⟨x, h3, h4⟩ := H.objs id o h1
    exact ⟨x, h3, h4.imp h2.ghost fun s => ⟨h2.rel s.rel, s.lt, s.own, s.free⟩⟩
  · obtain ⟨o, h1, h2⟩ := hr id o1 e1
    obtain ⟨p, h3, h4⟩ := hr id' o2 e2
    rcases H.dis id id' o p x x' hne h1 h3 hx hx' with q | q | q
    · exact .inl (h2.ghost q)
    · exact .inr (.inl (h4.ghost q))
    · exact .inr (.inr q)
theorem Sees.ref {env : Env} {h h' : Heap} {n : Nat} (hr : HRef h h') : Sees N env h n env h' n := fun _ _ ρ _ _ _ H A => ⟨ρ, H.ref hr, A⟩

theorem HRef.nil {h : Heap} : HRef h [] := fun id o' e => by simp [lookH, look] at e
theorem HRef.cons {h h' : Heap} {id : Nat} {o o' : AObj} (hl : lookH h id = some o) (r : ORef o o') (t : HRef h h') : HRef h ((id, some o') :: h') := by
  intro k p e
  rw [lookH_cons] at e
  by_cases q : id = k
  · subst q; rw [if_pos rfl] at e; cases e; exact ⟨o, hl, r⟩
  · rw [if_neg q] at e; exact t k p e

/-! ### New numbers -/
/-- Old number to new number. -/
abbrev Ren := List (Nat × Nat)
def renO (T : Ren) (id : Nat) : Option Nat := look T id
def renBack : Ren → Nat → Option Nat
  | [], _ => none
  | (o, k) :: r, i => match Nat.beq k i with | true => some o | false => renBack r i

def tOk (T : Ren) (n : Nat) : Bool := T.all fun p => Nat.blt p.2 n && (match look T p.1 with | some k => Nat.beq k p.2 | none => false) && (match renBack T p.2 with | some k => Nat.beq k p.1 | none => false)

def renC (T : Ren) : AV → Option AV
  | .ptr id i o => match look T id with | some k => some (.ptr k i o) | none => none
  | .sl id o l c => match look T id with | some k => some (.sl k o l c) | none => none
  | .map id => match look T id with | some k => some (.map k) | none => none
  | v => match flatCell v with | true => some v | false => none
def renCs (T : Ren) : List AV → Option (List AV)
  | [] => some []
  | v :: r => match renC T v, renCs T r with | some a, some l => some (a :: l) | _, _ => none
def renA (T : Ren) : AV → Option AV
  | .agg l => match renCs T l with | some l => some (.agg l) | none => none
  | .fn f a b => match renCs T a, renCs T b with | some a, some b => some (.fn f a b) | _, _ => none
  | .iface t v => match renC T v with | some v => some (.iface t v) | none => none
  | v => renC T v
def renAs (T : Ren) : List AV → Option (List AV)
  | [] => some []
  | v :: r => match renA T v, renAs T r with | some a, some l => some (a :: l) | _, _ => none
def renV (T : Ren) : AV → Option AV
  | .tup l => match renAs T l with | some l => some (.tup l) | none => none
  | v => renA T v

section
variable {T : Ren} {ρ ρ' : Nat → Option Loc} {RO : Nat → Prop} {w : World}

theorem renC_ok (hρ : ∀ i k x, look T i = some k → ρ i = some x → ρ' k = some x) {a b : AV} {v : Value} (e : renC T a = some b) (hv : VRel ρ RO w a v) : VRel ρ' RO w b v := by
  unfold renC at e
  split at e
  · split at e
    · rename_i hk; cases e
      cases hv with
      | ptr h => exact .ptr (hρ _ _ _ hk h)
    · cases e
  · split at e
    · rename_i hk; cases e
      cases hv with
      | sl h hl hc hA => exact .sl (hρ _ _ _ hk h) hl hc hA
    · cases e
  · split at e
    · rename_i hk; cases e
      cases hv with
      | map h => exact .map (hρ _ _ _ hk h)
    · cases e
  · split at e
    · rename_i hf; cases e; exact Flat.move (fun _ h => h) (fun _ _ => rfl) hv (flatCell_flat hf hv)
    · cases e
theorem renCs_ok (hρ : ∀ i k x, look T i = some k → ρ i = some x → ρ' k = some x) : ∀ {l l' : List AV} {vs : List Value}, renCs T l = some l' → VRels ρ RO w l vs → VRels ρ' RO w l' vs
  | [], l', vs, e, h => by cases e; rw [h.inv_nil]; exact .nil
  | a :: r, l', vs, e, h => by
    simp only [renCs] at e
    split at e
    · rename_i a1 l1 ha hl
      cases e
      obtain ⟨v, t, rfl, h1, h2⟩ := h.inv_cons
      exact .cons (renC_ok hρ ha h1) (renCs_ok hρ hl h2)
    · cases e
theorem renA_ok (hρ : ∀ i k x, look T i = some k → ρ i = some x → ρ' k = some x) {a b : AV} {v : Value} (e : renA T a = some b) (hv : VRel ρ RO w a v) : VRel ρ' RO w b v := by
  unfold renA at e
  split at e
  · split at e
    · rename_i hk; cases e
      cases hv with
      | agg he h1 h => obtain ⟨q1, q2⟩ := renCs_ok hρ hk ⟨he, h⟩; exact .agg q1 h1 q2
    · cases e
  · split at e
    · rename_i ha hb; cases e
      cases hv with
      | fn e1 e2 h1 h2 =>
        obtain ⟨q1, q2⟩ := renCs_ok hρ ha ⟨e1, h1⟩
        obtain ⟨q3, q4⟩ := renCs_ok hρ hb ⟨e2, h2⟩
        exact .fn q1 q3 q2 q4
    · cases e
  · split at e
    · rename_i hk; cases e
      cases hv with
      | iface h => exact .iface (renC_ok hρ hk h)
    · cases e
  · exact renC_ok hρ e hv
theorem renAs_ok (hρ : ∀ i k x, look T i = some k → ρ i = some x → ρ' k = some x) : ∀ {l l' : List AV} {vs : List Value}, renAs T l = some l' → VRels ρ RO w l vs → VRels ρ' RO w l' vs
  | [], l', vs, e, h => by cases e; rw [h.inv_nil]; exact .nil
  | a :: r, l', vs, e, h => by
    simp only [renAs] at e
    split at e
    · rename_i a1 l1 ha hl
      cases e
      obtain ⟨v, t, rfl, h1, h2⟩ := h.inv_cons
      exact .cons (renA_ok hρ ha h1) (renAs_ok hρ hl h2)
    · cases e
theorem renV_ok (hρ : ∀ i k x, look T i = some k → ρ i = some x → ρ' k = some x) {a b : AV} {v : Value} (e : renV T a = some b) (hv : VRel ρ RO w a v) : VRel ρ' RO w b v := by
  unfold renV at e
  split at e
  · split at e
    · rename_i hk; cases e
      cases hv with
      | tup he h => obtain ⟨q1, q2⟩ := renAs_ok hρ hk ⟨he, h⟩; exact .tup q1 q2
    · cases e
  · exact renA_ok hρ e hv
end

/-- Objects: a row's elements must be flat; a map is not taken here. -/
def renOb (T : Ren) : AObj → Option AObj
  | .box ty cs => match renCs T cs with | some l => some (.box ty l) | none => none
  | .row ty sz n el => some (.row ty sz n el)
  | .map _ => none

def FlatRow (n sz : Nat) (el : Nat → Nat → AV) : Prop := ∀ i k, i < n → k < sz → Flat (el i k)
def FlatOb : AObj → Prop
  | .row _ sz n el => FlatRow n sz el
  | _ => True

def renH (T : Ren) (h : Heap) : Ren → Option Heap
  | [] => some []
  | (o, k) :: r => match renH T h r with
    | some h' => match lookH h o with
      | some ob => match renOb T ob with | some ob' => some ((k, some ob') :: h') | none => none
      | none => some h'
    | none => none
def FlatH (h : Heap) : Ren → Prop
  | [] => True
  | (o, _) :: r => (match lookH h o with | some ob => FlatOb ob | none => True) ∧ FlatH h r

def renE (T : Ren) (env : Env) : List Nat → Option Env
  | [] => some []
  | t :: r => match lookE env t with
    | some v => match renV T v, renE T env r with | some a, some e => some ((t, some a) :: e) | _, _ => none
    | none => none

theorem renOb_ok {T : Ren} {ρ ρ' : Nat → Option Loc} {RO : Nat → Prop} {w : World} (hρ : ∀ i k x, look T i = some k → ρ i = some x → ρ' k = some x) {x : Loc} {o o' : AObj} (e : renOb T o = some o') (hf : FlatOb o) (h : ORel ρ RO w x o) : ORel ρ' RO w x o' := by
  cases o with
  | box ty cs =>
    simp only [renOb] at e
    split at e
    · rename_i l hl
      cases e
      obtain ⟨h0, h1, h2, vs, h3, h4, h5⟩ := h
      have h6 := renCs_ok hρ hl h5
      have : l.length = cs.length := h6.1.trans h5.1.symm
      exact ⟨h0, h1.trans this.symm, h2.trans this.symm, vs, h3, h4, h6⟩
    · cases e
  | row ty sz n el =>
    cases e
    obtain ⟨h1, cs, h3, h4, h5⟩ := h
    refine ⟨h1, cs, h3, h4, fun i k hi hk => ?_⟩
    obtain ⟨v, q1, q2, q3⟩ := h5 i k hi hk
    exact ⟨v, q1, q2, Flat.move (fun _ h => h) (fun _ _ => rfl) q3 (hf i k hi hk)⟩
  | map es => cases e

theorem renOb_ghost {T : Ren} {x : Loc} {o o' : AObj} (e : renOb T o = some o') (g : Ghost x o) : Ghost x o' := by
  obtain ⟨ty, sz, el, rfl, h⟩ := g
  cases e
  exact ⟨ty, sz, el, rfl, h⟩

theorem renH_look {T : Ren} {h h' : Heap} : ∀ {S : Ren}, renH T h S = some h' → FlatH h S → ∀ k o', lookH h' k = some o' → ∃ i o, (i, k) ∈ S ∧ lookH h i = some o ∧ renOb T o = some o' ∧ FlatOb o
  | [], e, hf, k, o', hl => by cases e; simp [lookH, look] at hl
  | (i, j) :: r, e, hf, k, o', hl => by
    simp only [renH] at e
    split at e
    · rename_i h1 hr
      obtain ⟨f1, f2⟩ := hf
      split at e
      · rename_i ob hob
        split at e
        · rename_i ob' hob'
          cases e
          rw [lookH_cons] at hl
          by_cases q : j = k
          · subst q; rw [if_pos rfl] at hl; cases hl
            rw [hob] at f1
            exact ⟨i, ob, by simp, hob, hob', f1⟩
          · rw [if_neg q] at hl
            obtain ⟨i', o, q1, q2⟩ := renH_look hr f2 k o' hl
            exact ⟨i', o, by simp [q1], q2⟩
        · cases e
      · cases e
        obtain ⟨i', o, q1, q2⟩ := renH_look hr f2 k o' hl
        exact ⟨i', o, by simp [q1], q2⟩
    · cases e

theorem renE_look {T : Ren} {env env' : Env} : ∀ {ts : List Nat}, renE T env ts = some env' → ∀ t b, lookE env' t = some b → ∃ a, lookE env t = some a ∧ renV T a = some b
  | [], e, t, b, hl => by cases e; simp [lookE, look] at hl
  | t0 :: r, e, t, b, hl => by
    simp only [renE] at e
    split at e
    · rename_i v hv
      split at e
      · rename_i a e1 ha he
        cases e
        rw [lookE_cons] at hl
        by_cases q : t0 = t
        · subst q; rw [if_pos rfl] at hl; cases hl; exact ⟨v, hv, ha⟩
        · rw [if_neg q] at hl; exact renE_look he t b hl
      · cases e
    · cases e

theorem Sees.ren {T : Ren} {ts : List Nat} {env env' : Env} {h h' : Heap} {n n' : Nat} (ht : tOk T n' = true) (hE : renE T env ts = some env') (hH : renH T h T = some h') (hf : FlatH h T) : Sees N env h n env' h' n' := by
  intro w0 F ρ RO a w H A
  have tall : ∀ p ∈ T, p.2 < n' ∧ look T p.1 = some p.2 ∧ renBack T p.2 = some p.1 := by
    intro p hp
    have := List.all_eq_true.1 ht p hp
    simp only [Bool.and_eq_true] at this
    obtain ⟨⟨a1, a2⟩, a3⟩ := this
    refine ⟨by simp [Nat.blt, Nat.ble_eq] at a1; omega, ?_, ?_⟩
    · split at a2
      · rename_i k hk; rw [hk, Nat.eq_of_beq_eq_true a2]
      · cases a2
    · split at a3
      · rename_i k hk; rw [hk, Nat.eq_of_beq_eq_true a3]
      · cases a3
  have look_mem : ∀ {i k}, look T i = some k → (i, k) ∈ T := by
    intro i k hl
    clear tall hf hH hE ht
    induction T with
    | nil => cases hl
    | cons p r ih =>
      obtain ⟨a, b⟩ := p
      rw [look_cons] at hl
      by_cases q : a = i
      · rw [if_pos q] at hl; cases hl; subst q; simp
      · rw [if_neg q] at hl; exact List.mem_cons_of_mem _ (ih hl)
  have back_mem : ∀ {k i}, renBack T k = some i → (i, k) ∈ T := by
    intro k i hl
    clear tall hf hH hE ht look_mem
    induction T with
    | nil => cases hl
    | cons p r ih =>
      obtain ⟨a, b⟩ := p
      simp only [renBack] at hl
      split at hl
      · rename_i hb; cases hl; rw [Nat.eq_of_beq_eq_true hb]; simp
      · exact List.mem_cons_of_mem _ (ih hl)
  let ρ' : Nat → Option Loc := fun k => (renBack T k).bind ρ
  have hρ : ∀ i k x, look T i = some k → ρ i = some x → ρ' k = some x := by
    intro i k x hl hx
    show (renBack T k).bind ρ = some x
    rw [(tall (i, k) (look_mem hl)).2.2]
    exact hx
  refine ⟨ρ', ⟨H.frame, fun k o' hl => ?_, fun k k' o1 o2 x x' hne e1 e2 hx hx' => ?_, fun k hk => ?_, H.ro⟩, ⟨A.size, A.defers, fun t b hl => ?_⟩⟩
  · obtain ⟨i, o, m, h1, h2, h3⟩ := renH_look hH hf k o' hl
    obtain ⟨x, h4, h5⟩ := H.objs i o h1
    refine ⟨x, hρ i k x (tall _ m).2.1 h4, h5.imp (renOb_ghost h2) fun s => ⟨renOb_ok hρ h2 h3 s.rel, s.lt, s.own, s.free⟩⟩
  · obtain ⟨i, o, m, h1, h2, h3⟩ := renH_look hH hf k o1 e1
    obtain ⟨i', p, m', h1', h2', h3'⟩ := renH_look hH hf k' o2 e2
    have hi : renBack T k = some i := (tall _ m).2.2
    have hi' : renBack T k' = some i' := (tall _ m').2.2
    have hx : (renBack T k).bind ρ = some x := hx
    have hx' : (renBack T k').bind ρ = some x' := hx'
    rw [hi] at hx
    rw [hi'] at hx'
    have : i ≠ i' := by
      intro q
      subst q
      have a1 : look T i = some k := (tall _ m).2.1
      have a2 : look T i = some k' := (tall _ m').2.1
      rw [a1] at a2; cases a2; exact hne rfl
    rcases H.dis i i' o p x x' this h1 h1' hx hx' with q | q | q
    · exact .inl (renOb_ghost h2 q)
    · exact .inr (.inl (renOb_ghost h2' q))
    · exact .inr (.inr q)
  · show (renBack T k).bind ρ = none
    cases hb : renBack T k with
    | none => rfl
    | some i =>
      have := (tall (i, k) (back_mem hb)).1
      simp at this
      omega
  · obtain ⟨v, h1, h2⟩ := renE_look hE t b hl
    exact renV_ok hρ h2 (A.env t v h1)

theorem WOk.pre {c : Code} {env env2 env' : Env} {h h2 h' : Heap} {n n2 n' : Nat} {x : AExit} (s : Sees N env h n env2 h2 n2) (o : WOk P N c env2 h2 n2 x env' h' n') : WOk P N c env h n x env' h' n' := by
  intro w0 F ρ RO a w H A
  obtain ⟨ρ', H', A'⟩ := s w0 F ρ RO a w H A
  exact o w0 F ρ' RO a w H' A'
theorem WRok.pre {c : Code} {env env2 env' : Env} {h h2 h' : Heap} {n n2 n' : Nat} {x : AExit} (s : Sees N env h n env2 h2 n2) (o : WRok P N c env2 h2 n2 x env' h' n') : WRok P N c env h n x env' h' n' := by
  obtain ⟨k, o⟩ := o
  refine ⟨k, fun w0 F ρ RO a w H A => ?_⟩
  obtain ⟨ρ', H', A'⟩ := s w0 F ρ RO a w H A
  exact o w0 F ρ' RO a w H' A'

def plainX : AExit → Bool
  | .panic _ => false
  | _ => true
theorem XRel.plain {ρ ρ' : Nat → Option Loc} {RO RO' : Nat → Prop} {w w' : World} {x : AExit} {e : Exit} (hx : plainX x = true) (r : XRel ρ RO w x e) : XRel ρ' RO' w' x e := by
  cases x <;> first | exact r | cases hx

theorem WOk.post {c : Code} {env env' env2 : Env} {h h' h2 : Heap} {n n' n2 : Nat} {x : AExit} (o : WOk P N c env h n x env' h' n') (hx : plainX x = true) (s : Sees N env' h' n' env2 h2 n2) : WOk P N c env h n x env2 h2 n2 := by
  intro w0 F ρ RO a w H A
  refine wp_mono (o w0 F ρ RO a w H A) fun x' a' w' q => ?_
  obtain ⟨ρ', RO', p1, p2, p3, p4⟩ := q
  obtain ⟨ρ2, H2, A2⟩ := s _ _ _ _ _ _ p2 p4
  exact ⟨ρ2, RO', p1, H2, p3.plain hx, A2⟩
theorem WRok.post {c : Code} {env env' env2 : Env} {h h' h2 : Heap} {n n' n2 : Nat} {x : AExit} (o : WRok P N c env h n x env' h' n') (hx : plainX x = true) (s : Sees N env' h' n' env2 h2 n2) : WRok P N c env h n x env2 h2 n2 := by
  obtain ⟨k, o⟩ := o
  refine ⟨k, fun w0 F ρ RO a w H A => ?_⟩
  refine rounds_mono (fun x' a' w' q => ?_) (o w0 F ρ RO a w H A)
  obtain ⟨ρ', RO', p1, p2, p3, p4⟩ := q
  obtain ⟨ρ2, H2, A2⟩ := s _ _ _ _ _ _ p2 p4
  exact ⟨ρ2, RO', p1, H2, p3.plain hx, A2⟩

theorem WRok.exit {c : Code} {env env' : Env} {h h' : Heap} {n n' : Nat} {x : AExit} (o : WOk P N c env h n x env' h' n') (hx : x ≠ .normal) : WRok P N c env h n x env' h' n' := by
  refine ⟨1, fun w0 F ρ RO a w H A => ?_⟩
  rw [rounds_succ]
  refine wp_mono (o w0 F ρ RO a w H A) fun x' a' w' q => ?_
  have : x' ≠ .normal := by
    rintro rfl
    obtain ⟨ρ', RO', p1, p2, p3, p4⟩ := q
    exact hx (xrel_normal p3)
  cases x' <;> first | exact absurd rfl this | exact q
theorem WRok.step {c : Code} {env env1 env' : Env} {h h1 h' : Heap} {n n1 n' : Nat} {x : AExit} (o : WOk P N c env h n .normal env1 h1 n1) (r : WRok P N c env1 h1 n1 x env' h' n') : WRok P N c env h n x env' h' n' := by
  obtain ⟨k, r⟩ := r
  refine ⟨k + 1, fun w0 F ρ RO a w H A => ?_⟩
  rw [rounds_succ]
  refine wp_mono (o w0 F ρ RO a w H A) fun x' a' w' q => ?_
  obtain ⟨ρ', RO', p1, p2, p3, p4⟩ := q
  cases p3
  exact rounds_mono (fun x'' a'' w'' q => q.trans p1) (r w0 F ρ' RO' a' w' p2 p4)
theorem WRok.loop {c : Code} {env env' : Env} {h h' : Heap} {n n' : Nat} {x : AExit} (r : WRok P N c env h n x env' h' n') : WOk P N (.loop c) env h n x env' h' n' := by
  obtain ⟨k, r⟩ := r
  exact fun w0 F ρ RO a w H A => wp_loop_rounds k (r w0 F ρ RO a w H A)
end Go.Eng
