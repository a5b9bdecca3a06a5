/- A region that draws its order: all orders come to one end. -/
import Derived.Test.YtopeokonlaljlaaEng9
set_option linter.unusedVariables false
set_option linter.unusedSimpArgs false
set_option linter.unusedSectionVars false
namespace Go.Eng
variable [Dr]
open Go.RowKit

variable {P : Program} {w0 w : World} {F : Nat → Prop} {ρ : Nat → Option Loc} {RO : Nat → Prop} {h : Heap} {n : Nat}

/-! ### What an operation looks at -/
theorem evA_congr {env env' : Env} {x : Operand} (h : ∀ t, x = .tmp t → lookE env t = lookE env' t) : evA env x = evA env' x := by
  cases x with
  | tmp t => exact h t rfl
  | _ => rfl

theorem evAs_congr {env env' : Env} : ∀ {l : List Operand}, (∀ x ∈ l, evA env x = evA env' x) → evAs env l = evAs env' l
  | [], _ => rfl
  | x :: r, h => by simp only [evAs, h x (by simp), evAs_congr (l := r) (fun y hy => h y (by simp [hy]))]

theorem evParts_congr {env env' : Env} : ∀ {l : List (Nat × Operand)}, (∀ x ∈ l, evA env x.2 = evA env' x.2) → evParts env l = evParts env' l
  | [], _ => rfl
  | (i, x) :: r, h => by simp only [evParts, h (i, x) (by simp), evParts_congr (l := r) (fun y hy => h y (by simp [hy]))]

theorem dIds_congr {env env' : Env} {op : Op} (h : ∀ x ∈ op.operands, evA env x = evA env' x) : dIds env op = dIds env' op := by
  cases op <;> simp only [Op.operands] at h <;> try rfl
  case load t a => simp only [dIds, h a (by simp)]
  case store t a v => simp only [dIds, h a (by simp)]
  case indexAddr t x i => simp only [dIds, h x (by simp)]
  case slice t x lo hi mx => cases mx <;> simp only [dIds, h x (by simp)]
  case call c =>
    obtain ⟨cal, args, ts⟩ := c
    cases cal with
    | value f => rfl
    | invoke r m => rfl
    | builtin b =>
      cases b <;> try rfl
      simp only [dIds]
      split
      · rename_i x hx
        rw [h x (by simp [Call.operands]; rw [← Array.mem_toList_iff, hx]; simp)]
      · rfl

theorem bound_congr {env env' : Env} {d : Int} {x : Option Operand} (h : ∀ y ∈ x.toArray, evA env y = evA env' y) : boundA env d x = boundA env' d x := by
  cases x with
  | none => rfl
  | some y => simp only [boundA, h y (by simp)]

theorem stepA_env {env env' : Env} {op : Op} (h : ∀ x ∈ op.operands, evA env x = evA env' x) (hp : Heap) (n : Nat) : stepA P env hp n op = stepA P env' hp n op := by
  cases op <;> simp only [Op.operands] at h <;> try rfl
  case move x => simp only [stepA, h x (by simp)]
  case assign x => simp only [stepA, h x (by simp)]
  case pick c x y => simp only [stepA, h c (by simp), h x (by simp), h y (by simp)]
  case box t x => simp only [stepA, h x (by simp)]
  case build t parts => simp only [stepA, evParts_congr (l := parts.toList) (fun x hx => h x.2 (by simp only [List.mem_toArray, List.mem_map]; exact ⟨x, hx, rfl⟩))]
  case buildSlice t len parts => simp only [stepA, evParts_congr (l := parts.toList) (fun x hx => h x.2 (by simp only [List.mem_toArray, List.mem_map]; exact ⟨x, hx, rfl⟩))]
  case load t x => simp only [stepA, h x (by simp)]
  case store t x y => simp only [stepA, h x (by simp), h y (by simp)]
  case nilCheck x => simp only [stepA, h x (by simp)]
  case binOp op t x y u => simp only [stepA, h x (by simp), h y (by simp)]
  case unOp op t x => simp only [stepA, h x (by simp)]
  case convert s t x => simp only [stepA, h x (by simp)]
  case makeInterface t x => simp only [stepA, h x (by simp)]
  case makeFunc f first cap =>
    simp only [stepA, evAs_congr (l := first.toList) (fun x hx => h x (by simp at hx ⊢; exact .inl hx)), evAs_congr (l := cap.toList) (fun x hx => h x (by simp at hx ⊢; exact .inr hx))]
  case makeSlice t l c => simp only [stepA, h l (by simp), h c (by simp)]
  case slice t x lo hi mx =>
    cases mx with
    | some m => rfl
    | none =>
      simp only [stepA, h x (by simp)]
      split
      · simp only [sliceA, bound_congr (env := env) (env' := env') (x := lo) (fun y hy => h y (by simp at hy ⊢; exact .inr (.inl hy))), bound_congr (env := env) (env' := env') (x := hi) (fun y hy => h y (by simp at hy ⊢; exact .inr (.inr hy)))]
      · rfl
  case fieldAddr s x f => simp only [stepA, h x (by simp)]
  case field s x f => simp only [stepA, h x (by simp)]
  case indexAddr t x i => simp only [stepA, h x (by simp), h i (by simp)]
  case index t x i => simp only [stepA, h x (by simp), h i (by simp)]
  case extract x i => simp only [stepA, h x (by simp)]
  case call c =>
    obtain ⟨cal, args, ts⟩ := c
    cases cal with
    | value f => rfl
    | invoke r m => rfl
    | builtin b =>
      have hl : ∀ x ∈ args.toList, evA env x = evA env' x := fun x hx => h x (by simp [Call.operands]; simpa using hx)
      cases b <;> try rfl
      · simp only [stepA]
        split
        · rename_i x y t u hx ht
          rw [hx] at hl
          simp only [hl x (by simp), hl y (by simp)]
        · rfl
      · simp only [stepA]
        split
        · rename_i x t hx ht
          rw [hx] at hl
          simp only [hl x (by simp)]
        · rfl
      · simp only [stepA]
        split
        · rename_i x t hx ht
          rw [hx] at hl
          simp only [hl x (by simp)]
        · rfl
      · simp only [stepA, evAs_congr hl]
      · simp only [stepA, evAs_congr hl]

theorem callee_congr {env env' : Env} {f : Operand} (h : evA env f = evA env' f) : calleeA env (.value f) = calleeA env' (.value f) := by simp only [calleeA, h]

theorem stepD_env {cf : CallF} {cds : List Dec} {env env' : Env} {op : Op} (h : ∀ x ∈ op.operands, evA env x = evA env' x) (hp : Heap) (n : Nat) : stepD P cf cds env hp n op = stepD P cf cds env' hp n op := by
  unfold stepD
  split
  · rename_i f args ts
    simp only [Op.operands, Call.operands] at h
    rw [callee_congr (h f (by simp)), evAs_congr (l := args.toList) (fun x hx => h x (by simp at hx ⊢; exact .inr hx))]
  · rw [stepA_env h]

/-- What an operation does to the objects: nothing, or one object that it names turns. -/
def Upd (id : Option Nat) (wr : Bool) (u : Heap) : Prop := u = [] ∨ (wr = true ∧ ∃ i o, id = some i ∧ u = [(i, o)])

theorem pure_heap {h h' : Heap} {n : Nat} {r : Option AV} {g : Got} (e : Got.pure h n r = some g) : ∃ u : Heap, u = [] ∧ g.heap = u ++ h ∧ Got.pure h' n r = some ⟨g.val, u ++ h', g.next, g.conds⟩ := by
  unfold Got.pure at e ⊢
  split at e
  · cases e; exact ⟨[], rfl, rfl, rfl⟩
  · cases e
theorem pureC_heap {h h' : Heap} {n : Nat} {r : Option (AV × Conds)} {g : Got} (e : Got.pureC h n r = some g) : ∃ u : Heap, u = [] ∧ g.heap = u ++ h ∧ Got.pureC h' n r = some ⟨g.val, u ++ h', g.next, g.conds⟩ := by
  unfold Got.pureC at e ⊢
  split at e
  · cases e; exact ⟨[], rfl, rfl, rfl⟩
  · cases e

theorem stepA_heap {env : Env} {op : Op} {id : Option Nat} {wr : Bool} {h h' : Heap} {n : Nat} {g : Got} (hd : dIds env op = some (id, wr)) (e : stepA P env h n op = some g) (hh : ∀ i, id = some i → lookH h i = lookH h' i) :
    ∃ u, Upd id wr u ∧ g.heap = u ++ h ∧ stepA P env h' n op = some ⟨g.val, u ++ h', g.next, g.conds⟩ := by
  have hpure : ∀ {r : Option AV}, Got.pure h n r = some g → ∃ u, Upd id wr u ∧ g.heap = u ++ h ∧ Got.pure h' n r = some ⟨g.val, u ++ h', g.next, g.conds⟩ := by
    intro r e
    obtain ⟨u, rfl, h1, h2⟩ := pure_heap (h' := h') e
    exact ⟨[], .inl rfl, h1, h2⟩
  have hpureC : ∀ {r : Option (AV × Conds)}, Got.pureC h n r = some g → ∃ u, Upd id wr u ∧ g.heap = u ++ h ∧ Got.pureC h' n r = some ⟨g.val, u ++ h', g.next, g.conds⟩ := by
    intro r e
    obtain ⟨u, rfl, h1, h2⟩ := pureC_heap (h' := h') e
    exact ⟨[], .inl rfl, h1, h2⟩
  unfold stepA at e
  split at e
  · simp only [stepA]; exact hpure e
  · simp only [stepA]; exact hpure e
  · simp only [stepA]
    split at e
    · rename_i hc; (try simp only [hc]); exact hpure e
    · rename_i hc; (try simp only [hc]); exact hpure e
    · cases e
  · simp [dIds] at hd
  · simp [dIds] at hd
  · simp only [stepA]
    split at e
    · rename_i hc; (try simp only [hc]); exact hpure e
    · cases e
  · simp [dIds] at hd
  · -- load
    rename_i t a
    simp only [stepA]
    split at e
    · rename_i v hv
      (try simp only [hv])
      simp only [dIds, hv] at hd
      unfold lodA at e ⊢
      split at e
      · rename_i id' idx off
        simp only [Option.some.injEq, Prod.mk.injEq] at hd
        obtain ⟨rfl, rfl⟩ := hd
        simp only [← hh id' rfl]
        split at e
        · rename_i ty cells hlk
          (try simp only [hlk])
          split at e
          · exact hpure e
          · cases e
        · rename_i ty sz m elem hlk
          (try simp only [hlk])
          split at e
          · rename_i s hs
            (try simp only [hs])
            split at e
            · rename_i q1 q2
              cases e
              simp only [q1, q2]
              exact ⟨[], .inl rfl, rfl, rfl⟩
            · rename_i q1 q2
              cases e
              simp only [q1, q2]
              exact ⟨[], .inl rfl, rfl, rfl⟩
            · cases e
          · cases e
        · cases e
      · split at e
        · rename_i s hs
          (try simp only [hs])
          split at e
          · rename_i q1 q2
            cases e
            simp only [q1, q2]
            exact ⟨[], .inl rfl, rfl, rfl⟩
          · rename_i q1 q2
            cases e
            simp only [q1, q2]
            exact ⟨[], .inl rfl, rfl, rfl⟩
          · cases e
        · cases e
      · cases e
    · cases e
  · -- store
    rename_i t a x
    simp only [stepA]
    split at e
    · rename_i v y hv hy
      (try simp only [hv, hy])
      simp only [dIds, hv] at hd
      unfold stoA at e ⊢
      split at e
      · rename_i s hs hpl
        (try simp only [hs, hpl])
        split at e
        · rename_i hlen
          (try simp only [hlen])
          split at e
          · rename_i id' idx off
            simp only [Option.some.injEq, Prod.mk.injEq] at hd
            obtain ⟨rfl, rfl⟩ := hd
            simp only [← hh id' rfl]
            split at e
            · rename_i ty cells hlk
              (try simp only [hlk])
              split at e
              · rename_i q1
                cases e
                simp only [q1]
                exact ⟨[_], .inr ⟨rfl, _, _, rfl, rfl⟩, rfl, rfl⟩
              · cases e
            · rename_i ty sz m elem hlk
              (try simp only [hlk])
              split at e
              · rename_i q1
                cases e
                simp only [q1]
                exact ⟨[_], .inr ⟨rfl, _, _, rfl, rfl⟩, rfl, rfl⟩
              · cases e
            · cases e
          · cases e
        · cases e
      · cases e
    · cases e
  · simp only [stepA]
    split at e
    · rename_i hc; (try simp only [hc]); exact hpure e
    · rename_i hc; (try simp only [hc]); exact hpure e
    · cases e
  · simp only [stepA]
    split at e
    · rename_i h1 h2; (try simp only [h1, h2]); exact hpureC e
    · cases e
  · simp only [stepA]
    split at e
    · rename_i hc; (try simp only [hc]); exact hpure e
    · cases e
  · simp only [stepA]
    split at e
    · rename_i h1 h2 h3; (try simp only [h1, h2, h3]); exact hpure e
    · rename_i h1 h2 h3; (try simp only [h1, h2, h3]); exact hpure e
    · cases e
  · simp only [stepA]
    split at e
    · rename_i h1 h2; (try simp only [h1, h2]); exact hpure e
    · cases e
  · simp only [stepA]
    split at e
    · rename_i h1 h2; (try simp only [h1, h2]); exact hpure e
    · cases e
  · simp [dIds] at hd
  · -- slice
    rename_i t x lo hi
    simp only [stepA]
    split at e
    · rename_i v hv
      (try simp only [hv])
      simp only [dIds, hv] at hd
      unfold sliceA at e ⊢
      split at e
      · split at e
        · rename_i q1 q2 q3
          cases e
          simp only [q1, q2, q3]
          exact ⟨[], .inl rfl, rfl, rfl⟩
        · cases e
      · rename_i id' off len cap
        simp only [Option.some.injEq, Prod.mk.injEq] at hd
        obtain ⟨rfl, rfl⟩ := hd
        have hk : knownA h' id' = knownA h id' := by simp only [knownA, hh id' rfl]
        split at e
        · rename_i q1 q2 q3
          simp only [q1, q2, q3, hk]
          split at e
          · rename_i q4 q5
            (try simp only [q4, q5])
            split at e
            · rename_i q6
              cases e
              simp only [q6]
              exact ⟨[], .inl rfl, rfl, rfl⟩
            · cases e
          · cases e
        · cases e
      · split at e
        · rename_i q1 q2 q3
          (try simp only [q1, q2, q3])
          split at e
          · rename_i q4
            (try simp only [q4])
            split at e
            · rename_i q6
              cases e
              simp only [q6]
              exact ⟨[], .inl rfl, rfl, rfl⟩
            · cases e
          · cases e
        · cases e
      · cases hd
      · cases e
    · cases e
  · simp only [stepA]
    split at e
    · rename_i hc; (try simp only [hc]); exact hpure e
    · cases e
  · simp only [stepA]
    split at e
    · rename_i h1 h2; (try simp only [h1, h2]); exact hpure e
    · cases e
  · -- indexAddr
    rename_i t x i
    simp only [stepA]
    split at e
    · rename_i v j hv hj
      (try simp only [hv, hj])
      simp only [dIds, hv] at hd
      unfold idxA at e ⊢
      split at e
      · rename_i q1 q2
        (try simp only [q1, q2])
        split at e
        · rename_i s id' off len cap q3
          simp only [Option.some.injEq, Prod.mk.injEq] at hd
          obtain ⟨rfl, rfl⟩ := hd
          have hk : knownA h' id' = knownA h id' := by simp only [knownA, hh id' rfl]
          simp only [q3, hk]
          split at e
          · rename_i q4
            (try simp only [q4])
            split at e
            · rename_i q5 q6
              cases e
              simp only [q5, q6]
              exact ⟨[], .inl rfl, rfl, rfl⟩
            · cases e
          · cases e
        · rename_i s sz len elem q3
          (try simp only [q3])
          split at e
          · rename_i q5 q6
            cases e
            simp only [q5, q6]
            exact ⟨[], .inl rfl, rfl, rfl⟩
          · cases e
        · cases e
      · cases e
    · cases e
  · simp only [stepA]
    split at e
    · rename_i h1 h2; (try simp only [h1, h2]); exact hpureC e
    · cases e
  · simp only [stepA]
    split at e
    · rename_i hc; (try simp only [hc]); exact hpure e
    · cases e
  · -- len
    rename_i args ts
    simp only [stepA]
    split at e
    · rename_i x t hargs hts
      (try simp only [hargs, hts])
      simp only [dIds, hargs] at hd
      split at e
      · rename_i v hv
        (try simp only [hv])
        simp only [hv] at hd
        have : lenA P h' t v = lenA P h t v := by
          unfold lenA
          split <;> try rfl
          rename_i id' _
          simp only [Option.some.injEq, Prod.mk.injEq] at hd
          simp only [hh id' hd.1.symm]
        rw [this]
        exact hpure e
      · cases e
    · cases e
  · simp [dIds] at hd
  · simp [dIds] at hd
  · simp only [stepA]
    split at e
    · rename_i hc; (try simp only [hc]); exact hpure e
    · cases e
  · simp only [stepA]
    split at e
    · rename_i hc; (try simp only [hc]); exact hpure e
    · cases e
  · cases e

end Go.Eng
