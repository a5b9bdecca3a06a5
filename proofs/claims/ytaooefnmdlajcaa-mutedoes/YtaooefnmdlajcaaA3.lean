/- Part 3 of the proof of MuteDoes. -/
import Derived.Test.YtaooefnmdlajcaaA2
set_option linter.unusedVariables false
set_option linter.unusedSimpArgs false
set_option linter.unusedSectionVars false
section
set_option linter.unusedVariables false
open Go Go.Eng Go.Proofs
namespace Go.Proofs.Ytaooefnmdlajcaa
set_option maxHeartbeats 0
set_option maxRecDepth 100000
noncomputable section
def Dl4 (k : Nat) : Delta := dCons 39 (callAt plan [.rd 32] (gJoin)) (Dl3 k)
def Lm4 (k : Nat) : FuncId → Nat → Option LamF := Lm3 k
theorem Dl4_ok (k : Nat) : DeltaOk Try.prog (Dl4 k) := dCons_ok (Dl3_ok k) (gJoin_ok)
theorem Lm4_ok (k : Nat) : LamsOk Try.prog (Lm4 k) := Lm3_ok k
abbrev cf4 (k : Nat) : CallF := evF Try.prog (Dl4 k) (Lm4 k) 200 12
theorem cf4_ok (k : Nat) : CfOk Try.prog (cf4 k) := evF_ok noNum mixed (Dl4_ok k) (Lm4_ok k) 12
abbrev R42 := List GWindow
def o42 (_ : R42) : AEnd := .ret (.slf 0)
def u42 (r : R42) : Heap := [(0, some (.row 32 r))]
def n42 (_ : R42) : Nat := 1
def r42 (o : AEnd) (u : Heap) (n : Nat) : Option R42 := match o, u, n with
  | .ret (.slf 0), [(0, ba0)], 1 => (match (rowD 32 ba0 : Option (List GWindow)) with | some a0 => some a0 | none => none)
  | _, _, _ => none
theorem r42_ok (o : AEnd) (u : Heap) (n : Nat) (r : R42) (h : r42 o u n = some r) : o = o42 r ∧ u = u42 r ∧ n = n42 r := by
  unfold r42 at h
  split at h
  · skip
    split at h
    · rename_i q
      have q := rowD_ok q
      subst q
      cases h; exact ⟨rfl, rfl, rfl⟩
    · cases h
  · cases h
def f42 (k : Nat) (x0 : List GWindow) : Option R42 :=
  br (true && decide (((0 : Nat) + List.length x0) * (24 : Nat) ≤ (140737488355328 : Nat)))
   (some ([] ++ x0))
   (none)
theorem f42_run (k : Nat) (x0 : List GWindow) : cf4 k R42 42 [.dsn 32 x0] [] 0 (endR planR (.fresh 32) [] 0 r42) = f42 k x0 := by kernel_rfl
theorem f42_nil (k : Nat) : cf4 k R42 42 [.nils] [] 0 (endR planR (.fresh 32) [] 0 r42) = f42 k [] := by kernel_rfl
def g42 (k : Nat) : CallS := entT (rowA 32) (fun x => f42 k x) (elAll _) (fun _ => o42) (fun _ => u42) (fun _ => n42)
theorem g42_ok (k : Nat) : CallSOk Try.prog 42 (g42 k) := entry_nil (cf4_ok k) (oR := o42) (uR := u42) (nR := n42) r42_ok (hel := elAll_ok) (f42_nil k) (f42_run k)
def Dl5 (k : Nat) : Delta := dCons 42 (callAt plan [.rd 32] (g42 k)) (Dl4 k)
def Lm5 (k : Nat) : FuncId → Nat → Option LamF := Lm4 k
theorem Dl5_ok (k : Nat) : DeltaOk Try.prog (Dl5 k) := dCons_ok (Dl4_ok k) (g42_ok k)
theorem Lm5_ok (k : Nat) : LamsOk Try.prog (Lm5 k) := Lm4_ok k
abbrev cf5 (k : Nat) : CallF := evF Try.prog (Dl5 k) (Lm5 k) 200 12
theorem cf5_ok (k : Nat) : CfOk Try.prog (cf5 k) := evF_ok noNum mixed (Dl5_ok k) (Lm5_ok k) 12
abbrev P19 := Unit
def A19 (p : P19) : List AV := []
def d19 (a : List AV) (H : Heap) : Option P19 := match a, H with
  | [], [] => some ()
  | _, _ => none
theorem d19_ok (a : List AV) (H : Heap) (p : P19) (h : d19 a H = some p) : a = A19 p ∧ H = [] := by
  unfold d19 at h
  split at h
  · skip
    cases h; exact ⟨rfl, rfl⟩
  · cases h
abbrev R19 := Bool
def o19 (r : R19) : AEnd := .ret (.bool r)
def u19 (r : R19) : Heap := []
def n19 (_ : R19) : Nat := 0
def r19 (o : AEnd) (u : Heap) (n : Nat) : Option R19 := match o, u, n with
  | .ret (.bool a0), [], 0 => some (a0)
  | _, _, _ => none
theorem r19_ok (p : P19) (o : AEnd) (u : Heap) (n : Nat) (r : R19) (h : r19 o u n = some r) : o = o19 r ∧ u = u19 r ∧ n = n19 r := by
  unfold r19 at h
  split at h
  · skip
    cases h; exact ⟨rfl, rfl, rfl⟩
  · cases h
def f19 (k : Nat) : Option R19 := some true
theorem f19_run : cf5 60 R19 19 (A19 ()) [] 0 (endR planR (.any) [] 0 r19) = some true := by kernel_rfl
def g19 (k : Nat) : CallS := entT d19 (fun p => f19 k ) (elAll _) (fun _ => o19) (fun _ => u19) (fun _ => n19)
theorem g19_ok (k : Nat) : CallSOk Try.prog 19 (g19 k) := entry_le (Hp := fun _ => []) (plan := planR) (kd := .any) (dead := []) (decR := fun _ => r19) (oR := fun _ => o19) (uR := fun _ => u19) (nR := fun _ => n19) d19_ok r19_ok (hel := elAll_ok) (fun p z h => ⟨cf5 60, cf5_ok 60, f19_run.trans h⟩)
def Dl6 (k : Nat) : Delta := dCons 19 (callAt plan [] (g19 k)) (Dl5 k)
def Lm6 (k : Nat) : FuncId → Nat → Option LamF := Lm5 k
theorem Dl6_ok (k : Nat) : DeltaOk Try.prog (Dl6 k) := dCons_ok (Dl5_ok k) (g19_ok k)
theorem Lm6_ok (k : Nat) : LamsOk Try.prog (Lm6 k) := Lm5_ok k
abbrev cf6 (k : Nat) : CallF := evF Try.prog (Dl6 k) (Lm6 k) 200 12
theorem cf6_ok (k : Nat) : CfOk Try.prog (cf6 k) := evF_ok noNum mixed (Dl6_ok k) (Lm6_ok k) 12
abbrev P75 := GWindow
def A75 (p : P75) : List AV := [.agg [.int .i64 p.bed, .int .i64 p.src, .int .i64 p.to]]
def d75 (a : List AV) (H : Heap) : Option P75 := match a, H with
  | [.agg [.int .i64 a0, .int .i64 a1, .int .i64 a2]], [] => some ((⟨a0, a1, a2⟩ : GWindow))
  | _, _ => none
theorem d75_ok (a : List AV) (H : Heap) (p : P75) (h : d75 a H = some p) : a = A75 p ∧ H = [] := by
  unfold d75 at h
  split at h
  · skip
    cases h; exact ⟨rfl, rfl⟩
  · cases h
abbrev R75 := Bool
def o75 (r : R75) : AEnd := .ret (.bool r)
def u75 (r : R75) : Heap := []
def n75 (_ : R75) : Nat := 0
def r75 (o : AEnd) (u : Heap) (n : Nat) : Option R75 := match o, u, n with
  | .ret (.bool a0), [], 0 => some (a0)
  | _, _, _ => none
theorem r75_ok (p : P75) (o : AEnd) (u : Heap) (n : Nat) (r : R75) (h : r75 o u n = some r) : o = o75 r ∧ u = u75 r ∧ n = n75 r := by
  unfold r75 at h
  split at h
  · skip
    cases h; exact ⟨rfl, rfl, rfl⟩
  · cases h
def f75 (k : Nat) (x0 : GWindow) : Option R75 :=
  br (decide (GWindow.bed x0 ≥ (1 : Int)))
   (br (decide (GWindow.bed x0 ≤ (99 : Int)))
    (br (decide (GWindow.src x0 ≥ (0 : Int)))
     (br (decide (GWindow.src x0 < GWindow.to x0))
      (some (decide (GWindow.to x0 ≤ (1000000000 : Int))))
      (some false))
     (some false))
    (some false))
   (some false)
theorem f75_run (k : Nat) (x0 : GWindow) : cf6 k R75 75 (A75 (x0)) [] 0 (endR planR (.any) [] 0 r75) = f75 k x0 := by kernel_rfl
def g75 (k : Nat) : CallS := entT d75 (fun p => f75 k p) (elAll _) (fun _ => o75) (fun _ => u75) (fun _ => n75)
theorem g75_ok (k : Nat) : CallSOk Try.prog 75 (g75 k) := entry_ok (Hp := fun _ => []) (oR := fun _ => o75) (uR := fun _ => u75) (nR := fun _ => n75) (cf6_ok k) d75_ok r75_ok (hel := elAll_ok) (fun p => f75_run k p)
def Dl7 (k : Nat) : Delta := dCons 75 (callAt plan [.any] (g75 k)) (Dl6 k)
def Lm7 (k : Nat) : FuncId → Nat → Option LamF := Lm6 k
theorem Dl7_ok (k : Nat) : DeltaOk Try.prog (Dl7 k) := dCons_ok (Dl6_ok k) (g75_ok k)
theorem Lm7_ok (k : Nat) : LamsOk Try.prog (Lm7 k) := Lm6_ok k
abbrev cf7 (k : Nat) : CallF := evF Try.prog (Dl7 k) (Lm7 k) 200 12
theorem cf7_ok (k : Nat) : CfOk Try.prog (cf7 k) := evF_ok noNum mixed (Dl7_ok k) (Lm7_ok k) 12
abbrev P74 := GWindow
def A74 (p : P74) : List AV := [.agg [.int .i64 p.bed, .int .i64 p.src, .int .i64 p.to]]
def d74 (a : List AV) (H : Heap) : Option P74 := match a, H with
  | [.agg [.int .i64 a0, .int .i64 a1, .int .i64 a2]], [] => some ((⟨a0, a1, a2⟩ : GWindow))
  | _, _ => none
theorem d74_ok (a : List AV) (H : Heap) (p : P74) (h : d74 a H = some p) : a = A74 p ∧ H = [] := by
  unfold d74 at h
  split at h
  · skip
    cases h; exact ⟨rfl, rfl⟩
  · cases h
abbrev R74 := Bool
def o74 (r : R74) : AEnd := .ret (.bool r)
def u74 (r : R74) : Heap := []
def n74 (_ : R74) : Nat := 0
def r74 (o : AEnd) (u : Heap) (n : Nat) : Option R74 := match o, u, n with
  | .ret (.bool a0), [], 0 => some (a0)
  | _, _, _ => none
theorem r74_ok (p : P74) (o : AEnd) (u : Heap) (n : Nat) (r : R74) (h : r74 o u n = some r) : o = o74 r ∧ u = u74 r ∧ n = n74 r := by
  unfold r74 at h
  split at h
  · skip
    cases h; exact ⟨rfl, rfl, rfl⟩
  · cases h
def f74 (k : Nat) (x0 : GWindow) : Option R74 :=
  bindO (f75 k x0) fun r3000 =>
   some (!r3000)
theorem f74_run (k : Nat) (x0 : GWindow) : cf7 k R74 74 (A74 (x0)) [] 0 (endR planR (.any) [] 0 r74) = f74 k x0 := by kernel_rfl
def g74 (k : Nat) : CallS := entT d74 (fun p => f74 k p) (elAll _) (fun _ => o74) (fun _ => u74) (fun _ => n74)
theorem g74_ok (k : Nat) : CallSOk Try.prog 74 (g74 k) := entry_ok (Hp := fun _ => []) (oR := fun _ => o74) (uR := fun _ => u74) (nR := fun _ => n74) (cf7_ok k) d74_ok r74_ok (hel := elAll_ok) (fun p => f74_run k p)
def Dl8 (k : Nat) : Delta := dCons 74 (callAt plan [.any] (g74 k)) (Dl7 k)
def Lm8 (k : Nat) : FuncId → Nat → Option LamF := Lm7 k
theorem Dl8_ok (k : Nat) : DeltaOk Try.prog (Dl8 k) := dCons_ok (Dl7_ok k) (g74_ok k)
theorem Lm8_ok (k : Nat) : LamsOk Try.prog (Lm8 k) := Lm7_ok k
abbrev cf8 (k : Nat) : CallF := evF Try.prog (Dl8 k) (Lm8 k) 200 12
theorem cf8_ok (k : Nat) : CfOk Try.prog (cf8 k) := evF_ok noNum mixed (Dl8_ok k) (Lm8_ok k) 12
abbrev P37 := List GWindow
def A37 (p : P37) : List AV := [.dsl 32 p]
def d37 (a : List AV) (H : Heap) : Option P37 := match a, H with
  | [ba0], [] => (match (dslD 32 ba0 : Option (List GWindow)) with | some a0 => some (a0) | none => none)
  | _, _ => none
theorem d37_ok (a : List AV) (H : Heap) (p : P37) (h : d37 a H = some p) : a = A37 p ∧ H = [] := by
  unfold d37 at h
  split at h
  · skip
    split at h
    · rename_i q
      have q := dslD_ok q
      subst q
      cases h; exact ⟨rfl, rfl⟩
    · cases h
  · cases h
abbrev R37 := Bool
def o37 (r : R37) : AEnd := .ret (.bool r)
def u37 (r : R37) : Heap := []
def n37 (_ : R37) : Nat := 0
def r37 (o : AEnd) (u : Heap) (n : Nat) : Option R37 := match o, u, n with
  | .ret (.bool a0), [], 0 => some (a0)
  | _, _, _ => none
theorem r37_ok (p : P37) (o : AEnd) (u : Heap) (n : Nat) (r : R37) (h : r37 o u n = some r) : o = o37 r ∧ u = u37 r ∧ n = n37 r := by
  unfold r37 at h
  split at h
  · skip
    cases h; exact ⟨rfl, rfl, rfl⟩
  · cases h
structure S83_0 where
  mk ::
  x0 : List GWindow
  x7 : Int
  x8 : Int
def VS83_0 (s : S83_0) : List AV := [.dsl 32 s.x0, .fn (.func 74) [] [], .int .i64 s.x7, .int .i64 s.x8]
def HS83_0 (s : S83_0) : Heap := []
def dS83_0 (vs : List AV) (H : Heap) : Option S83_0 := match vs, H with
  | [bx0, .fn (.func 74) [] [], .int .i64 x7, .int .i64 x8], [] => (match (dslD 32 bx0 : Option (List GWindow)) with | some x0 => some (⟨x0, x7, x8⟩ : S83_0) | none => none)
  | _, _ => none
theorem dS83_0_ok (vs : List AV) (H : Heap) (s : S83_0) (h : dS83_0 vs H = some s) : vs = VS83_0 s ∧ H = HS83_0 s := by
  unfold dS83_0 at h
  split at h
  · skip
    split at h
    · rename_i q
      have q := dslD_ok q
      subst q
      cases h; exact ⟨rfl, rfl⟩
    · cases h
  · cases h
def tS83_0 : AExit → List (Nat × Kd) := fun x => match x with
  | .normal => [(0, .rd 32), (1, .any), (7, .any), (8, .any)]
  | .exit i => (match i with | 0 => [] | _ => [])
  | .ret => [(4, .any)]
  | _ => []
structure E83_0 where
  mk ::
  x4 : Int
def VE83_0 (s : E83_0) : List AV := [.int .i64 s.x4]
def HE83_0 (s : E83_0) : Heap := []
def dE83_0 (x : AExit) (vs : List AV) (H : Heap) : Option E83_0 := match x, vs, H with
  | .ret, [.int .i64 x4], [] => some (⟨x4⟩ : E83_0)
  | _, _, _ => none
theorem dE83_0_ok (x : AExit) (vs : List AV) (H : Heap) (s : E83_0) (h : dE83_0 x vs H = some s) : x = .ret ∧ vs = VE83_0 s ∧ H = HE83_0 s := by
  unfold dE83_0 at h
  split at h
  · skip
    cases h; exact ⟨rfl, rfl, rfl⟩
  · cases h
structure E83_0b where
  mk ::
def VE83_0b (s : E83_0b) : List AV := []
def HE83_0b (s : E83_0b) : Heap := []
def dE83_0b (x : AExit) (vs : List AV) (H : Heap) : Option E83_0b := match x, vs, H with
  | .exit 0, [], [] => some (⟨⟩ : E83_0b)
  | _, _, _ => none
theorem dE83_0b_ok (x : AExit) (vs : List AV) (H : Heap) (s : E83_0b) (h : dE83_0b x vs H = some s) : x = .exit 0 ∧ vs = VE83_0b s ∧ H = HE83_0b s := by
  unfold dE83_0b at h
  split at h
  · skip
    cases h; exact ⟨rfl, rfl, rfl⟩
  · cases h
abbrev EE83_0 := E83_0 ⊕ E83_0b
def xEE83_0 (e : EE83_0) : AExit := match e with | .inl _ => .ret | .inr _ => .exit 0
def VEE83_0 (e : EE83_0) : List AV := match e with | .inl s => VE83_0 s | .inr s => VE83_0b s
def HEE83_0 (e : EE83_0) : Heap := match e with | .inl s => HE83_0 s | .inr s => HE83_0b s
def dEE83_0 (x : AExit) (vs : List AV) (H : Heap) : Option EE83_0 := match dE83_0 x vs H with | some s => some (.inl s) | none => (match dE83_0b x vs H with | some s => some (.inr s) | none => none)
theorem dEE83_0_ok (x : AExit) (vs : List AV) (H : Heap) (s : EE83_0) (h : dEE83_0 x vs H = some s) : x = xEE83_0 s ∧ vs = VEE83_0 s ∧ H = HEE83_0 s := by
  unfold dEE83_0 at h
  split at h
  · rename_i q; cases h; exact dE83_0_ok _ _ _ _ q
  · split at h
    · rename_i q; cases h; exact dE83_0b_ok _ _ _ _ q
    · cases h
def pS83_0 (k : Nat) (s : S83_0) : Option (S83_0 ⊕ EE83_0) :=
  br (decide (S83_0.x8 s < S83_0.x7 s))
   (br (decide ((0 : Int) ≤ S83_0.x8 s ∧ S83_0.x8 s < (↑(List.length (S83_0.x0 s)) : Int)))
    (bindO (f74 k (List.getD (S83_0.x0 s) (Int.toNat (S83_0.x8 s)) default)) fun r1500 =>
     br r1500
      (some (Sum.inr (Sum.inl (E83_0.mk (S83_0.x8 s)))))
      (some (Sum.inl (S83_0.mk (S83_0.x0 s) (S83_0.x7 s) (IntKind.wrap IntKind.i64 (S83_0.x8 s + (1 : Int)))))))
    (none))
   (some (Sum.inr (Sum.inr E83_0b.mk)))
theorem pS83_0_run (k : Nat) (s : S83_0) : evC (S83_0 ⊕ EE83_0) Try.prog (ntmpsAt Try.prog 83) (cf8 k) ((Lm8 k) 83) 200 (loopAt Try.prog 83 0) (zipE [(0, .rd 32), (1, .any), (7, .any), (8, .any)] (VS83_0 s)) (HS83_0 s) (List.length (HS83_0 s)) (cutS plan 0 tS83_0 (rndT dS83_0 dEE83_0)) = pS83_0 k s := by kernel_rfl
def l83_0 (k : Nat) (s : S83_0) : Option EE83_0 := iterT (pS83_0 k) k s
def m83_0 (k : Nat) : LamS := lamT 0 dS83_0 (l83_0 k) (elSum (elAll _) (elAll _)) tS83_0 xEE83_0 VEE83_0 HEE83_0
theorem loop83_0 : isLoopAt Try.prog 83 0 = true := by kernel_rfl
theorem m83_0_ok (k : Nat) : LamSOk Try.prog (ntmpsAt Try.prog 83) 0 (.block 0 (.loop (loopAt Try.prog 83 0))) [(0, .rd 32), (1, .any), (7, .any), (8, .any)] (m83_0 k) := lamT_ok (plan := plan) (kb := 0) (body_run noNum mixed (cf8_ok k) (Lm8_ok k) loop83_0) rfl dS83_0_ok dEE83_0_ok (hel := (elSum_ok elAll_ok elAll_ok)) (pS83_0_run k) k
def Dl9 (k : Nat) : Delta := Dl8 k
def Lm9 (k : Nat) : FuncId → Nat → Option LamF := lCons 83 0 (lamBy plan [9, 10, 5, 11, 12, 13, 14, 15, 16, 17, 4, 18, 8] [(0, .rd 32), (1, .any), (7, .any), (8, .any)] 0 (m83_0 k)) (Lm8 k)
theorem Dl9_ok (k : Nat) : DeltaOk Try.prog (Dl9 k) := Dl8_ok k
theorem Lm9_ok (k : Nat) : LamsOk Try.prog (Lm9 k) := lCons_ok (Lm8_ok k) loop83_0 (lamBy_ok (m83_0_ok k) (by kernel_rfl))
abbrev cf9 (k : Nat) : CallF := evF Try.prog (Dl9 k) (Lm9 k) 200 12
theorem cf9_ok (k : Nat) : CfOk Try.prog (cf9 k) := evF_ok noNum mixed (Dl9_ok k) (Lm9_ok k) 12
def f37 (k : Nat) (x0 : List GWindow) : Option R37 :=
  bindO (l83_0 k (S83_0.mk x0 (↑(List.length x0) : Int) (0 : Int))) fun r3000 =>
   match r3000 with
   | .inl c2999 => some (!decide (E83_0.x4 c2999 ≥ (0 : Int)))
   | .inr c2999 => some true
theorem f37_run (k : Nat) (x0 : List GWindow) : cf9 k R37 37 (A37 (x0)) [] 0 (endR planR (.any) [] 0 r37) = f37 k x0 := by kernel_rfl
def g37 (k : Nat) : CallS := entT d37 (fun p => f37 k p) (elAll _) (fun _ => o37) (fun _ => u37) (fun _ => n37)
theorem g37_ok (k : Nat) : CallSOk Try.prog 37 (g37 k) := entry_ok (Hp := fun _ => []) (oR := fun _ => o37) (uR := fun _ => u37) (nR := fun _ => n37) (cf9_ok k) d37_ok r37_ok (hel := elAll_ok) (fun p => f37_run k p)
def Dl10 (k : Nat) : Delta := dCons 37 (callAt plan [.rd 32] (g37 k)) (Dl9 k)
def Lm10 (k : Nat) : FuncId → Nat → Option LamF := Lm9 k
theorem Dl10_ok (k : Nat) : DeltaOk Try.prog (Dl10 k) := dCons_ok (Dl9_ok k) (g37_ok k)
theorem Lm10_ok (k : Nat) : LamsOk Try.prog (Lm10 k) := Lm9_ok k
abbrev cf10 (k : Nat) : CallF := evF Try.prog (Dl10 k) (Lm10 k) 200 12
theorem cf10_ok (k : Nat) : CfOk Try.prog (cf10 k) := evF_ok noNum mixed (Dl10_ok k) (Lm10_ok k) 12
abbrev P20 := List GWindow
def A20 (p : P20) : List AV := [.dsl 32 p]
def d20 (a : List AV) (H : Heap) : Option P20 := match a, H with
  | [ba0], [] => (match (dslD 32 ba0 : Option (List GWindow)) with | some a0 => some (a0) | none => none)
  | _, _ => none
theorem d20_ok (a : List AV) (H : Heap) (p : P20) (h : d20 a H = some p) : a = A20 p ∧ H = [] := by
  unfold d20 at h
  split at h
  · skip
    split at h
    · rename_i q
      have q := dslD_ok q
      subst q
      cases h; exact ⟨rfl, rfl⟩
    · cases h
  · cases h
abbrev R20 := Bool
def o20 (r : R20) : AEnd := .ret (.bool r)
def u20 (r : R20) : Heap := []
def n20 (_ : R20) : Nat := 0
def r20 (o : AEnd) (u : Heap) (n : Nat) : Option R20 := match o, u, n with
  | .ret (.bool a0), [], 0 => some (a0)
  | _, _, _ => none
theorem r20_ok (p : P20) (o : AEnd) (u : Heap) (n : Nat) (r : R20) (h : r20 o u n = some r) : o = o20 r ∧ u = u20 r ∧ n = n20 r := by
  unfold r20 at h
  split at h
  · skip
    cases h; exact ⟨rfl, rfl, rfl⟩
  · cases h
structure S20_0 where
  mk ::
  x0 : List GWindow
  x3 : Int
def VS20_0 (s : S20_0) : List AV := [.dsl 32 s.x0, .int .i64 s.x3]
def HS20_0 (s : S20_0) : Heap := []
def dS20_0 (vs : List AV) (H : Heap) : Option S20_0 := match vs, H with
  | [bx0, .int .i64 x3], [] => (match (dslD 32 bx0 : Option (List GWindow)) with | some x0 => some (⟨x0, x3⟩ : S20_0) | none => none)
  | _, _ => none
theorem dS20_0_ok (vs : List AV) (H : Heap) (s : S20_0) (h : dS20_0 vs H = some s) : vs = VS20_0 s ∧ H = HS20_0 s := by
  unfold dS20_0 at h
  split at h
  · skip
    split at h
    · rename_i q
      have q := dslD_ok q
      subst q
      cases h; exact ⟨rfl, rfl⟩
    · cases h
  · cases h
def tS20_0 : AExit → List (Nat × Kd) := fun x => match x with
  | .normal => [(0, .rd 32), (3, .any)]
  | .exit i => (match i with | 0 => [(0, .rd 32)] | _ => [])
  | .ret => [(2, .any)]
  | _ => []
structure E20_0 where
  mk ::
  x2 : Bool
def VE20_0 (s : E20_0) : List AV := [.bool s.x2]
def HE20_0 (s : E20_0) : Heap := []
def dE20_0 (x : AExit) (vs : List AV) (H : Heap) : Option E20_0 := match x, vs, H with
  | .ret, [.bool x2], [] => some (⟨x2⟩ : E20_0)
  | _, _, _ => none
theorem dE20_0_ok (x : AExit) (vs : List AV) (H : Heap) (s : E20_0) (h : dE20_0 x vs H = some s) : x = .ret ∧ vs = VE20_0 s ∧ H = HE20_0 s := by
  unfold dE20_0 at h
  split at h
  · skip
    cases h; exact ⟨rfl, rfl, rfl⟩
  · cases h
structure E20_0b where
  mk ::
  x0 : List GWindow
def VE20_0b (s : E20_0b) : List AV := [.dsl 32 s.x0]
def HE20_0b (s : E20_0b) : Heap := []
def dE20_0b (x : AExit) (vs : List AV) (H : Heap) : Option E20_0b := match x, vs, H with
  | .exit 0, [bx0], [] => (match (dslD 32 bx0 : Option (List GWindow)) with | some x0 => some (⟨x0⟩ : E20_0b) | none => none)
  | _, _, _ => none
theorem dE20_0b_ok (x : AExit) (vs : List AV) (H : Heap) (s : E20_0b) (h : dE20_0b x vs H = some s) : x = .exit 0 ∧ vs = VE20_0b s ∧ H = HE20_0b s := by
  unfold dE20_0b at h
  split at h
  · skip
    split at h
    · rename_i q
      have q := dslD_ok q
      subst q
      cases h; exact ⟨rfl, rfl, rfl⟩
    · cases h
  · cases h
abbrev EE20_0 := E20_0 ⊕ E20_0b
def xEE20_0 (e : EE20_0) : AExit := match e with | .inl _ => .ret | .inr _ => .exit 0
def VEE20_0 (e : EE20_0) : List AV := match e with | .inl s => VE20_0 s | .inr s => VE20_0b s
def HEE20_0 (e : EE20_0) : Heap := match e with | .inl s => HE20_0 s | .inr s => HE20_0b s
def dEE20_0 (x : AExit) (vs : List AV) (H : Heap) : Option EE20_0 := match dE20_0 x vs H with | some s => some (.inl s) | none => (match dE20_0b x vs H with | some s => some (.inr s) | none => none)
theorem dEE20_0_ok (x : AExit) (vs : List AV) (H : Heap) (s : EE20_0) (h : dEE20_0 x vs H = some s) : x = xEE20_0 s ∧ vs = VEE20_0 s ∧ H = HEE20_0 s := by
  unfold dEE20_0 at h
  split at h
  · rename_i q; cases h; exact dE20_0_ok _ _ _ _ q
  · split at h
    · rename_i q; cases h; exact dE20_0b_ok _ _ _ _ q
    · cases h
def pS20_0 (k : Nat) (s : S20_0) : Option (S20_0 ⊕ EE20_0) :=
  br (decide (S20_0.x3 s < (↑(List.length (S20_0.x0 s)) : Int)))
   (br (decide ((0 : Int) ≤ IntKind.wrap IntKind.i64 (S20_0.x3 s - (1 : Int)) ∧ IntKind.wrap IntKind.i64 (S20_0.x3 s - (1 : Int)) < (↑(List.length (S20_0.x0 s)) : Int)))
    (br (decide ((0 : Int) ≤ S20_0.x3 s ∧ S20_0.x3 s < (↑(List.length (S20_0.x0 s)) : Int)))
     (br (decide (GWindow.bed (List.getD (S20_0.x0 s) (Int.toNat (IntKind.wrap IntKind.i64 (S20_0.x3 s - (1 : Int)))) default) > GWindow.bed (List.getD (S20_0.x0 s) (Int.toNat (S20_0.x3 s)) default)))
      (some (Sum.inr (Sum.inl (E20_0.mk false))))
      (br (GWindow.bed (List.getD (S20_0.x0 s) (Int.toNat (IntKind.wrap IntKind.i64 (S20_0.x3 s - (1 : Int)))) default) == GWindow.bed (List.getD (S20_0.x0 s) (Int.toNat (S20_0.x3 s)) default))
       (br (decide (GWindow.to (List.getD (S20_0.x0 s) (Int.toNat (IntKind.wrap IntKind.i64 (S20_0.x3 s - (1 : Int)))) default) ≥ GWindow.src (List.getD (S20_0.x0 s) (Int.toNat (S20_0.x3 s)) default)))
        (some (Sum.inr (Sum.inl (E20_0.mk false))))
        (some (Sum.inl (S20_0.mk (S20_0.x0 s) (IntKind.wrap IntKind.i64 (S20_0.x3 s + (1 : Int)))))))
       (some (Sum.inl (S20_0.mk (S20_0.x0 s) (IntKind.wrap IntKind.i64 (S20_0.x3 s + (1 : Int))))))))
     (none))
    (none))
   (some (Sum.inr (Sum.inr (E20_0b.mk (S20_0.x0 s)))))
theorem pS20_0_run (k : Nat) (s : S20_0) : evC (S20_0 ⊕ EE20_0) Try.prog (ntmpsAt Try.prog 20) (cf10 k) ((Lm10 k) 20) 200 (loopAt Try.prog 20 0) (zipE [(0, .rd 32), (3, .any)] (VS20_0 s)) (HS20_0 s) (List.length (HS20_0 s)) (cutS plan 0 tS20_0 (rndT dS20_0 dEE20_0)) = pS20_0 k s := by kernel_rfl
def l20_0 (k : Nat) (s : S20_0) : Option EE20_0 := iterT (pS20_0 k) k s
def m20_0 (k : Nat) : LamS := lamT 0 dS20_0 (l20_0 k) (elSum (elAll _) (elAll _)) tS20_0 xEE20_0 VEE20_0 HEE20_0
theorem loop20_0 : isLoopAt Try.prog 20 0 = true := by kernel_rfl
theorem m20_0_ok (k : Nat) : LamSOk Try.prog (ntmpsAt Try.prog 20) 0 (.block 0 (.loop (loopAt Try.prog 20 0))) [(0, .rd 32), (3, .any)] (m20_0 k) := lamT_ok (plan := plan) (kb := 0) (body_run noNum mixed (cf10_ok k) (Lm10_ok k) loop20_0) rfl dS20_0_ok dEE20_0_ok (hel := (elSum_ok elAll_ok elAll_ok)) (pS20_0_run k) k
def Dl11 (k : Nat) : Delta := Dl10 k
def Lm11 (k : Nat) : FuncId → Nat → Option LamF := lCons 20 0 (lamBy plan [6, 7, 8, 9, 12, 13, 14, 15, 16, 17, 18, 19, 20, 4, 5, 21, 22, 23, 24, 25, 26, 27, 28, 29, 30, 31, 32, 33, 34, 35, 36, 37, 38, 39, 2, 10, 11, 3] [(0, .rd 32), (3, .any)] 0 (m20_0 k)) (Lm10 k)
theorem Dl11_ok (k : Nat) : DeltaOk Try.prog (Dl11 k) := Dl10_ok k
theorem Lm11_ok (k : Nat) : LamsOk Try.prog (Lm11 k) := lCons_ok (Lm10_ok k) loop20_0 (lamBy_ok (m20_0_ok k) (by kernel_rfl))
abbrev cf11 (k : Nat) : CallF := evF Try.prog (Dl11 k) (Lm11 k) 200 12
theorem cf11_ok (k : Nat) : CfOk Try.prog (cf11 k) := evF_ok noNum mixed (Dl11_ok k) (Lm11_ok k) 12
def f20 (k : Nat) (x0 : List GWindow) : Option R20 :=
  bindO (l20_0 k (S20_0.mk x0 (1 : Int))) fun r3000 =>
   match r3000 with
   | .inl c2999 => some (E20_0.x2 c2999)
   | .inr c2999 => br (decide ((↑(List.length (E20_0b.x0 c2999)) : Int) ≤ (100 : Int)))
     (bindO (f37 k (E20_0b.x0 c2999)) fun r2997 =>
      some r2997)
     (some false)
theorem f20_run (k : Nat) (x0 : List GWindow) : cf11 k R20 20 (A20 (x0)) [] 0 (endR planR (.any) [] 0 r20) = f20 k x0 := by kernel_rfl
def g20 (k : Nat) : CallS := entT d20 (fun p => f20 k p) (elAll _) (fun _ => o20) (fun _ => u20) (fun _ => n20)
theorem g20_ok (k : Nat) : CallSOk Try.prog 20 (g20 k) := entry_ok (Hp := fun _ => []) (oR := fun _ => o20) (uR := fun _ => u20) (nR := fun _ => n20) (cf11_ok k) d20_ok r20_ok (hel := elAll_ok) (fun p => f20_run k p)
def Dl12 (k : Nat) : Delta := dCons 20 (callAt plan [.rd 32] (g20 k)) (Dl11 k)
def Lm12 (k : Nat) : FuncId → Nat → Option LamF := Lm11 k
theorem Dl12_ok (k : Nat) : DeltaOk Try.prog (Dl12 k) := dCons_ok (Dl11_ok k) (g20_ok k)
theorem Lm12_ok (k : Nat) : LamsOk Try.prog (Lm12 k) := Lm11_ok k
abbrev cf12 (k : Nat) : CallF := evF Try.prog (Dl12 k) (Lm12 k) 200 12
theorem cf12_ok (k : Nat) : CfOk Try.prog (cf12 k) := evF_ok noNum mixed (Dl12_ok k) (Lm12_ok k) 12
abbrev P40 := List (List GWindow)
def A40 (p : P40) : List AV := [.dsl 22 p]
def d40 (a : List AV) (H : Heap) : Option P40 := match a, H with
  | [ba0], [] => (match (dslD 22 ba0 : Option (List (List GWindow))) with | some a0 => some (a0) | none => none)
  | _, _ => none
theorem d40_ok (a : List AV) (H : Heap) (p : P40) (h : d40 a H = some p) : a = A40 p ∧ H = [] := by
  unfold d40 at h
  split at h
  · skip
    split at h
    · rename_i q
      have q := dslD_ok q
      subst q
      cases h; exact ⟨rfl, rfl⟩
    · cases h
  · cases h
abbrev R40 := List GWindow
def o40 (r : R40) : AEnd := .ret (.dsl 32 r)
def u40 (r : R40) : Heap := []
def n40 (_ : R40) : Nat := 0
def r40 (o : AEnd) (u : Heap) (n : Nat) : Option R40 := match o, u, n with
  | .ret ba0, [], 0 => (match (dslD 32 ba0 : Option (List GWindow)) with | some a0 => some (a0) | none => none)
  | _, _, _ => none
theorem r40_ok (p : P40) (o : AEnd) (u : Heap) (n : Nat) (r : R40) (h : r40 o u n = some r) : o = o40 r ∧ u = u40 r ∧ n = n40 r := by
  unfold r40 at h
  split at h
  · skip
    split at h
    · rename_i q
      have q := dslD_ok q
      subst q
      cases h; exact ⟨rfl, rfl, rfl⟩
    · cases h
  · cases h
structure S40_0 where
  mk ::
  x0 : List (List GWindow)
  x3 : Int
  x9 : List (List GWindow)
  x10 : Int
  x11 : Int
def VS40_0 (s : S40_0) : List AV := [.dsl 22 s.x0, .int .i64 s.x3, .dsl 22 s.x9, .int .i64 s.x10, .int .i64 s.x11]
def HS40_0 (s : S40_0) : Heap := []
def dS40_0 (vs : List AV) (H : Heap) : Option S40_0 := match vs, H with
  | [bx0, .int .i64 x3, bx9, .int .i64 x10, .int .i64 x11], [] => (match (dslD 22 bx0 : Option (List (List GWindow))) with | some x0 => (match (dslD 22 bx9 : Option (List (List GWindow))) with | some x9 => some (⟨x0, x3, x9, x10, x11⟩ : S40_0) | none => none) | none => none)
  | _, _ => none
theorem dS40_0_ok (vs : List AV) (H : Heap) (s : S40_0) (h : dS40_0 vs H = some s) : vs = VS40_0 s ∧ H = HS40_0 s := by
  unfold dS40_0 at h
  split at h
  · skip
    split at h
    · rename_i q
      have q := dslD_ok q
      subst q
      split at h
      · rename_i q
        have q := dslD_ok q
        subst q
        cases h; exact ⟨rfl, rfl⟩
      · cases h
    · cases h
  · cases h
def tS40_0 : AExit → List (Nat × Kd) := fun x => match x with
  | .normal => [(0, .rd 22), (3, .any), (9, .rd 22), (10, .any), (11, .any)]
  | .exit i => (match i with | 0 => [(0, .rd 22), (3, .any)] | _ => [])
  | .ret => [(2, .rd 32)]
  | _ => []
structure E40_0 where
  mk ::
  x0 : List (List GWindow)
  x3 : Int
def VE40_0 (s : E40_0) : List AV := [.dsl 22 s.x0, .int .i64 s.x3]
def HE40_0 (s : E40_0) : Heap := []
def dE40_0 (x : AExit) (vs : List AV) (H : Heap) : Option E40_0 := match x, vs, H with
  | .exit 0, [bx0, .int .i64 x3], [] => (match (dslD 22 bx0 : Option (List (List GWindow))) with | some x0 => some (⟨x0, x3⟩ : E40_0) | none => none)
  | _, _, _ => none
theorem dE40_0_ok (x : AExit) (vs : List AV) (H : Heap) (s : E40_0) (h : dE40_0 x vs H = some s) : x = .exit 0 ∧ vs = VE40_0 s ∧ H = HE40_0 s := by
  unfold dE40_0 at h
  split at h
  · skip
    split at h
    · rename_i q
      have q := dslD_ok q
      subst q
      cases h; exact ⟨rfl, rfl, rfl⟩
    · cases h
  · cases h
def xE40_0 (_ : E40_0) : AExit := .exit 0
def pS40_0 (k : Nat) (s : S40_0) : Option (S40_0 ⊕ E40_0) :=
  br (decide (S40_0.x11 s < S40_0.x10 s))
   (br (decide ((0 : Int) ≤ S40_0.x11 s ∧ S40_0.x11 s < (↑(List.length (S40_0.x9 s)) : Int)))
    (br (decide (IntKind.wrap IntKind.i64 (S40_0.x3 s + (↑(List.length (List.getD (S40_0.x9 s) (Int.toNat (S40_0.x11 s)) default)) : Int)) < (0 : Int)))
     (none)
     (some (Sum.inl (S40_0.mk (S40_0.x0 s) (IntKind.wrap IntKind.i64 (S40_0.x3 s + (↑(List.length (List.getD (S40_0.x9 s) (Int.toNat (S40_0.x11 s)) default)) : Int))) (S40_0.x9 s) (S40_0.x10 s) (IntKind.wrap IntKind.i64 (S40_0.x11 s + (1 : Int)))))))
    (none))
   (some (Sum.inr (E40_0.mk (S40_0.x0 s) (S40_0.x3 s))))
theorem pS40_0_run (k : Nat) (s : S40_0) : evC (S40_0 ⊕ E40_0) Try.prog (ntmpsAt Try.prog 40) (cf12 k) ((Lm12 k) 40) 200 (loopAt Try.prog 40 0) (zipE [(0, .rd 22), (3, .any), (9, .rd 22), (10, .any), (11, .any)] (VS40_0 s)) (HS40_0 s) (List.length (HS40_0 s)) (cutS plan 0 tS40_0 (rndT dS40_0 dE40_0)) = pS40_0 k s := by kernel_rfl
def l40_0 (k : Nat) (s : S40_0) : Option E40_0 := iterT (pS40_0 k) k s
def m40_0 (k : Nat) : LamS := lamT 0 dS40_0 (l40_0 k) (elAll _) tS40_0 xE40_0 VE40_0 HE40_0
theorem loop40_0 : isLoopAt Try.prog 40 0 = true := by kernel_rfl
theorem m40_0_ok (k : Nat) : LamSOk Try.prog (ntmpsAt Try.prog 40) 0 (.block 0 (.loop (loopAt Try.prog 40 0))) [(0, .rd 22), (3, .any), (9, .rd 22), (10, .any), (11, .any)] (m40_0 k) := lamT_ok (plan := plan) (kb := 0) (body_run noNum mixed (cf12_ok k) (Lm12_ok k) loop40_0) rfl dS40_0_ok dE40_0_ok (hel := elAll_ok) (pS40_0_run k) k
def Dl13 (k : Nat) : Delta := Dl12 k
def Lm13 (k : Nat) : FuncId → Nat → Option LamF := lCons 40 0 (lamBy plan [12, 13, 14, 5, 15, 16, 17, 18, 3, 19, 20, 21, 22, 11] [(0, .rd 22), (3, .any), (9, .rd 22), (10, .any), (11, .any)] 0 (m40_0 k)) (Lm12 k)
theorem Dl13_ok (k : Nat) : DeltaOk Try.prog (Dl13 k) := Dl12_ok k
theorem Lm13_ok (k : Nat) : LamsOk Try.prog (Lm13 k) := lCons_ok (Lm12_ok k) loop40_0 (lamBy_ok (m40_0_ok k) (by kernel_rfl))
abbrev cf13 (k : Nat) : CallF := evF Try.prog (Dl13 k) (Lm13 k) 200 12
theorem cf13_ok (k : Nat) : CfOk Try.prog (cf13 k) := evF_ok noNum mixed (Dl13_ok k) (Lm13_ok k) 12
structure S40_2 where
  mk ::
  x25 : List (List GWindow)
  x26 : Int
  x27 : Int
  h0 : List GWindow
def VS40_2 (s : S40_2) : List AV := [.slf 0, .dsl 22 s.x25, .int .i64 s.x26, .int .i64 s.x27]
def HS40_2 (s : S40_2) : Heap := [(0, some (.row 32 s.h0))]
def dS40_2 (vs : List AV) (H : Heap) : Option S40_2 := match vs, H with
  | [.slf 0, bx25, .int .i64 x26, .int .i64 x27], [(0, bh0)] => (match (dslD 22 bx25 : Option (List (List GWindow))) with | some x25 => (match (rowD 32 bh0 : Option (List GWindow)) with | some h0 => some (⟨x25, x26, x27, h0⟩ : S40_2) | none => none) | none => none)
  | _, _ => none
theorem dS40_2_ok (vs : List AV) (H : Heap) (s : S40_2) (h : dS40_2 vs H = some s) : vs = VS40_2 s ∧ H = HS40_2 s := by
  unfold dS40_2 at h
  split at h
  · skip
    split at h
    · rename_i q
      have q := dslD_ok q
      subst q
      split at h
      · rename_i q
        have q := rowD_ok q
        subst q
        cases h; exact ⟨rfl, rfl⟩
      · cases h
    · cases h
  · cases h
def tS40_2 : AExit → List (Nat × Kd) := fun x => match x with
  | .normal => [(6, .own 32), (25, .rd 22), (26, .any), (27, .any)]
  | .exit i => (match i with | 2 => [(6, .own 32)] | _ => [])
  | .ret => [(2, .rd 32)]
  | _ => []
structure E40_2 where
  mk ::
  h0 : List GWindow
def VE40_2 (s : E40_2) : List AV := [.slf 0]
def HE40_2 (s : E40_2) : Heap := [(0, some (.row 32 s.h0))]
def dE40_2 (x : AExit) (vs : List AV) (H : Heap) : Option E40_2 := match x, vs, H with
  | .exit 2, [.slf 0], [(0, bh0)] => (match (rowD 32 bh0 : Option (List GWindow)) with | some h0 => some (⟨h0⟩ : E40_2) | none => none)
  | _, _, _ => none
theorem dE40_2_ok (x : AExit) (vs : List AV) (H : Heap) (s : E40_2) (h : dE40_2 x vs H = some s) : x = .exit 2 ∧ vs = VE40_2 s ∧ H = HE40_2 s := by
  unfold dE40_2 at h
  split at h
  · skip
    split at h
    · rename_i q
      have q := rowD_ok q
      subst q
      cases h; exact ⟨rfl, rfl, rfl⟩
    · cases h
  · cases h
def xE40_2 (_ : E40_2) : AExit := .exit 2
def pS40_2 (k : Nat) (s : S40_2) : Option (S40_2 ⊕ E40_2) :=
  br (decide (S40_2.x27 s < S40_2.x26 s))
   (br (decide ((0 : Int) ≤ S40_2.x27 s ∧ S40_2.x27 s < (↑(List.length (S40_2.x25 s)) : Int)))
    (br (true && decide ((List.length (S40_2.h0 s) + List.length (List.getD (S40_2.x25 s) (Int.toNat (S40_2.x27 s)) default)) * (24 : Nat) ≤ (140737488355328 : Nat)))
     (some (Sum.inl (S40_2.mk (S40_2.x25 s) (S40_2.x26 s) (IntKind.wrap IntKind.i64 (S40_2.x27 s + (1 : Int))) (S40_2.h0 s ++ List.getD (S40_2.x25 s) (Int.toNat (S40_2.x27 s)) default))))
     (none))
    (none))
   (some (Sum.inr (E40_2.mk (S40_2.h0 s))))
theorem pS40_2_run (k : Nat) (s : S40_2) : evC (S40_2 ⊕ E40_2) Try.prog (ntmpsAt Try.prog 40) (cf13 k) ((Lm13 k) 40) 200 (loopAt Try.prog 40 2) (zipE [(6, .own 32), (25, .rd 22), (26, .any), (27, .any)] (VS40_2 s)) (HS40_2 s) (List.length (HS40_2 s)) (cutS plan 0 tS40_2 (rndT dS40_2 dE40_2)) = pS40_2 k s := by kernel_rfl
def l40_2 (k : Nat) (s : S40_2) : Option E40_2 := iterT (pS40_2 k) k s
def m40_2 (k : Nat) : LamS := lamT 2 dS40_2 (l40_2 k) (elAll _) tS40_2 xE40_2 VE40_2 HE40_2
theorem loop40_2 : isLoopAt Try.prog 40 2 = true := by kernel_rfl
theorem m40_2_ok (k : Nat) : LamSOk Try.prog (ntmpsAt Try.prog 40) 0 (.block 2 (.loop (loopAt Try.prog 40 2))) [(6, .own 32), (25, .rd 22), (26, .any), (27, .any)] (m40_2 k) := lamT_ok (plan := plan) (kb := 0) (body_run noNum mixed (cf13_ok k) (Lm13_ok k) loop40_2) rfl dS40_2_ok dE40_2_ok (hel := elAll_ok) (pS40_2_run k) k
def Dl14 (k : Nat) : Delta := Dl13 k
def Lm14 (k : Nat) : FuncId → Nat → Option LamF := lCons 40 2 (lamBy plan [28, 29, 30, 8, 31, 32, 33, 6, 34, 27] [(6, .own 32), (25, .rd 22), (26, .any), (27, .any)] 0 (m40_2 k)) (Lm13 k)
theorem Dl14_ok (k : Nat) : DeltaOk Try.prog (Dl14 k) := Dl13_ok k
theorem Lm14_ok (k : Nat) : LamsOk Try.prog (Lm14 k) := lCons_ok (Lm13_ok k) loop40_2 (lamBy_ok (m40_2_ok k) (by kernel_rfl))
abbrev cf14 (k : Nat) : CallF := evF Try.prog (Dl14 k) (Lm14 k) 200 12
theorem cf14_ok (k : Nat) : CfOk Try.prog (cf14 k) := evF_ok noNum mixed (Dl14_ok k) (Lm14_ok k) 12
def f40 (k : Nat) (x0 : List (List GWindow)) : Option R40 :=
  bindO (l40_0 k (S40_0.mk x0 (0 : Int) x0 (↑(List.length x0) : Int) (0 : Int))) fun r3000 =>
   br (decide (E40_0.x3 r3000 < (0 : Int)))
    (none)
    (br (decide (IntKind.wrap IntKind.i64 (E40_0.x3 r3000 - (0 : Int)) > (0 : Int)))
     (br (decide ((0 : Int) ≤ IntKind.wrap IntKind.i64 (E40_0.x3 r3000 - (0 : Int)) ∧ IntKind.wrap IntKind.i64 (E40_0.x3 r3000 - (0 : Int)) * (24 : Int) ≤ (140737488355328 : Int) ∧ IntKind.wrap IntKind.i64 (E40_0.x3 r3000 - (0 : Int)) ≤ (140737488355328 : Int)))
      (bindO (l40_2 k (S40_2.mk (E40_0.x0 r3000) (↑(List.length (E40_0.x0 r3000)) : Int) (0 : Int) (List.take (0 : Nat) (List.replicate (Int.toNat (IntKind.wrap IntKind.i64 (E40_0.x3 r3000 - (0 : Int)))) (GWindow.mk (0 : Int) (0 : Int) (0 : Int)))))) fun r2999 =>
       some (E40_2.h0 r2999))
      (none))
     (bindO (l40_2 k (S40_2.mk (E40_0.x0 r3000) (↑(List.length (E40_0.x0 r3000)) : Int) (0 : Int) [])) fun r2997 =>
      some (E40_2.h0 r2997)))
theorem f40_run (k : Nat) (x0 : List (List GWindow)) : cf14 k R40 40 (A40 (x0)) [] 0 (endR planR (.ro 32) [] 0 r40) = f40 k x0 := by kernel_rfl
def g40 (k : Nat) : CallS := entT d40 (fun p => f40 k p) (elAll _) (fun _ => o40) (fun _ => u40) (fun _ => n40)
theorem g40_ok (k : Nat) : CallSOk Try.prog 40 (g40 k) := entry_ok (Hp := fun _ => []) (oR := fun _ => o40) (uR := fun _ => u40) (nR := fun _ => n40) (cf14_ok k) d40_ok r40_ok (hel := elAll_ok) (fun p => f40_run k p)
def Dl15 (k : Nat) : Delta := dCons 40 (callAt plan [.rd 22] (g40 k)) (Dl14 k)
def Lm15 (k : Nat) : FuncId → Nat → Option LamF := Lm14 k
theorem Dl15_ok (k : Nat) : DeltaOk Try.prog (Dl15 k) := dCons_ok (Dl14_ok k) (g40_ok k)
theorem Lm15_ok (k : Nat) : LamsOk Try.prog (Lm15 k) := Lm14_ok k
abbrev cf15 (k : Nat) : CallF := evF Try.prog (Dl15 k) (Lm15 k) 200 12
theorem cf15_ok (k : Nat) : CfOk Try.prog (cf15 k) := evF_ok noNum mixed (Dl15_ok k) (Lm15_ok k) 12
abbrev P12 := List GWindow × List GWindow
def A12 (p : P12) : List AV := [.dsl 32 p.1, .dsl 32 p.2]
def d12 (a : List AV) (H : Heap) : Option P12 := match a, H with
  | [ba0, ba1], [] => (match (dslD 32 ba0 : Option (List GWindow)) with | some a0 => (match (dslD 32 ba1 : Option (List GWindow)) with | some a1 => some (a0, a1) | none => none) | none => none)
  | _, _ => none
theorem d12_ok (a : List AV) (H : Heap) (p : P12) (h : d12 a H = some p) : a = A12 p ∧ H = [] := by
  unfold d12 at h
  split at h
  · skip
    split at h
    · rename_i q
      have q := dslD_ok q
      subst q
      split at h
      · rename_i q
        have q := dslD_ok q
        subst q
        cases h; exact ⟨rfl, rfl⟩
      · cases h
    · cases h
  · cases h
abbrev R12 := List GWindow × Int
def o12 (r : R12) : AEnd := .ret (.tup [.slf 0, .int .i64 r.2])
def u12 (r : R12) : Heap := [(0, some (.row 32 r.1))]
def n12 (_ : R12) : Nat := 1
def r12 (o : AEnd) (u : Heap) (n : Nat) : Option R12 := match o, u, n with
  | .ret (.tup [.slf 0, .int .i64 a0]), [(0, ba1)], 1 => (match (rowD 32 ba1 : Option (List GWindow)) with | some a1 => some (a1, a0) | none => none)
  | _, _, _ => none
theorem r12_ok (p : P12) (o : AEnd) (u : Heap) (n : Nat) (r : R12) (h : r12 o u n = some r) : o = o12 r ∧ u = u12 r ∧ n = n12 r := by
  unfold r12 at h
  split at h
  · skip
    split at h
    · rename_i q
      have q := rowD_ok q
      subst q
      cases h; exact ⟨rfl, rfl, rfl⟩
    · cases h
  · cases h
def f12 (k : Nat) (x0 : List GWindow) (x1 : List GWindow) : Option R12 :=
  bindO (f20 k x0) fun r3000 =>
   br (!r3000)
    (some ([], (1 : Int)))
    (bindO (f37 k x1) fun r2998 =>
     br (!r2998)
      (some ([], (1 : Int)))
      (bindO (f40 k [x0, x1]) fun r2996 =>
       bindO (fJoin r2996) fun r2995 =>
        br (decide ((↑(List.length r2995) : Int) > (100 : Int)))
         (some ([], (81 : Int)))
         (some (r2995, (0 : Int)))))
theorem f12_run (k : Nat) (x0 : List GWindow) (x1 : List GWindow) : cf15 k R12 12 (A12 (x0, x1)) [] 0 (endR planR (.agg [.fresh 32, .any]) [] 0 r12) = f12 k x0 x1 := by kernel_rfl
def g12 (k : Nat) : CallS := entT d12 (fun p => f12 k p.1 p.2) (elAll _) (fun _ => o12) (fun _ => u12) (fun _ => n12)
theorem g12_ok (k : Nat) : CallSOk Try.prog 12 (g12 k) := entry_ok (Hp := fun _ => []) (oR := fun _ => o12) (uR := fun _ => u12) (nR := fun _ => n12) (cf15_ok k) d12_ok r12_ok (hel := elAll_ok) (fun p => f12_run k p.1 p.2)
def Dl16 (k : Nat) : Delta := dCons 12 (callAt plan [.rd 32, .rd 32] (g12 k)) (Dl15 k)
def Lm16 (k : Nat) : FuncId → Nat → Option LamF := Lm15 k
theorem Dl16_ok (k : Nat) : DeltaOk Try.prog (Dl16 k) := dCons_ok (Dl15_ok k) (g12_ok k)
theorem Lm16_ok (k : Nat) : LamsOk Try.prog (Lm16 k) := Lm15_ok k
abbrev cf16 (k : Nat) : CallF := evF Try.prog (Dl16 k) (Lm16 k) 200 12
theorem cf16_ok (k : Nat) : CfOk Try.prog (cf16 k) := evF_ok noNum mixed (Dl16_ok k) (Lm16_ok k) 12
abbrev P43 := GWindow × GWindow
def A43 (p : P43) : List AV := [.agg [.int .i64 p.1.bed, .int .i64 p.1.src, .int .i64 p.1.to], .agg [.int .i64 p.2.bed, .int .i64 p.2.src, .int .i64 p.2.to]]
def d43 (a : List AV) (H : Heap) : Option P43 := match a, H with
  | [.agg [.int .i64 a0, .int .i64 a1, .int .i64 a2], .agg [.int .i64 a3, .int .i64 a4, .int .i64 a5]], [] => some ((⟨a0, a1, a2⟩ : GWindow), (⟨a3, a4, a5⟩ : GWindow))
  | _, _ => none
theorem d43_ok (a : List AV) (H : Heap) (p : P43) (h : d43 a H = some p) : a = A43 p ∧ H = [] := by
  unfold d43 at h
  split at h
  · skip
    cases h; exact ⟨rfl, rfl⟩
  · cases h
abbrev R43 := List GWindow
def o43 (r : R43) : AEnd := .ret (.dsl 32 r)
def u43 (r : R43) : Heap := []
def n43 (_ : R43) : Nat := 0
def r43 (o : AEnd) (u : Heap) (n : Nat) : Option R43 := match o, u, n with
  | .ret ba0, [], 0 => (match (dslD 32 ba0 : Option (List GWindow)) with | some a0 => some (a0) | none => none)
  | _, _, _ => none
theorem r43_ok (p : P43) (o : AEnd) (u : Heap) (n : Nat) (r : R43) (h : r43 o u n = some r) : o = o43 r ∧ u = u43 r ∧ n = n43 r := by
  unfold r43 at h
  split at h
  · skip
    split at h
    · rename_i q
      have q := dslD_ok q
      subst q
      cases h; exact ⟨rfl, rfl, rfl⟩
    · cases h
  · cases h
def f43 (k : Nat) (x0 : GWindow) (x1 : GWindow) : Option R43 :=
  br (GWindow.bed x0 != GWindow.bed x1)
   (some [x0])
   (br (decide (GWindow.to x1 ≤ GWindow.src x0))
    (some [x0])
    (br (decide (GWindow.to x0 ≤ GWindow.src x1))
     (some [x0])
     (br (decide (GWindow.src x0 < GWindow.src x1))
      (br (decide (GWindow.to x1 < GWindow.to x0))
       (some ([GWindow.mk (GWindow.bed x0) (GWindow.src x0) (GWindow.src x1)] ++ [GWindow.mk (GWindow.bed x0) (GWindow.to x1) (GWindow.to x0)]))
       (some [GWindow.mk (GWindow.bed x0) (GWindow.src x0) (GWindow.src x1)]))
      (br (decide (GWindow.to x1 < GWindow.to x0))
       (some [GWindow.mk (GWindow.bed x0) (GWindow.to x1) (GWindow.to x0)])
       (some [])))))
theorem f43_run (k : Nat) (x0 : GWindow) (x1 : GWindow) : cf16 k R43 43 (A43 (x0, x1)) [] 0 (endR planR (.ro 32) [] 0 r43) = f43 k x0 x1 := by kernel_rfl
def g43 (k : Nat) : CallS := entT d43 (fun p => f43 k p.1 p.2) (elAll _) (fun _ => o43) (fun _ => u43) (fun _ => n43)
theorem g43_ok (k : Nat) : CallSOk Try.prog 43 (g43 k) := entry_ok (Hp := fun _ => []) (oR := fun _ => o43) (uR := fun _ => u43) (nR := fun _ => n43) (cf16_ok k) d43_ok r43_ok (hel := elAll_ok) (fun p => f43_run k p.1 p.2)
def Dl17 (k : Nat) : Delta := dCons 43 (callAt plan [.any, .any] (g43 k)) (Dl16 k)
def Lm17 (k : Nat) : FuncId → Nat → Option LamF := Lm16 k
theorem Dl17_ok (k : Nat) : DeltaOk Try.prog (Dl17 k) := dCons_ok (Dl16_ok k) (g43_ok k)
theorem Lm17_ok (k : Nat) : LamsOk Try.prog (Lm17 k) := Lm16_ok k
abbrev cf17 (k : Nat) : CallF := evF Try.prog (Dl17 k) (Lm17 k) 200 12
theorem cf17_ok (k : Nat) : CfOk Try.prog (cf17 k) := evF_ok noNum mixed (Dl17_ok k) (Lm17_ok k) 12
abbrev P14 := List GWindow × List GWindow
def A14 (p : P14) : List AV := [.dsl 32 p.1, .dsl 32 p.2]
def d14 (a : List AV) (H : Heap) : Option P14 := match a, H with
  | [ba0, ba1], [] => (match (dslD 32 ba0 : Option (List GWindow)) with | some a0 => (match (dslD 32 ba1 : Option (List GWindow)) with | some a1 => some (a0, a1) | none => none) | none => none)
  | _, _ => none
theorem d14_ok (a : List AV) (H : Heap) (p : P14) (h : d14 a H = some p) : a = A14 p ∧ H = [] := by
  unfold d14 at h
  split at h
  · skip
    split at h
    · rename_i q
      have q := dslD_ok q
      subst q
      split at h
      · rename_i q
        have q := dslD_ok q
        subst q
        cases h; exact ⟨rfl, rfl⟩
      · cases h
    · cases h
  · cases h
abbrev R14 := List GWindow × Int
def o14 (r : R14) : AEnd := .ret (.tup [.slf 0, .int .i64 r.2])
def u14 (r : R14) : Heap := [(0, some (.row 32 r.1))]
def n14 (_ : R14) : Nat := 1
def r14 (o : AEnd) (u : Heap) (n : Nat) : Option R14 := match o, u, n with
  | .ret (.tup [.slf 0, .int .i64 a0]), [(0, ba1)], 1 => (match (rowD 32 ba1 : Option (List GWindow)) with | some a1 => some (a1, a0) | none => none)
  | _, _, _ => none
theorem r14_ok (p : P14) (o : AEnd) (u : Heap) (n : Nat) (r : R14) (h : r14 o u n = some r) : o = o14 r ∧ u = u14 r ∧ n = n14 r := by
  unfold r14 at h
  split at h
  · skip
    split at h
    · rename_i q
      have q := rowD_ok q
      subst q
      cases h; exact ⟨rfl, rfl, rfl⟩
    · cases h
  · cases h
structure S14_0 where
  mk ::
  x22 : List GWindow
  x23 : Int
  x24 : Int
  h0 : List GWindow
def VS14_0 (s : S14_0) : List AV := [.slf 0, .dsl 32 s.x22, .int .i64 s.x23, .int .i64 s.x24]
def HS14_0 (s : S14_0) : Heap := [(0, some (.row 32 s.h0))]
def dS14_0 (vs : List AV) (H : Heap) : Option S14_0 := match vs, H with
  | [.slf 0, bx22, .int .i64 x23, .int .i64 x24], [(0, bh0)] => (match (dslD 32 bx22 : Option (List GWindow)) with | some x22 => (match (rowD 32 bh0 : Option (List GWindow)) with | some h0 => some (⟨x22, x23, x24, h0⟩ : S14_0) | none => none) | none => none)
  | _, _ => none
theorem dS14_0_ok (vs : List AV) (H : Heap) (s : S14_0) (h : dS14_0 vs H = some s) : vs = VS14_0 s ∧ H = HS14_0 s := by
  unfold dS14_0 at h
  split at h
  · skip
    split at h
    · rename_i q
      have q := dslD_ok q
      subst q
      split at h
      · rename_i q
        have q := rowD_ok q
        subst q
        cases h; exact ⟨rfl, rfl⟩
      · cases h
    · cases h
  · cases h
def tS14_0 : AExit → List (Nat × Kd) := fun x => match x with
  | .normal => [(6, .own 32), (22, .rd 32), (23, .any), (24, .any)]
  | .exit i => (match i with | 0 => [(6, .own 32)] | _ => [])
  | .ret => [(4, .rd 32), (5, .any)]
  | _ => []
structure S14_2 where
  mk ::
  x22 : List GWindow
  x23 : Int
  x24 : Int
  x29 : Int
  x30 : Int
  h0_0 : Int
  h0_1 : Int
  h0_2 : Int
  h1 : List GWindow
  h2 : List GWindow
def VS14_2 (s : S14_2) : List AV := [.ptr 0 0 0, .slf 1, .dsl 32 s.x22, .int .i64 s.x23, .int .i64 s.x24, .slf 2, .int .i64 s.x29, .int .i64 s.x30]
def HS14_2 (s : S14_2) : Heap := [(0, some (.box 32 [.int .i64 s.h0_0, .int .i64 s.h0_1, .int .i64 s.h0_2])), (1, some (.row 32 s.h1)), (2, some (.row 32 s.h2))]
def dS14_2 (vs : List AV) (H : Heap) : Option S14_2 := match vs, H with
  | [.ptr 0 0 0, .slf 1, bx22, .int .i64 x23, .int .i64 x24, .slf 2, .int .i64 x29, .int .i64 x30], [(0, some (.box 32 [.int .i64 h0_0, .int .i64 h0_1, .int .i64 h0_2])), (1, bh1), (2, bh2)] => (match (dslD 32 bx22 : Option (List GWindow)) with | some x22 => (match (rowD 32 bh1 : Option (List GWindow)) with | some h1 => (match (rowD 32 bh2 : Option (List GWindow)) with | some h2 => some (⟨x22, x23, x24, x29, x30, h0_0, h0_1, h0_2, h1, h2⟩ : S14_2) | none => none) | none => none) | none => none)
  | _, _ => none
theorem dS14_2_ok (vs : List AV) (H : Heap) (s : S14_2) (h : dS14_2 vs H = some s) : vs = VS14_2 s ∧ H = HS14_2 s := by
  unfold dS14_2 at h
  split at h
  · skip
    split at h
    · rename_i q
      have q := dslD_ok q
      subst q
      split at h
      · rename_i q
        have q := rowD_ok q
        subst q
        split at h
        · rename_i q
          have q := rowD_ok q
          subst q
          cases h; exact ⟨rfl, rfl⟩
        · cases h
      · cases h
    · cases h
  · cases h
def tS14_2 : AExit → List (Nat × Kd) := fun x => match x with
  | .normal => [(8, .any), (9, .own 32), (22, .rd 32), (23, .any), (24, .any), (28, .rd 32), (29, .any), (30, .any)]
  | .exit i => (match i with | 2 => [(9, .own 32), (22, .rd 32), (23, .any), (24, .any)] | 0 => [(6, .rd 32)] | 1 => [(6, .rd 32), (22, .rd 32), (23, .any), (24, .any)] | _ => [])
  | .ret => [(4, .rd 32), (5, .any)]
  | _ => []
structure E14_2 where
  mk ::
  x22 : List GWindow
  x23 : Int
  x24 : Int
  h0_0 : Int
  h0_1 : Int
  h0_2 : Int
  h1 : List GWindow
def VE14_2 (s : E14_2) : List AV := [.slf 1, .dsl 32 s.x22, .int .i64 s.x23, .int .i64 s.x24]
def HE14_2 (s : E14_2) : Heap := [(0, some (.box 32 [.int .i64 s.h0_0, .int .i64 s.h0_1, .int .i64 s.h0_2])), (1, some (.row 32 s.h1))]
def dE14_2 (x : AExit) (vs : List AV) (H : Heap) : Option E14_2 := match x, vs, H with
  | .exit 2, [.slf 1, bx22, .int .i64 x23, .int .i64 x24], [(0, some (.box 32 [.int .i64 h0_0, .int .i64 h0_1, .int .i64 h0_2])), (1, bh1)] => (match (dslD 32 bx22 : Option (List GWindow)) with | some x22 => (match (rowD 32 bh1 : Option (List GWindow)) with | some h1 => some (⟨x22, x23, x24, h0_0, h0_1, h0_2, h1⟩ : E14_2) | none => none) | none => none)
  | _, _, _ => none
theorem dE14_2_ok (x : AExit) (vs : List AV) (H : Heap) (s : E14_2) (h : dE14_2 x vs H = some s) : x = .exit 2 ∧ vs = VE14_2 s ∧ H = HE14_2 s := by
  unfold dE14_2 at h
  split at h
  · skip
    split at h
    · rename_i q
      have q := dslD_ok q
      subst q
      split at h
      · rename_i q
        have q := rowD_ok q
        subst q
        cases h; exact ⟨rfl, rfl, rfl⟩
      · cases h
    · cases h
  · cases h
def xE14_2 (_ : E14_2) : AExit := .exit 2
def pS14_2 (k : Nat) (s : S14_2) : Option (S14_2 ⊕ E14_2) :=
  br (decide (S14_2.x30 s < S14_2.x29 s))
   (br (decide ((0 : Int) ≤ S14_2.x30 s ∧ S14_2.x30 s < (↑(List.length (S14_2.h2 s)) : Int)))
    (br (decide (Int.toNat (S14_2.x30 s) < List.length (S14_2.h2 s)))
     (bindO (f43 k (List.getD (S14_2.h2 s) (Int.toNat (S14_2.x30 s)) default) (GWindow.mk (S14_2.h0_0 s) (S14_2.h0_1 s) (S14_2.h0_2 s))) fun r1500 =>
      br (true && decide ((List.length (S14_2.h1 s) + List.length r1500) * (24 : Nat) ≤ (140737488355328 : Nat)))
       (some (Sum.inl (S14_2.mk (S14_2.x22 s) (S14_2.x23 s) (S14_2.x24 s) (S14_2.x29 s) (IntKind.wrap IntKind.i64 (S14_2.x30 s + (1 : Int))) (S14_2.h0_0 s) (S14_2.h0_1 s) (S14_2.h0_2 s) (S14_2.h1 s ++ r1500) (S14_2.h2 s))))
       (none))
     (none))
    (none))
   (some (Sum.inr (E14_2.mk (S14_2.x22 s) (S14_2.x23 s) (S14_2.x24 s) (S14_2.h0_0 s) (S14_2.h0_1 s) (S14_2.h0_2 s) (S14_2.h1 s))))
theorem pS14_2_run (k : Nat) (s : S14_2) : evC (S14_2 ⊕ E14_2) Try.prog (ntmpsAt Try.prog 14) (cf17 k) ((Lm17 k) 14) 200 (loopAt Try.prog 14 2) (zipE [(8, .any), (9, .own 32), (22, .rd 32), (23, .any), (24, .any), (28, .rd 32), (29, .any), (30, .any)] (VS14_2 s)) (HS14_2 s) (List.length (HS14_2 s)) (cutS plan 1 tS14_2 (rndT dS14_2 dE14_2)) = pS14_2 k s := by kernel_rfl
def l14_2 (k : Nat) (s : S14_2) : Option E14_2 := iterT (pS14_2 k) k s
def m14_2 (k : Nat) : LamS := lamT 2 dS14_2 (l14_2 k) (elAll _) tS14_2 xE14_2 VE14_2 HE14_2
theorem loop14_2 : isLoopAt Try.prog 14 2 = true := by kernel_rfl
theorem m14_2_ok (k : Nat) : LamSOk Try.prog (ntmpsAt Try.prog 14) 1 (.block 2 (.loop (loopAt Try.prog 14 2))) [(8, .any), (9, .own 32), (22, .rd 32), (23, .any), (24, .any), (28, .rd 32), (29, .any), (30, .any)] (m14_2 k) := lamT_ok (plan := plan) (kb := 1) (body_run noNum mixed (cf17_ok k) (Lm17_ok k) loop14_2) rfl dS14_2_ok dE14_2_ok (hel := elAll_ok) (pS14_2_run k) k
def Dl18 (k : Nat) : Delta := Dl17 k
def Lm18 (k : Nat) : FuncId → Nat → Option LamF := lCons 14 2 (lamBy plan [31, 32, 33, 11, 34, 35, 36, 37, 38, 9, 39, 30] [(8, .any), (9, .own 32), (22, .rd 32), (23, .any), (24, .any), (28, .rd 32), (29, .any), (30, .any)] 1 (m14_2 k)) (Lm17 k)
theorem Dl18_ok (k : Nat) : DeltaOk Try.prog (Dl18 k) := Dl17_ok k
theorem Lm18_ok (k : Nat) : LamsOk Try.prog (Lm18 k) := lCons_ok (Lm17_ok k) loop14_2 (lamBy_ok (m14_2_ok k) (by kernel_rfl))
abbrev cf18 (k : Nat) : CallF := evF Try.prog (Dl18 k) (Lm18 k) 200 12
theorem cf18_ok (k : Nat) : CfOk Try.prog (cf18 k) := evF_ok noNum mixed (Dl18_ok k) (Lm18_ok k) 12
structure E14_0 where
  mk ::
  h0 : List GWindow
def VE14_0 (s : E14_0) : List AV := [.slf 0]
def HE14_0 (s : E14_0) : Heap := [(0, some (.row 32 s.h0))]
def dE14_0 (x : AExit) (vs : List AV) (H : Heap) : Option E14_0 := match x, vs, H with
  | .exit 0, [.slf 0], [(0, bh0)] => (match (rowD 32 bh0 : Option (List GWindow)) with | some h0 => some (⟨h0⟩ : E14_0) | none => none)
  | _, _, _ => none
theorem dE14_0_ok (x : AExit) (vs : List AV) (H : Heap) (s : E14_0) (h : dE14_0 x vs H = some s) : x = .exit 0 ∧ vs = VE14_0 s ∧ H = HE14_0 s := by
  unfold dE14_0 at h
  split at h
  · skip
    split at h
    · rename_i q
      have q := rowD_ok q
      subst q
      cases h; exact ⟨rfl, rfl, rfl⟩
    · cases h
  · cases h
def xE14_0 (_ : E14_0) : AExit := .exit 0
def pS14_0 (k : Nat) (s : S14_0) : Option (S14_0 ⊕ E14_0) :=
  br (decide (S14_0.x24 s < S14_0.x23 s))
   (br (decide ((0 : Int) ≤ S14_0.x24 s ∧ S14_0.x24 s < (↑(List.length (S14_0.x22 s)) : Int)))
    (bindO (l14_2 k (S14_2.mk (S14_0.x22 s) (S14_0.x23 s) (S14_0.x24 s) (↑(List.length (S14_0.h0 s)) : Int) (0 : Int) (GWindow.bed (List.getD (S14_0.x22 s) (Int.toNat (S14_0.x24 s)) default)) (GWindow.src (List.getD (S14_0.x22 s) (Int.toNat (S14_0.x24 s)) default)) (GWindow.to (List.getD (S14_0.x22 s) (Int.toNat (S14_0.x24 s)) default)) [] (S14_0.h0 s))) fun r1500 =>
     some (Sum.inl (S14_0.mk (E14_2.x22 r1500) (E14_2.x23 r1500) (IntKind.wrap IntKind.i64 (E14_2.x24 r1500 + (1 : Int))) (E14_2.h1 r1500))))
    (none))
   (some (Sum.inr (E14_0.mk (S14_0.h0 s))))
theorem pS14_0_run (k : Nat) (s : S14_0) : evC (S14_0 ⊕ E14_0) Try.prog (ntmpsAt Try.prog 14) (cf18 k) ((Lm18 k) 14) 200 (loopAt Try.prog 14 0) (zipE [(6, .own 32), (22, .rd 32), (23, .any), (24, .any)] (VS14_0 s)) (HS14_0 s) (List.length (HS14_0 s)) (cutS plan 0 tS14_0 (rndT dS14_0 dE14_0)) = pS14_0 k s := by kernel_rfl
def l14_0 (k : Nat) (s : S14_0) : Option E14_0 := iterT (pS14_0 k) k s
def m14_0 (k : Nat) : LamS := lamT 0 dS14_0 (l14_0 k) (elAll _) tS14_0 xE14_0 VE14_0 HE14_0
theorem loop14_0 : isLoopAt Try.prog 14 0 = true := by kernel_rfl
theorem m14_0_ok (k : Nat) : LamSOk Try.prog (ntmpsAt Try.prog 14) 0 (.block 0 (.loop (loopAt Try.prog 14 0))) [(6, .own 32), (22, .rd 32), (23, .any), (24, .any)] (m14_0 k) := lamT_ok (plan := plan) (kb := 0) (body_run noNum mixed (cf18_ok k) (Lm18_ok k) loop14_0) rfl dS14_0_ok dE14_0_ok (hel := elAll_ok) (pS14_0_run k) k
def Dl19 (k : Nat) : Delta := Dl18 k
def Lm19 (k : Nat) : FuncId → Nat → Option LamF := lCons 14 0 (lamBy plan [25, 26, 27, 8, 9, 28, 29, 30, 31, 32, 33, 11, 34, 35, 36, 37, 38, 9, 39, 30, 40, 6, 41, 24] [(6, .own 32), (22, .rd 32), (23, .any), (24, .any)] 0 (m14_0 k)) (Lm18 k)
theorem Dl19_ok (k : Nat) : DeltaOk Try.prog (Dl19 k) := Dl18_ok k
theorem Lm19_ok (k : Nat) : LamsOk Try.prog (Lm19 k) := lCons_ok (Lm18_ok k) loop14_0 (lamBy_ok (m14_0_ok k) (by kernel_rfl))
abbrev cf19 (k : Nat) : CallF := evF Try.prog (Dl19 k) (Lm19 k) 200 12
theorem cf19_ok (k : Nat) : CfOk Try.prog (cf19 k) := evF_ok noNum mixed (Dl19_ok k) (Lm19_ok k) 12
def f14 (k : Nat) (x0 : List GWindow) (x1 : List GWindow) : Option R14 :=
  bindO (f20 k x0) fun r3000 =>
   br (!r3000)
    (some ([], (1 : Int)))
    (bindO (f37 k x1) fun r2998 =>
     br (!r2998)
      (some ([], (1 : Int)))
      (bindO (f42 k x0) fun r2996 =>
       bindO (l14_0 k (S14_0.mk x1 (↑(List.length x1) : Int) (0 : Int) r2996)) fun r2995 =>
        br (decide ((↑(List.length (E14_0.h0 r2995)) : Int) > (100 : Int)))
         (some ([], (81 : Int)))
         (some (E14_0.h0 r2995, (0 : Int)))))
theorem f14_run (k : Nat) (x0 : List GWindow) (x1 : List GWindow) : cf19 k R14 14 (A14 (x0, x1)) [] 0 (endR planR (.agg [.fresh 32, .any]) [] 0 r14) = f14 k x0 x1 := by kernel_rfl
def g14 (k : Nat) : CallS := entT d14 (fun p => f14 k p.1 p.2) (elAll _) (fun _ => o14) (fun _ => u14) (fun _ => n14)
theorem g14_ok (k : Nat) : CallSOk Try.prog 14 (g14 k) := entry_ok (Hp := fun _ => []) (oR := fun _ => o14) (uR := fun _ => u14) (nR := fun _ => n14) (cf19_ok k) d14_ok r14_ok (hel := elAll_ok) (fun p => f14_run k p.1 p.2)
def Dl20 (k : Nat) : Delta := dCons 14 (callAt plan [.rd 32, .rd 32] (g14 k)) (Dl19 k)
def Lm20 (k : Nat) : FuncId → Nat → Option LamF := Lm19 k
theorem Dl20_ok (k : Nat) : DeltaOk Try.prog (Dl20 k) := dCons_ok (Dl19_ok k) (g14_ok k)
theorem Lm20_ok (k : Nat) : LamsOk Try.prog (Lm20 k) := Lm19_ok k
abbrev cf20 (k : Nat) : CallF := evF Try.prog (Dl20 k) (Lm20 k) 200 12
theorem cf20_ok (k : Nat) : CfOk Try.prog (cf20 k) := evF_ok noNum mixed (Dl20_ok k) (Lm20_ok k) 12
abbrev P85 := GWindow × Int × Int
def A85 (p : P85) : List AV := [.agg [.int .i64 p.1.bed, .int .i64 p.1.src, .int .i64 p.1.to], .int .i64 p.2.1, .int .i64 p.2.2]
def d85 (a : List AV) (H : Heap) : Option P85 := match a, H with
  | [.agg [.int .i64 a0, .int .i64 a1, .int .i64 a2], .int .i64 a3, .int .i64 a4], [] => some ((⟨a0, a1, a2⟩ : GWindow), a3, a4)
  | _, _ => none
theorem d85_ok (a : List AV) (H : Heap) (p : P85) (h : d85 a H = some p) : a = A85 p ∧ H = [] := by
  unfold d85 at h
  split at h
  · skip
    cases h; exact ⟨rfl, rfl⟩
  · cases h
abbrev R85 := Bool
def o85 (r : R85) : AEnd := .ret (.bool r)
def u85 (r : R85) : Heap := []
def n85 (_ : R85) : Nat := 0
def r85 (o : AEnd) (u : Heap) (n : Nat) : Option R85 := match o, u, n with
  | .ret (.bool a0), [], 0 => some (a0)
  | _, _, _ => none
theorem r85_ok (p : P85) (o : AEnd) (u : Heap) (n : Nat) (r : R85) (h : r85 o u n = some r) : o = o85 r ∧ u = u85 r ∧ n = n85 r := by
  unfold r85 at h
  split at h
  · skip
    cases h; exact ⟨rfl, rfl, rfl⟩
  · cases h
def f85 (k : Nat) (x0 : GWindow) (x1 : Int) (x2 : Int) : Option R85 :=
  br (GWindow.bed x0 == x1)
   (br (decide (GWindow.src x0 ≤ x2))
    (some (decide (x2 < GWindow.to x0)))
    (some false))
   (some false)
theorem f85_run (k : Nat) (x0 : GWindow) (x1 : Int) (x2 : Int) : cf20 k R85 85 (A85 (x0, x1, x2)) [] 0 (endR planR (.any) [] 0 r85) = f85 k x0 x1 x2 := by kernel_rfl
def g85 (k : Nat) : CallS := entT d85 (fun p => f85 k p.1 p.2.1 p.2.2) (elAll _) (fun _ => o85) (fun _ => u85) (fun _ => n85)
theorem g85_ok (k : Nat) : CallSOk Try.prog 85 (g85 k) := entry_ok (Hp := fun _ => []) (oR := fun _ => o85) (uR := fun _ => u85) (nR := fun _ => n85) (cf20_ok k) d85_ok r85_ok (hel := elAll_ok) (fun p => f85_run k p.1 p.2.1 p.2.2)
def Dl21 (k : Nat) : Delta := dCons 85 (callAt plan [.any, .any, .any] (g85 k)) (Dl20 k)
def Lm21 (k : Nat) : FuncId → Nat → Option LamF := Lm20 k
theorem Dl21_ok (k : Nat) : DeltaOk Try.prog (Dl21 k) := dCons_ok (Dl20_ok k) (g85_ok k)
theorem Lm21_ok (k : Nat) : LamsOk Try.prog (Lm21 k) := Lm20_ok k
abbrev cf21 (k : Nat) : CallF := evF Try.prog (Dl21 k) (Lm21 k) 200 12
theorem cf21_ok (k : Nat) : CfOk Try.prog (cf21 k) := evF_ok noNum mixed (Dl21_ok k) (Lm21_ok k) 12
abbrev P44 := List GWindow × Int × Int
def A44 (p : P44) : List AV := [.dsl 32 p.1, .int .i64 p.2.1, .int .i64 p.2.2]
def d44 (a : List AV) (H : Heap) : Option P44 := match a, H with
  | [ba0, .int .i64 a1, .int .i64 a2], [] => (match (dslD 32 ba0 : Option (List GWindow)) with | some a0 => some (a0, a1, a2) | none => none)
  | _, _ => none
theorem d44_ok (a : List AV) (H : Heap) (p : P44) (h : d44 a H = some p) : a = A44 p ∧ H = [] := by
  unfold d44 at h
  split at h
  · skip
    split at h
    · rename_i q
      have q := dslD_ok q
      subst q
      cases h; exact ⟨rfl, rfl⟩
    · cases h
  · cases h
abbrev R44 := Int
def o44 (r : R44) : AEnd := .ret (.int .i64 r)
def u44 (r : R44) : Heap := []
def n44 (_ : R44) : Nat := 0
def r44 (o : AEnd) (u : Heap) (n : Nat) : Option R44 := match o, u, n with
  | .ret (.int .i64 a0), [], 0 => some (a0)
  | _, _, _ => none
theorem r44_ok (p : P44) (o : AEnd) (u : Heap) (n : Nat) (r : R44) (h : r44 o u n = some r) : o = o44 r ∧ u = u44 r ∧ n = n44 r := by
  unfold r44 at h
  split at h
  · skip
    cases h; exact ⟨rfl, rfl, rfl⟩
  · cases h
structure S83_0B where
  mk ::
  x0 : List GWindow
  x7 : Int
  x8 : Int
  h0_0 : Int
  h1_0 : Int
def VS83_0B (s : S83_0B) : List AV := [.dsl 32 s.x0, .fn (.func 84) [] [.ptr 0 0 0, .ptr 1 0 0], .int .i64 s.x7, .int .i64 s.x8]
def HS83_0B (s : S83_0B) : Heap := [(0, some (.box 3 [.int .i64 s.h0_0])), (1, some (.box 3 [.int .i64 s.h1_0]))]
def dS83_0B (vs : List AV) (H : Heap) : Option S83_0B := match vs, H with
  | [bx0, .fn (.func 84) [] [.ptr 0 0 0, .ptr 1 0 0], .int .i64 x7, .int .i64 x8], [(0, some (.box 3 [.int .i64 h0_0])), (1, some (.box 3 [.int .i64 h1_0]))] => (match (dslD 32 bx0 : Option (List GWindow)) with | some x0 => some (⟨x0, x7, x8, h0_0, h1_0⟩ : S83_0B) | none => none)
  | _, _ => none
theorem dS83_0B_ok (vs : List AV) (H : Heap) (s : S83_0B) (h : dS83_0B vs H = some s) : vs = VS83_0B s ∧ H = HS83_0B s := by
  unfold dS83_0B at h
  split at h
  · skip
    split at h
    · rename_i q
      have q := dslD_ok q
      subst q
      cases h; exact ⟨rfl, rfl⟩
    · cases h
  · cases h
def tS83_0B : AExit → List (Nat × Kd) := fun x => match x with
  | .normal => [(0, .rd 32), (1, .any), (7, .any), (8, .any)]
  | .exit i => (match i with | 0 => [] | _ => [])
  | .ret => [(4, .any)]
  | _ => []
structure E83_0B where
  mk ::
  x4 : Int
def VE83_0B (s : E83_0B) : List AV := [.int .i64 s.x4]
def HE83_0B (s : E83_0B) : Heap := []
def dE83_0B (x : AExit) (vs : List AV) (H : Heap) : Option E83_0B := match x, vs, H with
  | .ret, [.int .i64 x4], [] => some (⟨x4⟩ : E83_0B)
  | _, _, _ => none
theorem dE83_0B_ok (x : AExit) (vs : List AV) (H : Heap) (s : E83_0B) (h : dE83_0B x vs H = some s) : x = .ret ∧ vs = VE83_0B s ∧ H = HE83_0B s := by
  unfold dE83_0B at h
  split at h
  · skip
    cases h; exact ⟨rfl, rfl, rfl⟩
  · cases h
structure E83_0Bb where
  mk ::
def VE83_0Bb (s : E83_0Bb) : List AV := []
def HE83_0Bb (s : E83_0Bb) : Heap := []
def dE83_0Bb (x : AExit) (vs : List AV) (H : Heap) : Option E83_0Bb := match x, vs, H with
  | .exit 0, [], [] => some (⟨⟩ : E83_0Bb)
  | _, _, _ => none
theorem dE83_0Bb_ok (x : AExit) (vs : List AV) (H : Heap) (s : E83_0Bb) (h : dE83_0Bb x vs H = some s) : x = .exit 0 ∧ vs = VE83_0Bb s ∧ H = HE83_0Bb s := by
  unfold dE83_0Bb at h
  split at h
  · skip
    cases h; exact ⟨rfl, rfl, rfl⟩
  · cases h
abbrev EE83_0B := E83_0B ⊕ E83_0Bb
def xEE83_0B (e : EE83_0B) : AExit := match e with | .inl _ => .ret | .inr _ => .exit 0
def VEE83_0B (e : EE83_0B) : List AV := match e with | .inl s => VE83_0B s | .inr s => VE83_0Bb s
def HEE83_0B (e : EE83_0B) : Heap := match e with | .inl s => HE83_0B s | .inr s => HE83_0Bb s
def dEE83_0B (x : AExit) (vs : List AV) (H : Heap) : Option EE83_0B := match dE83_0B x vs H with | some s => some (.inl s) | none => (match dE83_0Bb x vs H with | some s => some (.inr s) | none => none)
theorem dEE83_0B_ok (x : AExit) (vs : List AV) (H : Heap) (s : EE83_0B) (h : dEE83_0B x vs H = some s) : x = xEE83_0B s ∧ vs = VEE83_0B s ∧ H = HEE83_0B s := by
  unfold dEE83_0B at h
  split at h
  · rename_i q; cases h; exact dE83_0B_ok _ _ _ _ q
  · split at h
    · rename_i q; cases h; exact dE83_0Bb_ok _ _ _ _ q
    · cases h
def pS83_0B (k : Nat) (s : S83_0B) : Option (S83_0B ⊕ EE83_0B) :=
  br (decide (S83_0B.x8 s < S83_0B.x7 s))
   (br (decide ((0 : Int) ≤ S83_0B.x8 s ∧ S83_0B.x8 s < (↑(List.length (S83_0B.x0 s)) : Int)))
    (bindO (f85 k (List.getD (S83_0B.x0 s) (Int.toNat (S83_0B.x8 s)) default) (S83_0B.h0_0 s) (S83_0B.h1_0 s)) fun r1500 =>
     br r1500
      (some (Sum.inr (Sum.inl (E83_0B.mk (S83_0B.x8 s)))))
      (some (Sum.inl (S83_0B.mk (S83_0B.x0 s) (S83_0B.x7 s) (IntKind.wrap IntKind.i64 (S83_0B.x8 s + (1 : Int))) (S83_0B.h0_0 s) (S83_0B.h1_0 s)))))
    (none))
   (some (Sum.inr (Sum.inr E83_0Bb.mk)))
theorem pS83_0B_run (k : Nat) (s : S83_0B) : evC (S83_0B ⊕ EE83_0B) Try.prog (ntmpsAt Try.prog 83) (cf21 k) ((Lm21 k) 83) 200 (loopAt Try.prog 83 0) (zipE [(0, .rd 32), (1, .any), (7, .any), (8, .any)] (VS83_0B s)) (HS83_0B s) (List.length (HS83_0B s)) (cutS plan 0 tS83_0B (rndT dS83_0B dEE83_0B)) = pS83_0B k s := by kernel_rfl
def l83_0B (k : Nat) (s : S83_0B) : Option EE83_0B := iterT (pS83_0B k) k s
def m83_0B (k : Nat) : LamS := lamT 0 dS83_0B (l83_0B k) (elSum (elAll _) (elAll _)) tS83_0B xEE83_0B VEE83_0B HEE83_0B
theorem loop83_0B : isLoopAt Try.prog 83 0 = true := by kernel_rfl
theorem m83_0B_ok (k : Nat) : LamSOk Try.prog (ntmpsAt Try.prog 83) 0 (.block 0 (.loop (loopAt Try.prog 83 0))) [(0, .rd 32), (1, .any), (7, .any), (8, .any)] (m83_0B k) := lamT_ok (plan := plan) (kb := 0) (body_run noNum mixed (cf21_ok k) (Lm21_ok k) loop83_0B) rfl dS83_0B_ok dEE83_0B_ok (hel := (elSum_ok elAll_ok elAll_ok)) (pS83_0B_run k) k
def Dl22 (k : Nat) : Delta := Dl21 k
def Lm22 (k : Nat) : FuncId → Nat → Option LamF := lCons 83 0 (lamBy plan [9, 10, 5, 11, 12, 13, 14, 15, 16, 17, 4, 18, 8] [(0, .rd 32), (1, .any), (7, .any), (8, .any)] 0 (lamOr (fun vs H => (dS83_0B vs H).isSome) (m83_0B k) (m83_0 k))) (Lm21 k)
theorem Dl22_ok (k : Nat) : DeltaOk Try.prog (Dl22 k) := Dl21_ok k
theorem Lm22_ok (k : Nat) : LamsOk Try.prog (Lm22 k) := lCons_ok (Lm21_ok k) loop83_0B (lamBy_ok (lamOr_ok (m83_0B_ok k) (m83_0_ok k)) (by kernel_rfl))
abbrev cf22 (k : Nat) : CallF := evF Try.prog (Dl22 k) (Lm22 k) 200 12
theorem cf22_ok (k : Nat) : CfOk Try.prog (cf22 k) := evF_ok noNum mixed (Dl22_ok k) (Lm22_ok k) 12
def f44 (k : Nat) (x0 : List GWindow) (x1 : Int) (x2 : Int) : Option R44 :=
  bindO (l83_0B k (S83_0B.mk x0 (↑(List.length x0) : Int) (0 : Int) x1 x2)) fun r3000 =>
   match r3000 with
   | .inl c2999 => some (E83_0B.x4 c2999)
   | .inr c2999 => some (-1 : Int)
theorem f44_run (k : Nat) (x0 : List GWindow) (x1 : Int) (x2 : Int) : cf22 k R44 44 (A44 (x0, x1, x2)) [] 0 (endR planR (.any) [] 0 r44) = f44 k x0 x1 x2 := by kernel_rfl
def g44 (k : Nat) : CallS := entT d44 (fun p => f44 k p.1 p.2.1 p.2.2) (elAll _) (fun _ => o44) (fun _ => u44) (fun _ => n44)
theorem g44_ok (k : Nat) : CallSOk Try.prog 44 (g44 k) := entry_ok (Hp := fun _ => []) (oR := fun _ => o44) (uR := fun _ => u44) (nR := fun _ => n44) (cf22_ok k) d44_ok r44_ok (hel := elAll_ok) (fun p => f44_run k p.1 p.2.1 p.2.2)
def Dl23 (k : Nat) : Delta := dCons 44 (callAt plan [.rd 32, .any, .any] (g44 k)) (Dl22 k)
def Lm23 (k : Nat) : FuncId → Nat → Option LamF := Lm22 k
theorem Dl23_ok (k : Nat) : DeltaOk Try.prog (Dl23 k) := dCons_ok (Dl22_ok k) (g44_ok k)
theorem Lm23_ok (k : Nat) : LamsOk Try.prog (Lm23 k) := Lm22_ok k
abbrev cf23 (k : Nat) : CallF := evF Try.prog (Dl23 k) (Lm23 k) 200 12
theorem cf23_ok (k : Nat) : CfOk Try.prog (cf23 k) := evF_ok noNum mixed (Dl23_ok k) (Lm23_ok k) 12
abbrev P22 := List GWindow × Int × Int
def A22 (p : P22) : List AV := [.dsl 32 p.1, .int .i64 p.2.1, .int .i64 p.2.2]
def d22 (a : List AV) (H : Heap) : Option P22 := match a, H with
  | [ba0, .int .i64 a1, .int .i64 a2], [] => (match (dslD 32 ba0 : Option (List GWindow)) with | some a0 => some (a0, a1, a2) | none => none)
  | _, _ => none
theorem d22_ok (a : List AV) (H : Heap) (p : P22) (h : d22 a H = some p) : a = A22 p ∧ H = [] := by
  unfold d22 at h
  split at h
  · skip
    split at h
    · rename_i q
      have q := dslD_ok q
      subst q
      cases h; exact ⟨rfl, rfl⟩
    · cases h
  · cases h
abbrev R22 := Bool
def o22 (r : R22) : AEnd := .ret (.bool r)
def u22 (r : R22) : Heap := []
def n22 (_ : R22) : Nat := 0
def r22 (o : AEnd) (u : Heap) (n : Nat) : Option R22 := match o, u, n with
  | .ret (.bool a0), [], 0 => some (a0)
  | _, _, _ => none
theorem r22_ok (p : P22) (o : AEnd) (u : Heap) (n : Nat) (r : R22) (h : r22 o u n = some r) : o = o22 r ∧ u = u22 r ∧ n = n22 r := by
  unfold r22 at h
  split at h
  · skip
    cases h; exact ⟨rfl, rfl, rfl⟩
  · cases h
def f22 (k : Nat) (x0 : List GWindow) (x1 : Int) (x2 : Int) : Option R22 :=
  bindO (f44 k x0 x1 x2) fun r3000 =>
   some (decide (r3000 ≥ (0 : Int)))
theorem f22_run (k : Nat) (x0 : List GWindow) (x1 : Int) (x2 : Int) : cf23 k R22 22 (A22 (x0, x1, x2)) [] 0 (endR planR (.any) [] 0 r22) = f22 k x0 x1 x2 := by kernel_rfl
def g22 (k : Nat) : CallS := entT d22 (fun p => f22 k p.1 p.2.1 p.2.2) (elAll _) (fun _ => o22) (fun _ => u22) (fun _ => n22)
theorem g22_ok (k : Nat) : CallSOk Try.prog 22 (g22 k) := entry_ok (Hp := fun _ => []) (oR := fun _ => o22) (uR := fun _ => u22) (nR := fun _ => n22) (cf23_ok k) d22_ok r22_ok (hel := elAll_ok) (fun p => f22_run k p.1 p.2.1 p.2.2)
def Dl24 (k : Nat) : Delta := dCons 22 (callAt plan [.rd 32, .any, .any] (g22 k)) (Dl23 k)
def Lm24 (k : Nat) : FuncId → Nat → Option LamF := Lm23 k
theorem Dl24_ok (k : Nat) : DeltaOk Try.prog (Dl24 k) := dCons_ok (Dl23_ok k) (g22_ok k)
theorem Lm24_ok (k : Nat) : LamsOk Try.prog (Lm24 k) := Lm23_ok k
abbrev cf24 (k : Nat) : CallF := evF Try.prog (Dl24 k) (Lm24 k) 200 12
theorem cf24_ok (k : Nat) : CfOk Try.prog (cf24 k) := evF_ok noNum mixed (Dl24_ok k) (Lm24_ok k) 12
abbrev P24 := List GWindow × Int
def A24 (p : P24) : List AV := [.dsl 32 p.1, .int .i64 p.2]
def d24 (a : List AV) (H : Heap) : Option P24 := match a, H with
  | [ba0, .int .i64 a1], [] => (match (dslD 32 ba0 : Option (List GWindow)) with | some a0 => some (a0, a1) | none => none)
  | _, _ => none
theorem d24_ok (a : List AV) (H : Heap) (p : P24) (h : d24 a H = some p) : a = A24 p ∧ H = [] := by
  unfold d24 at h
  split at h
  · skip
    split at h
    · rename_i q
      have q := dslD_ok q
      subst q
      cases h; exact ⟨rfl, rfl⟩
    · cases h
  · cases h
abbrev R24 := Int
def o24 (r : R24) : AEnd := .ret (.int .i64 r)
def u24 (r : R24) : Heap := []
def n24 (_ : R24) : Nat := 0
def r24 (o : AEnd) (u : Heap) (n : Nat) : Option R24 := match o, u, n with
  | .ret (.int .i64 a0), [], 0 => some (a0)
  | _, _, _ => none
theorem r24_ok (p : P24) (o : AEnd) (u : Heap) (n : Nat) (r : R24) (h : r24 o u n = some r) : o = o24 r ∧ u = u24 r ∧ n = n24 r := by
  unfold r24 at h
  split at h
  · skip
    cases h; exact ⟨rfl, rfl, rfl⟩
  · cases h
structure S24_0 where
  mk ::
  x1 : Int
  x5 : Int
  x11 : List GWindow
  x12 : Int
  x13 : Int
def VS24_0 (s : S24_0) : List AV := [.int .i64 s.x1, .int .i64 s.x5, .dsl 32 s.x11, .int .i64 s.x12, .int .i64 s.x13]
def HS24_0 (s : S24_0) : Heap := []
def dS24_0 (vs : List AV) (H : Heap) : Option S24_0 := match vs, H with
  | [.int .i64 x1, .int .i64 x5, bx11, .int .i64 x12, .int .i64 x13], [] => (match (dslD 32 bx11 : Option (List GWindow)) with | some x11 => some (⟨x1, x5, x11, x12, x13⟩ : S24_0) | none => none)
  | _, _ => none
theorem dS24_0_ok (vs : List AV) (H : Heap) (s : S24_0) (h : dS24_0 vs H = some s) : vs = VS24_0 s ∧ H = HS24_0 s := by
  unfold dS24_0 at h
  split at h
  · skip
    split at h
    · rename_i q
      have q := dslD_ok q
      subst q
      cases h; exact ⟨rfl, rfl⟩
    · cases h
  · cases h
def tS24_0 : AExit → List (Nat × Kd) := fun x => match x with
  | .normal => [(1, .any), (5, .any), (11, .rd 32), (12, .any), (13, .any)]
  | .exit i => (match i with | 0 => [(5, .any)] | _ => [])
  | .ret => [(4, .any)]
  | _ => []
structure E24_0 where
  mk ::
  x5 : Int
def VE24_0 (s : E24_0) : List AV := [.int .i64 s.x5]
def HE24_0 (s : E24_0) : Heap := []
def dE24_0 (x : AExit) (vs : List AV) (H : Heap) : Option E24_0 := match x, vs, H with
  | .exit 0, [.int .i64 x5], [] => some (⟨x5⟩ : E24_0)
  | _, _, _ => none
theorem dE24_0_ok (x : AExit) (vs : List AV) (H : Heap) (s : E24_0) (h : dE24_0 x vs H = some s) : x = .exit 0 ∧ vs = VE24_0 s ∧ H = HE24_0 s := by
  unfold dE24_0 at h
  split at h
  · skip
    cases h; exact ⟨rfl, rfl, rfl⟩
  · cases h
def xE24_0 (_ : E24_0) : AExit := .exit 0
def pS24_0 (k : Nat) (s : S24_0) : Option (S24_0 ⊕ E24_0) :=
  br (decide (S24_0.x13 s < S24_0.x12 s))
   (br (decide ((0 : Int) ≤ S24_0.x13 s ∧ S24_0.x13 s < (↑(List.length (S24_0.x11 s)) : Int)))
    (br (GWindow.bed (List.getD (S24_0.x11 s) (Int.toNat (S24_0.x13 s)) default) == S24_0.x1 s)
     (some (Sum.inl (S24_0.mk (S24_0.x1 s) (IntKind.wrap IntKind.i64 (S24_0.x5 s + IntKind.wrap IntKind.i64 (GWindow.to (List.getD (S24_0.x11 s) (Int.toNat (S24_0.x13 s)) default) - GWindow.src (List.getD (S24_0.x11 s) (Int.toNat (S24_0.x13 s)) default)))) (S24_0.x11 s) (S24_0.x12 s) (IntKind.wrap IntKind.i64 (S24_0.x13 s + (1 : Int))))))
     (some (Sum.inl (S24_0.mk (S24_0.x1 s) (S24_0.x5 s) (S24_0.x11 s) (S24_0.x12 s) (IntKind.wrap IntKind.i64 (S24_0.x13 s + (1 : Int)))))))
    (none))
   (some (Sum.inr (E24_0.mk (S24_0.x5 s))))
theorem pS24_0_run (k : Nat) (s : S24_0) : evC (S24_0 ⊕ E24_0) Try.prog (ntmpsAt Try.prog 24) (cf24 k) ((Lm24 k) 24) 200 (loopAt Try.prog 24 0) (zipE [(1, .any), (5, .any), (11, .rd 32), (12, .any), (13, .any)] (VS24_0 s)) (HS24_0 s) (List.length (HS24_0 s)) (cutS plan 0 tS24_0 (rndT dS24_0 dE24_0)) = pS24_0 k s := by kernel_rfl
def l24_0 (k : Nat) (s : S24_0) : Option E24_0 := iterT (pS24_0 k) k s
def m24_0 (k : Nat) : LamS := lamT 0 dS24_0 (l24_0 k) (elAll _) tS24_0 xE24_0 VE24_0 HE24_0
theorem loop24_0 : isLoopAt Try.prog 24 0 = true := by kernel_rfl
theorem m24_0_ok (k : Nat) : LamSOk Try.prog (ntmpsAt Try.prog 24) 0 (.block 0 (.loop (loopAt Try.prog 24 0))) [(1, .any), (5, .any), (11, .rd 32), (12, .any), (13, .any)] (m24_0 k) := lamT_ok (plan := plan) (kb := 0) (body_run noNum mixed (cf24_ok k) (Lm24_ok k) loop24_0) rfl dS24_0_ok dE24_0_ok (hel := elAll_ok) (pS24_0_run k) k
def Dl25 (k : Nat) : Delta := Dl24 k
def Lm25 (k : Nat) : FuncId → Nat → Option LamF := lCons 24 0 (lamBy plan [14, 15, 16, 7, 17, 18, 19, 20, 21, 22, 23, 24, 25, 26, 27, 5, 28, 13] [(1, .any), (5, .any), (11, .rd 32), (12, .any), (13, .any)] 0 (m24_0 k)) (Lm24 k)
theorem Dl25_ok (k : Nat) : DeltaOk Try.prog (Dl25 k) := Dl24_ok k
theorem Lm25_ok (k : Nat) : LamsOk Try.prog (Lm25 k) := lCons_ok (Lm24_ok k) loop24_0 (lamBy_ok (m24_0_ok k) (by kernel_rfl))
abbrev cf25 (k : Nat) : CallF := evF Try.prog (Dl25 k) (Lm25 k) 200 12
theorem cf25_ok (k : Nat) : CfOk Try.prog (cf25 k) := evF_ok noNum mixed (Dl25_ok k) (Lm25_ok k) 12
def f24 (k : Nat) (x0 : List GWindow) (x1 : Int) : Option R24 :=
  bindO (f20 k x0) fun r3000 =>
   br (!r3000)
    (some (0 : Int))
    (bindO (l24_0 k (S24_0.mk x1 (0 : Int) x0 (↑(List.length x0) : Int) (0 : Int))) fun r2998 =>
     some (E24_0.x5 r2998))
theorem f24_run (k : Nat) (x0 : List GWindow) (x1 : Int) : cf25 k R24 24 (A24 (x0, x1)) [] 0 (endR planR (.any) [] 0 r24) = f24 k x0 x1 := by kernel_rfl
def g24 (k : Nat) : CallS := entT d24 (fun p => f24 k p.1 p.2) (elAll _) (fun _ => o24) (fun _ => u24) (fun _ => n24)
theorem g24_ok (k : Nat) : CallSOk Try.prog 24 (g24 k) := entry_ok (Hp := fun _ => []) (oR := fun _ => o24) (uR := fun _ => u24) (nR := fun _ => n24) (cf25_ok k) d24_ok r24_ok (hel := elAll_ok) (fun p => f24_run k p.1 p.2)
def Dl26 (k : Nat) : Delta := dCons 24 (callAt plan [.rd 32, .any] (g24 k)) (Dl25 k)
def Lm26 (k : Nat) : FuncId → Nat → Option LamF := Lm25 k
theorem Dl26_ok (k : Nat) : DeltaOk Try.prog (Dl26 k) := dCons_ok (Dl25_ok k) (g24_ok k)
theorem Lm26_ok (k : Nat) : LamsOk Try.prog (Lm26 k) := Lm25_ok k
abbrev cf26 (k : Nat) : CallF := evF Try.prog (Dl26 k) (Lm26 k) 200 12
theorem cf26_ok (k : Nat) : CfOk Try.prog (cf26 k) := evF_ok noNum mixed (Dl26_ok k) (Lm26_ok k) 12
abbrev P16 := List GWindow × Int × Int
def A16 (p : P16) : List AV := [.dsl 32 p.1, .int .i64 p.2.1, .int .i64 p.2.2]
def d16 (a : List AV) (H : Heap) : Option P16 := match a, H with
  | [ba0, .int .i64 a1, .int .i64 a2], [] => (match (dslD 32 ba0 : Option (List GWindow)) with | some a0 => some (a0, a1, a2) | none => none)
  | _, _ => none
theorem d16_ok (a : List AV) (H : Heap) (p : P16) (h : d16 a H = some p) : a = A16 p ∧ H = [] := by
  unfold d16 at h
  split at h
  · skip
    split at h
    · rename_i q
      have q := dslD_ok q
      subst q
      cases h; exact ⟨rfl, rfl⟩
    · cases h
  · cases h
abbrev R16 := Int × Bool
def o16 (r : R16) : AEnd := .ret (.tup [.int .i64 r.1, .bool r.2])
def u16 (r : R16) : Heap := []
def n16 (_ : R16) : Nat := 0
def r16 (o : AEnd) (u : Heap) (n : Nat) : Option R16 := match o, u, n with
  | .ret (.tup [.int .i64 a0, .bool a1]), [], 0 => some (a0, a1)
  | _, _, _ => none
theorem r16_ok (p : P16) (o : AEnd) (u : Heap) (n : Nat) (r : R16) (h : r16 o u n = some r) : o = o16 r ∧ u = u16 r ∧ n = n16 r := by
  unfold r16 at h
  split at h
  · skip
    cases h; exact ⟨rfl, rfl, rfl⟩
  · cases h
def f16 (k : Nat) (x0 : List GWindow) (x1 : Int) (x2 : Int) : Option R16 :=
  bindO (f44 k x0 x1 x2) fun r3000 =>
   br (decide (r3000 < (0 : Int)))
    (some ((0 : Int), false))
    (br (decide ((0 : Int) ≤ r3000 ∧ r3000 < (↑(List.length x0) : Int)))
     (some (GWindow.to (List.getD x0 (Int.toNat r3000) default), true))
     (none))
theorem f16_run (k : Nat) (x0 : List GWindow) (x1 : Int) (x2 : Int) : cf26 k R16 16 (A16 (x0, x1, x2)) [] 0 (endR planR (.any) [] 0 r16) = f16 k x0 x1 x2 := by kernel_rfl
def g16 (k : Nat) : CallS := entT d16 (fun p => f16 k p.1 p.2.1 p.2.2) (elAll _) (fun _ => o16) (fun _ => u16) (fun _ => n16)
theorem g16_ok (k : Nat) : CallSOk Try.prog 16 (g16 k) := entry_ok (Hp := fun _ => []) (oR := fun _ => o16) (uR := fun _ => u16) (nR := fun _ => n16) (cf26_ok k) d16_ok r16_ok (hel := elAll_ok) (fun p => f16_run k p.1 p.2.1 p.2.2)
def Dl27 (k : Nat) : Delta := dCons 16 (callAt plan [.rd 32, .any, .any] (g16 k)) (Dl26 k)
def Lm27 (k : Nat) : FuncId → Nat → Option LamF := Lm26 k
theorem Dl27_ok (k : Nat) : DeltaOk Try.prog (Dl27 k) := dCons_ok (Dl26_ok k) (g16_ok k)
theorem Lm27_ok (k : Nat) : LamsOk Try.prog (Lm27 k) := Lm26_ok k
abbrev cf27 (k : Nat) : CallF := evF Try.prog (Dl27 k) (Lm27 k) 200 12
theorem cf27_ok (k : Nat) : CfOk Try.prog (cf27 k) := evF_ok noNum mixed (Dl27_ok k) (Lm27_ok k) 12
abbrev P45 := GWindow
def A45 (p : P45) : List AV := [.agg [.int .i64 p.bed, .int .i64 p.src, .int .i64 p.to]]
def d45 (a : List AV) (H : Heap) : Option P45 := match a, H with
  | [.agg [.int .i64 a0, .int .i64 a1, .int .i64 a2]], [] => some ((⟨a0, a1, a2⟩ : GWindow))
  | _, _ => none
theorem d45_ok (a : List AV) (H : Heap) (p : P45) (h : d45 a H = some p) : a = A45 p ∧ H = [] := by
  unfold d45 at h
  split at h
  · skip
    cases h; exact ⟨rfl, rfl⟩
  · cases h
abbrev R45 := Bool
def o45 (r : R45) : AEnd := .ret (.bool r)
def u45 (r : R45) : Heap := []
def n45 (_ : R45) : Nat := 0
def r45 (o : AEnd) (u : Heap) (n : Nat) : Option R45 := match o, u, n with
  | .ret (.bool a0), [], 0 => some (a0)
  | _, _, _ => none
theorem r45_ok (p : P45) (o : AEnd) (u : Heap) (n : Nat) (r : R45) (h : r45 o u n = some r) : o = o45 r ∧ u = u45 r ∧ n = n45 r := by
  unfold r45 at h
  split at h
  · skip
    cases h; exact ⟨rfl, rfl, rfl⟩
  · cases h
def f45 (k : Nat) (x0 : GWindow) : Option R45 :=
  br (decide (GWindow.bed x0 ≥ (1 : Int)))
   (br (decide (GWindow.bed x0 ≤ (99 : Int)))
    (br (decide (GWindow.src x0 ≥ (0 : Int)))
     (br (decide (GWindow.src x0 < GWindow.to x0))
      (some (decide (GWindow.to x0 ≤ (1000000000 : Int))))
      (some false))
     (some false))
    (some false))
   (some false)
theorem f45_run (k : Nat) (x0 : GWindow) : cf27 k R45 45 (A45 (x0)) [] 0 (endR planR (.any) [] 0 r45) = f45 k x0 := by kernel_rfl
def g45 (k : Nat) : CallS := entT d45 (fun p => f45 k p) (elAll _) (fun _ => o45) (fun _ => u45) (fun _ => n45)
theorem g45_ok (k : Nat) : CallSOk Try.prog 45 (g45 k) := entry_ok (Hp := fun _ => []) (oR := fun _ => o45) (uR := fun _ => u45) (nR := fun _ => n45) (cf27_ok k) d45_ok r45_ok (hel := elAll_ok) (fun p => f45_run k p)
def Dl28 (k : Nat) : Delta := dCons 45 (callAt plan [.any] (g45 k)) (Dl27 k)
def Lm28 (k : Nat) : FuncId → Nat → Option LamF := Lm27 k
theorem Dl28_ok (k : Nat) : DeltaOk Try.prog (Dl28 k) := dCons_ok (Dl27_ok k) (g45_ok k)
theorem Lm28_ok (k : Nat) : LamsOk Try.prog (Lm28 k) := Lm27_ok k
abbrev cf28 (k : Nat) : CallF := evF Try.prog (Dl28 k) (Lm28 k) 200 12
theorem cf28_ok (k : Nat) : CfOk Try.prog (cf28 k) := evF_ok noNum mixed (Dl28_ok k) (Lm28_ok k) 12
abbrev P21 := List GWindow
def A21 (p : P21) : List AV := [.dsl 32 p]
def d21 (a : List AV) (H : Heap) : Option P21 := match a, H with
  | [ba0], [] => (match (dslD 32 ba0 : Option (List GWindow)) with | some a0 => some (a0) | none => none)
  | _, _ => none
theorem d21_ok (a : List AV) (H : Heap) (p : P21) (h : d21 a H = some p) : a = A21 p ∧ H = [] := by
  unfold d21 at h
  split at h
  · skip
    split at h
    · rename_i q
      have q := dslD_ok q
      subst q
      cases h; exact ⟨rfl, rfl⟩
    · cases h
  · cases h
abbrev R21 := Bool
def o21 (r : R21) : AEnd := .ret (.bool r)
def u21 (r : R21) : Heap := []
def n21 (_ : R21) : Nat := 0
def r21 (o : AEnd) (u : Heap) (n : Nat) : Option R21 := match o, u, n with
  | .ret (.bool a0), [], 0 => some (a0)
  | _, _, _ => none
theorem r21_ok (p : P21) (o : AEnd) (u : Heap) (n : Nat) (r : R21) (h : r21 o u n = some r) : o = o21 r ∧ u = u21 r ∧ n = n21 r := by
  unfold r21 at h
  split at h
  · skip
    cases h; exact ⟨rfl, rfl, rfl⟩
  · cases h
structure S21_0 where
  mk ::
  x0 : List GWindow
  x3 : Int
def VS21_0 (s : S21_0) : List AV := [.dsl 32 s.x0, .int .i64 s.x3]
def HS21_0 (s : S21_0) : Heap := []
def dS21_0 (vs : List AV) (H : Heap) : Option S21_0 := match vs, H with
  | [bx0, .int .i64 x3], [] => (match (dslD 32 bx0 : Option (List GWindow)) with | some x0 => some (⟨x0, x3⟩ : S21_0) | none => none)
  | _, _ => none
theorem dS21_0_ok (vs : List AV) (H : Heap) (s : S21_0) (h : dS21_0 vs H = some s) : vs = VS21_0 s ∧ H = HS21_0 s := by
  unfold dS21_0 at h
  split at h
  · skip
    split at h
    · rename_i q
      have q := dslD_ok q
      subst q
      cases h; exact ⟨rfl, rfl⟩
    · cases h
  · cases h
def tS21_0 : AExit → List (Nat × Kd) := fun x => match x with
  | .normal => [(0, .rd 32), (3, .any)]
  | .exit i => (match i with | 0 => [(0, .rd 32)] | _ => [])
  | .ret => [(2, .any)]
  | _ => []
structure E21_0 where
  mk ::
  x2 : Bool
def VE21_0 (s : E21_0) : List AV := [.bool s.x2]
def HE21_0 (s : E21_0) : Heap := []
def dE21_0 (x : AExit) (vs : List AV) (H : Heap) : Option E21_0 := match x, vs, H with
  | .ret, [.bool x2], [] => some (⟨x2⟩ : E21_0)
  | _, _, _ => none
theorem dE21_0_ok (x : AExit) (vs : List AV) (H : Heap) (s : E21_0) (h : dE21_0 x vs H = some s) : x = .ret ∧ vs = VE21_0 s ∧ H = HE21_0 s := by
  unfold dE21_0 at h
  split at h
  · skip
    cases h; exact ⟨rfl, rfl, rfl⟩
  · cases h
structure E21_0b where
  mk ::
  x0 : List GWindow
def VE21_0b (s : E21_0b) : List AV := [.dsl 32 s.x0]
def HE21_0b (s : E21_0b) : Heap := []
def dE21_0b (x : AExit) (vs : List AV) (H : Heap) : Option E21_0b := match x, vs, H with
  | .exit 0, [bx0], [] => (match (dslD 32 bx0 : Option (List GWindow)) with | some x0 => some (⟨x0⟩ : E21_0b) | none => none)
  | _, _, _ => none
theorem dE21_0b_ok (x : AExit) (vs : List AV) (H : Heap) (s : E21_0b) (h : dE21_0b x vs H = some s) : x = .exit 0 ∧ vs = VE21_0b s ∧ H = HE21_0b s := by
  unfold dE21_0b at h
  split at h
  · skip
    split at h
    · rename_i q
      have q := dslD_ok q
      subst q
      cases h; exact ⟨rfl, rfl, rfl⟩
    · cases h
  · cases h
abbrev EE21_0 := E21_0 ⊕ E21_0b
def xEE21_0 (e : EE21_0) : AExit := match e with | .inl _ => .ret | .inr _ => .exit 0
def VEE21_0 (e : EE21_0) : List AV := match e with | .inl s => VE21_0 s | .inr s => VE21_0b s
def HEE21_0 (e : EE21_0) : Heap := match e with | .inl s => HE21_0 s | .inr s => HE21_0b s
def dEE21_0 (x : AExit) (vs : List AV) (H : Heap) : Option EE21_0 := match dE21_0 x vs H with | some s => some (.inl s) | none => (match dE21_0b x vs H with | some s => some (.inr s) | none => none)
theorem dEE21_0_ok (x : AExit) (vs : List AV) (H : Heap) (s : EE21_0) (h : dEE21_0 x vs H = some s) : x = xEE21_0 s ∧ vs = VEE21_0 s ∧ H = HEE21_0 s := by
  unfold dEE21_0 at h
  split at h
  · rename_i q; cases h; exact dE21_0_ok _ _ _ _ q
  · split at h
    · rename_i q; cases h; exact dE21_0b_ok _ _ _ _ q
    · cases h
def pS21_0 (k : Nat) (s : S21_0) : Option (S21_0 ⊕ EE21_0) :=
  br (decide (S21_0.x3 s < (↑(List.length (S21_0.x0 s)) : Int)))
   (br (decide ((0 : Int) ≤ S21_0.x3 s ∧ S21_0.x3 s < (↑(List.length (S21_0.x0 s)) : Int)))
    (bindO (f45 k (List.getD (S21_0.x0 s) (Int.toNat (S21_0.x3 s)) default)) fun r1500 =>
     br (!r1500)
      (some (Sum.inr (Sum.inl (E21_0.mk false))))
      (br (decide (S21_0.x3 s > (0 : Int)))
       (br (decide ((0 : Int) ≤ IntKind.wrap IntKind.i64 (S21_0.x3 s - (1 : Int)) ∧ IntKind.wrap IntKind.i64 (S21_0.x3 s - (1 : Int)) < (↑(List.length (S21_0.x0 s)) : Int)))
        (br (decide ((0 : Int) ≤ S21_0.x3 s ∧ S21_0.x3 s < (↑(List.length (S21_0.x0 s)) : Int)))
         (br (decide (GWindow.bed (List.getD (S21_0.x0 s) (Int.toNat (IntKind.wrap IntKind.i64 (S21_0.x3 s - (1 : Int)))) default) > GWindow.bed (List.getD (S21_0.x0 s) (Int.toNat (S21_0.x3 s)) default)))
          (some (Sum.inr (Sum.inl (E21_0.mk false))))
          (br (decide ((0 : Int) ≤ IntKind.wrap IntKind.i64 (S21_0.x3 s - (1 : Int)) ∧ IntKind.wrap IntKind.i64 (S21_0.x3 s - (1 : Int)) < (↑(List.length (S21_0.x0 s)) : Int)))
           (br (decide ((0 : Int) ≤ S21_0.x3 s ∧ S21_0.x3 s < (↑(List.length (S21_0.x0 s)) : Int)))
            (br (GWindow.bed (List.getD (S21_0.x0 s) (Int.toNat (IntKind.wrap IntKind.i64 (S21_0.x3 s - (1 : Int)))) default) == GWindow.bed (List.getD (S21_0.x0 s) (Int.toNat (S21_0.x3 s)) default))
             (br (decide ((0 : Int) ≤ IntKind.wrap IntKind.i64 (S21_0.x3 s - (1 : Int)) ∧ IntKind.wrap IntKind.i64 (S21_0.x3 s - (1 : Int)) < (↑(List.length (S21_0.x0 s)) : Int)))
              (br (decide ((0 : Int) ≤ S21_0.x3 s ∧ S21_0.x3 s < (↑(List.length (S21_0.x0 s)) : Int)))
               (br (decide (GWindow.to (List.getD (S21_0.x0 s) (Int.toNat (IntKind.wrap IntKind.i64 (S21_0.x3 s - (1 : Int)))) default) ≥ GWindow.src (List.getD (S21_0.x0 s) (Int.toNat (S21_0.x3 s)) default)))
                (some (Sum.inr (Sum.inl (E21_0.mk false))))
                (some (Sum.inl (S21_0.mk (S21_0.x0 s) (IntKind.wrap IntKind.i64 (S21_0.x3 s + (1 : Int)))))))
               (none))
              (none))
             (some (Sum.inl (S21_0.mk (S21_0.x0 s) (IntKind.wrap IntKind.i64 (S21_0.x3 s + (1 : Int)))))))
            (none))
           (none)))
         (none))
        (none))
       (some (Sum.inl (S21_0.mk (S21_0.x0 s) (IntKind.wrap IntKind.i64 (S21_0.x3 s + (1 : Int))))))))
    (none))
   (some (Sum.inr (Sum.inr (E21_0b.mk (S21_0.x0 s)))))
theorem pS21_0_run (k : Nat) (s : S21_0) : evC (S21_0 ⊕ EE21_0) Try.prog (ntmpsAt Try.prog 21) (cf28 k) ((Lm28 k) 21) 200 (loopAt Try.prog 21 0) (zipE [(0, .rd 32), (3, .any)] (VS21_0 s)) (HS21_0 s) (List.length (HS21_0 s)) (cutS plan 0 tS21_0 (rndT dS21_0 dEE21_0)) = pS21_0 k s := by kernel_rfl
def l21_0 (k : Nat) (s : S21_0) : Option EE21_0 := iterT (pS21_0 k) k s
def m21_0 (k : Nat) : LamS := lamT 0 dS21_0 (l21_0 k) (elSum (elAll _) (elAll _)) tS21_0 xEE21_0 VEE21_0 HEE21_0
theorem loop21_0 : isLoopAt Try.prog 21 0 = true := by kernel_rfl
theorem m21_0_ok (k : Nat) : LamSOk Try.prog (ntmpsAt Try.prog 21) 0 (.block 0 (.loop (loopAt Try.prog 21 0))) [(0, .rd 32), (3, .any)] (m21_0 k) := lamT_ok (plan := plan) (kb := 0) (body_run noNum mixed (cf28_ok k) (Lm28_ok k) loop21_0) rfl dS21_0_ok dEE21_0_ok (hel := (elSum_ok elAll_ok elAll_ok)) (pS21_0_run k) k
def Dl29 (k : Nat) : Delta := Dl28 k
def Lm29 (k : Nat) : FuncId → Nat → Option LamF := lCons 21 0 (lamBy plan [4, 5, 6, 7, 10, 11, 12, 13, 14, 15, 2, 16, 17, 18, 19, 20, 21, 22, 23, 24, 25, 26, 27, 28, 29, 30, 31, 32, 33, 34, 35, 36, 37, 38, 39, 40, 41, 42, 43, 44, 45, 46, 47, 48, 49, 50, 51, 52, 53, 54, 55, 56, 57, 58, 59, 2, 8, 9, 3] [(0, .rd 32), (3, .any)] 0 (m21_0 k)) (Lm28 k)
theorem Dl29_ok (k : Nat) : DeltaOk Try.prog (Dl29 k) := Dl28_ok k
theorem Lm29_ok (k : Nat) : LamsOk Try.prog (Lm29 k) := lCons_ok (Lm28_ok k) loop21_0 (lamBy_ok (m21_0_ok k) (by kernel_rfl))
abbrev cf29 (k : Nat) : CallF := evF Try.prog (Dl29 k) (Lm29 k) 200 12
theorem cf29_ok (k : Nat) : CfOk Try.prog (cf29 k) := evF_ok noNum mixed (Dl29_ok k) (Lm29_ok k) 12
def f21 (k : Nat) (x0 : List GWindow) : Option R21 :=
  bindO (l21_0 k (S21_0.mk x0 (0 : Int))) fun r3000 =>
   match r3000 with
   | .inl c2999 => some (E21_0.x2 c2999)
   | .inr c2999 => some (decide ((↑(List.length (E21_0b.x0 c2999)) : Int) ≤ (100 : Int)))
theorem f21_run (k : Nat) (x0 : List GWindow) : cf29 k R21 21 (A21 (x0)) [] 0 (endR planR (.any) [] 0 r21) = f21 k x0 := by kernel_rfl
def g21 (k : Nat) : CallS := entT d21 (fun p => f21 k p) (elAll _) (fun _ => o21) (fun _ => u21) (fun _ => n21)
theorem g21_ok (k : Nat) : CallSOk Try.prog 21 (g21 k) := entry_ok (Hp := fun _ => []) (oR := fun _ => o21) (uR := fun _ => u21) (nR := fun _ => n21) (cf29_ok k) d21_ok r21_ok (hel := elAll_ok) (fun p => f21_run k p)
def Dl30 (k : Nat) : Delta := dCons 21 (callAt plan [.rd 32] (g21 k)) (Dl29 k)
def Lm30 (k : Nat) : FuncId → Nat → Option LamF := Lm29 k
theorem Dl30_ok (k : Nat) : DeltaOk Try.prog (Dl30 k) := dCons_ok (Dl29_ok k) (g21_ok k)
theorem Lm30_ok (k : Nat) : LamsOk Try.prog (Lm30 k) := Lm29_ok k
abbrev cf30 (k : Nat) : CallF := evF Try.prog (Dl30 k) (Lm30 k) 200 12
theorem cf30_ok (k : Nat) : CfOk Try.prog (cf30 k) := evF_ok noNum mixed (Dl30_ok k) (Lm30_ok k) 12
abbrev P127 := List Int × Int
def A127 (p : P127) : List AV := [.dsl 3 p.1, .int .i64 p.2]
def d127 (a : List AV) (H : Heap) : Option P127 := match a, H with
  | [ba0, .int .i64 a1], [] => (match (dslD 3 ba0 : Option (List Int)) with | some a0 => some (a0, a1) | none => none)
  | _, _ => none
theorem d127_ok (a : List AV) (H : Heap) (p : P127) (h : d127 a H = some p) : a = A127 p ∧ H = [] := by
  unfold d127 at h
  split at h
  · skip
    split at h
    · rename_i q
      have q := dslD_ok q
      subst q
      cases h; exact ⟨rfl, rfl⟩
    · cases h
  · cases h
abbrev R127 := List Int
def o127 (r : R127) : AEnd := .ret (.dsl 3 r)
def u127 (r : R127) : Heap := []
def n127 (_ : R127) : Nat := 0
def r127 (o : AEnd) (u : Heap) (n : Nat) : Option R127 := match o, u, n with
  | .ret ba0, [], 0 => (match (dslD 3 ba0 : Option (List Int)) with | some a0 => some (a0) | none => none)
  | _, _, _ => none
theorem r127_ok (p : P127) (o : AEnd) (u : Heap) (n : Nat) (r : R127) (h : r127 o u n = some r) : o = o127 r ∧ u = u127 r ∧ n = n127 r := by
  unfold r127 at h
  split at h
  · skip
    split at h
    · rename_i q
      have q := dslD_ok q
      subst q
      cases h; exact ⟨rfl, rfl, rfl⟩
    · cases h
  · cases h
structure S127_0 where
  mk ::
  x0 : List Int
  x1 : Int
  x5 : Int
def VS127_0 (s : S127_0) : List AV := [.dsl 3 s.x0, .int .i64 s.x1, .int .i64 s.x5]
def HS127_0 (s : S127_0) : Heap := []
def dS127_0 (vs : List AV) (H : Heap) : Option S127_0 := match vs, H with
  | [bx0, .int .i64 x1, .int .i64 x5], [] => (match (dslD 3 bx0 : Option (List Int)) with | some x0 => some (⟨x0, x1, x5⟩ : S127_0) | none => none)
  | _, _ => none
theorem dS127_0_ok (vs : List AV) (H : Heap) (s : S127_0) (h : dS127_0 vs H = some s) : vs = VS127_0 s ∧ H = HS127_0 s := by
  unfold dS127_0 at h
  split at h
  · skip
    split at h
    · rename_i q
      have q := dslD_ok q
      subst q
      cases h; exact ⟨rfl, rfl⟩
    · cases h
  · cases h
def tS127_0 : AExit → List (Nat × Kd) := fun x => match x with
  | .normal => [(0, .rd 3), (1, .any), (5, .any)]
  | .exit i => (match i with | 0 => [(0, .rd 3), (1, .any), (5, .any)] | _ => [])
  | .ret => [(4, .rd 3)]
  | _ => []
structure E127_0 where
  mk ::
  x0 : List Int
  x1 : Int
  x5 : Int
def VE127_0 (s : E127_0) : List AV := [.dsl 3 s.x0, .int .i64 s.x1, .int .i64 s.x5]
def HE127_0 (s : E127_0) : Heap := []
def dE127_0 (x : AExit) (vs : List AV) (H : Heap) : Option E127_0 := match x, vs, H with
  | .exit 0, [bx0, .int .i64 x1, .int .i64 x5], [] => (match (dslD 3 bx0 : Option (List Int)) with | some x0 => some (⟨x0, x1, x5⟩ : E127_0) | none => none)
  | _, _, _ => none
theorem dE127_0_ok (x : AExit) (vs : List AV) (H : Heap) (s : E127_0) (h : dE127_0 x vs H = some s) : x = .exit 0 ∧ vs = VE127_0 s ∧ H = HE127_0 s := by
  unfold dE127_0 at h
  split at h
  · skip
    split at h
    · rename_i q
      have q := dslD_ok q
      subst q
      cases h; exact ⟨rfl, rfl, rfl⟩
    · cases h
  · cases h
def xE127_0 (_ : E127_0) : AExit := .exit 0
def pS127_0 (k : Nat) (s : S127_0) : Option (S127_0 ⊕ E127_0) :=
  br (decide (S127_0.x5 s < (↑(List.length (S127_0.x0 s)) : Int)))
   (br (decide ((0 : Int) ≤ S127_0.x5 s ∧ S127_0.x5 s < (↑(List.length (S127_0.x0 s)) : Int)))
    (br (decide (List.getD (S127_0.x0 s) (Int.toNat (S127_0.x5 s)) (0 : Int) < S127_0.x1 s))
     (some (Sum.inl (S127_0.mk (S127_0.x0 s) (S127_0.x1 s) (IntKind.wrap IntKind.i64 (S127_0.x5 s + (1 : Int))))))
     (some (Sum.inr (E127_0.mk (S127_0.x0 s) (S127_0.x1 s) (S127_0.x5 s)))))
    (none))
   (some (Sum.inr (E127_0.mk (S127_0.x0 s) (S127_0.x1 s) (S127_0.x5 s))))
theorem pS127_0_run (k : Nat) (s : S127_0) : evC (S127_0 ⊕ E127_0) Try.prog (ntmpsAt Try.prog 127) (cf30 k) ((Lm30 k) 127) 200 (loopAt Try.prog 127 0) (zipE [(0, .rd 3), (1, .any), (5, .any)] (VS127_0 s)) (HS127_0 s) (List.length (HS127_0 s)) (cutS plan 0 tS127_0 (rndT dS127_0 dE127_0)) = pS127_0 k s := by kernel_rfl
def l127_0 (k : Nat) (s : S127_0) : Option E127_0 := iterT (pS127_0 k) k s
def m127_0 (k : Nat) : LamS := lamT 0 dS127_0 (l127_0 k) (elAll _) tS127_0 xE127_0 VE127_0 HE127_0
theorem loop127_0 : isLoopAt Try.prog 127 0 = true := by kernel_rfl
theorem m127_0_ok (k : Nat) : LamSOk Try.prog (ntmpsAt Try.prog 127) 0 (.block 0 (.loop (loopAt Try.prog 127 0))) [(0, .rd 3), (1, .any), (5, .any)] (m127_0 k) := lamT_ok (plan := plan) (kb := 0) (body_run noNum mixed (cf30_ok k) (Lm30_ok k) loop127_0) rfl dS127_0_ok dE127_0_ok (hel := elAll_ok) (pS127_0_run k) k
def Dl31 (k : Nat) : Delta := Dl30 k
def Lm31 (k : Nat) : FuncId → Nat → Option LamF := lCons 127 0 (lamBy plan [7, 8, 9, 10, 11, 12, 13, 14, 15, 16, 17, 18, 19, 20, 5] [(0, .rd 3), (1, .any), (5, .any)] 0 (m127_0 k)) (Lm30 k)
theorem Dl31_ok (k : Nat) : DeltaOk Try.prog (Dl31 k) := Dl30_ok k
theorem Lm31_ok (k : Nat) : LamsOk Try.prog (Lm31 k) := lCons_ok (Lm30_ok k) loop127_0 (lamBy_ok (m127_0_ok k) (by kernel_rfl))
abbrev cf31 (k : Nat) : CallF := evF Try.prog (Dl31 k) (Lm31 k) 200 12
theorem cf31_ok (k : Nat) : CfOk Try.prog (cf31 k) := evF_ok noNum mixed (Dl31_ok k) (Lm31_ok k) 12
def f127 (k : Nat) (x0 : List Int) (x1 : Int) : Option R127 :=
  bindO (l127_0 k (S127_0.mk x0 x1 (0 : Int))) fun r3000 =>
   br (decide (E127_0.x5 r3000 < (↑(List.length (E127_0.x0 r3000)) : Int)))
    (br (decide ((0 : Int) ≤ E127_0.x5 r3000 ∧ E127_0.x5 r3000 < (↑(List.length (E127_0.x0 r3000)) : Int)))
     (br (List.getD (E127_0.x0 r3000) (Int.toNat (E127_0.x5 r3000)) (0 : Int) == E127_0.x1 r3000)
      (some (E127_0.x0 r3000))
      (br (decide ((0 : Int) ≤ (0 : Int) ∧ (0 : Int) ≤ Option.getD (Option.some (E127_0.x5 r3000)) (↑(List.length (E127_0.x0 r3000)) : Int) ∧ Option.getD (Option.some (E127_0.x5 r3000)) (↑(List.length (E127_0.x0 r3000)) : Int) ≤ (↑(List.length (E127_0.x0 r3000)) : Int)))
       (br (true && decide (List.length (List.take (Int.toNat (E127_0.x5 r3000)) (E127_0.x0 r3000)) * (8 : Nat) ≤ (140737488355328 : Nat)))
        (br (true && decide ((List.length (List.take (Int.toNat (E127_0.x5 r3000)) (E127_0.x0 r3000)) + List.length [E127_0.x1 r3000]) * (8 : Nat) ≤ (140737488355328 : Nat)))
         (br (decide ((0 : Int) ≤ Option.getD (Option.some (E127_0.x5 r3000)) (0 : Int) ∧ Option.getD (Option.some (E127_0.x5 r3000)) (0 : Int) ≤ Option.getD Option.none (↑(List.length (E127_0.x0 r3000)) : Int) ∧ Option.getD Option.none (↑(List.length (E127_0.x0 r3000)) : Int) ≤ (↑(List.length (E127_0.x0 r3000)) : Int)))
          (br (true && decide ((List.length (List.take (Int.toNat (E127_0.x5 r3000)) (E127_0.x0 r3000) ++ [E127_0.x1 r3000]) + List.length (List.drop (Int.toNat (E127_0.x5 r3000)) (E127_0.x0 r3000))) * (8 : Nat) ≤ (140737488355328 : Nat)))
           (some (List.take (Int.toNat (E127_0.x5 r3000)) (E127_0.x0 r3000) ++ [E127_0.x1 r3000] ++ List.drop (Int.toNat (E127_0.x5 r3000)) (E127_0.x0 r3000)))
           (none))
          (none))
         (none))
        (none))
       (none)))
     (none))
    (br (decide ((0 : Int) ≤ (0 : Int) ∧ (0 : Int) ≤ Option.getD (Option.some (E127_0.x5 r3000)) (↑(List.length (E127_0.x0 r3000)) : Int) ∧ Option.getD (Option.some (E127_0.x5 r3000)) (↑(List.length (E127_0.x0 r3000)) : Int) ≤ (↑(List.length (E127_0.x0 r3000)) : Int)))
     (br (true && decide (List.length (List.take (Int.toNat (E127_0.x5 r3000)) (E127_0.x0 r3000)) * (8 : Nat) ≤ (140737488355328 : Nat)))
      (br (true && decide ((List.length (List.take (Int.toNat (E127_0.x5 r3000)) (E127_0.x0 r3000)) + List.length [E127_0.x1 r3000]) * (8 : Nat) ≤ (140737488355328 : Nat)))
       (br (decide ((0 : Int) ≤ Option.getD (Option.some (E127_0.x5 r3000)) (0 : Int) ∧ Option.getD (Option.some (E127_0.x5 r3000)) (0 : Int) ≤ Option.getD Option.none (↑(List.length (E127_0.x0 r3000)) : Int) ∧ Option.getD Option.none (↑(List.length (E127_0.x0 r3000)) : Int) ≤ (↑(List.length (E127_0.x0 r3000)) : Int)))
        (br (true && decide ((List.length (List.take (Int.toNat (E127_0.x5 r3000)) (E127_0.x0 r3000) ++ [E127_0.x1 r3000]) + List.length (List.drop (Int.toNat (E127_0.x5 r3000)) (E127_0.x0 r3000))) * (8 : Nat) ≤ (140737488355328 : Nat)))
         (some (List.take (Int.toNat (E127_0.x5 r3000)) (E127_0.x0 r3000) ++ [E127_0.x1 r3000] ++ List.drop (Int.toNat (E127_0.x5 r3000)) (E127_0.x0 r3000)))
         (none))
        (none))
       (none))
      (none))
     (none))
theorem f127_run (k : Nat) (x0 : List Int) (x1 : Int) : cf31 k R127 127 (A127 (x0, x1)) [] 0 (endR planR (.ro 3) [] 0 r127) = f127 k x0 x1 := by kernel_rfl
def g127 (k : Nat) : CallS := entT d127 (fun p => f127 k p.1 p.2) (elAll _) (fun _ => o127) (fun _ => u127) (fun _ => n127)
theorem g127_ok (k : Nat) : CallSOk Try.prog 127 (g127 k) := entry_ok (Hp := fun _ => []) (oR := fun _ => o127) (uR := fun _ => u127) (nR := fun _ => n127) (cf31_ok k) d127_ok r127_ok (hel := elAll_ok) (fun p => f127_run k p.1 p.2)
def Dl32 (k : Nat) : Delta := dCons 127 (callAt plan [.rd 3, .any] (g127 k)) (Dl31 k)
def Lm32 (k : Nat) : FuncId → Nat → Option LamF := Lm31 k
theorem Dl32_ok (k : Nat) : DeltaOk Try.prog (Dl32 k) := dCons_ok (Dl31_ok k) (g127_ok k)
theorem Lm32_ok (k : Nat) : LamsOk Try.prog (Lm32 k) := Lm31_ok k
abbrev cf32 (k : Nat) : CallF := evF Try.prog (Dl32 k) (Lm32 k) 200 12
theorem cf32_ok (k : Nat) : CfOk Try.prog (cf32 k) := evF_ok noNum mixed (Dl32_ok k) (Lm32_ok k) 12
abbrev P115 := List GWindow × Int
def A115 (p : P115) : List AV := [.dsl 32 p.1, .int .i64 p.2]
def d115 (a : List AV) (H : Heap) : Option P115 := match a, H with
  | [ba0, .int .i64 a1], [] => (match (dslD 32 ba0 : Option (List GWindow)) with | some a0 => some (a0, a1) | none => none)
  | _, _ => none
theorem d115_ok (a : List AV) (H : Heap) (p : P115) (h : d115 a H = some p) : a = A115 p ∧ H = [] := by
  unfold d115 at h
  split at h
  · skip
    split at h
    · rename_i q
      have q := dslD_ok q
      subst q
      cases h; exact ⟨rfl, rfl⟩
    · cases h
  · cases h
abbrev R115 := List Int
def o115 (r : R115) : AEnd := .ret (.dsl 3 r)
def u115 (r : R115) : Heap := []
def n115 (_ : R115) : Nat := 0
def r115 (o : AEnd) (u : Heap) (n : Nat) : Option R115 := match o, u, n with
  | .ret ba0, [], 0 => (match (dslD 3 ba0 : Option (List Int)) with | some a0 => some (a0) | none => none)
  | _, _, _ => none
theorem r115_ok (p : P115) (o : AEnd) (u : Heap) (n : Nat) (r : R115) (h : r115 o u n = some r) : o = o115 r ∧ u = u115 r ∧ n = n115 r := by
  unfold r115 at h
  split at h
  · skip
    split at h
    · rename_i q
      have q := dslD_ok q
      subst q
      cases h; exact ⟨rfl, rfl, rfl⟩
    · cases h
  · cases h
structure S115_0 where
  mk ::
  x0 : List GWindow
  x1 : Int
  x5 : List Int
  x6 : Int
def VS115_0 (s : S115_0) : List AV := [.dsl 32 s.x0, .int .i64 s.x1, .dsl 3 s.x5, .int .i64 s.x6]
def HS115_0 (s : S115_0) : Heap := []
def dS115_0 (vs : List AV) (H : Heap) : Option S115_0 := match vs, H with
  | [bx0, .int .i64 x1, bx5, .int .i64 x6], [] => (match (dslD 32 bx0 : Option (List GWindow)) with | some x0 => (match (dslD 3 bx5 : Option (List Int)) with | some x5 => some (⟨x0, x1, x5, x6⟩ : S115_0) | none => none) | none => none)
  | _, _ => none
theorem dS115_0_ok (vs : List AV) (H : Heap) (s : S115_0) (h : dS115_0 vs H = some s) : vs = VS115_0 s ∧ H = HS115_0 s := by
  unfold dS115_0 at h
  split at h
  · skip
    split at h
    · rename_i q
      have q := dslD_ok q
      subst q
      split at h
      · rename_i q
        have q := dslD_ok q
        subst q
        cases h; exact ⟨rfl, rfl⟩
      · cases h
    · cases h
  · cases h
def tS115_0 : AExit → List (Nat × Kd) := fun x => match x with
  | .normal => [(0, .rd 32), (1, .any), (5, .rd 3), (6, .any)]
  | .exit i => (match i with | 0 => [(5, .rd 3)] | _ => [])
  | .ret => [(4, .rd 3)]
  | _ => []
structure E115_0 where
  mk ::
  x5 : List Int
def VE115_0 (s : E115_0) : List AV := [.dsl 3 s.x5]
def HE115_0 (s : E115_0) : Heap := []
def dE115_0 (x : AExit) (vs : List AV) (H : Heap) : Option E115_0 := match x, vs, H with
  | .exit 0, [bx5], [] => (match (dslD 3 bx5 : Option (List Int)) with | some x5 => some (⟨x5⟩ : E115_0) | none => none)
  | _, _, _ => none
theorem dE115_0_ok (x : AExit) (vs : List AV) (H : Heap) (s : E115_0) (h : dE115_0 x vs H = some s) : x = .exit 0 ∧ vs = VE115_0 s ∧ H = HE115_0 s := by
  unfold dE115_0 at h
  split at h
  · skip
    split at h
    · rename_i q
      have q := dslD_ok q
      subst q
      cases h; exact ⟨rfl, rfl, rfl⟩
    · cases h
  · cases h
def xE115_0 (_ : E115_0) : AExit := .exit 0
def pS115_0 (k : Nat) (s : S115_0) : Option (S115_0 ⊕ E115_0) :=
  br (decide (S115_0.x6 s < (↑(List.length (S115_0.x0 s)) : Int)))
   (br (decide ((0 : Int) ≤ S115_0.x6 s ∧ S115_0.x6 s < (↑(List.length (S115_0.x0 s)) : Int)))
    (br (GWindow.bed (List.getD (S115_0.x0 s) (Int.toNat (S115_0.x6 s)) default) == S115_0.x1 s)
     (br (decide ((0 : Int) ≤ S115_0.x6 s ∧ S115_0.x6 s < (↑(List.length (S115_0.x0 s)) : Int)))
      (bindO (f127 k (S115_0.x5 s) (GWindow.src (List.getD (S115_0.x0 s) (Int.toNat (S115_0.x6 s)) default))) fun r1500 =>
       br (decide ((0 : Int) ≤ S115_0.x6 s ∧ S115_0.x6 s < (↑(List.length (S115_0.x0 s)) : Int)))
        (bindO (f127 k r1500 (GWindow.to (List.getD (S115_0.x0 s) (Int.toNat (S115_0.x6 s)) default))) fun r1499 =>
         some (Sum.inl (S115_0.mk (S115_0.x0 s) (S115_0.x1 s) r1499 (IntKind.wrap IntKind.i64 (S115_0.x6 s + (1 : Int))))))
        (none))
      (none))
     (some (Sum.inl (S115_0.mk (S115_0.x0 s) (S115_0.x1 s) (S115_0.x5 s) (IntKind.wrap IntKind.i64 (S115_0.x6 s + (1 : Int)))))))
    (none))
   (some (Sum.inr (E115_0.mk (S115_0.x5 s))))
theorem pS115_0_run (k : Nat) (s : S115_0) : evC (S115_0 ⊕ E115_0) Try.prog (ntmpsAt Try.prog 115) (cf32 k) ((Lm32 k) 115) 200 (loopAt Try.prog 115 0) (zipE [(0, .rd 32), (1, .any), (5, .rd 3), (6, .any)] (VS115_0 s)) (HS115_0 s) (List.length (HS115_0 s)) (cutS plan 0 tS115_0 (rndT dS115_0 dE115_0)) = pS115_0 k s := by kernel_rfl
def l115_0 (k : Nat) (s : S115_0) : Option E115_0 := iterT (pS115_0 k) k s
def m115_0 (k : Nat) : LamS := lamT 0 dS115_0 (l115_0 k) (elAll _) tS115_0 xE115_0 VE115_0 HE115_0
theorem loop115_0 : isLoopAt Try.prog 115 0 = true := by kernel_rfl
theorem m115_0_ok (k : Nat) : LamSOk Try.prog (ntmpsAt Try.prog 115) 0 (.block 0 (.loop (loopAt Try.prog 115 0))) [(0, .rd 32), (1, .any), (5, .rd 3), (6, .any)] (m115_0 k) := lamT_ok (plan := plan) (kb := 0) (body_run noNum mixed (cf32_ok k) (Lm32_ok k) loop115_0) rfl dS115_0_ok dE115_0_ok (hel := elAll_ok) (pS115_0_run k) k
def Dl33 (k : Nat) : Delta := Dl32 k
def Lm33 (k : Nat) : FuncId → Nat → Option LamF := lCons 115 0 (lamBy plan [7, 8, 9, 10, 13, 14, 15, 16, 17, 18, 19, 20, 21, 22, 23, 24, 25, 26, 5, 27, 28, 29, 30, 31, 32, 33, 5, 11, 12, 6] [(0, .rd 32), (1, .any), (5, .rd 3), (6, .any)] 0 (m115_0 k)) (Lm32 k)
theorem Dl33_ok (k : Nat) : DeltaOk Try.prog (Dl33 k) := Dl32_ok k
theorem Lm33_ok (k : Nat) : LamsOk Try.prog (Lm33 k) := lCons_ok (Lm32_ok k) loop115_0 (lamBy_ok (m115_0_ok k) (by kernel_rfl))
abbrev cf33 (k : Nat) : CallF := evF Try.prog (Dl33 k) (Lm33 k) 200 12
theorem cf33_ok (k : Nat) : CfOk Try.prog (cf33 k) := evF_ok noNum mixed (Dl33_ok k) (Lm33_ok k) 12
def f115 (k : Nat) (x0 : List GWindow) (x1 : Int) : Option R115 :=
  bindO (l115_0 k (S115_0.mk x0 x1 [] (0 : Int))) fun r3000 =>
   some (E115_0.x5 r3000)
theorem f115_run (k : Nat) (x0 : List GWindow) (x1 : Int) : cf33 k R115 115 (A115 (x0, x1)) [] 0 (endR planR (.ro 3) [] 0 r115) = f115 k x0 x1 := by kernel_rfl
def g115 (k : Nat) : CallS := entT d115 (fun p => f115 k p.1 p.2) (elAll _) (fun _ => o115) (fun _ => u115) (fun _ => n115)
theorem g115_ok (k : Nat) : CallSOk Try.prog 115 (g115 k) := entry_ok (Hp := fun _ => []) (oR := fun _ => o115) (uR := fun _ => u115) (nR := fun _ => n115) (cf33_ok k) d115_ok r115_ok (hel := elAll_ok) (fun p => f115_run k p.1 p.2)
def Dl34 (k : Nat) : Delta := dCons 115 (callAt plan [.rd 32, .any] (g115 k)) (Dl33 k)
def Lm34 (k : Nat) : FuncId → Nat → Option LamF := Lm33 k
theorem Dl34_ok (k : Nat) : DeltaOk Try.prog (Dl34 k) := dCons_ok (Dl33_ok k) (g115_ok k)
theorem Lm34_ok (k : Nat) : LamsOk Try.prog (Lm34 k) := Lm33_ok k
abbrev cf34 (k : Nat) : CallF := evF Try.prog (Dl34 k) (Lm34 k) 200 12
theorem cf34_ok (k : Nat) : CfOk Try.prog (cf34 k) := evF_ok noNum mixed (Dl34_ok k) (Lm34_ok k) 12
abbrev P23 := List GWindow × Int × Int
def A23 (p : P23) : List AV := [.dsl 32 p.1, .int .i64 p.2.1, .int .i64 p.2.2]
def d23 (a : List AV) (H : Heap) : Option P23 := match a, H with
  | [ba0, .int .i64 a1, .int .i64 a2], [] => (match (dslD 32 ba0 : Option (List GWindow)) with | some a0 => some (a0, a1, a2) | none => none)
  | _, _ => none
theorem d23_ok (a : List AV) (H : Heap) (p : P23) (h : d23 a H = some p) : a = A23 p ∧ H = [] := by
  unfold d23 at h
  split at h
  · skip
    split at h
    · rename_i q
      have q := dslD_ok q
      subst q
      cases h; exact ⟨rfl, rfl⟩
    · cases h
  · cases h
abbrev R23 := Bool
def o23 (r : R23) : AEnd := .ret (.bool r)
def u23 (r : R23) : Heap := []
def n23 (_ : R23) : Nat := 0
def r23 (o : AEnd) (u : Heap) (n : Nat) : Option R23 := match o, u, n with
  | .ret (.bool a0), [], 0 => some (a0)
  | _, _, _ => none
theorem r23_ok (p : P23) (o : AEnd) (u : Heap) (n : Nat) (r : R23) (h : r23 o u n = some r) : o = o23 r ∧ u = u23 r ∧ n = n23 r := by
  unfold r23 at h
  split at h
  · skip
    cases h; exact ⟨rfl, rfl, rfl⟩
  · cases h
structure S23_0 where
  mk ::
  x0 : List GWindow
  x1 : Int
  x2 : Int
  x7 : Int
def VS23_0 (s : S23_0) : List AV := [.dsl 32 s.x0, .int .i64 s.x1, .int .i64 s.x2, .int .i64 s.x7]
def HS23_0 (s : S23_0) : Heap := []
def dS23_0 (vs : List AV) (H : Heap) : Option S23_0 := match vs, H with
  | [bx0, .int .i64 x1, .int .i64 x2, .int .i64 x7], [] => (match (dslD 32 bx0 : Option (List GWindow)) with | some x0 => some (⟨x0, x1, x2, x7⟩ : S23_0) | none => none)
  | _, _ => none
theorem dS23_0_ok (vs : List AV) (H : Heap) (s : S23_0) (h : dS23_0 vs H = some s) : vs = VS23_0 s ∧ H = HS23_0 s := by
  unfold dS23_0 at h
  split at h
  · skip
    split at h
    · rename_i q
      have q := dslD_ok q
      subst q
      cases h; exact ⟨rfl, rfl⟩
    · cases h
  · cases h
def tS23_0 : AExit → List (Nat × Kd) := fun x => match x with
  | .normal => [(0, .rd 32), (1, .any), (2, .any), (7, .any)]
  | .exit i => (match i with | 0 => [] | _ => [])
  | .ret => [(6, .any)]
  | _ => []
structure E23_0 where
  mk ::
  x6 : Bool
def VE23_0 (s : E23_0) : List AV := [.bool s.x6]
def HE23_0 (s : E23_0) : Heap := []
def dE23_0 (x : AExit) (vs : List AV) (H : Heap) : Option E23_0 := match x, vs, H with
  | .ret, [.bool x6], [] => some (⟨x6⟩ : E23_0)
  | _, _, _ => none
theorem dE23_0_ok (x : AExit) (vs : List AV) (H : Heap) (s : E23_0) (h : dE23_0 x vs H = some s) : x = .ret ∧ vs = VE23_0 s ∧ H = HE23_0 s := by
  unfold dE23_0 at h
  split at h
  · skip
    cases h; exact ⟨rfl, rfl, rfl⟩
  · cases h
structure E23_0b where
  mk ::
def VE23_0b (s : E23_0b) : List AV := []
def HE23_0b (s : E23_0b) : Heap := []
def dE23_0b (x : AExit) (vs : List AV) (H : Heap) : Option E23_0b := match x, vs, H with
  | .exit 0, [], [] => some (⟨⟩ : E23_0b)
  | _, _, _ => none
theorem dE23_0b_ok (x : AExit) (vs : List AV) (H : Heap) (s : E23_0b) (h : dE23_0b x vs H = some s) : x = .exit 0 ∧ vs = VE23_0b s ∧ H = HE23_0b s := by
  unfold dE23_0b at h
  split at h
  · skip
    cases h; exact ⟨rfl, rfl, rfl⟩
  · cases h
abbrev EE23_0 := E23_0 ⊕ E23_0b
def xEE23_0 (e : EE23_0) : AExit := match e with | .inl _ => .ret | .inr _ => .exit 0
def VEE23_0 (e : EE23_0) : List AV := match e with | .inl s => VE23_0 s | .inr s => VE23_0b s
def HEE23_0 (e : EE23_0) : Heap := match e with | .inl s => HE23_0 s | .inr s => HE23_0b s
def dEE23_0 (x : AExit) (vs : List AV) (H : Heap) : Option EE23_0 := match dE23_0 x vs H with | some s => some (.inl s) | none => (match dE23_0b x vs H with | some s => some (.inr s) | none => none)
theorem dEE23_0_ok (x : AExit) (vs : List AV) (H : Heap) (s : EE23_0) (h : dEE23_0 x vs H = some s) : x = xEE23_0 s ∧ vs = VEE23_0 s ∧ H = HEE23_0 s := by
  unfold dEE23_0 at h
  split at h
  · rename_i q; cases h; exact dE23_0_ok _ _ _ _ q
  · split at h
    · rename_i q; cases h; exact dE23_0b_ok _ _ _ _ q
    · cases h
def pS23_0 (k : Nat) (s : S23_0) : Option (S23_0 ⊕ EE23_0) :=
  br (decide (S23_0.x7 s < (↑(List.length (S23_0.x0 s)) : Int)))
   (br (decide ((0 : Int) ≤ S23_0.x7 s ∧ S23_0.x7 s < (↑(List.length (S23_0.x0 s)) : Int)))
    (br (GWindow.bed (List.getD (S23_0.x0 s) (Int.toNat (S23_0.x7 s)) default) == S23_0.x1 s)
     (br (decide ((0 : Int) ≤ S23_0.x7 s ∧ S23_0.x7 s < (↑(List.length (S23_0.x0 s)) : Int)))
      (br (decide (GWindow.src (List.getD (S23_0.x0 s) (Int.toNat (S23_0.x7 s)) default) ≤ S23_0.x2 s))
       (br (decide ((0 : Int) ≤ S23_0.x7 s ∧ S23_0.x7 s < (↑(List.length (S23_0.x0 s)) : Int)))
        (br (decide (S23_0.x2 s < GWindow.to (List.getD (S23_0.x0 s) (Int.toNat (S23_0.x7 s)) default)))
         (some (Sum.inr (Sum.inl (E23_0.mk true))))
         (some (Sum.inl (S23_0.mk (S23_0.x0 s) (S23_0.x1 s) (S23_0.x2 s) (IntKind.wrap IntKind.i64 (S23_0.x7 s + (1 : Int)))))))
        (none))
       (some (Sum.inl (S23_0.mk (S23_0.x0 s) (S23_0.x1 s) (S23_0.x2 s) (IntKind.wrap IntKind.i64 (S23_0.x7 s + (1 : Int)))))))
      (none))
     (some (Sum.inl (S23_0.mk (S23_0.x0 s) (S23_0.x1 s) (S23_0.x2 s) (IntKind.wrap IntKind.i64 (S23_0.x7 s + (1 : Int)))))))
    (none))
   (some (Sum.inr (Sum.inr E23_0b.mk)))
theorem pS23_0_run (k : Nat) (s : S23_0) : evC (S23_0 ⊕ EE23_0) Try.prog (ntmpsAt Try.prog 23) (cf34 k) ((Lm34 k) 23) 200 (loopAt Try.prog 23 0) (zipE [(0, .rd 32), (1, .any), (2, .any), (7, .any)] (VS23_0 s)) (HS23_0 s) (List.length (HS23_0 s)) (cutS plan 0 tS23_0 (rndT dS23_0 dEE23_0)) = pS23_0 k s := by kernel_rfl
def l23_0 (k : Nat) (s : S23_0) : Option EE23_0 := iterT (pS23_0 k) k s
def m23_0 (k : Nat) : LamS := lamT 0 dS23_0 (l23_0 k) (elSum (elAll _) (elAll _)) tS23_0 xEE23_0 VEE23_0 HEE23_0
theorem loop23_0 : isLoopAt Try.prog 23 0 = true := by kernel_rfl
theorem m23_0_ok (k : Nat) : LamSOk Try.prog (ntmpsAt Try.prog 23) 0 (.block 0 (.loop (loopAt Try.prog 23 0))) [(0, .rd 32), (1, .any), (2, .any), (7, .any)] (m23_0 k) := lamT_ok (plan := plan) (kb := 0) (body_run noNum mixed (cf34_ok k) (Lm34_ok k) loop23_0) rfl dS23_0_ok dEE23_0_ok (hel := (elSum_ok elAll_ok elAll_ok)) (pS23_0_run k) k
def Dl35 (k : Nat) : Delta := Dl34 k
def Lm35 (k : Nat) : FuncId → Nat → Option LamF := lCons 23 0 (lamBy plan [8, 9, 10, 11, 14, 15, 16, 17, 18, 19, 20, 21, 22, 23, 24, 25, 26, 27, 28, 29, 30, 31, 32, 33, 34, 35, 36, 37, 38, 6, 12, 13, 7] [(0, .rd 32), (1, .any), (2, .any), (7, .any)] 0 (m23_0 k)) (Lm34 k)
theorem Dl35_ok (k : Nat) : DeltaOk Try.prog (Dl35 k) := Dl34_ok k
theorem Lm35_ok (k : Nat) : LamsOk Try.prog (Lm35 k) := lCons_ok (Lm34_ok k) loop23_0 (lamBy_ok (m23_0_ok k) (by kernel_rfl))
abbrev cf35 (k : Nat) : CallF := evF Try.prog (Dl35 k) (Lm35 k) 200 12
theorem cf35_ok (k : Nat) : CfOk Try.prog (cf35 k) := evF_ok noNum mixed (Dl35_ok k) (Lm35_ok k) 12
def f23 (k : Nat) (x0 : List GWindow) (x1 : Int) (x2 : Int) : Option R23 :=
  bindO (l23_0 k (S23_0.mk x0 x1 x2 (0 : Int))) fun r3000 =>
   match r3000 with
   | .inl c2999 => some (E23_0.x6 c2999)
   | .inr c2999 => some false
theorem f23_run (k : Nat) (x0 : List GWindow) (x1 : Int) (x2 : Int) : cf35 k R23 23 (A23 (x0, x1, x2)) [] 0 (endR planR (.any) [] 0 r23) = f23 k x0 x1 x2 := by kernel_rfl
def g23 (k : Nat) : CallS := entT d23 (fun p => f23 k p.1 p.2.1 p.2.2) (elAll _) (fun _ => o23) (fun _ => u23) (fun _ => n23)
theorem g23_ok (k : Nat) : CallSOk Try.prog 23 (g23 k) := entry_ok (Hp := fun _ => []) (oR := fun _ => o23) (uR := fun _ => u23) (nR := fun _ => n23) (cf35_ok k) d23_ok r23_ok (hel := elAll_ok) (fun p => f23_run k p.1 p.2.1 p.2.2)
def Dl36 (k : Nat) : Delta := dCons 23 (callAt plan [.rd 32, .any, .any] (g23 k)) (Dl35 k)
def Lm36 (k : Nat) : FuncId → Nat → Option LamF := Lm35 k
theorem Dl36_ok (k : Nat) : DeltaOk Try.prog (Dl36 k) := dCons_ok (Dl35_ok k) (g23_ok k)
theorem Lm36_ok (k : Nat) : LamsOk Try.prog (Lm36 k) := Lm35_ok k
abbrev cf36 (k : Nat) : CallF := evF Try.prog (Dl36 k) (Lm36 k) 200 12
theorem cf36_ok (k : Nat) : CfOk Try.prog (cf36 k) := evF_ok noNum mixed (Dl36_ok k) (Lm36_ok k) 12
abbrev P82 := List GWindow × List GWindow × Bool
def A82 (p : P82) : List AV := [.dsl 32 p.1, .dsl 32 p.2.1, .bool p.2.2]
def d82 (a : List AV) (H : Heap) : Option P82 := match a, H with
  | [ba0, ba1, .bool a2], [] => (match (dslD 32 ba0 : Option (List GWindow)) with | some a0 => (match (dslD 32 ba1 : Option (List GWindow)) with | some a1 => some (a0, a1, a2) | none => none) | none => none)
  | _, _ => none
theorem d82_ok (a : List AV) (H : Heap) (p : P82) (h : d82 a H = some p) : a = A82 p ∧ H = [] := by
  unfold d82 at h
  split at h
  · skip
    split at h
    · rename_i q
      have q := dslD_ok q
      subst q
      split at h
      · rename_i q
        have q := dslD_ok q
        subst q
        cases h; exact ⟨rfl, rfl⟩
      · cases h
    · cases h
  · cases h
abbrev R82 := List GWindow
def o82 (r : R82) : AEnd := .ret (.dsl 32 r)
def u82 (r : R82) : Heap := []
def n82 (_ : R82) : Nat := 0
def r82 (o : AEnd) (u : Heap) (n : Nat) : Option R82 := match o, u, n with
  | .ret ba0, [], 0 => (match (dslD 32 ba0 : Option (List GWindow)) with | some a0 => some (a0) | none => none)
  | _, _, _ => none
theorem r82_ok (p : P82) (o : AEnd) (u : Heap) (n : Nat) (r : R82) (h : r82 o u n = some r) : o = o82 r ∧ u = u82 r ∧ n = n82 r := by
  unfold r82 at h
  split at h
  · skip
    split at h
    · rename_i q
      have q := dslD_ok q
      subst q
      cases h; exact ⟨rfl, rfl, rfl⟩
    · cases h
  · cases h
structure S82_0 where
  mk ::
  x0 : List GWindow
  x1 : List GWindow
  x2 : Bool
  x7 : List GWindow
  x9 : Int
  h0 : List GWindow
def VS82_0 (s : S82_0) : List AV := [.dsl 32 s.x0, .dsl 32 s.x1, .bool s.x2, .dsl 32 s.x7, .slf 0, .int .i64 s.x9]
def HS82_0 (s : S82_0) : Heap := [(0, some (.row 32 s.h0))]
def dS82_0 (vs : List AV) (H : Heap) : Option S82_0 := match vs, H with
  | [bx0, bx1, .bool x2, bx7, .slf 0, .int .i64 x9], [(0, bh0)] => (match (dslD 32 bx0 : Option (List GWindow)) with | some x0 => (match (dslD 32 bx1 : Option (List GWindow)) with | some x1 => (match (dslD 32 bx7 : Option (List GWindow)) with | some x7 => (match (rowD 32 bh0 : Option (List GWindow)) with | some h0 => some (⟨x0, x1, x2, x7, x9, h0⟩ : S82_0) | none => none) | none => none) | none => none) | none => none)
  | _, _ => none
theorem dS82_0_ok (vs : List AV) (H : Heap) (s : S82_0) (h : dS82_0 vs H = some s) : vs = VS82_0 s ∧ H = HS82_0 s := by
  unfold dS82_0 at h
  split at h
  · skip
    split at h
    · rename_i q
      have q := dslD_ok q
      subst q
      split at h
      · rename_i q
        have q := dslD_ok q
        subst q
        split at h
        · rename_i q
          have q := dslD_ok q
          subst q
          split at h
          · rename_i q
            have q := rowD_ok q
            subst q
            cases h; exact ⟨rfl, rfl⟩
          · cases h
        · cases h
      · cases h
    · cases h
  · cases h
def tS82_0 : AExit → List (Nat × Kd) := fun x => match x with
  | .normal => [(0, .rd 32), (1, .rd 32), (2, .any), (7, .ro 32), (8, .own 32), (9, .any)]
  | .exit i => (match i with | 0 => [(8, .own 32)] | _ => [])
  | .ret => [(6, .rd 32)]
  | _ => []
structure S82_2 where
  mk ::
  x0 : List GWindow
  x1 : List GWindow
  x2 : Bool
  x7 : List GWindow
  x9 : Int
  x10 : List Int
  x11 : Int
  h0 : List GWindow
def VS82_2 (s : S82_2) : List AV := [.dsl 32 s.x0, .dsl 32 s.x1, .bool s.x2, .dsl 32 s.x7, .slf 0, .int .i64 s.x9, .dsl 3 s.x10, .int .i64 s.x11]
def HS82_2 (s : S82_2) : Heap := [(0, some (.row 32 s.h0))]
def dS82_2 (vs : List AV) (H : Heap) : Option S82_2 := match vs, H with
  | [bx0, bx1, .bool x2, bx7, .slf 0, .int .i64 x9, bx10, .int .i64 x11], [(0, bh0)] => (match (dslD 32 bx0 : Option (List GWindow)) with | some x0 => (match (dslD 32 bx1 : Option (List GWindow)) with | some x1 => (match (dslD 32 bx7 : Option (List GWindow)) with | some x7 => (match (dslD 3 bx10 : Option (List Int)) with | some x10 => (match (rowD 32 bh0 : Option (List GWindow)) with | some h0 => some (⟨x0, x1, x2, x7, x9, x10, x11, h0⟩ : S82_2) | none => none) | none => none) | none => none) | none => none) | none => none)
  | _, _ => none
theorem dS82_2_ok (vs : List AV) (H : Heap) (s : S82_2) (h : dS82_2 vs H = some s) : vs = VS82_2 s ∧ H = HS82_2 s := by
  unfold dS82_2 at h
  split at h
  · skip
    split at h
    · rename_i q
      have q := dslD_ok q
      subst q
      split at h
      · rename_i q
        have q := dslD_ok q
        subst q
        split at h
        · rename_i q
          have q := dslD_ok q
          subst q
          split at h
          · rename_i q
            have q := dslD_ok q
            subst q
            split at h
            · rename_i q
              have q := rowD_ok q
              subst q
              cases h; exact ⟨rfl, rfl⟩
            · cases h
          · cases h
        · cases h
      · cases h
    · cases h
  · cases h
def tS82_2 : AExit → List (Nat × Kd) := fun x => match x with
  | .normal => [(0, .rd 32), (1, .rd 32), (2, .any), (7, .rd 32), (8, .own 32), (9, .any), (10, .rd 3), (11, .any)]
  | .exit i => (match i with | 2 => [(0, .rd 32), (1, .rd 32), (2, .any), (7, .rd 32), (8, .own 32), (9, .any)] | 0 => [(8, .own 32)] | 1 => [(0, .rd 32), (1, .rd 32), (2, .any), (7, .rd 32), (8, .own 32), (9, .any)] | _ => [])
  | .ret => [(6, .rd 32)]
  | _ => []
structure E82_2 where
  mk ::
  x0 : List GWindow
  x1 : List GWindow
  x2 : Bool
  x7 : List GWindow
  x9 : Int
  h0 : List GWindow
def VE82_2 (s : E82_2) : List AV := [.dsl 32 s.x0, .dsl 32 s.x1, .bool s.x2, .dsl 32 s.x7, .slf 0, .int .i64 s.x9]
def HE82_2 (s : E82_2) : Heap := [(0, some (.row 32 s.h0))]
def dE82_2 (x : AExit) (vs : List AV) (H : Heap) : Option E82_2 := match x, vs, H with
  | .exit 2, [bx0, bx1, .bool x2, bx7, .slf 0, .int .i64 x9], [(0, bh0)] => (match (dslD 32 bx0 : Option (List GWindow)) with | some x0 => (match (dslD 32 bx1 : Option (List GWindow)) with | some x1 => (match (dslD 32 bx7 : Option (List GWindow)) with | some x7 => (match (rowD 32 bh0 : Option (List GWindow)) with | some h0 => some (⟨x0, x1, x2, x7, x9, h0⟩ : E82_2) | none => none) | none => none) | none => none) | none => none)
  | _, _, _ => none
theorem dE82_2_ok (x : AExit) (vs : List AV) (H : Heap) (s : E82_2) (h : dE82_2 x vs H = some s) : x = .exit 2 ∧ vs = VE82_2 s ∧ H = HE82_2 s := by
  unfold dE82_2 at h
  split at h
  · skip
    split at h
    · rename_i q
      have q := dslD_ok q
      subst q
      split at h
      · rename_i q
        have q := dslD_ok q
        subst q
        split at h
        · rename_i q
          have q := dslD_ok q
          subst q
          split at h
          · rename_i q
            have q := rowD_ok q
            subst q
            cases h; exact ⟨rfl, rfl, rfl⟩
          · cases h
        · cases h
      · cases h
    · cases h
  · cases h
def xE82_2 (_ : E82_2) : AExit := .exit 2
def pS82_2 (k : Nat) (s : S82_2) : Option (S82_2 ⊕ E82_2) :=
  br (decide (IntKind.wrap IntKind.i64 (S82_2.x11 s + (1 : Int)) < (↑(List.length (S82_2.x10 s)) : Int)))
   (br (decide ((0 : Int) ≤ S82_2.x11 s ∧ S82_2.x11 s < (↑(List.length (S82_2.x10 s)) : Int)))
    (bindO (f23 k (S82_2.x0 s) (S82_2.x9 s) (List.getD (S82_2.x10 s) (Int.toNat (S82_2.x11 s)) (0 : Int))) fun r1500 =>
     br (decide ((0 : Int) ≤ S82_2.x11 s ∧ S82_2.x11 s < (↑(List.length (S82_2.x10 s)) : Int)))
      (bindO (f23 k (S82_2.x1 s) (S82_2.x9 s) (List.getD (S82_2.x10 s) (Int.toNat (S82_2.x11 s)) (0 : Int))) fun r1499 =>
       br r1500
        (br (!S82_2.x2 s)
         (br r1500
          (br (!!r1499)
           (some (Sum.inl (S82_2.mk (S82_2.x0 s) (S82_2.x1 s) (S82_2.x2 s) (S82_2.x7 s) (S82_2.x9 s) (S82_2.x10 s) (IntKind.wrap IntKind.i64 (S82_2.x11 s + (1 : Int))) (S82_2.h0 s))))
           (br (decide ((↑(List.length (S82_2.h0 s)) : Int) > (0 : Int)))
            (br (decide ((0 : Int) ≤ IntKind.wrap IntKind.i64 ((↑(List.length (S82_2.h0 s)) : Int) - (1 : Int)) ∧ IntKind.wrap IntKind.i64 ((↑(List.length (S82_2.h0 s)) : Int) - (1 : Int)) < (↑(List.length (S82_2.h0 s)) : Int)))
             (br (decide (Int.toNat (IntKind.wrap IntKind.i64 ((↑(List.length (S82_2.h0 s)) : Int) - (1 : Int))) < List.length (S82_2.h0 s)))
              (br (GWindow.bed (List.getD (S82_2.h0 s) (Int.toNat (IntKind.wrap IntKind.i64 ((↑(List.length (S82_2.h0 s)) : Int) - (1 : Int)))) default) == S82_2.x9 s)
               (br (decide ((0 : Int) ≤ IntKind.wrap IntKind.i64 ((↑(List.length (S82_2.h0 s)) : Int) - (1 : Int)) ∧ IntKind.wrap IntKind.i64 ((↑(List.length (S82_2.h0 s)) : Int) - (1 : Int)) < (↑(List.length (S82_2.h0 s)) : Int)))
                (br (decide (Int.toNat (IntKind.wrap IntKind.i64 ((↑(List.length (S82_2.h0 s)) : Int) - (1 : Int))) < List.length (S82_2.h0 s)))
                 (br (decide ((0 : Int) ≤ S82_2.x11 s ∧ S82_2.x11 s < (↑(List.length (S82_2.x10 s)) : Int)))
                  (br (GWindow.to (List.getD (S82_2.h0 s) (Int.toNat (IntKind.wrap IntKind.i64 ((↑(List.length (S82_2.h0 s)) : Int) - (1 : Int)))) default) == List.getD (S82_2.x10 s) (Int.toNat (S82_2.x11 s)) (0 : Int))
                   (br (decide ((0 : Int) ≤ IntKind.wrap IntKind.i64 (S82_2.x11 s + (1 : Int)) ∧ IntKind.wrap IntKind.i64 (S82_2.x11 s + (1 : Int)) < (↑(List.length (S82_2.x10 s)) : Int)))
                    (br (decide ((0 : Int) ≤ IntKind.wrap IntKind.i64 ((↑(List.length (S82_2.h0 s)) : Int) - (1 : Int)) ∧ IntKind.wrap IntKind.i64 ((↑(List.length (S82_2.h0 s)) : Int) - (1 : Int)) < (↑(List.length (S82_2.h0 s)) : Int)))
                     (br (true && decide (Int.toNat (IntKind.wrap IntKind.i64 ((↑(List.length (S82_2.h0 s)) : Int) - (1 : Int))) < List.length (S82_2.h0 s)))
                      (some (Sum.inl (S82_2.mk (S82_2.x0 s) (S82_2.x1 s) (S82_2.x2 s) (S82_2.x7 s) (S82_2.x9 s) (S82_2.x10 s) (IntKind.wrap IntKind.i64 (S82_2.x11 s + (1 : Int))) (List.set (S82_2.h0 s) (Int.toNat (IntKind.wrap IntKind.i64 ((↑(List.length (S82_2.h0 s)) : Int) - (1 : Int)))) (GWindow.mk (GWindow.bed (List.getD (S82_2.h0 s) (Int.toNat (IntKind.wrap IntKind.i64 ((↑(List.length (S82_2.h0 s)) : Int) - (1 : Int)))) default)) (GWindow.src (List.getD (S82_2.h0 s) (Int.toNat (IntKind.wrap IntKind.i64 ((↑(List.length (S82_2.h0 s)) : Int) - (1 : Int)))) default)) (List.getD (S82_2.x10 s) (Int.toNat (IntKind.wrap IntKind.i64 (S82_2.x11 s + (1 : Int)))) (0 : Int)))))))
                      (none))
                     (none))
                    (none))
                   (br (decide ((0 : Int) ≤ S82_2.x11 s ∧ S82_2.x11 s < (↑(List.length (S82_2.x10 s)) : Int)))
                    (br (decide ((0 : Int) ≤ IntKind.wrap IntKind.i64 (S82_2.x11 s + (1 : Int)) ∧ IntKind.wrap IntKind.i64 (S82_2.x11 s + (1 : Int)) < (↑(List.length (S82_2.x10 s)) : Int)))
                     (br (true && decide ((List.length (S82_2.h0 s) + List.length [GWindow.mk (S82_2.x9 s) (List.getD (S82_2.x10 s) (Int.toNat (S82_2.x11 s)) (0 : Int)) (List.getD (S82_2.x10 s) (Int.toNat (IntKind.wrap IntKind.i64 (S82_2.x11 s + (1 : Int)))) (0 : Int))]) * (24 : Nat) ≤ (140737488355328 : Nat)))
                      (some (Sum.inl (S82_2.mk (S82_2.x0 s) (S82_2.x1 s) (S82_2.x2 s) (S82_2.x7 s) (S82_2.x9 s) (S82_2.x10 s) (IntKind.wrap IntKind.i64 (S82_2.x11 s + (1 : Int))) (S82_2.h0 s ++ [GWindow.mk (S82_2.x9 s) (List.getD (S82_2.x10 s) (Int.toNat (S82_2.x11 s)) (0 : Int)) (List.getD (S82_2.x10 s) (Int.toNat (IntKind.wrap IntKind.i64 (S82_2.x11 s + (1 : Int)))) (0 : Int))]))))
                      (none))
                     (none))
                    (none)))
                  (none))
                 (none))
                (none))
               (br (decide ((0 : Int) ≤ S82_2.x11 s ∧ S82_2.x11 s < (↑(List.length (S82_2.x10 s)) : Int)))
                (br (decide ((0 : Int) ≤ IntKind.wrap IntKind.i64 (S82_2.x11 s + (1 : Int)) ∧ IntKind.wrap IntKind.i64 (S82_2.x11 s + (1 : Int)) < (↑(List.length (S82_2.x10 s)) : Int)))
                 (br (true && decide ((List.length (S82_2.h0 s) + List.length [GWindow.mk (S82_2.x9 s) (List.getD (S82_2.x10 s) (Int.toNat (S82_2.x11 s)) (0 : Int)) (List.getD (S82_2.x10 s) (Int.toNat (IntKind.wrap IntKind.i64 (S82_2.x11 s + (1 : Int)))) (0 : Int))]) * (24 : Nat) ≤ (140737488355328 : Nat)))
                  (some (Sum.inl (S82_2.mk (S82_2.x0 s) (S82_2.x1 s) (S82_2.x2 s) (S82_2.x7 s) (S82_2.x9 s) (S82_2.x10 s) (IntKind.wrap IntKind.i64 (S82_2.x11 s + (1 : Int))) (S82_2.h0 s ++ [GWindow.mk (S82_2.x9 s) (List.getD (S82_2.x10 s) (Int.toNat (S82_2.x11 s)) (0 : Int)) (List.getD (S82_2.x10 s) (Int.toNat (IntKind.wrap IntKind.i64 (S82_2.x11 s + (1 : Int)))) (0 : Int))]))))
                  (none))
                 (none))
                (none)))
              (none))
             (none))
            (br (decide ((0 : Int) ≤ S82_2.x11 s ∧ S82_2.x11 s < (↑(List.length (S82_2.x10 s)) : Int)))
             (br (decide ((0 : Int) ≤ IntKind.wrap IntKind.i64 (S82_2.x11 s + (1 : Int)) ∧ IntKind.wrap IntKind.i64 (S82_2.x11 s + (1 : Int)) < (↑(List.length (S82_2.x10 s)) : Int)))
              (br (true && decide ((List.length (S82_2.h0 s) + List.length [GWindow.mk (S82_2.x9 s) (List.getD (S82_2.x10 s) (Int.toNat (S82_2.x11 s)) (0 : Int)) (List.getD (S82_2.x10 s) (Int.toNat (IntKind.wrap IntKind.i64 (S82_2.x11 s + (1 : Int)))) (0 : Int))]) * (24 : Nat) ≤ (140737488355328 : Nat)))
               (some (Sum.inl (S82_2.mk (S82_2.x0 s) (S82_2.x1 s) (S82_2.x2 s) (S82_2.x7 s) (S82_2.x9 s) (S82_2.x10 s) (IntKind.wrap IntKind.i64 (S82_2.x11 s + (1 : Int))) (S82_2.h0 s ++ [GWindow.mk (S82_2.x9 s) (List.getD (S82_2.x10 s) (Int.toNat (S82_2.x11 s)) (0 : Int)) (List.getD (S82_2.x10 s) (Int.toNat (IntKind.wrap IntKind.i64 (S82_2.x11 s + (1 : Int)))) (0 : Int))]))))
               (none))
              (none))
             (none))))
          (some (Sum.inl (S82_2.mk (S82_2.x0 s) (S82_2.x1 s) (S82_2.x2 s) (S82_2.x7 s) (S82_2.x9 s) (S82_2.x10 s) (IntKind.wrap IntKind.i64 (S82_2.x11 s + (1 : Int))) (S82_2.h0 s)))))
         (br (decide ((↑(List.length (S82_2.h0 s)) : Int) > (0 : Int)))
          (br (decide ((0 : Int) ≤ IntKind.wrap IntKind.i64 ((↑(List.length (S82_2.h0 s)) : Int) - (1 : Int)) ∧ IntKind.wrap IntKind.i64 ((↑(List.length (S82_2.h0 s)) : Int) - (1 : Int)) < (↑(List.length (S82_2.h0 s)) : Int)))
           (br (decide (Int.toNat (IntKind.wrap IntKind.i64 ((↑(List.length (S82_2.h0 s)) : Int) - (1 : Int))) < List.length (S82_2.h0 s)))
            (br (GWindow.bed (List.getD (S82_2.h0 s) (Int.toNat (IntKind.wrap IntKind.i64 ((↑(List.length (S82_2.h0 s)) : Int) - (1 : Int)))) default) == S82_2.x9 s)
             (br (decide ((0 : Int) ≤ IntKind.wrap IntKind.i64 ((↑(List.length (S82_2.h0 s)) : Int) - (1 : Int)) ∧ IntKind.wrap IntKind.i64 ((↑(List.length (S82_2.h0 s)) : Int) - (1 : Int)) < (↑(List.length (S82_2.h0 s)) : Int)))
              (br (decide (Int.toNat (IntKind.wrap IntKind.i64 ((↑(List.length (S82_2.h0 s)) : Int) - (1 : Int))) < List.length (S82_2.h0 s)))
               (br (decide ((0 : Int) ≤ S82_2.x11 s ∧ S82_2.x11 s < (↑(List.length (S82_2.x10 s)) : Int)))
                (br (GWindow.to (List.getD (S82_2.h0 s) (Int.toNat (IntKind.wrap IntKind.i64 ((↑(List.length (S82_2.h0 s)) : Int) - (1 : Int)))) default) == List.getD (S82_2.x10 s) (Int.toNat (S82_2.x11 s)) (0 : Int))
                 (br (decide ((0 : Int) ≤ IntKind.wrap IntKind.i64 (S82_2.x11 s + (1 : Int)) ∧ IntKind.wrap IntKind.i64 (S82_2.x11 s + (1 : Int)) < (↑(List.length (S82_2.x10 s)) : Int)))
                  (br (decide ((0 : Int) ≤ IntKind.wrap IntKind.i64 ((↑(List.length (S82_2.h0 s)) : Int) - (1 : Int)) ∧ IntKind.wrap IntKind.i64 ((↑(List.length (S82_2.h0 s)) : Int) - (1 : Int)) < (↑(List.length (S82_2.h0 s)) : Int)))
                   (br (true && decide (Int.toNat (IntKind.wrap IntKind.i64 ((↑(List.length (S82_2.h0 s)) : Int) - (1 : Int))) < List.length (S82_2.h0 s)))
                    (some (Sum.inl (S82_2.mk (S82_2.x0 s) (S82_2.x1 s) (S82_2.x2 s) (S82_2.x7 s) (S82_2.x9 s) (S82_2.x10 s) (IntKind.wrap IntKind.i64 (S82_2.x11 s + (1 : Int))) (List.set (S82_2.h0 s) (Int.toNat (IntKind.wrap IntKind.i64 ((↑(List.length (S82_2.h0 s)) : Int) - (1 : Int)))) (GWindow.mk (GWindow.bed (List.getD (S82_2.h0 s) (Int.toNat (IntKind.wrap IntKind.i64 ((↑(List.length (S82_2.h0 s)) : Int) - (1 : Int)))) default)) (GWindow.src (List.getD (S82_2.h0 s) (Int.toNat (IntKind.wrap IntKind.i64 ((↑(List.length (S82_2.h0 s)) : Int) - (1 : Int)))) default)) (List.getD (S82_2.x10 s) (Int.toNat (IntKind.wrap IntKind.i64 (S82_2.x11 s + (1 : Int)))) (0 : Int)))))))
                    (none))
                   (none))
                  (none))
                 (br (decide ((0 : Int) ≤ S82_2.x11 s ∧ S82_2.x11 s < (↑(List.length (S82_2.x10 s)) : Int)))
                  (br (decide ((0 : Int) ≤ IntKind.wrap IntKind.i64 (S82_2.x11 s + (1 : Int)) ∧ IntKind.wrap IntKind.i64 (S82_2.x11 s + (1 : Int)) < (↑(List.length (S82_2.x10 s)) : Int)))
                   (br (true && decide ((List.length (S82_2.h0 s) + List.length [GWindow.mk (S82_2.x9 s) (List.getD (S82_2.x10 s) (Int.toNat (S82_2.x11 s)) (0 : Int)) (List.getD (S82_2.x10 s) (Int.toNat (IntKind.wrap IntKind.i64 (S82_2.x11 s + (1 : Int)))) (0 : Int))]) * (24 : Nat) ≤ (140737488355328 : Nat)))
                    (some (Sum.inl (S82_2.mk (S82_2.x0 s) (S82_2.x1 s) (S82_2.x2 s) (S82_2.x7 s) (S82_2.x9 s) (S82_2.x10 s) (IntKind.wrap IntKind.i64 (S82_2.x11 s + (1 : Int))) (S82_2.h0 s ++ [GWindow.mk (S82_2.x9 s) (List.getD (S82_2.x10 s) (Int.toNat (S82_2.x11 s)) (0 : Int)) (List.getD (S82_2.x10 s) (Int.toNat (IntKind.wrap IntKind.i64 (S82_2.x11 s + (1 : Int)))) (0 : Int))]))))
                    (none))
                   (none))
                  (none)))
                (none))
               (none))
              (none))
             (br (decide ((0 : Int) ≤ S82_2.x11 s ∧ S82_2.x11 s < (↑(List.length (S82_2.x10 s)) : Int)))
              (br (decide ((0 : Int) ≤ IntKind.wrap IntKind.i64 (S82_2.x11 s + (1 : Int)) ∧ IntKind.wrap IntKind.i64 (S82_2.x11 s + (1 : Int)) < (↑(List.length (S82_2.x10 s)) : Int)))
               (br (true && decide ((List.length (S82_2.h0 s) + List.length [GWindow.mk (S82_2.x9 s) (List.getD (S82_2.x10 s) (Int.toNat (S82_2.x11 s)) (0 : Int)) (List.getD (S82_2.x10 s) (Int.toNat (IntKind.wrap IntKind.i64 (S82_2.x11 s + (1 : Int)))) (0 : Int))]) * (24 : Nat) ≤ (140737488355328 : Nat)))
                (some (Sum.inl (S82_2.mk (S82_2.x0 s) (S82_2.x1 s) (S82_2.x2 s) (S82_2.x7 s) (S82_2.x9 s) (S82_2.x10 s) (IntKind.wrap IntKind.i64 (S82_2.x11 s + (1 : Int))) (S82_2.h0 s ++ [GWindow.mk (S82_2.x9 s) (List.getD (S82_2.x10 s) (Int.toNat (S82_2.x11 s)) (0 : Int)) (List.getD (S82_2.x10 s) (Int.toNat (IntKind.wrap IntKind.i64 (S82_2.x11 s + (1 : Int)))) (0 : Int))]))))
                (none))
               (none))
              (none)))
            (none))
           (none))
          (br (decide ((0 : Int) ≤ S82_2.x11 s ∧ S82_2.x11 s < (↑(List.length (S82_2.x10 s)) : Int)))
           (br (decide ((0 : Int) ≤ IntKind.wrap IntKind.i64 (S82_2.x11 s + (1 : Int)) ∧ IntKind.wrap IntKind.i64 (S82_2.x11 s + (1 : Int)) < (↑(List.length (S82_2.x10 s)) : Int)))
            (br (true && decide ((List.length (S82_2.h0 s) + List.length [GWindow.mk (S82_2.x9 s) (List.getD (S82_2.x10 s) (Int.toNat (S82_2.x11 s)) (0 : Int)) (List.getD (S82_2.x10 s) (Int.toNat (IntKind.wrap IntKind.i64 (S82_2.x11 s + (1 : Int)))) (0 : Int))]) * (24 : Nat) ≤ (140737488355328 : Nat)))
             (some (Sum.inl (S82_2.mk (S82_2.x0 s) (S82_2.x1 s) (S82_2.x2 s) (S82_2.x7 s) (S82_2.x9 s) (S82_2.x10 s) (IntKind.wrap IntKind.i64 (S82_2.x11 s + (1 : Int))) (S82_2.h0 s ++ [GWindow.mk (S82_2.x9 s) (List.getD (S82_2.x10 s) (Int.toNat (S82_2.x11 s)) (0 : Int)) (List.getD (S82_2.x10 s) (Int.toNat (IntKind.wrap IntKind.i64 (S82_2.x11 s + (1 : Int)))) (0 : Int))]))))
             (none))
            (none))
           (none))))
        (br (!S82_2.x2 s)
         (br r1500
          (br (!!r1499)
           (some (Sum.inl (S82_2.mk (S82_2.x0 s) (S82_2.x1 s) (S82_2.x2 s) (S82_2.x7 s) (S82_2.x9 s) (S82_2.x10 s) (IntKind.wrap IntKind.i64 (S82_2.x11 s + (1 : Int))) (S82_2.h0 s))))
           (br (decide ((↑(List.length (S82_2.h0 s)) : Int) > (0 : Int)))
            (br (decide ((0 : Int) ≤ IntKind.wrap IntKind.i64 ((↑(List.length (S82_2.h0 s)) : Int) - (1 : Int)) ∧ IntKind.wrap IntKind.i64 ((↑(List.length (S82_2.h0 s)) : Int) - (1 : Int)) < (↑(List.length (S82_2.h0 s)) : Int)))
             (br (decide (Int.toNat (IntKind.wrap IntKind.i64 ((↑(List.length (S82_2.h0 s)) : Int) - (1 : Int))) < List.length (S82_2.h0 s)))
              (br (GWindow.bed (List.getD (S82_2.h0 s) (Int.toNat (IntKind.wrap IntKind.i64 ((↑(List.length (S82_2.h0 s)) : Int) - (1 : Int)))) default) == S82_2.x9 s)
               (br (decide ((0 : Int) ≤ IntKind.wrap IntKind.i64 ((↑(List.length (S82_2.h0 s)) : Int) - (1 : Int)) ∧ IntKind.wrap IntKind.i64 ((↑(List.length (S82_2.h0 s)) : Int) - (1 : Int)) < (↑(List.length (S82_2.h0 s)) : Int)))
                (br (decide (Int.toNat (IntKind.wrap IntKind.i64 ((↑(List.length (S82_2.h0 s)) : Int) - (1 : Int))) < List.length (S82_2.h0 s)))
                 (br (decide ((0 : Int) ≤ S82_2.x11 s ∧ S82_2.x11 s < (↑(List.length (S82_2.x10 s)) : Int)))
                  (br (GWindow.to (List.getD (S82_2.h0 s) (Int.toNat (IntKind.wrap IntKind.i64 ((↑(List.length (S82_2.h0 s)) : Int) - (1 : Int)))) default) == List.getD (S82_2.x10 s) (Int.toNat (S82_2.x11 s)) (0 : Int))
                   (br (decide ((0 : Int) ≤ IntKind.wrap IntKind.i64 (S82_2.x11 s + (1 : Int)) ∧ IntKind.wrap IntKind.i64 (S82_2.x11 s + (1 : Int)) < (↑(List.length (S82_2.x10 s)) : Int)))
                    (br (decide ((0 : Int) ≤ IntKind.wrap IntKind.i64 ((↑(List.length (S82_2.h0 s)) : Int) - (1 : Int)) ∧ IntKind.wrap IntKind.i64 ((↑(List.length (S82_2.h0 s)) : Int) - (1 : Int)) < (↑(List.length (S82_2.h0 s)) : Int)))
                     (br (true && decide (Int.toNat (IntKind.wrap IntKind.i64 ((↑(List.length (S82_2.h0 s)) : Int) - (1 : Int))) < List.length (S82_2.h0 s)))
                      (some (Sum.inl (S82_2.mk (S82_2.x0 s) (S82_2.x1 s) (S82_2.x2 s) (S82_2.x7 s) (S82_2.x9 s) (S82_2.x10 s) (IntKind.wrap IntKind.i64 (S82_2.x11 s + (1 : Int))) (List.set (S82_2.h0 s) (Int.toNat (IntKind.wrap IntKind.i64 ((↑(List.length (S82_2.h0 s)) : Int) - (1 : Int)))) (GWindow.mk (GWindow.bed (List.getD (S82_2.h0 s) (Int.toNat (IntKind.wrap IntKind.i64 ((↑(List.length (S82_2.h0 s)) : Int) - (1 : Int)))) default)) (GWindow.src (List.getD (S82_2.h0 s) (Int.toNat (IntKind.wrap IntKind.i64 ((↑(List.length (S82_2.h0 s)) : Int) - (1 : Int)))) default)) (List.getD (S82_2.x10 s) (Int.toNat (IntKind.wrap IntKind.i64 (S82_2.x11 s + (1 : Int)))) (0 : Int)))))))
                      (none))
                     (none))
                    (none))
                   (br (decide ((0 : Int) ≤ S82_2.x11 s ∧ S82_2.x11 s < (↑(List.length (S82_2.x10 s)) : Int)))
                    (br (decide ((0 : Int) ≤ IntKind.wrap IntKind.i64 (S82_2.x11 s + (1 : Int)) ∧ IntKind.wrap IntKind.i64 (S82_2.x11 s + (1 : Int)) < (↑(List.length (S82_2.x10 s)) : Int)))
                     (br (true && decide ((List.length (S82_2.h0 s) + List.length [GWindow.mk (S82_2.x9 s) (List.getD (S82_2.x10 s) (Int.toNat (S82_2.x11 s)) (0 : Int)) (List.getD (S82_2.x10 s) (Int.toNat (IntKind.wrap IntKind.i64 (S82_2.x11 s + (1 : Int)))) (0 : Int))]) * (24 : Nat) ≤ (140737488355328 : Nat)))
                      (some (Sum.inl (S82_2.mk (S82_2.x0 s) (S82_2.x1 s) (S82_2.x2 s) (S82_2.x7 s) (S82_2.x9 s) (S82_2.x10 s) (IntKind.wrap IntKind.i64 (S82_2.x11 s + (1 : Int))) (S82_2.h0 s ++ [GWindow.mk (S82_2.x9 s) (List.getD (S82_2.x10 s) (Int.toNat (S82_2.x11 s)) (0 : Int)) (List.getD (S82_2.x10 s) (Int.toNat (IntKind.wrap IntKind.i64 (S82_2.x11 s + (1 : Int)))) (0 : Int))]))))
                      (none))
                     (none))
                    (none)))
                  (none))
                 (none))
                (none))
               (br (decide ((0 : Int) ≤ S82_2.x11 s ∧ S82_2.x11 s < (↑(List.length (S82_2.x10 s)) : Int)))
                (br (decide ((0 : Int) ≤ IntKind.wrap IntKind.i64 (S82_2.x11 s + (1 : Int)) ∧ IntKind.wrap IntKind.i64 (S82_2.x11 s + (1 : Int)) < (↑(List.length (S82_2.x10 s)) : Int)))
                 (br (true && decide ((List.length (S82_2.h0 s) + List.length [GWindow.mk (S82_2.x9 s) (List.getD (S82_2.x10 s) (Int.toNat (S82_2.x11 s)) (0 : Int)) (List.getD (S82_2.x10 s) (Int.toNat (IntKind.wrap IntKind.i64 (S82_2.x11 s + (1 : Int)))) (0 : Int))]) * (24 : Nat) ≤ (140737488355328 : Nat)))
                  (some (Sum.inl (S82_2.mk (S82_2.x0 s) (S82_2.x1 s) (S82_2.x2 s) (S82_2.x7 s) (S82_2.x9 s) (S82_2.x10 s) (IntKind.wrap IntKind.i64 (S82_2.x11 s + (1 : Int))) (S82_2.h0 s ++ [GWindow.mk (S82_2.x9 s) (List.getD (S82_2.x10 s) (Int.toNat (S82_2.x11 s)) (0 : Int)) (List.getD (S82_2.x10 s) (Int.toNat (IntKind.wrap IntKind.i64 (S82_2.x11 s + (1 : Int)))) (0 : Int))]))))
                  (none))
                 (none))
                (none)))
              (none))
             (none))
            (br (decide ((0 : Int) ≤ S82_2.x11 s ∧ S82_2.x11 s < (↑(List.length (S82_2.x10 s)) : Int)))
             (br (decide ((0 : Int) ≤ IntKind.wrap IntKind.i64 (S82_2.x11 s + (1 : Int)) ∧ IntKind.wrap IntKind.i64 (S82_2.x11 s + (1 : Int)) < (↑(List.length (S82_2.x10 s)) : Int)))
              (br (true && decide ((List.length (S82_2.h0 s) + List.length [GWindow.mk (S82_2.x9 s) (List.getD (S82_2.x10 s) (Int.toNat (S82_2.x11 s)) (0 : Int)) (List.getD (S82_2.x10 s) (Int.toNat (IntKind.wrap IntKind.i64 (S82_2.x11 s + (1 : Int)))) (0 : Int))]) * (24 : Nat) ≤ (140737488355328 : Nat)))
               (some (Sum.inl (S82_2.mk (S82_2.x0 s) (S82_2.x1 s) (S82_2.x2 s) (S82_2.x7 s) (S82_2.x9 s) (S82_2.x10 s) (IntKind.wrap IntKind.i64 (S82_2.x11 s + (1 : Int))) (S82_2.h0 s ++ [GWindow.mk (S82_2.x9 s) (List.getD (S82_2.x10 s) (Int.toNat (S82_2.x11 s)) (0 : Int)) (List.getD (S82_2.x10 s) (Int.toNat (IntKind.wrap IntKind.i64 (S82_2.x11 s + (1 : Int)))) (0 : Int))]))))
               (none))
              (none))
             (none))))
          (some (Sum.inl (S82_2.mk (S82_2.x0 s) (S82_2.x1 s) (S82_2.x2 s) (S82_2.x7 s) (S82_2.x9 s) (S82_2.x10 s) (IntKind.wrap IntKind.i64 (S82_2.x11 s + (1 : Int))) (S82_2.h0 s)))))
         (br (!r1499)
          (some (Sum.inl (S82_2.mk (S82_2.x0 s) (S82_2.x1 s) (S82_2.x2 s) (S82_2.x7 s) (S82_2.x9 s) (S82_2.x10 s) (IntKind.wrap IntKind.i64 (S82_2.x11 s + (1 : Int))) (S82_2.h0 s))))
          (br (decide ((↑(List.length (S82_2.h0 s)) : Int) > (0 : Int)))
           (br (decide ((0 : Int) ≤ IntKind.wrap IntKind.i64 ((↑(List.length (S82_2.h0 s)) : Int) - (1 : Int)) ∧ IntKind.wrap IntKind.i64 ((↑(List.length (S82_2.h0 s)) : Int) - (1 : Int)) < (↑(List.length (S82_2.h0 s)) : Int)))
            (br (decide (Int.toNat (IntKind.wrap IntKind.i64 ((↑(List.length (S82_2.h0 s)) : Int) - (1 : Int))) < List.length (S82_2.h0 s)))
             (br (GWindow.bed (List.getD (S82_2.h0 s) (Int.toNat (IntKind.wrap IntKind.i64 ((↑(List.length (S82_2.h0 s)) : Int) - (1 : Int)))) default) == S82_2.x9 s)
              (br (decide ((0 : Int) ≤ IntKind.wrap IntKind.i64 ((↑(List.length (S82_2.h0 s)) : Int) - (1 : Int)) ∧ IntKind.wrap IntKind.i64 ((↑(List.length (S82_2.h0 s)) : Int) - (1 : Int)) < (↑(List.length (S82_2.h0 s)) : Int)))
               (br (decide (Int.toNat (IntKind.wrap IntKind.i64 ((↑(List.length (S82_2.h0 s)) : Int) - (1 : Int))) < List.length (S82_2.h0 s)))
                (br (decide ((0 : Int) ≤ S82_2.x11 s ∧ S82_2.x11 s < (↑(List.length (S82_2.x10 s)) : Int)))
                 (br (GWindow.to (List.getD (S82_2.h0 s) (Int.toNat (IntKind.wrap IntKind.i64 ((↑(List.length (S82_2.h0 s)) : Int) - (1 : Int)))) default) == List.getD (S82_2.x10 s) (Int.toNat (S82_2.x11 s)) (0 : Int))
                  (br (decide ((0 : Int) ≤ IntKind.wrap IntKind.i64 (S82_2.x11 s + (1 : Int)) ∧ IntKind.wrap IntKind.i64 (S82_2.x11 s + (1 : Int)) < (↑(List.length (S82_2.x10 s)) : Int)))
                   (br (decide ((0 : Int) ≤ IntKind.wrap IntKind.i64 ((↑(List.length (S82_2.h0 s)) : Int) - (1 : Int)) ∧ IntKind.wrap IntKind.i64 ((↑(List.length (S82_2.h0 s)) : Int) - (1 : Int)) < (↑(List.length (S82_2.h0 s)) : Int)))
                    (br (true && decide (Int.toNat (IntKind.wrap IntKind.i64 ((↑(List.length (S82_2.h0 s)) : Int) - (1 : Int))) < List.length (S82_2.h0 s)))
                     (some (Sum.inl (S82_2.mk (S82_2.x0 s) (S82_2.x1 s) (S82_2.x2 s) (S82_2.x7 s) (S82_2.x9 s) (S82_2.x10 s) (IntKind.wrap IntKind.i64 (S82_2.x11 s + (1 : Int))) (List.set (S82_2.h0 s) (Int.toNat (IntKind.wrap IntKind.i64 ((↑(List.length (S82_2.h0 s)) : Int) - (1 : Int)))) (GWindow.mk (GWindow.bed (List.getD (S82_2.h0 s) (Int.toNat (IntKind.wrap IntKind.i64 ((↑(List.length (S82_2.h0 s)) : Int) - (1 : Int)))) default)) (GWindow.src (List.getD (S82_2.h0 s) (Int.toNat (IntKind.wrap IntKind.i64 ((↑(List.length (S82_2.h0 s)) : Int) - (1 : Int)))) default)) (List.getD (S82_2.x10 s) (Int.toNat (IntKind.wrap IntKind.i64 (S82_2.x11 s + (1 : Int)))) (0 : Int)))))))
                     (none))
                    (none))
                   (none))
                  (br (decide ((0 : Int) ≤ S82_2.x11 s ∧ S82_2.x11 s < (↑(List.length (S82_2.x10 s)) : Int)))
                   (br (decide ((0 : Int) ≤ IntKind.wrap IntKind.i64 (S82_2.x11 s + (1 : Int)) ∧ IntKind.wrap IntKind.i64 (S82_2.x11 s + (1 : Int)) < (↑(List.length (S82_2.x10 s)) : Int)))
                    (br (true && decide ((List.length (S82_2.h0 s) + List.length [GWindow.mk (S82_2.x9 s) (List.getD (S82_2.x10 s) (Int.toNat (S82_2.x11 s)) (0 : Int)) (List.getD (S82_2.x10 s) (Int.toNat (IntKind.wrap IntKind.i64 (S82_2.x11 s + (1 : Int)))) (0 : Int))]) * (24 : Nat) ≤ (140737488355328 : Nat)))
                     (some (Sum.inl (S82_2.mk (S82_2.x0 s) (S82_2.x1 s) (S82_2.x2 s) (S82_2.x7 s) (S82_2.x9 s) (S82_2.x10 s) (IntKind.wrap IntKind.i64 (S82_2.x11 s + (1 : Int))) (S82_2.h0 s ++ [GWindow.mk (S82_2.x9 s) (List.getD (S82_2.x10 s) (Int.toNat (S82_2.x11 s)) (0 : Int)) (List.getD (S82_2.x10 s) (Int.toNat (IntKind.wrap IntKind.i64 (S82_2.x11 s + (1 : Int)))) (0 : Int))]))))
                     (none))
                    (none))
                   (none)))
                 (none))
                (none))
               (none))
              (br (decide ((0 : Int) ≤ S82_2.x11 s ∧ S82_2.x11 s < (↑(List.length (S82_2.x10 s)) : Int)))
               (br (decide ((0 : Int) ≤ IntKind.wrap IntKind.i64 (S82_2.x11 s + (1 : Int)) ∧ IntKind.wrap IntKind.i64 (S82_2.x11 s + (1 : Int)) < (↑(List.length (S82_2.x10 s)) : Int)))
                (br (true && decide ((List.length (S82_2.h0 s) + List.length [GWindow.mk (S82_2.x9 s) (List.getD (S82_2.x10 s) (Int.toNat (S82_2.x11 s)) (0 : Int)) (List.getD (S82_2.x10 s) (Int.toNat (IntKind.wrap IntKind.i64 (S82_2.x11 s + (1 : Int)))) (0 : Int))]) * (24 : Nat) ≤ (140737488355328 : Nat)))
                 (some (Sum.inl (S82_2.mk (S82_2.x0 s) (S82_2.x1 s) (S82_2.x2 s) (S82_2.x7 s) (S82_2.x9 s) (S82_2.x10 s) (IntKind.wrap IntKind.i64 (S82_2.x11 s + (1 : Int))) (S82_2.h0 s ++ [GWindow.mk (S82_2.x9 s) (List.getD (S82_2.x10 s) (Int.toNat (S82_2.x11 s)) (0 : Int)) (List.getD (S82_2.x10 s) (Int.toNat (IntKind.wrap IntKind.i64 (S82_2.x11 s + (1 : Int)))) (0 : Int))]))))
                 (none))
                (none))
               (none)))
             (none))
            (none))
           (br (decide ((0 : Int) ≤ S82_2.x11 s ∧ S82_2.x11 s < (↑(List.length (S82_2.x10 s)) : Int)))
            (br (decide ((0 : Int) ≤ IntKind.wrap IntKind.i64 (S82_2.x11 s + (1 : Int)) ∧ IntKind.wrap IntKind.i64 (S82_2.x11 s + (1 : Int)) < (↑(List.length (S82_2.x10 s)) : Int)))
             (br (true && decide ((List.length (S82_2.h0 s) + List.length [GWindow.mk (S82_2.x9 s) (List.getD (S82_2.x10 s) (Int.toNat (S82_2.x11 s)) (0 : Int)) (List.getD (S82_2.x10 s) (Int.toNat (IntKind.wrap IntKind.i64 (S82_2.x11 s + (1 : Int)))) (0 : Int))]) * (24 : Nat) ≤ (140737488355328 : Nat)))
              (some (Sum.inl (S82_2.mk (S82_2.x0 s) (S82_2.x1 s) (S82_2.x2 s) (S82_2.x7 s) (S82_2.x9 s) (S82_2.x10 s) (IntKind.wrap IntKind.i64 (S82_2.x11 s + (1 : Int))) (S82_2.h0 s ++ [GWindow.mk (S82_2.x9 s) (List.getD (S82_2.x10 s) (Int.toNat (S82_2.x11 s)) (0 : Int)) (List.getD (S82_2.x10 s) (Int.toNat (IntKind.wrap IntKind.i64 (S82_2.x11 s + (1 : Int)))) (0 : Int))]))))
              (none))
             (none))
            (none))))))
      (none))
    (none))
   (some (Sum.inr (E82_2.mk (S82_2.x0 s) (S82_2.x1 s) (S82_2.x2 s) (S82_2.x7 s) (S82_2.x9 s) (S82_2.h0 s))))
theorem pS82_2_run (k : Nat) (s : S82_2) : evC (S82_2 ⊕ E82_2) Try.prog (ntmpsAt Try.prog 82) (cf36 k) ((Lm36 k) 82) 200 (loopAt Try.prog 82 2) (zipE [(0, .rd 32), (1, .rd 32), (2, .any), (7, .rd 32), (8, .own 32), (9, .any), (10, .rd 3), (11, .any)] (VS82_2 s)) (HS82_2 s) (List.length (HS82_2 s)) (cutS plan 0 tS82_2 (rndT dS82_2 dE82_2)) = pS82_2 k s := by kernel_rfl
def l82_2 (k : Nat) (s : S82_2) : Option E82_2 := iterT (pS82_2 k) k s
def m82_2 (k : Nat) : LamS := lamT 2 dS82_2 (l82_2 k) (elAll _) tS82_2 xE82_2 VE82_2 HE82_2
theorem loop82_2 : isLoopAt Try.prog 82 2 = true := by kernel_rfl
theorem m82_2_ok (k : Nat) : LamSOk Try.prog (ntmpsAt Try.prog 82) 0 (.block 2 (.loop (loopAt Try.prog 82 2))) [(0, .rd 32), (1, .rd 32), (2, .any), (7, .rd 32), (8, .own 32), (9, .any), (10, .rd 3), (11, .any)] (m82_2 k) := lamT_ok (plan := plan) (kb := 0) (body_run noNum mixed (cf36_ok k) (Lm36_ok k) loop82_2) rfl dS82_2_ok dE82_2_ok (hel := elAll_ok) (pS82_2_run k) k
def Dl37 (k : Nat) : Delta := Dl36 k
def Lm37 (k : Nat) : FuncId → Nat → Option LamF := lCons 82 2 (lamBy plan [29, 30, 31, 32, 33, 36, 37, 38, 39, 40, 41, 42, 12, 43, 44, 45, 46, 47, 48, 49, 13, 50, 51, 52, 53, 14, 54, 55, 56, 57, 58, 59, 60, 14, 61, 62, 63, 64, 15, 65, 66, 67, 68, 69, 70, 71, 72, 73, 74, 75, 76, 77, 78, 79, 80, 81, 82, 83, 84, 85, 86, 87, 88, 89, 90, 91, 92, 93, 94, 95, 96, 97, 98, 99, 100, 101, 102, 103, 104, 105, 106, 107, 108, 109, 110, 111, 112, 113, 8, 34, 35, 11] [(0, .rd 32), (1, .rd 32), (2, .any), (7, .rd 32), (8, .own 32), (9, .any), (10, .rd 3), (11, .any)] 0 (m82_2 k)) (Lm36 k)
theorem Dl37_ok (k : Nat) : DeltaOk Try.prog (Dl37 k) := Dl36_ok k
theorem Lm37_ok (k : Nat) : LamsOk Try.prog (Lm37 k) := lCons_ok (Lm36_ok k) loop82_2 (lamBy_ok (m82_2_ok k) (by kernel_rfl))
abbrev cf37 (k : Nat) : CallF := evF Try.prog (Dl37 k) (Lm37 k) 200 12
theorem cf37_ok (k : Nat) : CfOk Try.prog (cf37 k) := evF_ok noNum mixed (Dl37_ok k) (Lm37_ok k) 12
structure E82_0 where
  mk ::
  h0 : List GWindow
def VE82_0 (s : E82_0) : List AV := [.slf 0]
def HE82_0 (s : E82_0) : Heap := [(0, some (.row 32 s.h0))]
def dE82_0 (x : AExit) (vs : List AV) (H : Heap) : Option E82_0 := match x, vs, H with
  | .exit 0, [.slf 0], [(0, bh0)] => (match (rowD 32 bh0 : Option (List GWindow)) with | some h0 => some (⟨h0⟩ : E82_0) | none => none)
  | _, _, _ => none
theorem dE82_0_ok (x : AExit) (vs : List AV) (H : Heap) (s : E82_0) (h : dE82_0 x vs H = some s) : x = .exit 0 ∧ vs = VE82_0 s ∧ H = HE82_0 s := by
  unfold dE82_0 at h
  split at h
  · skip
    split at h
    · rename_i q
      have q := rowD_ok q
      subst q
      cases h; exact ⟨rfl, rfl, rfl⟩
    · cases h
  · cases h
def xE82_0 (_ : E82_0) : AExit := .exit 0
def pS82_0 (k : Nat) (s : S82_0) : Option (S82_0 ⊕ E82_0) :=
  br (decide (S82_0.x9 s ≤ (99 : Int)))
   (bindO (f115 k (S82_0.x7 s) (S82_0.x9 s)) fun r1500 =>
    bindO (l82_2 k (S82_2.mk (S82_0.x0 s) (S82_0.x1 s) (S82_0.x2 s) (S82_0.x7 s) (S82_0.x9 s) r1500 (0 : Int) (S82_0.h0 s))) fun r1499 =>
     some (Sum.inl (S82_0.mk (E82_2.x0 r1499) (E82_2.x1 r1499) (E82_2.x2 r1499) (E82_2.x7 r1499) (IntKind.wrap IntKind.i64 (E82_2.x9 r1499 + (1 : Int))) (E82_2.h0 r1499))))
   (some (Sum.inr (E82_0.mk (S82_0.h0 s))))
theorem pS82_0_run (k : Nat) (s : S82_0) : evC (S82_0 ⊕ E82_0) Try.prog (ntmpsAt Try.prog 82) (cf37 k) ((Lm37 k) 82) 200 (loopAt Try.prog 82 0) (zipE [(0, .rd 32), (1, .rd 32), (2, .any), (7, .ro 32), (8, .own 32), (9, .any)] (VS82_0 s)) (HS82_0 s) (List.length (HS82_0 s)) (cutS plan 0 tS82_0 (rndT dS82_0 dE82_0)) = pS82_0 k s := by kernel_rfl
def l82_0 (k : Nat) (s : S82_0) : Option E82_0 := iterT (pS82_0 k) k s
def m82_0 (k : Nat) : LamS := lamT 0 dS82_0 (l82_0 k) (elAll _) tS82_0 xE82_0 VE82_0 HE82_0
theorem loop82_0 : isLoopAt Try.prog 82 0 = true := by kernel_rfl
theorem m82_0_ok (k : Nat) : LamSOk Try.prog (ntmpsAt Try.prog 82) 0 (.block 0 (.loop (loopAt Try.prog 82 0))) [(0, .rd 32), (1, .rd 32), (2, .any), (7, .ro 32), (8, .own 32), (9, .any)] (m82_0 k) := lamT_ok (plan := plan) (kb := 0) (body_run noNum mixed (cf37_ok k) (Lm37_ok k) loop82_0) rfl dS82_0_ok dE82_0_ok (hel := elAll_ok) (pS82_0_run k) k
def Dl38 (k : Nat) : Delta := Dl37 k
def Lm38 (k : Nat) : FuncId → Nat → Option LamF := lCons 82 0 (lamBy plan [22, 23, 26, 27, 28, 10, 11, 29, 30, 31, 32, 33, 36, 37, 38, 39, 40, 41, 42, 12, 43, 44, 45, 46, 47, 48, 49, 13, 50, 51, 52, 53, 14, 54, 55, 56, 57, 58, 59, 60, 14, 61, 62, 63, 64, 15, 65, 66, 67, 68, 69, 70, 71, 72, 73, 74, 75, 76, 77, 78, 79, 80, 81, 82, 83, 84, 85, 86, 87, 88, 89, 90, 91, 92, 93, 94, 95, 96, 97, 98, 99, 100, 101, 102, 103, 104, 105, 106, 107, 108, 109, 110, 111, 112, 113, 8, 34, 35, 11, 24, 25, 9] [(0, .rd 32), (1, .rd 32), (2, .any), (7, .ro 32), (8, .own 32), (9, .any)] 0 (m82_0 k)) (Lm37 k)
theorem Dl38_ok (k : Nat) : DeltaOk Try.prog (Dl38 k) := Dl37_ok k
theorem Lm38_ok (k : Nat) : LamsOk Try.prog (Lm38 k) := lCons_ok (Lm37_ok k) loop82_0 (lamBy_ok (m82_0_ok k) (by kernel_rfl))
abbrev cf38 (k : Nat) : CallF := evF Try.prog (Dl38 k) (Lm38 k) 200 12
theorem cf38_ok (k : Nat) : CfOk Try.prog (cf38 k) := evF_ok noNum mixed (Dl38_ok k) (Lm38_ok k) 12
def f82 (k : Nat) (x0 : List GWindow) (x1 : List GWindow) (x2 : Bool) : Option R82 :=
  br (true && decide (List.length x0 * (24 : Nat) ≤ (140737488355328 : Nat)))
   (br (true && decide ((List.length x0 + List.length x1) * (24 : Nat) ≤ (140737488355328 : Nat)))
    (bindO (l82_0 k (S82_0.mk x0 x1 x2 (x0 ++ x1) (1 : Int) [])) fun r3000 =>
     some (E82_0.h0 r3000))
    (none))
   (none)
theorem f82_run (k : Nat) (x0 : List GWindow) (x1 : List GWindow) (x2 : Bool) : cf38 k R82 82 (A82 (x0, x1, x2)) [] 0 (endR planR (.ro 32) [] 0 r82) = f82 k x0 x1 x2 := by kernel_rfl
def g82 (k : Nat) : CallS := entT d82 (fun p => f82 k p.1 p.2.1 p.2.2) (elAll _) (fun _ => o82) (fun _ => u82) (fun _ => n82)
theorem g82_ok (k : Nat) : CallSOk Try.prog 82 (g82 k) := entry_ok (Hp := fun _ => []) (oR := fun _ => o82) (uR := fun _ => u82) (nR := fun _ => n82) (cf38_ok k) d82_ok r82_ok (hel := elAll_ok) (fun p => f82_run k p.1 p.2.1 p.2.2)
def Dl39 (k : Nat) : Delta := dCons 82 (callAt plan [.rd 32, .rd 32, .any] (g82 k)) (Dl38 k)
def Lm39 (k : Nat) : FuncId → Nat → Option LamF := Lm38 k
theorem Dl39_ok (k : Nat) : DeltaOk Try.prog (Dl39 k) := dCons_ok (Dl38_ok k) (g82_ok k)
theorem Lm39_ok (k : Nat) : LamsOk Try.prog (Lm39 k) := Lm38_ok k
abbrev cf39 (k : Nat) : CallF := evF Try.prog (Dl39 k) (Lm39 k) 200 12
theorem cf39_ok (k : Nat) : CfOk Try.prog (cf39 k) := evF_ok noNum mixed (Dl39_ok k) (Lm39_ok k) 12
abbrev P41 := List GWindow × List GWindow × Bool
def A41 (p : P41) : List AV := [.dsl 32 p.1, .dsl 32 p.2.1, .bool p.2.2]
def d41 (a : List AV) (H : Heap) : Option P41 := match a, H with
  | [ba0, ba1, .bool a2], [] => (match (dslD 32 ba0 : Option (List GWindow)) with | some a0 => (match (dslD 32 ba1 : Option (List GWindow)) with | some a1 => some (a0, a1, a2) | none => none) | none => none)
  | _, _ => none
theorem d41_ok (a : List AV) (H : Heap) (p : P41) (h : d41 a H = some p) : a = A41 p ∧ H = [] := by
  unfold d41 at h
  split at h
  · skip
    split at h
    · rename_i q
      have q := dslD_ok q
      subst q
      split at h
      · rename_i q
        have q := dslD_ok q
        subst q
        cases h; exact ⟨rfl, rfl⟩
      · cases h
    · cases h
  · cases h
abbrev R41 := List GWindow × Int
def o41 (r : R41) : AEnd := .ret (.tup [.dsl 32 r.1, .int .i64 r.2])
def u41 (r : R41) : Heap := []
def n41 (_ : R41) : Nat := 0
def r41 (o : AEnd) (u : Heap) (n : Nat) : Option R41 := match o, u, n with
  | .ret (.tup [ba0, .int .i64 a1]), [], 0 => (match (dslD 32 ba0 : Option (List GWindow)) with | some a0 => some (a0, a1) | none => none)
  | _, _, _ => none
theorem r41_ok (p : P41) (o : AEnd) (u : Heap) (n : Nat) (r : R41) (h : r41 o u n = some r) : o = o41 r ∧ u = u41 r ∧ n = n41 r := by
  unfold r41 at h
  split at h
  · skip
    split at h
    · rename_i q
      have q := dslD_ok q
      subst q
      cases h; exact ⟨rfl, rfl, rfl⟩
    · cases h
  · cases h
structure S41_0 where
  mk ::
  x0 : List GWindow
  x1 : List GWindow
  x2 : Bool
  x8 : Int
def VS41_0 (s : S41_0) : List AV := [.dsl 32 s.x0, .dsl 32 s.x1, .bool s.x2, .int .i64 s.x8]
def HS41_0 (s : S41_0) : Heap := []
def dS41_0 (vs : List AV) (H : Heap) : Option S41_0 := match vs, H with
  | [bx0, bx1, .bool x2, .int .i64 x8], [] => (match (dslD 32 bx0 : Option (List GWindow)) with | some x0 => (match (dslD 32 bx1 : Option (List GWindow)) with | some x1 => some (⟨x0, x1, x2, x8⟩ : S41_0) | none => none) | none => none)
  | _, _ => none
theorem dS41_0_ok (vs : List AV) (H : Heap) (s : S41_0) (h : dS41_0 vs H = some s) : vs = VS41_0 s ∧ H = HS41_0 s := by
  unfold dS41_0 at h
  split at h
  · skip
    split at h
    · rename_i q
      have q := dslD_ok q
      subst q
      split at h
      · rename_i q
        have q := dslD_ok q
        subst q
        cases h; exact ⟨rfl, rfl⟩
      · cases h
    · cases h
  · cases h
def tS41_0 : AExit → List (Nat × Kd) := fun x => match x with
  | .normal => [(0, .rd 32), (1, .rd 32), (2, .any), (8, .any)]
  | .exit i => (match i with | 0 => [(0, .rd 32), (1, .rd 32), (2, .any)] | _ => [])
  | .ret => [(6, .rd 32), (7, .any)]
  | _ => []
structure E41_0 where
  mk ::
  x6 : List GWindow
  x7 : Int
def VE41_0 (s : E41_0) : List AV := [.dsl 32 s.x6, .int .i64 s.x7]
def HE41_0 (s : E41_0) : Heap := []
def dE41_0 (x : AExit) (vs : List AV) (H : Heap) : Option E41_0 := match x, vs, H with
  | .ret, [bx6, .int .i64 x7], [] => (match (dslD 32 bx6 : Option (List GWindow)) with | some x6 => some (⟨x6, x7⟩ : E41_0) | none => none)
  | _, _, _ => none
theorem dE41_0_ok (x : AExit) (vs : List AV) (H : Heap) (s : E41_0) (h : dE41_0 x vs H = some s) : x = .ret ∧ vs = VE41_0 s ∧ H = HE41_0 s := by
  unfold dE41_0 at h
  split at h
  · skip
    split at h
    · rename_i q
      have q := dslD_ok q
      subst q
      cases h; exact ⟨rfl, rfl, rfl⟩
    · cases h
  · cases h
structure E41_0b where
  mk ::
  x0 : List GWindow
  x1 : List GWindow
  x2 : Bool
def VE41_0b (s : E41_0b) : List AV := [.dsl 32 s.x0, .dsl 32 s.x1, .bool s.x2]
def HE41_0b (s : E41_0b) : Heap := []
def dE41_0b (x : AExit) (vs : List AV) (H : Heap) : Option E41_0b := match x, vs, H with
  | .exit 0, [bx0, bx1, .bool x2], [] => (match (dslD 32 bx0 : Option (List GWindow)) with | some x0 => (match (dslD 32 bx1 : Option (List GWindow)) with | some x1 => some (⟨x0, x1, x2⟩ : E41_0b) | none => none) | none => none)
  | _, _, _ => none
theorem dE41_0b_ok (x : AExit) (vs : List AV) (H : Heap) (s : E41_0b) (h : dE41_0b x vs H = some s) : x = .exit 0 ∧ vs = VE41_0b s ∧ H = HE41_0b s := by
  unfold dE41_0b at h
  split at h
  · skip
    split at h
    · rename_i q
      have q := dslD_ok q
      subst q
      split at h
      · rename_i q
        have q := dslD_ok q
        subst q
        cases h; exact ⟨rfl, rfl, rfl⟩
      · cases h
    · cases h
  · cases h
abbrev EE41_0 := E41_0 ⊕ E41_0b
def xEE41_0 (e : EE41_0) : AExit := match e with | .inl _ => .ret | .inr _ => .exit 0
def VEE41_0 (e : EE41_0) : List AV := match e with | .inl s => VE41_0 s | .inr s => VE41_0b s
def HEE41_0 (e : EE41_0) : Heap := match e with | .inl s => HE41_0 s | .inr s => HE41_0b s
def dEE41_0 (x : AExit) (vs : List AV) (H : Heap) : Option EE41_0 := match dE41_0 x vs H with | some s => some (.inl s) | none => (match dE41_0b x vs H with | some s => some (.inr s) | none => none)
theorem dEE41_0_ok (x : AExit) (vs : List AV) (H : Heap) (s : EE41_0) (h : dEE41_0 x vs H = some s) : x = xEE41_0 s ∧ vs = VEE41_0 s ∧ H = HEE41_0 s := by
  unfold dEE41_0 at h
  split at h
  · rename_i q; cases h; exact dE41_0_ok _ _ _ _ q
  · split at h
    · rename_i q; cases h; exact dE41_0b_ok _ _ _ _ q
    · cases h
def pS41_0 (k : Nat) (s : S41_0) : Option (S41_0 ⊕ EE41_0) :=
  br (decide (S41_0.x8 s < (↑(List.length (S41_0.x1 s)) : Int)))
   (br (decide ((0 : Int) ≤ S41_0.x8 s ∧ S41_0.x8 s < (↑(List.length (S41_0.x1 s)) : Int)))
    (bindO (f45 k (List.getD (S41_0.x1 s) (Int.toNat (S41_0.x8 s)) default)) fun r1500 =>
     br (!r1500)
      (some (Sum.inr (Sum.inl (E41_0.mk [] (1 : Int)))))
      (some (Sum.inl (S41_0.mk (S41_0.x0 s) (S41_0.x1 s) (S41_0.x2 s) (IntKind.wrap IntKind.i64 (S41_0.x8 s + (1 : Int)))))))
    (none))
   (some (Sum.inr (Sum.inr (E41_0b.mk (S41_0.x0 s) (S41_0.x1 s) (S41_0.x2 s)))))
theorem pS41_0_run (k : Nat) (s : S41_0) : evC (S41_0 ⊕ EE41_0) Try.prog (ntmpsAt Try.prog 41) (cf39 k) ((Lm39 k) 41) 200 (loopAt Try.prog 41 0) (zipE [(0, .rd 32), (1, .rd 32), (2, .any), (8, .any)] (VS41_0 s)) (HS41_0 s) (List.length (HS41_0 s)) (cutS plan 0 tS41_0 (rndT dS41_0 dEE41_0)) = pS41_0 k s := by kernel_rfl
def l41_0 (k : Nat) (s : S41_0) : Option EE41_0 := iterT (pS41_0 k) k s
def m41_0 (k : Nat) : LamS := lamT 0 dS41_0 (l41_0 k) (elSum (elAll _) (elAll _)) tS41_0 xEE41_0 VEE41_0 HEE41_0
theorem loop41_0 : isLoopAt Try.prog 41 0 = true := by kernel_rfl
theorem m41_0_ok (k : Nat) : LamSOk Try.prog (ntmpsAt Try.prog 41) 0 (.block 0 (.loop (loopAt Try.prog 41 0))) [(0, .rd 32), (1, .rd 32), (2, .any), (8, .any)] (m41_0 k) := lamT_ok (plan := plan) (kb := 0) (body_run noNum mixed (cf39_ok k) (Lm39_ok k) loop41_0) rfl dS41_0_ok dEE41_0_ok (hel := (elSum_ok elAll_ok elAll_ok)) (pS41_0_run k) k
def Dl40 (k : Nat) : Delta := Dl39 k
def Lm40 (k : Nat) : FuncId → Nat → Option LamF := lCons 41 0 (lamBy plan [13, 14, 15, 16, 19, 20, 21, 22, 23, 24, 6, 7, 17, 18, 8] [(0, .rd 32), (1, .rd 32), (2, .any), (8, .any)] 0 (m41_0 k)) (Lm39 k)
theorem Dl40_ok (k : Nat) : DeltaOk Try.prog (Dl40 k) := Dl39_ok k
theorem Lm40_ok (k : Nat) : LamsOk Try.prog (Lm40 k) := lCons_ok (Lm39_ok k) loop41_0 (lamBy_ok (m41_0_ok k) (by kernel_rfl))
abbrev cf40 (k : Nat) : CallF := evF Try.prog (Dl40 k) (Lm40 k) 200 12
theorem cf40_ok (k : Nat) : CfOk Try.prog (cf40 k) := evF_ok noNum mixed (Dl40_ok k) (Lm40_ok k) 12
def f41 (k : Nat) (x0 : List GWindow) (x1 : List GWindow) (x2 : Bool) : Option R41 :=
  bindO (f21 k x0) fun r3000 =>
   br (!r3000)
    (some ([], (1 : Int)))
    (bindO (l41_0 k (S41_0.mk x0 x1 x2 (0 : Int))) fun r2998 =>
     match r2998 with
     | .inl c2997 => some (E41_0.x6 c2997, E41_0.x7 c2997)
     | .inr c2997 => bindO (f82 k (E41_0b.x0 c2997) (E41_0b.x1 c2997) (E41_0b.x2 c2997)) fun r2995 =>
       br (decide ((↑(List.length r2995) : Int) > (100 : Int)))
        (some ([], (81 : Int)))
        (some (r2995, (0 : Int))))
theorem f41_run (k : Nat) (x0 : List GWindow) (x1 : List GWindow) (x2 : Bool) : cf40 k R41 41 (A41 (x0, x1, x2)) [] 0 (endR planR (.agg [.ro 32, .any]) [] 0 r41) = f41 k x0 x1 x2 := by kernel_rfl
def g41 (k : Nat) : CallS := entT d41 (fun p => f41 k p.1 p.2.1 p.2.2) (elAll _) (fun _ => o41) (fun _ => u41) (fun _ => n41)
theorem g41_ok (k : Nat) : CallSOk Try.prog 41 (g41 k) := entry_ok (Hp := fun _ => []) (oR := fun _ => o41) (uR := fun _ => u41) (nR := fun _ => n41) (cf40_ok k) d41_ok r41_ok (hel := elAll_ok) (fun p => f41_run k p.1 p.2.1 p.2.2)
def Dl41 (k : Nat) : Delta := dCons 41 (callAt plan [.rd 32, .rd 32, .any] (g41 k)) (Dl40 k)
def Lm41 (k : Nat) : FuncId → Nat → Option LamF := Lm40 k
theorem Dl41_ok (k : Nat) : DeltaOk Try.prog (Dl41 k) := dCons_ok (Dl40_ok k) (g41_ok k)
theorem Lm41_ok (k : Nat) : LamsOk Try.prog (Lm41 k) := Lm40_ok k
abbrev cf41 (k : Nat) : CallF := evF Try.prog (Dl41 k) (Lm41 k) 200 12
theorem cf41_ok (k : Nat) : CfOk Try.prog (cf41 k) := evF_ok noNum mixed (Dl41_ok k) (Lm41_ok k) 12
abbrev P13 := List GWindow × List GWindow
def A13 (p : P13) : List AV := [.dsl 32 p.1, .dsl 32 p.2]
def d13 (a : List AV) (H : Heap) : Option P13 := match a, H with
  | [ba0, ba1], [] => (match (dslD 32 ba0 : Option (List GWindow)) with | some a0 => (match (dslD 32 ba1 : Option (List GWindow)) with | some a1 => some (a0, a1) | none => none) | none => none)
  | _, _ => none
theorem d13_ok (a : List AV) (H : Heap) (p : P13) (h : d13 a H = some p) : a = A13 p ∧ H = [] := by
  unfold d13 at h
  split at h
  · skip
    split at h
    · rename_i q
      have q := dslD_ok q
      subst q
      split at h
      · rename_i q
        have q := dslD_ok q
        subst q
        cases h; exact ⟨rfl, rfl⟩
      · cases h
    · cases h
  · cases h
abbrev R13 := List GWindow × Int
def o13 (r : R13) : AEnd := .ret (.tup [.dsl 32 r.1, .int .i64 r.2])
def u13 (r : R13) : Heap := []
def n13 (_ : R13) : Nat := 0
def r13 (o : AEnd) (u : Heap) (n : Nat) : Option R13 := match o, u, n with
  | .ret (.tup [ba0, .int .i64 a1]), [], 0 => (match (dslD 32 ba0 : Option (List GWindow)) with | some a0 => some (a0, a1) | none => none)
  | _, _, _ => none
theorem r13_ok (p : P13) (o : AEnd) (u : Heap) (n : Nat) (r : R13) (h : r13 o u n = some r) : o = o13 r ∧ u = u13 r ∧ n = n13 r := by
  unfold r13 at h
  split at h
  · skip
    split at h
    · rename_i q
      have q := dslD_ok q
      subst q
      cases h; exact ⟨rfl, rfl, rfl⟩
    · cases h
  · cases h
def f13 (k : Nat) (x0 : List GWindow) (x1 : List GWindow) : Option R13 :=
  bindO (f41 k x0 x1 true) fun r3000 =>
   some r3000
theorem f13_run (k : Nat) (x0 : List GWindow) (x1 : List GWindow) : cf41 k R13 13 (A13 (x0, x1)) [] 0 (endR planR (.agg [.ro 32, .any]) [] 0 r13) = f13 k x0 x1 := by kernel_rfl
def g13 (k : Nat) : CallS := entT d13 (fun p => f13 k p.1 p.2) (elAll _) (fun _ => o13) (fun _ => u13) (fun _ => n13)
theorem g13_ok (k : Nat) : CallSOk Try.prog 13 (g13 k) := entry_ok (Hp := fun _ => []) (oR := fun _ => o13) (uR := fun _ => u13) (nR := fun _ => n13) (cf41_ok k) d13_ok r13_ok (hel := elAll_ok) (fun p => f13_run k p.1 p.2)
def Dl42 (k : Nat) : Delta := dCons 13 (callAt plan [.rd 32, .rd 32] (g13 k)) (Dl41 k)
def Lm42 (k : Nat) : FuncId → Nat → Option LamF := Lm41 k
theorem Dl42_ok (k : Nat) : DeltaOk Try.prog (Dl42 k) := dCons_ok (Dl41_ok k) (g13_ok k)
theorem Lm42_ok (k : Nat) : LamsOk Try.prog (Lm42 k) := Lm41_ok k
abbrev cf42 (k : Nat) : CallF := evF Try.prog (Dl42 k) (Lm42 k) 200 12
theorem cf42_ok (k : Nat) : CfOk Try.prog (cf42 k) := evF_ok noNum mixed (Dl42_ok k) (Lm42_ok k) 12
abbrev P15 := List GWindow × List GWindow
def A15 (p : P15) : List AV := [.dsl 32 p.1, .dsl 32 p.2]
def d15 (a : List AV) (H : Heap) : Option P15 := match a, H with
  | [ba0, ba1], [] => (match (dslD 32 ba0 : Option (List GWindow)) with | some a0 => (match (dslD 32 ba1 : Option (List GWindow)) with | some a1 => some (a0, a1) | none => none) | none => none)
  | _, _ => none
theorem d15_ok (a : List AV) (H : Heap) (p : P15) (h : d15 a H = some p) : a = A15 p ∧ H = [] := by
  unfold d15 at h
  split at h
  · skip
    split at h
    · rename_i q
      have q := dslD_ok q
      subst q
      split at h
      · rename_i q
        have q := dslD_ok q
        subst q
        cases h; exact ⟨rfl, rfl⟩
      · cases h
    · cases h
  · cases h
abbrev R15 := List GWindow × Int
def o15 (r : R15) : AEnd := .ret (.tup [.dsl 32 r.1, .int .i64 r.2])
def u15 (r : R15) : Heap := []
def n15 (_ : R15) : Nat := 0
def r15 (o : AEnd) (u : Heap) (n : Nat) : Option R15 := match o, u, n with
  | .ret (.tup [ba0, .int .i64 a1]), [], 0 => (match (dslD 32 ba0 : Option (List GWindow)) with | some a0 => some (a0, a1) | none => none)
  | _, _, _ => none
theorem r15_ok (p : P15) (o : AEnd) (u : Heap) (n : Nat) (r : R15) (h : r15 o u n = some r) : o = o15 r ∧ u = u15 r ∧ n = n15 r := by
  unfold r15 at h
  split at h
  · skip
    split at h
    · rename_i q
      have q := dslD_ok q
      subst q
      cases h; exact ⟨rfl, rfl, rfl⟩
    · cases h
  · cases h
def f15 (k : Nat) (x0 : List GWindow) (x1 : List GWindow) : Option R15 :=
  bindO (f41 k x0 x1 false) fun r3000 =>
   some r3000
theorem f15_run (k : Nat) (x0 : List GWindow) (x1 : List GWindow) : cf42 k R15 15 (A15 (x0, x1)) [] 0 (endR planR (.agg [.ro 32, .any]) [] 0 r15) = f15 k x0 x1 := by kernel_rfl
def g15 (k : Nat) : CallS := entT d15 (fun p => f15 k p.1 p.2) (elAll _) (fun _ => o15) (fun _ => u15) (fun _ => n15)
theorem g15_ok (k : Nat) : CallSOk Try.prog 15 (g15 k) := entry_ok (Hp := fun _ => []) (oR := fun _ => o15) (uR := fun _ => u15) (nR := fun _ => n15) (cf42_ok k) d15_ok r15_ok (hel := elAll_ok) (fun p => f15_run k p.1 p.2)
def Dl43 (k : Nat) : Delta := dCons 15 (callAt plan [.rd 32, .rd 32] (g15 k)) (Dl42 k)
def Lm43 (k : Nat) : FuncId → Nat → Option LamF := Lm42 k
theorem Dl43_ok (k : Nat) : DeltaOk Try.prog (Dl43 k) := dCons_ok (Dl42_ok k) (g15_ok k)
theorem Lm43_ok (k : Nat) : LamsOk Try.prog (Lm43 k) := Lm42_ok k
abbrev cf43 (k : Nat) : CallF := evF Try.prog (Dl43 k) (Lm43 k) 200 12
theorem cf43_ok (k : Nat) : CfOk Try.prog (cf43 k) := evF_ok noNum mixed (Dl43_ok k) (Lm43_ok k) 12
abbrev P17 := List GWindow × Int × Int
def A17 (p : P17) : List AV := [.dsl 32 p.1, .int .i64 p.2.1, .int .i64 p.2.2]
def d17 (a : List AV) (H : Heap) : Option P17 := match a, H with
  | [ba0, .int .i64 a1, .int .i64 a2], [] => (match (dslD 32 ba0 : Option (List GWindow)) with | some a0 => some (a0, a1, a2) | none => none)
  | _, _ => none
theorem d17_ok (a : List AV) (H : Heap) (p : P17) (h : d17 a H = some p) : a = A17 p ∧ H = [] := by
  unfold d17 at h
  split at h
  · skip
    split at h
    · rename_i q
      have q := dslD_ok q
      subst q
      cases h; exact ⟨rfl, rfl⟩
    · cases h
  · cases h
abbrev R17 := Int × Bool
def o17 (r : R17) : AEnd := .ret (.tup [.int .i64 r.1, .bool r.2])
def u17 (r : R17) : Heap := []
def n17 (_ : R17) : Nat := 0
def r17 (o : AEnd) (u : Heap) (n : Nat) : Option R17 := match o, u, n with
  | .ret (.tup [.int .i64 a0, .bool a1]), [], 0 => some (a0, a1)
  | _, _, _ => none
theorem r17_ok (p : P17) (o : AEnd) (u : Heap) (n : Nat) (r : R17) (h : r17 o u n = some r) : o = o17 r ∧ u = u17 r ∧ n = n17 r := by
  unfold r17 at h
  split at h
  · skip
    cases h; exact ⟨rfl, rfl, rfl⟩
  · cases h
structure S17_0 where
  mk ::
  x0 : List GWindow
  x1 : Int
  x2 : Int
  x8 : Int
def VS17_0 (s : S17_0) : List AV := [.dsl 32 s.x0, .int .i64 s.x1, .int .i64 s.x2, .int .i64 s.x8]
def HS17_0 (s : S17_0) : Heap := []
def dS17_0 (vs : List AV) (H : Heap) : Option S17_0 := match vs, H with
  | [bx0, .int .i64 x1, .int .i64 x2, .int .i64 x8], [] => (match (dslD 32 bx0 : Option (List GWindow)) with | some x0 => some (⟨x0, x1, x2, x8⟩ : S17_0) | none => none)
  | _, _ => none
theorem dS17_0_ok (vs : List AV) (H : Heap) (s : S17_0) (h : dS17_0 vs H = some s) : vs = VS17_0 s ∧ H = HS17_0 s := by
  unfold dS17_0 at h
  split at h
  · skip
    split at h
    · rename_i q
      have q := dslD_ok q
      subst q
      cases h; exact ⟨rfl, rfl⟩
    · cases h
  · cases h
def tS17_0 : AExit → List (Nat × Kd) := fun x => match x with
  | .normal => [(0, .rd 32), (1, .any), (2, .any), (8, .any)]
  | .exit i => (match i with | 0 => [] | _ => [])
  | .ret => [(6, .any), (7, .any)]
  | _ => []
structure E17_0 where
  mk ::
  x6 : Int
  x7 : Bool
def VE17_0 (s : E17_0) : List AV := [.int .i64 s.x6, .bool s.x7]
def HE17_0 (s : E17_0) : Heap := []
def dE17_0 (x : AExit) (vs : List AV) (H : Heap) : Option E17_0 := match x, vs, H with
  | .ret, [.int .i64 x6, .bool x7], [] => some (⟨x6, x7⟩ : E17_0)
  | _, _, _ => none
theorem dE17_0_ok (x : AExit) (vs : List AV) (H : Heap) (s : E17_0) (h : dE17_0 x vs H = some s) : x = .ret ∧ vs = VE17_0 s ∧ H = HE17_0 s := by
  unfold dE17_0 at h
  split at h
  · skip
    cases h; exact ⟨rfl, rfl, rfl⟩
  · cases h
structure E17_0b where
  mk ::
def VE17_0b (s : E17_0b) : List AV := []
def HE17_0b (s : E17_0b) : Heap := []
def dE17_0b (x : AExit) (vs : List AV) (H : Heap) : Option E17_0b := match x, vs, H with
  | .exit 0, [], [] => some (⟨⟩ : E17_0b)
  | _, _, _ => none
theorem dE17_0b_ok (x : AExit) (vs : List AV) (H : Heap) (s : E17_0b) (h : dE17_0b x vs H = some s) : x = .exit 0 ∧ vs = VE17_0b s ∧ H = HE17_0b s := by
  unfold dE17_0b at h
  split at h
  · skip
    cases h; exact ⟨rfl, rfl, rfl⟩
  · cases h
abbrev EE17_0 := E17_0 ⊕ E17_0b
def xEE17_0 (e : EE17_0) : AExit := match e with | .inl _ => .ret | .inr _ => .exit 0
def VEE17_0 (e : EE17_0) : List AV := match e with | .inl s => VE17_0 s | .inr s => VE17_0b s
def HEE17_0 (e : EE17_0) : Heap := match e with | .inl s => HE17_0 s | .inr s => HE17_0b s
def dEE17_0 (x : AExit) (vs : List AV) (H : Heap) : Option EE17_0 := match dE17_0 x vs H with | some s => some (.inl s) | none => (match dE17_0b x vs H with | some s => some (.inr s) | none => none)
theorem dEE17_0_ok (x : AExit) (vs : List AV) (H : Heap) (s : EE17_0) (h : dEE17_0 x vs H = some s) : x = xEE17_0 s ∧ vs = VEE17_0 s ∧ H = HEE17_0 s := by
  unfold dEE17_0 at h
  split at h
  · rename_i q; cases h; exact dE17_0_ok _ _ _ _ q
  · split at h
    · rename_i q; cases h; exact dE17_0b_ok _ _ _ _ q
    · cases h
def pS17_0 (k : Nat) (s : S17_0) : Option (S17_0 ⊕ EE17_0) :=
  br (decide (S17_0.x8 s < (↑(List.length (S17_0.x0 s)) : Int)))
   (br (decide ((0 : Int) ≤ Option.getD (Option.some (S17_0.x8 s)) (0 : Int) ∧ Option.getD (Option.some (S17_0.x8 s)) (0 : Int) ≤ Option.getD (Option.some (IntKind.wrap IntKind.i64 (S17_0.x8 s + (1 : Int)))) (↑(List.length (S17_0.x0 s)) : Int) ∧ Option.getD (Option.some (IntKind.wrap IntKind.i64 (S17_0.x8 s + (1 : Int)))) (↑(List.length (S17_0.x0 s)) : Int) ≤ (↑(List.length (S17_0.x0 s)) : Int)))
    (bindO (f23 k (List.take (Int.toNat (IntKind.wrap IntKind.i64 (S17_0.x8 s + (1 : Int))) - Int.toNat (S17_0.x8 s)) (List.drop (Int.toNat (S17_0.x8 s)) (S17_0.x0 s))) (S17_0.x1 s) (S17_0.x2 s)) fun r1500 =>
     br r1500
      (br (decide ((0 : Int) ≤ S17_0.x8 s ∧ S17_0.x8 s < (↑(List.length (S17_0.x0 s)) : Int)))
       (some (Sum.inr (Sum.inl (E17_0.mk (GWindow.to (List.getD (S17_0.x0 s) (Int.toNat (S17_0.x8 s)) default)) true))))
       (none))
      (some (Sum.inl (S17_0.mk (S17_0.x0 s) (S17_0.x1 s) (S17_0.x2 s) (IntKind.wrap IntKind.i64 (S17_0.x8 s + (1 : Int)))))))
    (none))
   (some (Sum.inr (Sum.inr E17_0b.mk)))
theorem pS17_0_run (k : Nat) (s : S17_0) : evC (S17_0 ⊕ EE17_0) Try.prog (ntmpsAt Try.prog 17) (cf43 k) ((Lm43 k) 17) 200 (loopAt Try.prog 17 0) (zipE [(0, .rd 32), (1, .any), (2, .any), (8, .any)] (VS17_0 s)) (HS17_0 s) (List.length (HS17_0 s)) (cutS plan 0 tS17_0 (rndT dS17_0 dEE17_0)) = pS17_0 k s := by kernel_rfl
def l17_0 (k : Nat) (s : S17_0) : Option EE17_0 := iterT (pS17_0 k) k s
def m17_0 (k : Nat) : LamS := lamT 0 dS17_0 (l17_0 k) (elSum (elAll _) (elAll _)) tS17_0 xEE17_0 VEE17_0 HEE17_0
theorem loop17_0 : isLoopAt Try.prog 17 0 = true := by kernel_rfl
theorem m17_0_ok (k : Nat) : LamSOk Try.prog (ntmpsAt Try.prog 17) 0 (.block 0 (.loop (loopAt Try.prog 17 0))) [(0, .rd 32), (1, .any), (2, .any), (8, .any)] (m17_0 k) := lamT_ok (plan := plan) (kb := 0) (body_run noNum mixed (cf43_ok k) (Lm43_ok k) loop17_0) rfl dS17_0_ok dEE17_0_ok (hel := (elSum_ok elAll_ok elAll_ok)) (pS17_0_run k) k
def Dl44 (k : Nat) : Delta := Dl43 k
def Lm44 (k : Nat) : FuncId → Nat → Option LamF := lCons 17 0 (lamBy plan [9, 10, 11, 12, 15, 16, 17, 18, 19, 20, 21, 22, 23, 24, 25, 26, 27, 6, 7, 13, 14, 8] [(0, .rd 32), (1, .any), (2, .any), (8, .any)] 0 (m17_0 k)) (Lm43 k)
theorem Dl44_ok (k : Nat) : DeltaOk Try.prog (Dl44 k) := Dl43_ok k
theorem Lm44_ok (k : Nat) : LamsOk Try.prog (Lm44 k) := lCons_ok (Lm43_ok k) loop17_0 (lamBy_ok (m17_0_ok k) (by kernel_rfl))
abbrev cf44 (k : Nat) : CallF := evF Try.prog (Dl44 k) (Lm44 k) 200 12
theorem cf44_ok (k : Nat) : CfOk Try.prog (cf44 k) := evF_ok noNum mixed (Dl44_ok k) (Lm44_ok k) 12
def f17 (k : Nat) (x0 : List GWindow) (x1 : Int) (x2 : Int) : Option R17 :=
  bindO (l17_0 k (S17_0.mk x0 x1 x2 (0 : Int))) fun r3000 =>
   match r3000 with
   | .inl c2999 => some (E17_0.x6 c2999, E17_0.x7 c2999)
   | .inr c2999 => some ((0 : Int), false)
theorem f17_run (k : Nat) (x0 : List GWindow) (x1 : Int) (x2 : Int) : cf44 k R17 17 (A17 (x0, x1, x2)) [] 0 (endR planR (.any) [] 0 r17) = f17 k x0 x1 x2 := by kernel_rfl
def g17 (k : Nat) : CallS := entT d17 (fun p => f17 k p.1 p.2.1 p.2.2) (elAll _) (fun _ => o17) (fun _ => u17) (fun _ => n17)
theorem g17_ok (k : Nat) : CallSOk Try.prog 17 (g17 k) := entry_ok (Hp := fun _ => []) (oR := fun _ => o17) (uR := fun _ => u17) (nR := fun _ => n17) (cf44_ok k) d17_ok r17_ok (hel := elAll_ok) (fun p => f17_run k p.1 p.2.1 p.2.2)
def Dl45 (k : Nat) : Delta := dCons 17 (callAt plan [.rd 32, .any, .any] (g17 k)) (Dl44 k)
def Lm45 (k : Nat) : FuncId → Nat → Option LamF := Lm44 k
theorem Dl45_ok (k : Nat) : DeltaOk Try.prog (Dl45 k) := dCons_ok (Dl44_ok k) (g17_ok k)
theorem Lm45_ok (k : Nat) : LamsOk Try.prog (Lm45 k) := Lm44_ok k
abbrev cf45 (k : Nat) : CallF := evF Try.prog (Dl45 k) (Lm45 k) 200 12
theorem cf45_ok (k : Nat) : CfOk Try.prog (cf45 k) := evF_ok noNum mixed (Dl45_ok k) (Lm45_ok k) 12
abbrev P18 := List GWindow × List GWindow
def A18 (p : P18) : List AV := [.dsl 32 p.1, .dsl 32 p.2]
def d18 (a : List AV) (H : Heap) : Option P18 := match a, H with
  | [ba0, ba1], [] => (match (dslD 32 ba0 : Option (List GWindow)) with | some a0 => (match (dslD 32 ba1 : Option (List GWindow)) with | some a1 => some (a0, a1) | none => none) | none => none)
  | _, _ => none
theorem d18_ok (a : List AV) (H : Heap) (p : P18) (h : d18 a H = some p) : a = A18 p ∧ H = [] := by
  unfold d18 at h
  split at h
  · skip
    split at h
    · rename_i q
      have q := dslD_ok q
      subst q
      split at h
      · rename_i q
        have q := dslD_ok q
        subst q
        cases h; exact ⟨rfl, rfl⟩
      · cases h
    · cases h
  · cases h
abbrev R18 := Bool
def o18 (r : R18) : AEnd := .ret (.bool r)
def u18 (r : R18) : Heap := []
def n18 (_ : R18) : Nat := 0
def r18 (o : AEnd) (u : Heap) (n : Nat) : Option R18 := match o, u, n with
  | .ret (.bool a0), [], 0 => some (a0)
  | _, _, _ => none
theorem r18_ok (p : P18) (o : AEnd) (u : Heap) (n : Nat) (r : R18) (h : r18 o u n = some r) : o = o18 r ∧ u = u18 r ∧ n = n18 r := by
  unfold r18 at h
  split at h
  · skip
    cases h; exact ⟨rfl, rfl, rfl⟩
  · cases h
structure S18_0 where
  mk ::
  x0 : List GWindow
  x1 : List GWindow
  x5 : Int
def VS18_0 (s : S18_0) : List AV := [.dsl 32 s.x0, .dsl 32 s.x1, .int .i64 s.x5]
def HS18_0 (s : S18_0) : Heap := []
def dS18_0 (vs : List AV) (H : Heap) : Option S18_0 := match vs, H with
  | [bx0, bx1, .int .i64 x5], [] => (match (dslD 32 bx0 : Option (List GWindow)) with | some x0 => (match (dslD 32 bx1 : Option (List GWindow)) with | some x1 => some (⟨x0, x1, x5⟩ : S18_0) | none => none) | none => none)
  | _, _ => none
theorem dS18_0_ok (vs : List AV) (H : Heap) (s : S18_0) (h : dS18_0 vs H = some s) : vs = VS18_0 s ∧ H = HS18_0 s := by
  unfold dS18_0 at h
  split at h
  · skip
    split at h
    · rename_i q
      have q := dslD_ok q
      subst q
      split at h
      · rename_i q
        have q := dslD_ok q
        subst q
        cases h; exact ⟨rfl, rfl⟩
      · cases h
    · cases h
  · cases h
def tS18_0 : AExit → List (Nat × Kd) := fun x => match x with
  | .normal => [(0, .rd 32), (1, .rd 32), (5, .any)]
  | .exit i => (match i with | 0 => [] | _ => [])
  | .ret => [(4, .any)]
  | _ => []
structure E18_0 where
  mk ::
  x4 : Bool
def VE18_0 (s : E18_0) : List AV := [.bool s.x4]
def HE18_0 (s : E18_0) : Heap := []
def dE18_0 (x : AExit) (vs : List AV) (H : Heap) : Option E18_0 := match x, vs, H with
  | .ret, [.bool x4], [] => some (⟨x4⟩ : E18_0)
  | _, _, _ => none
theorem dE18_0_ok (x : AExit) (vs : List AV) (H : Heap) (s : E18_0) (h : dE18_0 x vs H = some s) : x = .ret ∧ vs = VE18_0 s ∧ H = HE18_0 s := by
  unfold dE18_0 at h
  split at h
  · skip
    cases h; exact ⟨rfl, rfl, rfl⟩
  · cases h
structure E18_0b where
  mk ::
def VE18_0b (s : E18_0b) : List AV := []
def HE18_0b (s : E18_0b) : Heap := []
def dE18_0b (x : AExit) (vs : List AV) (H : Heap) : Option E18_0b := match x, vs, H with
  | .exit 0, [], [] => some (⟨⟩ : E18_0b)
  | _, _, _ => none
theorem dE18_0b_ok (x : AExit) (vs : List AV) (H : Heap) (s : E18_0b) (h : dE18_0b x vs H = some s) : x = .exit 0 ∧ vs = VE18_0b s ∧ H = HE18_0b s := by
  unfold dE18_0b at h
  split at h
  · skip
    cases h; exact ⟨rfl, rfl, rfl⟩
  · cases h
abbrev EE18_0 := E18_0 ⊕ E18_0b
def xEE18_0 (e : EE18_0) : AExit := match e with | .inl _ => .ret | .inr _ => .exit 0
def VEE18_0 (e : EE18_0) : List AV := match e with | .inl s => VE18_0 s | .inr s => VE18_0b s
def HEE18_0 (e : EE18_0) : Heap := match e with | .inl s => HE18_0 s | .inr s => HE18_0b s
def dEE18_0 (x : AExit) (vs : List AV) (H : Heap) : Option EE18_0 := match dE18_0 x vs H with | some s => some (.inl s) | none => (match dE18_0b x vs H with | some s => some (.inr s) | none => none)
theorem dEE18_0_ok (x : AExit) (vs : List AV) (H : Heap) (s : EE18_0) (h : dEE18_0 x vs H = some s) : x = xEE18_0 s ∧ vs = VEE18_0 s ∧ H = HEE18_0 s := by
  unfold dEE18_0 at h
  split at h
  · rename_i q; cases h; exact dE18_0_ok _ _ _ _ q
  · split at h
    · rename_i q; cases h; exact dE18_0b_ok _ _ _ _ q
    · cases h
def pS18_0 (k : Nat) (s : S18_0) : Option (S18_0 ⊕ EE18_0) :=
  br (decide (S18_0.x5 s < (↑(List.length (S18_0.x0 s)) : Int)))
   (br (decide ((0 : Int) ≤ S18_0.x5 s ∧ S18_0.x5 s < (↑(List.length (S18_0.x0 s)) : Int)))
    (br (decide ((0 : Int) ≤ S18_0.x5 s ∧ S18_0.x5 s < (↑(List.length (S18_0.x1 s)) : Int)))
     (br (!(GWindow.bed (List.getD (S18_0.x0 s) (Int.toNat (S18_0.x5 s)) default) == GWindow.bed (List.getD (S18_0.x1 s) (Int.toNat (S18_0.x5 s)) default) && (GWindow.src (List.getD (S18_0.x0 s) (Int.toNat (S18_0.x5 s)) default) == GWindow.src (List.getD (S18_0.x1 s) (Int.toNat (S18_0.x5 s)) default) && GWindow.to (List.getD (S18_0.x0 s) (Int.toNat (S18_0.x5 s)) default) == GWindow.to (List.getD (S18_0.x1 s) (Int.toNat (S18_0.x5 s)) default))))
      (some (Sum.inr (Sum.inl (E18_0.mk false))))
      (some (Sum.inl (S18_0.mk (S18_0.x0 s) (S18_0.x1 s) (IntKind.wrap IntKind.i64 (S18_0.x5 s + (1 : Int)))))))
     (none))
    (none))
   (some (Sum.inr (Sum.inr E18_0b.mk)))
theorem pS18_0_run (k : Nat) (s : S18_0) : evC (S18_0 ⊕ EE18_0) Try.prog (ntmpsAt Try.prog 18) (cf45 k) ((Lm45 k) 18) 200 (loopAt Try.prog 18 0) (zipE [(0, .rd 32), (1, .rd 32), (5, .any)] (VS18_0 s)) (HS18_0 s) (List.length (HS18_0 s)) (cutS plan 0 tS18_0 (rndT dS18_0 dEE18_0)) = pS18_0 k s := by kernel_rfl
def l18_0 (k : Nat) (s : S18_0) : Option EE18_0 := iterT (pS18_0 k) k s
def m18_0 (k : Nat) : LamS := lamT 0 dS18_0 (l18_0 k) (elSum (elAll _) (elAll _)) tS18_0 xEE18_0 VEE18_0 HEE18_0
theorem loop18_0 : isLoopAt Try.prog 18 0 = true := by kernel_rfl
theorem m18_0_ok (k : Nat) : LamSOk Try.prog (ntmpsAt Try.prog 18) 0 (.block 0 (.loop (loopAt Try.prog 18 0))) [(0, .rd 32), (1, .rd 32), (5, .any)] (m18_0 k) := lamT_ok (plan := plan) (kb := 0) (body_run noNum mixed (cf45_ok k) (Lm45_ok k) loop18_0) rfl dS18_0_ok dEE18_0_ok (hel := (elSum_ok elAll_ok elAll_ok)) (pS18_0_run k) k
def Dl46 (k : Nat) : Delta := Dl45 k
def Lm46 (k : Nat) : FuncId → Nat → Option LamF := lCons 18 0 (lamBy plan [11, 12, 13, 14, 17, 18, 19, 20, 21, 22, 23, 24, 25, 4, 15, 16, 5] [(0, .rd 32), (1, .rd 32), (5, .any)] 0 (m18_0 k)) (Lm45 k)
theorem Dl46_ok (k : Nat) : DeltaOk Try.prog (Dl46 k) := Dl45_ok k
theorem Lm46_ok (k : Nat) : LamsOk Try.prog (Lm46 k) := lCons_ok (Lm45_ok k) loop18_0 (lamBy_ok (m18_0_ok k) (by kernel_rfl))
abbrev cf46 (k : Nat) : CallF := evF Try.prog (Dl46 k) (Lm46 k) 200 12
theorem cf46_ok (k : Nat) : CfOk Try.prog (cf46 k) := evF_ok noNum mixed (Dl46_ok k) (Lm46_ok k) 12
def f18 (k : Nat) (x0 : List GWindow) (x1 : List GWindow) : Option R18 :=
  br ((↑(List.length x0) : Int) != (↑(List.length x1) : Int))
   (some false)
   (bindO (l18_0 k (S18_0.mk x0 x1 (0 : Int))) fun r2999 =>
    match r2999 with
    | .inl c2998 => some (E18_0.x4 c2998)
    | .inr c2998 => some true)
theorem f18_run (k : Nat) (x0 : List GWindow) (x1 : List GWindow) : cf46 k R18 18 (A18 (x0, x1)) [] 0 (endR planR (.any) [] 0 r18) = f18 k x0 x1 := by kernel_rfl
def g18 (k : Nat) : CallS := entT d18 (fun p => f18 k p.1 p.2) (elAll _) (fun _ => o18) (fun _ => u18) (fun _ => n18)
theorem g18_ok (k : Nat) : CallSOk Try.prog 18 (g18 k) := entry_ok (Hp := fun _ => []) (oR := fun _ => o18) (uR := fun _ => u18) (nR := fun _ => n18) (cf46_ok k) d18_ok r18_ok (hel := elAll_ok) (fun p => f18_run k p.1 p.2)
def Dl47 (k : Nat) : Delta := dCons 18 (callAt plan [.rd 32, .rd 32] (g18 k)) (Dl46 k)
def Lm47 (k : Nat) : FuncId → Nat → Option LamF := Lm46 k
theorem Dl47_ok (k : Nat) : DeltaOk Try.prog (Dl47 k) := dCons_ok (Dl46_ok k) (g18_ok k)
theorem Lm47_ok (k : Nat) : LamsOk Try.prog (Lm47 k) := Lm46_ok k
abbrev cf47 (k : Nat) : CallF := evF Try.prog (Dl47 k) (Lm47 k) 200 12
theorem cf47_ok (k : Nat) : CfOk Try.prog (cf47 k) := evF_ok noNum mixed (Dl47_ok k) (Lm47_ok k) 12
abbrev P25 := List GWindow × Int
def A25 (p : P25) : List AV := [.dsl 32 p.1, .int .i64 p.2]
def d25 (a : List AV) (H : Heap) : Option P25 := match a, H with
  | [ba0, .int .i64 a1], [] => (match (dslD 32 ba0 : Option (List GWindow)) with | some a0 => some (a0, a1) | none => none)
  | _, _ => none
theorem d25_ok (a : List AV) (H : Heap) (p : P25) (h : d25 a H = some p) : a = A25 p ∧ H = [] := by
  unfold d25 at h
  split at h
  · skip
    split at h
    · rename_i q
      have q := dslD_ok q
      subst q
      cases h; exact ⟨rfl, rfl⟩
    · cases h
  · cases h
abbrev R25 := Int
def o25 (r : R25) : AEnd := .ret (.int .i64 r)
def u25 (r : R25) : Heap := []
def n25 (_ : R25) : Nat := 0
def r25 (o : AEnd) (u : Heap) (n : Nat) : Option R25 := match o, u, n with
  | .ret (.int .i64 a0), [], 0 => some (a0)
  | _, _, _ => none
theorem r25_ok (p : P25) (o : AEnd) (u : Heap) (n : Nat) (r : R25) (h : r25 o u n = some r) : o = o25 r ∧ u = u25 r ∧ n = n25 r := by
  unfold r25 at h
  split at h
  · skip
    cases h; exact ⟨rfl, rfl, rfl⟩
  · cases h
structure S25_0 where
  mk ::
  x0 : List GWindow
  x1 : Int
  x5 : Int
  x6 : Int
def VS25_0 (s : S25_0) : List AV := [.dsl 32 s.x0, .int .i64 s.x1, .int .i64 s.x5, .int .i64 s.x6]
def HS25_0 (s : S25_0) : Heap := []
def dS25_0 (vs : List AV) (H : Heap) : Option S25_0 := match vs, H with
  | [bx0, .int .i64 x1, .int .i64 x5, .int .i64 x6], [] => (match (dslD 32 bx0 : Option (List GWindow)) with | some x0 => some (⟨x0, x1, x5, x6⟩ : S25_0) | none => none)
  | _, _ => none
theorem dS25_0_ok (vs : List AV) (H : Heap) (s : S25_0) (h : dS25_0 vs H = some s) : vs = VS25_0 s ∧ H = HS25_0 s := by
  unfold dS25_0 at h
  split at h
  · skip
    split at h
    · rename_i q
      have q := dslD_ok q
      subst q
      cases h; exact ⟨rfl, rfl⟩
    · cases h
  · cases h
def tS25_0 : AExit → List (Nat × Kd) := fun x => match x with
  | .normal => [(0, .rd 32), (1, .any), (5, .any), (6, .any)]
  | .exit i => (match i with | 0 => [(5, .any)] | _ => [])
  | .ret => [(4, .any)]
  | _ => []
structure E25_0 where
  mk ::
  x5 : Int
def VE25_0 (s : E25_0) : List AV := [.int .i64 s.x5]
def HE25_0 (s : E25_0) : Heap := []
def dE25_0 (x : AExit) (vs : List AV) (H : Heap) : Option E25_0 := match x, vs, H with
  | .exit 0, [.int .i64 x5], [] => some (⟨x5⟩ : E25_0)
  | _, _, _ => none
theorem dE25_0_ok (x : AExit) (vs : List AV) (H : Heap) (s : E25_0) (h : dE25_0 x vs H = some s) : x = .exit 0 ∧ vs = VE25_0 s ∧ H = HE25_0 s := by
  unfold dE25_0 at h
  split at h
  · skip
    cases h; exact ⟨rfl, rfl, rfl⟩
  · cases h
def xE25_0 (_ : E25_0) : AExit := .exit 0
def pS25_0 (k : Nat) (s : S25_0) : Option (S25_0 ⊕ E25_0) :=
  br (decide (S25_0.x6 s < (↑(List.length (S25_0.x0 s)) : Int)))
   (bindO (f21 k (S25_0.x0 s)) fun r1500 =>
    br r1500
     (br (decide ((0 : Int) ≤ S25_0.x6 s ∧ S25_0.x6 s < (↑(List.length (S25_0.x0 s)) : Int)))
      (br (GWindow.bed (List.getD (S25_0.x0 s) (Int.toNat (S25_0.x6 s)) default) == S25_0.x1 s)
       (br (decide ((0 : Int) ≤ S25_0.x6 s ∧ S25_0.x6 s < (↑(List.length (S25_0.x0 s)) : Int)))
        (br (decide ((0 : Int) ≤ S25_0.x6 s ∧ S25_0.x6 s < (↑(List.length (S25_0.x0 s)) : Int)))
         (some (Sum.inl (S25_0.mk (S25_0.x0 s) (S25_0.x1 s) (IntKind.wrap IntKind.i64 (IntKind.wrap IntKind.i64 (S25_0.x5 s + GWindow.to (List.getD (S25_0.x0 s) (Int.toNat (S25_0.x6 s)) default)) - GWindow.src (List.getD (S25_0.x0 s) (Int.toNat (S25_0.x6 s)) default))) (IntKind.wrap IntKind.i64 (S25_0.x6 s + (1 : Int))))))
         (none))
        (none))
       (some (Sum.inl (S25_0.mk (S25_0.x0 s) (S25_0.x1 s) (S25_0.x5 s) (IntKind.wrap IntKind.i64 (S25_0.x6 s + (1 : Int)))))))
      (none))
     (some (Sum.inr (E25_0.mk (S25_0.x5 s)))))
   (some (Sum.inr (E25_0.mk (S25_0.x5 s))))
theorem pS25_0_run (k : Nat) (s : S25_0) : evC (S25_0 ⊕ E25_0) Try.prog (ntmpsAt Try.prog 25) (cf47 k) ((Lm47 k) 25) 200 (loopAt Try.prog 25 0) (zipE [(0, .rd 32), (1, .any), (5, .any), (6, .any)] (VS25_0 s)) (HS25_0 s) (List.length (HS25_0 s)) (cutS plan 0 tS25_0 (rndT dS25_0 dE25_0)) = pS25_0 k s := by kernel_rfl
def l25_0 (k : Nat) (s : S25_0) : Option E25_0 := iterT (pS25_0 k) k s
def m25_0 (k : Nat) : LamS := lamT 0 dS25_0 (l25_0 k) (elAll _) tS25_0 xE25_0 VE25_0 HE25_0
theorem loop25_0 : isLoopAt Try.prog 25 0 = true := by kernel_rfl
theorem m25_0_ok (k : Nat) : LamSOk Try.prog (ntmpsAt Try.prog 25) 0 (.block 0 (.loop (loopAt Try.prog 25 0))) [(0, .rd 32), (1, .any), (5, .any), (6, .any)] (m25_0 k) := lamT_ok (plan := plan) (kb := 0) (body_run noNum mixed (cf47_ok k) (Lm47_ok k) loop25_0) rfl dS25_0_ok dE25_0_ok (hel := elAll_ok) (pS25_0_run k) k
def Dl48 (k : Nat) : Delta := Dl47 k
def Lm48 (k : Nat) : FuncId → Nat → Option LamF := lCons 25 0 (lamBy plan [7, 8, 9, 10, 11, 12, 13, 14, 17, 18, 19, 20, 21, 22, 23, 24, 25, 26, 27, 28, 29, 30, 31, 32, 33, 34, 35, 36, 5, 15, 16, 6] [(0, .rd 32), (1, .any), (5, .any), (6, .any)] 0 (m25_0 k)) (Lm47 k)
theorem Dl48_ok (k : Nat) : DeltaOk Try.prog (Dl48 k) := Dl47_ok k
theorem Lm48_ok (k : Nat) : LamsOk Try.prog (Lm48 k) := lCons_ok (Lm47_ok k) loop25_0 (lamBy_ok (m25_0_ok k) (by kernel_rfl))
abbrev cf48 (k : Nat) : CallF := evF Try.prog (Dl48 k) (Lm48 k) 200 12
theorem cf48_ok (k : Nat) : CfOk Try.prog (cf48 k) := evF_ok noNum mixed (Dl48_ok k) (Lm48_ok k) 12
def f25 (k : Nat) (x0 : List GWindow) (x1 : Int) : Option R25 :=
  bindO (l25_0 k (S25_0.mk x0 x1 (0 : Int) (0 : Int))) fun r3000 =>
   some (E25_0.x5 r3000)
theorem f25_run (k : Nat) (x0 : List GWindow) (x1 : Int) : cf48 k R25 25 (A25 (x0, x1)) [] 0 (endR planR (.any) [] 0 r25) = f25 k x0 x1 := by kernel_rfl
def g25 (k : Nat) : CallS := entT d25 (fun p => f25 k p.1 p.2) (elAll _) (fun _ => o25) (fun _ => u25) (fun _ => n25)
theorem g25_ok (k : Nat) : CallSOk Try.prog 25 (g25 k) := entry_ok (Hp := fun _ => []) (oR := fun _ => o25) (uR := fun _ => u25) (nR := fun _ => n25) (cf48_ok k) d25_ok r25_ok (hel := elAll_ok) (fun p => f25_run k p.1 p.2)
def Dl49 (k : Nat) : Delta := dCons 25 (callAt plan [.rd 32, .any] (g25 k)) (Dl48 k)
def Lm49 (k : Nat) : FuncId → Nat → Option LamF := Lm48 k
theorem Dl49_ok (k : Nat) : DeltaOk Try.prog (Dl49 k) := dCons_ok (Dl48_ok k) (g25_ok k)
theorem Lm49_ok (k : Nat) : LamsOk Try.prog (Lm49 k) := Lm48_ok k
abbrev cf49 (k : Nat) : CallF := evF Try.prog (Dl49 k) (Lm49 k) 200 12
theorem cf49_ok (k : Nat) : CfOk Try.prog (cf49 k) := evF_ok noNum mixed (Dl49_ok k) (Lm49_ok k) 12
abbrev P11 := List GWindow
def A11 (p : P11) : List AV := [.dsl 32 p]
def d11 (a : List AV) (H : Heap) : Option P11 := match a, H with
  | [ba0], [] => (match (dslD 32 ba0 : Option (List GWindow)) with | some a0 => some (a0) | none => none)
  | _, _ => none
theorem d11_ok (a : List AV) (H : Heap) (p : P11) (h : d11 a H = some p) : a = A11 p ∧ H = [] := by
  unfold d11 at h
  split at h
  · skip
    split at h
    · rename_i q
      have q := dslD_ok q
      subst q
      cases h; exact ⟨rfl, rfl⟩
    · cases h
  · cases h
abbrev R11 := List GWindow
def o11 (r : R11) : AEnd := .ret (.dsl 32 r)
def u11 (r : R11) : Heap := []
def n11 (_ : R11) : Nat := 0
def r11 (o : AEnd) (u : Heap) (n : Nat) : Option R11 := match o, u, n with
  | .ret ba0, [], 0 => (match (dslD 32 ba0 : Option (List GWindow)) with | some a0 => some (a0) | none => none)
  | _, _, _ => none
theorem r11_ok (p : P11) (o : AEnd) (u : Heap) (n : Nat) (r : R11) (h : r11 o u n = some r) : o = o11 r ∧ u = u11 r ∧ n = n11 r := by
  unfold r11 at h
  split at h
  · skip
    split at h
    · rename_i q
      have q := dslD_ok q
      subst q
      cases h; exact ⟨rfl, rfl, rfl⟩
    · cases h
  · cases h
def f11 (k : Nat) (x0 : List GWindow) : Option R11 :=
  br (true && decide (List.length x0 * (24 : Nat) ≤ (140737488355328 : Nat)))
   (some x0)
   (none)
theorem f11_run (k : Nat) (x0 : List GWindow) : cf49 k R11 11 (A11 (x0)) [] 0 (endR planR (.ro 32) [] 0 r11) = f11 k x0 := by kernel_rfl
def g11 (k : Nat) : CallS := entT d11 (fun p => f11 k p) (elAll _) (fun _ => o11) (fun _ => u11) (fun _ => n11)
theorem g11_ok (k : Nat) : CallSOk Try.prog 11 (g11 k) := entry_ok (Hp := fun _ => []) (oR := fun _ => o11) (uR := fun _ => u11) (nR := fun _ => n11) (cf49_ok k) d11_ok r11_ok (hel := elAll_ok) (fun p => f11_run k p)
def Dl50 (k : Nat) : Delta := dCons 11 (callAt plan [.rd 32] (g11 k)) (Dl49 k)
def Lm50 (k : Nat) : FuncId → Nat → Option LamF := Lm49 k
theorem Dl50_ok (k : Nat) : DeltaOk Try.prog (Dl50 k) := dCons_ok (Dl49_ok k) (g11_ok k)
theorem Lm50_ok (k : Nat) : LamsOk Try.prog (Lm50 k) := Lm49_ok k
abbrev cf50 (k : Nat) : CallF := evF Try.prog (Dl50 k) (Lm50 k) 200 12
theorem cf50_ok (k : Nat) : CfOk Try.prog (cf50 k) := evF_ok noNum mixed (Dl50_ok k) (Lm50_ok k) 12
abbrev P3 := List GWindow × List GWindow × Int × Int
def A3 (p : P3) : List AV := [.dsl 32 p.1, .dsl 32 p.2.1, .int .i64 p.2.2.1, .int .i64 p.2.2.2]
def d3 (a : List AV) (H : Heap) : Option P3 := match a, H with
  | [ba0, ba1, .int .i64 a2, .int .i64 a3], [] => (match (dslD 32 ba0 : Option (List GWindow)) with | some a0 => (match (dslD 32 ba1 : Option (List GWindow)) with | some a1 => some (a0, a1, a2, a3) | none => none) | none => none)
  | _, _ => none
theorem d3_ok (a : List AV) (H : Heap) (p : P3) (h : d3 a H = some p) : a = A3 p ∧ H = [] := by
  unfold d3 at h
  split at h
  · skip
    split at h
    · rename_i q
      have q := dslD_ok q
      subst q
      split at h
      · rename_i q
        have q := dslD_ok q
        subst q
        cases h; exact ⟨rfl, rfl⟩
      · cases h
    · cases h
  · cases h
abbrev R3 := Bool
def o3 (r : R3) : AEnd := .ret (.bool r)
def u3 (r : R3) : Heap := []
def n3 (_ : R3) : Nat := 0
def r3 (o : AEnd) (u : Heap) (n : Nat) : Option R3 := match o, u, n with
  | .ret (.bool a0), [], 0 => some (a0)
  | _, _, _ => none
theorem r3_ok (p : P3) (o : AEnd) (u : Heap) (n : Nat) (r : R3) (h : r3 o u n = some r) : o = o3 r ∧ u = u3 r ∧ n = n3 r := by
  unfold r3 at h
  split at h
  · skip
    cases h; exact ⟨rfl, rfl, rfl⟩
  · cases h
structure S3_0 where
  mk ::
  x0 : List GWindow
  x1 : List GWindow
  x2 : Int
  x3 : Int
  x9 : List GWindow
  x10 : List GWindow
  x23 : Bool
  x24 : Int
  h0 : List GWindow
  h1 : List GWindow
def VS3_0 (s : S3_0) : List AV := [.dsl 32 s.x0, .dsl 32 s.x1, .int .i64 s.x2, .int .i64 s.x3, .dsl 32 s.x9, .dsl 32 s.x10, .slf 0, .slf 1, .bool s.x23, .int .i64 s.x24]
def HS3_0 (s : S3_0) : Heap := [(0, some (.row 32 s.h0)), (1, some (.row 32 s.h1))]
def dS3_0 (vs : List AV) (H : Heap) : Option S3_0 := match vs, H with
  | [bx0, bx1, .int .i64 x2, .int .i64 x3, bx9, bx10, .slf 0, .slf 1, .bool x23, .int .i64 x24], [(0, bh0), (1, bh1)] => (match (dslD 32 bx0 : Option (List GWindow)) with | some x0 => (match (dslD 32 bx1 : Option (List GWindow)) with | some x1 => (match (dslD 32 bx9 : Option (List GWindow)) with | some x9 => (match (dslD 32 bx10 : Option (List GWindow)) with | some x10 => (match (rowD 32 bh0 : Option (List GWindow)) with | some h0 => (match (rowD 32 bh1 : Option (List GWindow)) with | some h1 => some (⟨x0, x1, x2, x3, x9, x10, x23, x24, h0, h1⟩ : S3_0) | none => none) | none => none) | none => none) | none => none) | none => none) | none => none)
  | _, _ => none
theorem dS3_0_ok (vs : List AV) (H : Heap) (s : S3_0) (h : dS3_0 vs H = some s) : vs = VS3_0 s ∧ H = HS3_0 s := by
  unfold dS3_0 at h
  split at h
  · skip
    split at h
    · rename_i q
      have q := dslD_ok q
      subst q
      split at h
      · rename_i q
        have q := dslD_ok q
        subst q
        split at h
        · rename_i q
          have q := dslD_ok q
          subst q
          split at h
          · rename_i q
            have q := dslD_ok q
            subst q
            split at h
            · rename_i q
              have q := rowD_ok q
              subst q
              split at h
              · rename_i q
                have q := rowD_ok q
                subst q
                cases h; exact ⟨rfl, rfl⟩
              · cases h
            · cases h
          · cases h
        · cases h
      · cases h
    · cases h
  · cases h
def tS3_0 : AExit → List (Nat × Kd) := fun x => match x with
  | .normal => [(0, .rd 32), (1, .rd 32), (2, .any), (3, .any), (9, .rd 32), (10, .rd 32), (11, .own 32), (15, .own 32), (23, .any), (24, .any)]
  | .exit i => (match i with | 0 => [(0, .rd 32), (1, .rd 32), (2, .any), (3, .any), (9, .rd 32), (10, .rd 32), (15, .own 32), (23, .any)] | _ => [])
  | .ret => [(8, .any)]
  | _ => []
structure E3_0 where
  mk ::
  x0 : List GWindow
  x1 : List GWindow
  x2 : Int
  x3 : Int
  x9 : List GWindow
  x10 : List GWindow
  x23 : Bool
  h0 : List GWindow
def VE3_0 (s : E3_0) : List AV := [.dsl 32 s.x0, .dsl 32 s.x1, .int .i64 s.x2, .int .i64 s.x3, .dsl 32 s.x9, .dsl 32 s.x10, .slf 0, .bool s.x23]
def HE3_0 (s : E3_0) : Heap := [(0, some (.row 32 s.h0))]
def dE3_0 (x : AExit) (vs : List AV) (H : Heap) : Option E3_0 := match x, vs, H with
  | .exit 0, [bx0, bx1, .int .i64 x2, .int .i64 x3, bx9, bx10, .slf 0, .bool x23], [(0, bh0)] => (match (dslD 32 bx0 : Option (List GWindow)) with | some x0 => (match (dslD 32 bx1 : Option (List GWindow)) with | some x1 => (match (dslD 32 bx9 : Option (List GWindow)) with | some x9 => (match (dslD 32 bx10 : Option (List GWindow)) with | some x10 => (match (rowD 32 bh0 : Option (List GWindow)) with | some h0 => some (⟨x0, x1, x2, x3, x9, x10, x23, h0⟩ : E3_0) | none => none) | none => none) | none => none) | none => none) | none => none)
  | _, _, _ => none
theorem dE3_0_ok (x : AExit) (vs : List AV) (H : Heap) (s : E3_0) (h : dE3_0 x vs H = some s) : x = .exit 0 ∧ vs = VE3_0 s ∧ H = HE3_0 s := by
  unfold dE3_0 at h
  split at h
  · skip
    split at h
    · rename_i q
      have q := dslD_ok q
      subst q
      split at h
      · rename_i q
        have q := dslD_ok q
        subst q
        split at h
        · rename_i q
          have q := dslD_ok q
          subst q
          split at h
          · rename_i q
            have q := dslD_ok q
            subst q
            split at h
            · rename_i q
              have q := rowD_ok q
              subst q
              cases h; exact ⟨rfl, rfl, rfl⟩
            · cases h
          · cases h
        · cases h
      · cases h
    · cases h
  · cases h
def xE3_0 (_ : E3_0) : AExit := .exit 0
def pS3_0 (k : Nat) (s : S3_0) : Option (S3_0 ⊕ E3_0) :=
  br (decide (S3_0.x24 s < (↑(List.length (S3_0.h0 s)) : Int)))
   (br (decide ((0 : Int) ≤ S3_0.x24 s ∧ S3_0.x24 s < (↑(List.length (S3_0.h0 s)) : Int)))
    (br (true && decide (Int.toNat (S3_0.x24 s) < List.length (S3_0.h0 s)))
     (some (Sum.inl (S3_0.mk (S3_0.x0 s) (S3_0.x1 s) (S3_0.x2 s) (S3_0.x3 s) (S3_0.x9 s) (S3_0.x10 s) (S3_0.x23 s) (IntKind.wrap IntKind.i64 (S3_0.x24 s + (1 : Int))) (List.set (S3_0.h0 s) (Int.toNat (S3_0.x24 s)) (GWindow.mk (77 : Int) (GWindow.src (List.getD (S3_0.h0 s) (Int.toNat (S3_0.x24 s)) default)) (GWindow.to (List.getD (S3_0.h0 s) (Int.toNat (S3_0.x24 s)) default)))) (S3_0.h1 s))))
     (none))
    (none))
   (some (Sum.inr (E3_0.mk (S3_0.x0 s) (S3_0.x1 s) (S3_0.x2 s) (S3_0.x3 s) (S3_0.x9 s) (S3_0.x10 s) (S3_0.x23 s) (S3_0.h1 s))))
theorem pS3_0_run (k : Nat) (s : S3_0) : evC (S3_0 ⊕ E3_0) Try.prog (ntmpsAt Try.prog 3) (cf50 k) ((Lm50 k) 3) 200 (loopAt Try.prog 3 0) (zipE [(0, .rd 32), (1, .rd 32), (2, .any), (3, .any), (9, .rd 32), (10, .rd 32), (11, .own 32), (15, .own 32), (23, .any), (24, .any)] (VS3_0 s)) (HS3_0 s) (List.length (HS3_0 s)) (cutS plan 0 tS3_0 (rndT dS3_0 dE3_0)) = pS3_0 k s := by kernel_rfl
def l3_0 (k : Nat) (s : S3_0) : Option E3_0 := iterT (pS3_0 k) k s
def m3_0 (k : Nat) : LamS := lamT 0 dS3_0 (l3_0 k) (elAll _) tS3_0 xE3_0 VE3_0 HE3_0
theorem loop3_0 : isLoopAt Try.prog 3 0 = true := by kernel_rfl
theorem m3_0_ok (k : Nat) : LamSOk Try.prog (ntmpsAt Try.prog 3) 0 (.block 0 (.loop (loopAt Try.prog 3 0))) [(0, .rd 32), (1, .rd 32), (2, .any), (3, .any), (9, .rd 32), (10, .rd 32), (11, .own 32), (15, .own 32), (23, .any), (24, .any)] (m3_0 k) := lamT_ok (plan := plan) (kb := 0) (body_run noNum mixed (cf50_ok k) (Lm50_ok k) loop3_0) rfl dS3_0_ok dE3_0_ok (hel := elAll_ok) (pS3_0_run k) k
def Dl51 (k : Nat) : Delta := Dl50 k
def Lm51 (k : Nat) : FuncId → Nat → Option LamF := lCons 3 0 (lamBy plan [104, 105, 106, 107, 110, 111, 112, 113, 108, 109, 24] [(0, .rd 32), (1, .rd 32), (2, .any), (3, .any), (9, .rd 32), (10, .rd 32), (11, .own 32), (15, .own 32), (23, .any), (24, .any)] 0 (m3_0 k)) (Lm50 k)
theorem Dl51_ok (k : Nat) : DeltaOk Try.prog (Dl51 k) := Dl50_ok k
theorem Lm51_ok (k : Nat) : LamsOk Try.prog (Lm51 k) := lCons_ok (Lm50_ok k) loop3_0 (lamBy_ok (m3_0_ok k) (by kernel_rfl))
abbrev cf51 (k : Nat) : CallF := evF Try.prog (Dl51 k) (Lm51 k) 200 12
theorem cf51_ok (k : Nat) : CfOk Try.prog (cf51 k) := evF_ok noNum mixed (Dl51_ok k) (Lm51_ok k) 12
structure S3_2 where
  mk ::
  x0 : List GWindow
  x1 : List GWindow
  x2 : Int
  x3 : Int
  x9 : List GWindow
  x10 : List GWindow
  x23 : Bool
  x25 : Int
  h0 : List GWindow
def VS3_2 (s : S3_2) : List AV := [.dsl 32 s.x0, .dsl 32 s.x1, .int .i64 s.x2, .int .i64 s.x3, .dsl 32 s.x9, .dsl 32 s.x10, .slf 0, .bool s.x23, .int .i64 s.x25]
def HS3_2 (s : S3_2) : Heap := [(0, some (.row 32 s.h0))]
def dS3_2 (vs : List AV) (H : Heap) : Option S3_2 := match vs, H with
  | [bx0, bx1, .int .i64 x2, .int .i64 x3, bx9, bx10, .slf 0, .bool x23, .int .i64 x25], [(0, bh0)] => (match (dslD 32 bx0 : Option (List GWindow)) with | some x0 => (match (dslD 32 bx1 : Option (List GWindow)) with | some x1 => (match (dslD 32 bx9 : Option (List GWindow)) with | some x9 => (match (dslD 32 bx10 : Option (List GWindow)) with | some x10 => (match (rowD 32 bh0 : Option (List GWindow)) with | some h0 => some (⟨x0, x1, x2, x3, x9, x10, x23, x25, h0⟩ : S3_2) | none => none) | none => none) | none => none) | none => none) | none => none)
  | _, _ => none
theorem dS3_2_ok (vs : List AV) (H : Heap) (s : S3_2) (h : dS3_2 vs H = some s) : vs = VS3_2 s ∧ H = HS3_2 s := by
  unfold dS3_2 at h
  split at h
  · skip
    split at h
    · rename_i q
      have q := dslD_ok q
      subst q
      split at h
      · rename_i q
        have q := dslD_ok q
        subst q
        split at h
        · rename_i q
          have q := dslD_ok q
          subst q
          split at h
          · rename_i q
            have q := dslD_ok q
            subst q
            split at h
            · rename_i q
              have q := rowD_ok q
              subst q
              cases h; exact ⟨rfl, rfl⟩
            · cases h
          · cases h
        · cases h
      · cases h
    · cases h
  · cases h
def tS3_2 : AExit → List (Nat × Kd) := fun x => match x with
  | .normal => [(0, .rd 32), (1, .rd 32), (2, .any), (3, .any), (9, .rd 32), (10, .rd 32), (15, .own 32), (23, .any), (25, .any)]
  | .exit i => (match i with | 2 => [(0, .rd 32), (1, .rd 32), (2, .any), (3, .any), (9, .rd 32), (10, .rd 32), (23, .any)] | _ => [])
  | .ret => [(8, .any)]
  | _ => []
structure E3_2 where
  mk ::
  x0 : List GWindow
  x1 : List GWindow
  x2 : Int
  x3 : Int
  x9 : List GWindow
  x10 : List GWindow
  x23 : Bool
def VE3_2 (s : E3_2) : List AV := [.dsl 32 s.x0, .dsl 32 s.x1, .int .i64 s.x2, .int .i64 s.x3, .dsl 32 s.x9, .dsl 32 s.x10, .bool s.x23]
def HE3_2 (s : E3_2) : Heap := []
def dE3_2 (x : AExit) (vs : List AV) (H : Heap) : Option E3_2 := match x, vs, H with
  | .exit 2, [bx0, bx1, .int .i64 x2, .int .i64 x3, bx9, bx10, .bool x23], [] => (match (dslD 32 bx0 : Option (List GWindow)) with | some x0 => (match (dslD 32 bx1 : Option (List GWindow)) with | some x1 => (match (dslD 32 bx9 : Option (List GWindow)) with | some x9 => (match (dslD 32 bx10 : Option (List GWindow)) with | some x10 => some (⟨x0, x1, x2, x3, x9, x10, x23⟩ : E3_2) | none => none) | none => none) | none => none) | none => none)
  | _, _, _ => none
theorem dE3_2_ok (x : AExit) (vs : List AV) (H : Heap) (s : E3_2) (h : dE3_2 x vs H = some s) : x = .exit 2 ∧ vs = VE3_2 s ∧ H = HE3_2 s := by
  unfold dE3_2 at h
  split at h
  · skip
    split at h
    · rename_i q
      have q := dslD_ok q
      subst q
      split at h
      · rename_i q
        have q := dslD_ok q
        subst q
        split at h
        · rename_i q
          have q := dslD_ok q
          subst q
          split at h
          · rename_i q
            have q := dslD_ok q
            subst q
            cases h; exact ⟨rfl, rfl, rfl⟩
          · cases h
        · cases h
      · cases h
    · cases h
  · cases h
def xE3_2 (_ : E3_2) : AExit := .exit 2
def pS3_2 (k : Nat) (s : S3_2) : Option (S3_2 ⊕ E3_2) :=
  br (decide (S3_2.x25 s < (↑(List.length (S3_2.h0 s)) : Int)))
   (br (decide ((0 : Int) ≤ S3_2.x25 s ∧ S3_2.x25 s < (↑(List.length (S3_2.h0 s)) : Int)))
    (br (true && decide (Int.toNat (S3_2.x25 s) < List.length (S3_2.h0 s)))
     (some (Sum.inl (S3_2.mk (S3_2.x0 s) (S3_2.x1 s) (S3_2.x2 s) (S3_2.x3 s) (S3_2.x9 s) (S3_2.x10 s) (S3_2.x23 s) (IntKind.wrap IntKind.i64 (S3_2.x25 s + (1 : Int))) (List.set (S3_2.h0 s) (Int.toNat (S3_2.x25 s)) (GWindow.mk (77 : Int) (GWindow.src (List.getD (S3_2.h0 s) (Int.toNat (S3_2.x25 s)) default)) (GWindow.to (List.getD (S3_2.h0 s) (Int.toNat (S3_2.x25 s)) default)))))))
     (none))
    (none))
   (some (Sum.inr (E3_2.mk (S3_2.x0 s) (S3_2.x1 s) (S3_2.x2 s) (S3_2.x3 s) (S3_2.x9 s) (S3_2.x10 s) (S3_2.x23 s))))
theorem pS3_2_run (k : Nat) (s : S3_2) : evC (S3_2 ⊕ E3_2) Try.prog (ntmpsAt Try.prog 3) (cf51 k) ((Lm51 k) 3) 200 (loopAt Try.prog 3 2) (zipE [(0, .rd 32), (1, .rd 32), (2, .any), (3, .any), (9, .rd 32), (10, .rd 32), (15, .own 32), (23, .any), (25, .any)] (VS3_2 s)) (HS3_2 s) (List.length (HS3_2 s)) (cutS plan 0 tS3_2 (rndT dS3_2 dE3_2)) = pS3_2 k s := by kernel_rfl
def l3_2 (k : Nat) (s : S3_2) : Option E3_2 := iterT (pS3_2 k) k s
def m3_2 (k : Nat) : LamS := lamT 2 dS3_2 (l3_2 k) (elAll _) tS3_2 xE3_2 VE3_2 HE3_2
theorem loop3_2 : isLoopAt Try.prog 3 2 = true := by kernel_rfl
theorem m3_2_ok (k : Nat) : LamSOk Try.prog (ntmpsAt Try.prog 3) 0 (.block 2 (.loop (loopAt Try.prog 3 2))) [(0, .rd 32), (1, .rd 32), (2, .any), (3, .any), (9, .rd 32), (10, .rd 32), (15, .own 32), (23, .any), (25, .any)] (m3_2 k) := lamT_ok (plan := plan) (kb := 0) (body_run noNum mixed (cf51_ok k) (Lm51_ok k) loop3_2) rfl dS3_2_ok dE3_2_ok (hel := elAll_ok) (pS3_2_run k) k
def Dl52 (k : Nat) : Delta := Dl51 k
def Lm52 (k : Nat) : FuncId → Nat → Option LamF := lCons 3 2 (lamBy plan [114, 115, 116, 117, 120, 121, 122, 123, 118, 119, 25] [(0, .rd 32), (1, .rd 32), (2, .any), (3, .any), (9, .rd 32), (10, .rd 32), (15, .own 32), (23, .any), (25, .any)] 0 (m3_2 k)) (Lm51 k)
theorem Dl52_ok (k : Nat) : DeltaOk Try.prog (Dl52 k) := Dl51_ok k
theorem Lm52_ok (k : Nat) : LamsOk Try.prog (Lm52 k) := lCons_ok (Lm51_ok k) loop3_2 (lamBy_ok (m3_2_ok k) (by kernel_rfl))
abbrev cf52 (k : Nat) : CallF := evF Try.prog (Dl52 k) (Lm52 k) 200 12
theorem cf52_ok (k : Nat) : CfOk Try.prog (cf52 k) := evF_ok noNum mixed (Dl52_ok k) (Lm52_ok k) 12
def f3 (k : Nat) (x0 : List GWindow) (x1 : List GWindow) (x2 : Int) (x3 : Int) : Option R3 :=
  br (decide ((↑(List.length x0) : Int) > (110 : Int)))
   (some true)
   (br (decide ((↑(List.length x1) : Int) > (30 : Int)))
    (some true)
    (bindO (f11 k x0) fun r2998 =>
     bindO (f11 k x1) fun r2997 =>
      bindO (f12 k x0 x1) fun r2996 =>
       bindO (f13 k r2998 r2997) fun r2995 =>
        bindO (f14 k x0 x1) fun r2994 =>
         bindO (f15 k r2998 r2997) fun r2993 =>
          bindO (f16 k x0 x2 x3) fun r2992 =>
           bindO (f17 k r2998 x2 x3) fun r2991 =>
            bindO (f18 k (Prod.fst r2996) (Prod.fst r2995)) fun r2990 =>
             br r2990
              (br (Prod.snd r2996 == Prod.snd r2995)
               (bindO (f18 k (Prod.fst r2994) (Prod.fst r2993)) fun r2989 =>
                br r2989
                 (br (Prod.snd r2994 == Prod.snd r2993)
                  (br (Prod.fst r2992 == Prod.fst r2991)
                   (bindO (l3_0 k (S3_0.mk x0 x1 x2 x3 r2998 r2997 (Prod.snd r2992 == Prod.snd r2991) (0 : Int) (Prod.fst r2996) (Prod.fst r2994))) fun r2988 =>
                    bindO (l3_2 k (S3_2.mk (E3_0.x0 r2988) (E3_0.x1 r2988) (E3_0.x2 r2988) (E3_0.x3 r2988) (E3_0.x9 r2988) (E3_0.x10 r2988) (E3_0.x23 r2988) (0 : Int) (E3_0.h0 r2988))) fun r2987 =>
                     br (E3_2.x23 r2987)
                      (bindO (f20 k (E3_2.x0 r2987)) fun r2986 =>
                       bindO (f21 k (E3_2.x9 r2987)) fun r2985 =>
                        br (r2986 == r2985)
                         (bindO (f22 k (E3_2.x0 r2987) (E3_2.x2 r2987) (E3_2.x3 r2987)) fun r2984 =>
                          bindO (f23 k (E3_2.x9 r2987) (E3_2.x2 r2987) (E3_2.x3 r2987)) fun r2983 =>
                           br (r2984 == r2983)
                            (bindO (f24 k (E3_2.x0 r2987) (E3_2.x2 r2987)) fun r2982 =>
                             bindO (f25 k (E3_2.x9 r2987) (E3_2.x2 r2987)) fun r2981 =>
                              br (r2982 == r2981)
                               (bindO (f18 k (E3_2.x0 r2987) (E3_2.x9 r2987)) fun r2980 =>
                                br r2980
                                 (bindO (f18 k (E3_2.x1 r2987) (E3_2.x10 r2987)) fun r2979 =>
                                  some r2979)
                                 (some false))
                               (some false))
                            (some false))
                         (some false))
                      (some false))
                   (bindO (l3_0 k (S3_0.mk x0 x1 x2 x3 r2998 r2997 false (0 : Int) (Prod.fst r2996) (Prod.fst r2994))) fun r2972 =>
                    bindO (l3_2 k (S3_2.mk (E3_0.x0 r2972) (E3_0.x1 r2972) (E3_0.x2 r2972) (E3_0.x3 r2972) (E3_0.x9 r2972) (E3_0.x10 r2972) (E3_0.x23 r2972) (0 : Int) (E3_0.h0 r2972))) fun r2971 =>
                     br (E3_2.x23 r2971)
                      (bindO (f20 k (E3_2.x0 r2971)) fun r2970 =>
                       bindO (f21 k (E3_2.x9 r2971)) fun r2969 =>
                        br (r2970 == r2969)
                         (bindO (f22 k (E3_2.x0 r2971) (E3_2.x2 r2971) (E3_2.x3 r2971)) fun r2968 =>
                          bindO (f23 k (E3_2.x9 r2971) (E3_2.x2 r2971) (E3_2.x3 r2971)) fun r2967 =>
                           br (r2968 == r2967)
                            (bindO (f24 k (E3_2.x0 r2971) (E3_2.x2 r2971)) fun r2966 =>
                             bindO (f25 k (E3_2.x9 r2971) (E3_2.x2 r2971)) fun r2965 =>
                              br (r2966 == r2965)
                               (bindO (f18 k (E3_2.x0 r2971) (E3_2.x9 r2971)) fun r2964 =>
                                br r2964
                                 (bindO (f18 k (E3_2.x1 r2971) (E3_2.x10 r2971)) fun r2963 =>
                                  some r2963)
                                 (some false))
                               (some false))
                            (some false))
                         (some false))
                      (some false)))
                  (bindO (l3_0 k (S3_0.mk x0 x1 x2 x3 r2998 r2997 false (0 : Int) (Prod.fst r2996) (Prod.fst r2994))) fun r2956 =>
                   bindO (l3_2 k (S3_2.mk (E3_0.x0 r2956) (E3_0.x1 r2956) (E3_0.x2 r2956) (E3_0.x3 r2956) (E3_0.x9 r2956) (E3_0.x10 r2956) (E3_0.x23 r2956) (0 : Int) (E3_0.h0 r2956))) fun r2955 =>
                    br (E3_2.x23 r2955)
                     (bindO (f20 k (E3_2.x0 r2955)) fun r2954 =>
                      bindO (f21 k (E3_2.x9 r2955)) fun r2953 =>
                       br (r2954 == r2953)
                        (bindO (f22 k (E3_2.x0 r2955) (E3_2.x2 r2955) (E3_2.x3 r2955)) fun r2952 =>
                         bindO (f23 k (E3_2.x9 r2955) (E3_2.x2 r2955) (E3_2.x3 r2955)) fun r2951 =>
                          br (r2952 == r2951)
                           (bindO (f24 k (E3_2.x0 r2955) (E3_2.x2 r2955)) fun r2950 =>
                            bindO (f25 k (E3_2.x9 r2955) (E3_2.x2 r2955)) fun r2949 =>
                             br (r2950 == r2949)
                              (bindO (f18 k (E3_2.x0 r2955) (E3_2.x9 r2955)) fun r2948 =>
                               br r2948
                                (bindO (f18 k (E3_2.x1 r2955) (E3_2.x10 r2955)) fun r2947 =>
                                 some r2947)
                                (some false))
                              (some false))
                           (some false))
                        (some false))
                     (some false)))
                 (bindO (l3_0 k (S3_0.mk x0 x1 x2 x3 r2998 r2997 false (0 : Int) (Prod.fst r2996) (Prod.fst r2994))) fun r2940 =>
                  bindO (l3_2 k (S3_2.mk (E3_0.x0 r2940) (E3_0.x1 r2940) (E3_0.x2 r2940) (E3_0.x3 r2940) (E3_0.x9 r2940) (E3_0.x10 r2940) (E3_0.x23 r2940) (0 : Int) (E3_0.h0 r2940))) fun r2939 =>
                   br (E3_2.x23 r2939)
                    (bindO (f20 k (E3_2.x0 r2939)) fun r2938 =>
                     bindO (f21 k (E3_2.x9 r2939)) fun r2937 =>
                      br (r2938 == r2937)
                       (bindO (f22 k (E3_2.x0 r2939) (E3_2.x2 r2939) (E3_2.x3 r2939)) fun r2936 =>
                        bindO (f23 k (E3_2.x9 r2939) (E3_2.x2 r2939) (E3_2.x3 r2939)) fun r2935 =>
                         br (r2936 == r2935)
                          (bindO (f24 k (E3_2.x0 r2939) (E3_2.x2 r2939)) fun r2934 =>
                           bindO (f25 k (E3_2.x9 r2939) (E3_2.x2 r2939)) fun r2933 =>
                            br (r2934 == r2933)
                             (bindO (f18 k (E3_2.x0 r2939) (E3_2.x9 r2939)) fun r2932 =>
                              br r2932
                               (bindO (f18 k (E3_2.x1 r2939) (E3_2.x10 r2939)) fun r2931 =>
                                some r2931)
                               (some false))
                             (some false))
                          (some false))
                       (some false))
                    (some false)))
               (bindO (l3_0 k (S3_0.mk x0 x1 x2 x3 r2998 r2997 false (0 : Int) (Prod.fst r2996) (Prod.fst r2994))) fun r2924 =>
                bindO (l3_2 k (S3_2.mk (E3_0.x0 r2924) (E3_0.x1 r2924) (E3_0.x2 r2924) (E3_0.x3 r2924) (E3_0.x9 r2924) (E3_0.x10 r2924) (E3_0.x23 r2924) (0 : Int) (E3_0.h0 r2924))) fun r2923 =>
                 br (E3_2.x23 r2923)
                  (bindO (f20 k (E3_2.x0 r2923)) fun r2922 =>
                   bindO (f21 k (E3_2.x9 r2923)) fun r2921 =>
                    br (r2922 == r2921)
                     (bindO (f22 k (E3_2.x0 r2923) (E3_2.x2 r2923) (E3_2.x3 r2923)) fun r2920 =>
                      bindO (f23 k (E3_2.x9 r2923) (E3_2.x2 r2923) (E3_2.x3 r2923)) fun r2919 =>
                       br (r2920 == r2919)
                        (bindO (f24 k (E3_2.x0 r2923) (E3_2.x2 r2923)) fun r2918 =>
                         bindO (f25 k (E3_2.x9 r2923) (E3_2.x2 r2923)) fun r2917 =>
                          br (r2918 == r2917)
                           (bindO (f18 k (E3_2.x0 r2923) (E3_2.x9 r2923)) fun r2916 =>
                            br r2916
                             (bindO (f18 k (E3_2.x1 r2923) (E3_2.x10 r2923)) fun r2915 =>
                              some r2915)
                             (some false))
                           (some false))
                        (some false))
                     (some false))
                  (some false)))
              (bindO (l3_0 k (S3_0.mk x0 x1 x2 x3 r2998 r2997 false (0 : Int) (Prod.fst r2996) (Prod.fst r2994))) fun r2908 =>
               bindO (l3_2 k (S3_2.mk (E3_0.x0 r2908) (E3_0.x1 r2908) (E3_0.x2 r2908) (E3_0.x3 r2908) (E3_0.x9 r2908) (E3_0.x10 r2908) (E3_0.x23 r2908) (0 : Int) (E3_0.h0 r2908))) fun r2907 =>
                br (E3_2.x23 r2907)
                 (bindO (f20 k (E3_2.x0 r2907)) fun r2906 =>
                  bindO (f21 k (E3_2.x9 r2907)) fun r2905 =>
                   br (r2906 == r2905)
                    (bindO (f22 k (E3_2.x0 r2907) (E3_2.x2 r2907) (E3_2.x3 r2907)) fun r2904 =>
                     bindO (f23 k (E3_2.x9 r2907) (E3_2.x2 r2907) (E3_2.x3 r2907)) fun r2903 =>
                      br (r2904 == r2903)
                       (bindO (f24 k (E3_2.x0 r2907) (E3_2.x2 r2907)) fun r2902 =>
                        bindO (f25 k (E3_2.x9 r2907) (E3_2.x2 r2907)) fun r2901 =>
                         br (r2902 == r2901)
                          (bindO (f18 k (E3_2.x0 r2907) (E3_2.x9 r2907)) fun r2900 =>
                           br r2900
                            (bindO (f18 k (E3_2.x1 r2907) (E3_2.x10 r2907)) fun r2899 =>
                             some r2899)
                            (some false))
                          (some false))
                       (some false))
                    (some false))
                 (some false))))
theorem f3_run (k : Nat) (x0 : List GWindow) (x1 : List GWindow) (x2 : Int) (x3 : Int) : cf52 k R3 3 (A3 (x0, x1, x2, x3)) [] 0 (endR planR (.any) [] 0 r3) = f3 k x0 x1 x2 x3 := by kernel_rfl
def g3 (k : Nat) : CallS := entT d3 (fun p => f3 k p.1 p.2.1 p.2.2.1 p.2.2.2) (elAll _) (fun _ => o3) (fun _ => u3) (fun _ => n3)
theorem g3_ok (k : Nat) : CallSOk Try.prog 3 (g3 k) := entry_ok (Hp := fun _ => []) (oR := fun _ => o3) (uR := fun _ => u3) (nR := fun _ => n3) (cf52_ok k) d3_ok r3_ok (hel := elAll_ok) (fun p => f3_run k p.1 p.2.1 p.2.2.1 p.2.2.2)
abbrev P5 := List GWindow × List GWindow
def d5 (a : List AV) (H : Heap) : Option P5 := match a, H with
  | [ba0, ba1], [] => (match (dslD 32 ba0 : Option (List GWindow)) with | some a0 => (match (dslD 32 ba1 : Option (List GWindow)) with | some a1 => some (a0, a1) | none => none) | none => none)
  | _, _ => none
abbrev R5 := Bool
def o5 (r : R5) : AEnd := .ret (.bool r)
def u5 (r : R5) : Heap := []
def n5 (_ : R5) : Nat := 0
def r5 (o : AEnd) (u : Heap) (n : Nat) : Option R5 := match o, u, n with
  | .ret (.bool a0), [], 0 => some (a0)
  | _, _, _ => none
structure S5_0 where
  mk ::
  x1 : List GWindow
  x5 : List GWindow
  x6 : Int
  x7 : List GWindow
  x8 : Int
  x9 : List GWindow
  x10 : List GWindow
  x11 : Int
structure E5_0 where
  mk ::
  x4 : Bool
structure E5_0b where
  mk ::
  x1 : List GWindow
  x5 : List GWindow
  x6 : Int
  x7 : List GWindow
  x8 : Int
  x9 : List GWindow
  x10 : List GWindow
abbrev EE5_0 := E5_0 ⊕ E5_0b
def pS5_0 (k : Nat) (s : S5_0) : Option (S5_0 ⊕ EE5_0) :=
  br (decide (S5_0.x11 s ≥ (0 : Int)))
   (br (decide ((0 : Int) ≤ S5_0.x11 s ∧ S5_0.x11 s < (↑(List.length (S5_0.x1 s)) : Int)))
    (bindO (f12 k (S5_0.x9 s) [List.getD (S5_0.x1 s) (Int.toNat (S5_0.x11 s)) default]) fun r1500 =>
     br (decide ((0 : Int) ≤ S5_0.x11 s ∧ S5_0.x11 s < (↑(List.length (S5_0.x1 s)) : Int)))
      (bindO (f14 k (S5_0.x10 s) [List.getD (S5_0.x1 s) (Int.toNat (S5_0.x11 s)) default]) fun r1499 =>
       br (Prod.snd r1500 != (0 : Int))
        (some (Sum.inr (Sum.inl (E5_0.mk true))))
        (br (Prod.snd r1499 != (0 : Int))
         (some (Sum.inr (Sum.inl (E5_0.mk true))))
         (some (Sum.inl (S5_0.mk (S5_0.x1 s) (S5_0.x5 s) (S5_0.x6 s) (S5_0.x7 s) (S5_0.x8 s) (Prod.fst r1500) (Prod.fst r1499) (IntKind.wrap IntKind.i64 (S5_0.x11 s - (1 : Int))))))))
      (none))
    (none))
   (some (Sum.inr (Sum.inr (E5_0b.mk (S5_0.x1 s) (S5_0.x5 s) (S5_0.x6 s) (S5_0.x7 s) (S5_0.x8 s) (S5_0.x9 s) (S5_0.x10 s)))))
def l5_0 (k : Nat) (s : S5_0) : Option EE5_0 := iterT (pS5_0 k) k s
def f5 (k : Nat) (x0 : List GWindow) (x1 : List GWindow) : Option R5 :=
  br (decide ((↑(List.length x0) : Int) > (60 : Int)))
   (some true)
   (br (decide ((↑(List.length x1) : Int) > (20 : Int)))
    (some true)
    (bindO (f12 k x0 x1) fun r2998 =>
     bindO (f14 k x0 x1) fun r2997 =>
      bindO (l5_0 k (S5_0.mk x1 (Prod.fst r2998) (Prod.snd r2998) (Prod.fst r2997) (Prod.snd r2997) x0 x0 (IntKind.wrap IntKind.i64 ((↑(List.length x1) : Int) - (1 : Int))))) fun r2996 =>
       match r2996 with
       | .inl c2995 => some (E5_0.x4 c2995)
       | .inr c2995 => br (E5_0b.x6 c2995 != (0 : Int))
         (br (E5_0b.x8 c2995 != (0 : Int))
          (some true)
          (bindO (f18 k (E5_0b.x7 c2995) (E5_0b.x10 c2995)) fun r2992 =>
           br r2992
            (some true)
            (some ((↑(List.length (E5_0b.x1 c2995)) : Int) == (0 : Int)))))
         (bindO (f18 k (E5_0b.x5 c2995) (E5_0b.x9 c2995)) fun r2989 =>
          br r2989
           (br (E5_0b.x8 c2995 != (0 : Int))
            (some true)
            (bindO (f18 k (E5_0b.x7 c2995) (E5_0b.x10 c2995)) fun r2987 =>
             br r2987
              (some true)
              (some ((↑(List.length (E5_0b.x1 c2995)) : Int) == (0 : Int)))))
           (br ((↑(List.length (E5_0b.x1 c2995)) : Int) == (0 : Int))
            (br (E5_0b.x8 c2995 != (0 : Int))
             (some true)
             (bindO (f18 k (E5_0b.x7 c2995) (E5_0b.x10 c2995)) fun r2983 =>
              br r2983
               (some true)
               (some ((↑(List.length (E5_0b.x1 c2995)) : Int) == (0 : Int)))))
            (some false)))))
def g5 (k : Nat) : CallS := entT d5 (fun p => f5 k p.1 p.2) (elAll _) (fun _ => o5) (fun _ => u5) (fun _ => n5)
end
end Go.Proofs.Ytaooefnmdlajcaa

end
section
set_option linter.unusedVariables false
set_option linter.unusedSimpArgs false
namespace Go.Proofs.Ytaooefnmdlajcaa
open Go Go.Eng
theorem in_at {i n : Nat} (h : i < n) : decide ((0 : Int) ≤ (i : Int) ∧ (i : Int) < (n : Int)) = true := decide_eq_true (by omega)
theorem lt_at {i n : Nat} (h : i < n) : decide ((i : Int) < (n : Int)) = true := decide_eq_true (by omega)
theorem prev_ok {i : Nat} (h1 : i < 1000000) : IntKind.wrap .i64 (((i + 1 : Nat) : Int) - 1) = (i : Int) := by rw [wrap_ok (by omega) (by omega)]; omega
theorem br_nt {R : Type} (x y : Option R) : br (!true) x y = y := rfl
theorem br_nf {R : Type} (x y : Option R) : br (!false) x y = x := rfl
theorem f75_ok (k : Nat) (w : Win) : f75 k w = some (decide (May w)) := by
  unfold f75
  simp only [br_if, decide_eq_true_eq]
  repeat' split
  all_goals
    congr 1
    first
    | (rw [decide_eq_decide]; unfold May; omega)
    | (symm; rw [decide_eq_false_iff_not]; unfold May; omega)
theorem f45_ok (k : Nat) (w : Win) : f45 k w = some (decide (May w)) := by
  unfold f45
  simp only [br_if, decide_eq_true_eq]
  repeat' split
  all_goals
    congr 1
    first
    | (rw [decide_eq_decide]; unfold May; omega)
    | (symm; rw [decide_eq_false_iff_not]; unfold May; omega)
theorem f74_ok (k : Nat) (w : Win) : f74 k w = some (!decide (May w)) := by
  unfold f74
  rw [f75_ok, bindO_some]
theorem all_getD {l : List Win} {P : Win → Prop} : (∀ w ∈ l, P w) ↔ ∀ i, i < l.length → P (l.getD i default) :=
  ⟨fun h i hi => h _ (getD_mem hi), fun h w hw => by obtain ⟨i, hi, rfl⟩ := mem_getD hw; exact h i hi⟩
theorem f37_ok {k : Nat} {l : List Win} (hk : l.length < k) (hl : l.length ≤ 100000) : f37 k l = some (decide (∀ w ∈ l, May w)) := by
  obtain ⟨e, h1, h2⟩ := iter_cases (stp := pS83_0 k) (fun i => S83_0.mk l (l.length : Int) (i : Int)) l.length (fun i => May (l.getD i default)) (Qb := fun e => ∃ i : Nat, e = .inl (E83_0.mk (i : Int))) (Qe := fun e => ∃ x, e = .inr x)
    (by
      intro i hi hg
      unfold pS83_0
      simp only [Int.toNat_natCast]
      rw [br_t (lt_at hi), br_t (in_at hi), f74_ok, bindO_some, decide_eq_true (hg i (Nat.le_refl _)), br_nt, next_ok (by omega)])
    (by
      intro i hi _ hg
      unfold pS83_0
      simp only [Int.toNat_natCast]
      rw [br_t (lt_at hi), br_t (in_at hi), f74_ok, bindO_some, decide_eq_false hg, br_nf]
      exact ⟨_, rfl, i, rfl⟩)
    (by
      intro _
      unfold pS83_0
      simp only
      rw [br_f (by simp)]
      exact ⟨_, rfl, _, rfl⟩) k hk
  unfold f37 l83_0
  have e0 : (((0 : Nat) : Int)) = 0 := rfl
  simp only [e0] at h1
  rw [h1, bindO_some]
  rw [decide_eq_decide.2 (all_getD (l := l) (P := May))]
  rcases h2 with ⟨⟨i, hi, hg⟩, j, rfl⟩ | ⟨hg, x, rfl⟩
  · simp only
    congr 1
    rw [decide_eq_true (by omega), decide_eq_false (fun h => hg (h i hi))]
    rfl
  · simp only
    congr 1
    rw [decide_eq_true hg]
instance (a b : Win) : Decidable (Lt a b) := inferInstanceAs (Decidable (_ ∨ _ ∧ _))
theorem good_iff (l : List Win) : Good l ↔ (∀ i, i < l.length - 1 → Lt (l.getD i default) (l.getD (i + 1) default)) ∧ ∀ w ∈ l, May w := by
  unfold Good Canon
  have gd : ∀ (i : Nat) (h : i < l.length), l.getD i default = l[i] := fun i h => by rw [List.getD_eq_getElem?_getD, List.getElem?_eq_getElem h]; rfl
  constructor
  · rintro ⟨⟨h1, h2⟩, h3⟩
    refine ⟨fun i hi => ?_, h3⟩
    rw [gd i (by omega), gd (i + 1) (by omega)]
    exact List.pairwise_iff_getElem.1 h1 i (i + 1) (by omega) (by omega) (by omega)
  · rintro ⟨a, m⟩
    refine ⟨⟨?_, fun w hw => (m w hw).lt⟩, m⟩
    refine List.pairwise_iff_getElem.2 ?_
    have key : ∀ (d i j : Nat) (hi : i < l.length) (hj : j < l.length), j = i + d + 1 → Lt l[i] l[j] := by
      intro d
      induction d with
      | zero =>
        intro i j hi hj e
        subst e
        have := a i (by omega)
        rw [gd i (by omega), gd (i + 1) (by omega)] at this
        exact this
      | succ d ih =>
        intro i j hi hj e
        subst e
        have h1 := ih i (i + d + 1) hi (by omega) rfl
        have h2 := a (i + d + 1) (by omega)
        rw [gd _ (by omega), gd _ (by omega)] at h2
        exact h1.trans' (m _ (List.getElem_mem (by omega))).lt h2
    intro i j hi hj hij
    exact key (j - i - 1) i j hi hj (by omega)
noncomputable instance (l : List Win) : Decidable (Good l) := Classical.propDecidable _
def Right (l : List Win) : Prop := l.length ≤ 100 ∧ Good l
noncomputable instance (l : List Win) : Decidable (Right l) := Classical.propDecidable _
theorem f20_ok {k : Nat} {l : List Win} (hk : l.length < k) (hl : l.length ≤ 100000) : f20 k l = some (decide (Right l)) := by
  obtain ⟨e, h1, h2⟩ := iter_cases (stp := pS20_0 k) (fun i => S20_0.mk l ((i + 1 : Nat) : Int)) (l.length - 1) (fun i => Lt (l.getD i default) (l.getD (i + 1) default)) (Qb := fun e => e = .inl (E20_0.mk false)) (Qe := fun e => e = .inr (E20_0b.mk l))
    (by
      intro i hi hg
      have hg := hg i (Nat.le_refl _)
      unfold pS20_0
      simp only [Int.toNat_natCast, prev_ok (show i < 1000000 by omega)]
      rw [br_t (lt_at (by omega)), br_t (in_at (by omega)), br_t (in_at (by omega))]
      unfold Lt at hg
      rw [br_f (decide_eq_false (by omega))]
      by_cases q : (l.getD i default).bed = (l.getD (i + 1) default).bed
      · rw [br_t (beq_iff_eq.2 q), br_f (decide_eq_false (by omega)), next_ok (by omega)]
      · rw [br_f (beq_eq_false_iff_ne.2 q), next_ok (by omega)])
    (by
      intro i hi _ hg
      unfold pS20_0
      simp only [Int.toNat_natCast, prev_ok (show i < 1000000 by omega)]
      rw [br_t (lt_at (by omega)), br_t (in_at (by omega)), br_t (in_at (by omega))]
      unfold Lt at hg
      by_cases q : (l.getD i default).bed > (l.getD (i + 1) default).bed
      · rw [br_t (decide_eq_true q)]; exact ⟨_, rfl, rfl⟩
      · rw [br_f (decide_eq_false q)]
        rw [br_t (beq_iff_eq.2 (by omega)), br_t (decide_eq_true (by omega))]
        exact ⟨_, rfl, rfl⟩)
    (by
      intro _
      unfold pS20_0
      simp only
      rw [br_f (decide_eq_false (by omega))]
      exact ⟨_, rfl, rfl⟩) k (by omega)
  unfold f20 l20_0
  have e0 : (((0 + 1 : Nat) : Int)) = 1 := rfl
  simp only [e0] at h1
  rw [h1, bindO_some]
  rcases h2 with ⟨⟨i, hi, hg⟩, rfl⟩ | ⟨hg, rfl⟩
  · simp only
    congr 1
    rw [decide_eq_false]
    rintro ⟨_, h⟩
    exact hg (((good_iff l).1 h).1 i hi)
  · simp only
    by_cases q : l.length ≤ 100
    · rw [br_t (decide_eq_true (by omega)), f37_ok hk hl, bindO_some]
      congr 1
      rw [decide_eq_decide]
      unfold Right
      rw [good_iff]
      exact ⟨fun h => ⟨q, hg, h⟩, fun h => h.2.2⟩
    · rw [br_f (decide_eq_false (by omega))]
      congr 1
      rw [decide_eq_false]
      exact fun h => q h.1
theorem f40_ok {k : Nat} {a b : List Win} (hk : 2 < k) (ha : a.length ≤ 100000) (hb : b.length ≤ 100000) : f40 k [a, b] = some (a ++ b) := by
  have h1 := iter_to (stp := pS40_0 k) (fun i => S40_0.mk [a, b] ((if i = 0 then 0 else if i = 1 then a.length else a.length + b.length : Nat) : Int) [a, b] 2 (i : Int)) 2 (e := E40_0.mk [a, b] ((a.length + b.length : Nat) : Int))
    (by
      intro i hi
      rcases (show i = 0 ∨ i = 1 by omega) with rfl | rfl
      · unfold pS40_0
        simp only [Int.toNat_natCast]
        have e : IntKind.wrap IntKind.i64 (((0 : Nat) : Int) + (([a, b].getD 0 default).length : Int)) = ((a.length : Nat) : Int) := by rw [wrap_ok (by omega) (by simp; omega)]; simp
        rw [br_t (decide_eq_true (by omega)), br_t (decide_eq_true (by simp))]
        simp only [if_pos, e]
        rw [br_f (decide_eq_false (by omega)), next_ok (by omega)]
        rfl
      · unfold pS40_0
        simp only [Int.toNat_natCast]
        have e : IntKind.wrap IntKind.i64 ((a.length : Int) + (([a, b].getD 1 default).length : Int)) = ((a.length + b.length : Nat) : Int) := by rw [wrap_ok (by omega) (by simp; omega)]; simp
        rw [br_t (decide_eq_true (by omega)), br_t (decide_eq_true (by simp))]
        simp only [show ¬ (1 : Nat) = 0 by decide, if_neg, if_pos, not_false_iff, e]
        rw [br_f (decide_eq_false (by omega)), next_ok (by omega)]
        rfl)
    (by
      unfold pS40_0
      simp only
      rw [br_f (decide_eq_false (by omega))]
      rfl) k (by omega)
  have h2 := iter_to (stp := pS40_2 k) (fun i => S40_2.mk [a, b] 2 (i : Int) (if i = 0 then [] else if i = 1 then a else a ++ b)) 2 (e := E40_2.mk (a ++ b))
    (by
      intro i hi
      rcases (show i = 0 ∨ i = 1 by omega) with rfl | rfl
      · unfold pS40_2
        simp only [Int.toNat_natCast]
        rw [br_t (decide_eq_true (by omega)), br_t (decide_eq_true (by simp)), br_t (by simp; omega), next_ok (by omega)]
        simp
      · unfold pS40_2
        simp only [Int.toNat_natCast]
        rw [br_t (decide_eq_true (by omega)), br_t (decide_eq_true (by simp)), br_t (by simp; omega), next_ok (by omega)]
        simp)
    (by
      unfold pS40_2
      simp only
      rw [br_f (decide_eq_false (by omega))]
      rfl) k (by omega)
  unfold f40 l40_0
  have e0 : (((0 : Nat) : Int)) = 0 := rfl
  simp only [e0, if_pos] at h1 h2
  have e2 : (([a, b].length : Nat) : Int) = 2 := rfl
  simp only [e2]
  rw [h1, bindO_some]
  simp only [e2]
  have ew : IntKind.wrap IntKind.i64 (((a.length + b.length : Nat) : Int) - 0) = ((a.length + b.length : Nat) : Int) := by rw [wrap_ok (by omega) (by omega)]; omega
  rw [br_f (decide_eq_false (by omega)), ew]
  by_cases q : 0 < a.length + b.length
  · rw [br_t (decide_eq_true (by omega)), br_t (decide_eq_true (by omega))]
    unfold l40_2
    simp only [List.take_zero]
    rw [h2, bindO_some]
  · rw [br_f (decide_eq_false (by omega))]
    unfold l40_2
    rw [h2, bindO_some]
def toldW (l : List Win) : List Win × Int := if l.length > 100 then ([], 81) else (l, 0)
noncomputable def addR (l m : List Win) : List Win × Int := if Right l ∧ ∀ w ∈ m, May w then toldW (joinW (l ++ m)) else ([], 1)
theorem goodL_ok {l : List Win} (h : l.length ≤ 1000) (hm : ∀ w ∈ l, May w) : fJoin l = some (joinW l) := by
  unfold fJoin goodL
  rw [br_t]
  simp only [Bool.and_eq_true, decide_eq_true_eq, List.all_eq_true]
  exact ⟨h, fun w hw => (hm w hw).lt⟩
theorem told_br (l : List Win) : br (decide ((l.length : Int) > 100)) (some (([], 81) : List Win × Int)) (some (l, 0)) = some (toldW l) := by
  unfold toldW
  by_cases q : l.length > 100
  · rw [br_t (decide_eq_true (by omega)), if_pos q]
  · rw [br_f (decide_eq_false (by omega)), if_neg q]
theorem f12_ok {k : Nat} {l m : List Win} (hk : l.length < k ∧ m.length < k ∧ 2 < k) (hl : l.length ≤ 100000) (hm : m.length ≤ 900) : f12 k l m = some (addR l m) := by
  unfold f12 addR
  rw [f20_ok hk.1 hl, bindO_some]
  by_cases h : Right l
  · rw [decide_eq_true h, br_nt, f37_ok hk.2.1 (by omega), bindO_some]
    by_cases h2 : ∀ w ∈ m, May w
    · have hlen := h.1
      rw [decide_eq_true h2, br_nt, f40_ok hk.2.2 (by omega) (by omega), bindO_some, goodL_ok (by rw [List.length_append]; omega) (fun w hw => (List.mem_append.1 hw).elim (h.2.2 w) (h2 w)), bindO_some, told_br, if_pos ⟨h, h2⟩]
    · rw [decide_eq_false h2, br_nf, if_neg (fun q => h2 q.2)]
  · rw [decide_eq_false h, br_nf, if_neg (fun q => h q.1)]
end Go.Proofs.Ytaooefnmdlajcaa

end
section
set_option linter.unusedVariables false
set_option linter.unusedSimpArgs false
namespace Go.Proofs.Ytaooefnmdlajcaa
instance hasDec (l : List Win) (b t : Int) : Decidable (Has l b t) := inferInstanceAs (Decidable (∃ w ∈ l, HasW w b t))
def putL (n : Int) : List Int → List Int
  | [] => [n]
  | x :: l => if x < n then x :: putL n l else if x = n then x :: l else n :: x :: l
theorem putL_mem (n y : Int) : ∀ l, y ∈ putL n l ↔ y = n ∨ y ∈ l
  | [] => by simp [putL]
  | x :: l => by
    have := putL_mem n y l
    unfold putL
    split
    · rw [List.mem_cons, this, List.mem_cons]; exact or_left_comm
    · split
      · rename_i h; subst h; simp
      · rw [List.mem_cons]
theorem putL_len (n : Int) : ∀ l, (putL n l).length ≤ l.length + 1
  | [] => by simp [putL]
  | x :: l => by
    have := putL_len n l
    unfold putL
    split
    · simp; omega
    · split <;> simp
theorem putL_sorted (n : Int) : ∀ l, l.Pairwise (· < ·) → (putL n l).Pairwise (· < ·)
  | [], _ => by simp [putL]
  | x :: l, h => by
    obtain ⟨h1, h2⟩ := List.pairwise_cons.1 h
    unfold putL
    split
    · rename_i hx
      refine List.pairwise_cons.2 ⟨fun y hy => ?_, putL_sorted n l h2⟩
      rcases (putL_mem n y l).1 hy with rfl | hy
      · exact hx
      · exact h1 y hy
    · split
      · exact h
      · refine List.pairwise_cons.2 ⟨fun y hy => ?_, h⟩
        rcases List.mem_cons.1 hy with rfl | hy
        · omega
        · have := h1 y hy; omega
def marksL (b : Int) : List Int → List Win → List Int
  | acc, [] => acc
  | acc, w :: l => if w.bed = b then marksL b (putL w.to (putL w.src acc)) l else marksL b acc l
theorem marksL_mem (b y : Int) : ∀ (l : List Win) (acc : List Int), y ∈ marksL b acc l ↔ y ∈ acc ∨ ∃ w ∈ l, w.bed = b ∧ (y = w.src ∨ y = w.to)
  | [], acc => by simp [marksL]
  | w :: l, acc => by
    unfold marksL
    split
    · rename_i h
      rw [marksL_mem b y l, putL_mem, putL_mem]
      constructor
      · rintro ((rfl | rfl | h1) | ⟨x, h1, h2⟩)
        · exact .inr ⟨w, by simp, h, .inr rfl⟩
        · exact .inr ⟨w, by simp, h, .inl rfl⟩
        · exact .inl h1
        · exact .inr ⟨x, by simp [h1], h2⟩
      · rintro (h1 | ⟨x, h1, h2, h3⟩)
        · exact .inl (.inr (.inr h1))
        · rcases List.mem_cons.1 h1 with rfl | h1
          · rcases h3 with rfl | rfl
            · exact .inl (.inr (.inl rfl))
            · exact .inl (.inl rfl)
          · exact .inr ⟨x, h1, h2, h3⟩
    · rename_i h
      rw [marksL_mem b y l]
      constructor
      · rintro (h1 | ⟨x, h1, h2⟩)
        · exact .inl h1
        · exact .inr ⟨x, by simp [h1], h2⟩
      · rintro (h1 | ⟨x, h1, h2, h3⟩)
        · exact .inl h1
        · rcases List.mem_cons.1 h1 with rfl | h1
          · exact absurd h2 h
          · exact .inr ⟨x, h1, h2, h3⟩
theorem marksL_sorted (b : Int) : ∀ (l : List Win) (acc : List Int), acc.Pairwise (· < ·) → (marksL b acc l).Pairwise (· < ·)
  | [], acc, h => h
  | w :: l, acc, h => by
    unfold marksL
    split
    · exact marksL_sorted b l _ (putL_sorted _ _ (putL_sorted _ _ h))
    · exact marksL_sorted b l _ h
theorem marksL_len (b : Int) : ∀ (l : List Win) (acc : List Int), (marksL b acc l).length ≤ acc.length + 2 * l.length
  | [], acc => by simp [marksL]
  | w :: l, acc => by
    unfold marksL
    split
    · have h1 := marksL_len b l (putL w.to (putL w.src acc))
      have h2 := putL_len w.to (putL w.src acc)
      have h3 := putL_len w.src acc
      rw [List.length_cons]; omega
    · have h1 := marksL_len b l acc
      rw [List.length_cons]; omega
def segsB (inn : Int → Bool) (b : Int) : List Int → List Win
  | x :: y :: r => (bif inn x then [⟨b, x, y⟩] else []) ++ segsB inn b (y :: r)
  | _ => []
theorem segsB_mem {inn : Int → Bool} {b : Int} : ∀ {K : List Int}, K.Pairwise (· < ·) → ∀ w ∈ segsB inn b K, w.bed = b ∧ w.src < w.to ∧ w.src ∈ K
  | [], _, w, h => by simp [segsB] at h
  | [x], _, w, h => by simp [segsB] at h
  | x :: y :: r, hp, w, h => by
    obtain ⟨h1, h2⟩ := List.pairwise_cons.1 hp
    unfold segsB at h
    rcases List.mem_append.1 h with h | h
    · cases hx : inn x with
      | true =>
        rw [hx] at h
        obtain rfl : w = ⟨b, x, y⟩ := by simpa using h
        exact ⟨rfl, h1 y (by simp), by simp⟩
      | false => rw [hx] at h; simp at h
    · obtain ⟨a, c, e⟩ := segsB_mem h2 w h
      exact ⟨a, c, by simp only [List.mem_cons] at e ⊢; exact .inr e⟩
theorem segsB_sorted {inn : Int → Bool} {b : Int} : ∀ {K : List Int}, K.Pairwise (· < ·) → (segsB inn b K).Pairwise LeK
  | [], _ => by simp [segsB]
  | [x], _ => by simp [segsB]
  | x :: y :: r, hp => by
    obtain ⟨h1, h2⟩ := List.pairwise_cons.1 hp
    have ih := @segsB_sorted inn b (y :: r) h2
    unfold segsB
    cases hx : inn x with
    | false => exact ih
    | true =>
      refine List.pairwise_append.2 ⟨by simp, ih, fun w hw z hz => ?_⟩
      obtain rfl : w = ⟨b, x, y⟩ := by simpa using hw
      obtain ⟨a, c, e⟩ := segsB_mem h2 z hz
      exact .inr ⟨a.symm, by have := h1 _ e; show x ≤ z.src; omega⟩
theorem segsB_len {inn : Int → Bool} {b : Int} : ∀ (K : List Int), (segsB inn b K).length ≤ K.length
  | [] => by simp [segsB]
  | [x] => by simp [segsB]
  | x :: y :: r => by
    have ih := @segsB_len inn b (y :: r)
    unfold segsB
    cases inn x <;> simp at ih ⊢ <;> omega
theorem segsB_has {inn : Int → Bool} {b : Int} : ∀ {K : List Int}, K.Pairwise (· < ·) → (∀ pre x y r, K = pre ++ x :: y :: r → ∀ t, x ≤ t → t < y → inn x = inn t) → ∀ t, (∀ x ∈ K.head?, x ≤ t) →
    (Has (segsB inn b K) b t ↔ inn t = true ∧ K ≠ [] ∧ ∃ y ∈ K, t < y)
  | [], _, _, t, _ => by simp [segsB, has_nil]
  | [x], _, _, t, ht => by
    have := ht x (by simp)
    simp [segsB, has_nil]; intro _; omega
  | x :: y :: r, hp, hc, t, ht => by
    obtain ⟨h1, h2⟩ := List.pairwise_cons.1 hp
    have hxt := ht x (by simp)
    have hxy := h1 y (by simp)
    unfold segsB
    rw [has_append]
    by_cases q : t < y
    · have e := hc [] x y r rfl t hxt q
      have no : ¬ Has (segsB inn b (y :: r)) b t := by
        rintro ⟨w, hw, a1, a2, a3⟩
        obtain ⟨_, _, c⟩ := segsB_mem h2 w hw
        rcases List.mem_cons.1 c with c | c
        · omega
        · have := (List.pairwise_cons.1 h2).1 _ c; omega
      rw [e]
      constructor
      · rintro (h | h)
        · cases hi : inn t with
          | true => exact ⟨rfl, by simp, y, by simp, q⟩
          | false => rw [hi] at h; exact absurd h (has_nil _ _)
        · exact absurd h no
      · rintro ⟨hi, _⟩
        rw [hi]
        exact .inl (has_one.2 ⟨rfl, hxt, q⟩)
    · have ih := @segsB_has inn b (y :: r) h2 (fun pre x' y' r' e => hc (x :: pre) x' y' r' (by rw [e]; rfl)) t (by intro z hz; have hz : y = z := (by simpa using hz); omega)
      have no : ¬ Has (bif inn x then [⟨b, x, y⟩] else []) b t := by
        cases inn x with
        | true => intro h; have := (has_one.1 h).2.2; exact q this
        | false => exact has_nil _ _
      constructor
      · rintro (h | h)
        · exact absurd h no
        · obtain ⟨i1, _, z, hz, i2⟩ := ih.1 h
          exact ⟨i1, by simp, z, by simp only [List.mem_cons] at hz ⊢; exact .inr hz, i2⟩
      · rintro ⟨i1, _, z, hz, i2⟩
        refine .inr (ih.2 ⟨i1, by simp, z, ?_, i2⟩)
        rcases List.mem_cons.1 hz with rfl | hz
        · omega
        · exact hz
def innF (l m : List Win) (both : Bool) (b t : Int) : Bool := bif both then decide (Has l b t) || decide (Has m b t) else decide (Has l b t) && !decide (Has m b t)
theorem jfold_bed (b : Int) : ∀ (segs out : List Win), (∀ w ∈ segs, w.bed ≤ b) → (∀ o ∈ out.getLast?, o.bed ≤ b) → ∀ o ∈ (segs.foldl jstep out).getLast?, o.bed ≤ b
  | [], out, _, h => h
  | w :: segs, out, hs, h => by
    refine jfold_bed b segs (jstep out w) (fun x hx => hs x (by simp [hx])) ?_
    have hw := hs w (by simp)
    rcases snoc_cases out with rfl | ⟨q, o, rfl⟩
    · intro o ho; rw [jstep_nil] at ho; obtain rfl : w = o := by simpa using ho
      exact hw
    · have h0 := h o (by simp)
      intro z hz
      rw [jstep_snoc] at hz
      split at hz
      · obtain rfl : _ = z := by simpa using hz
        exact h0
      · obtain rfl : w = z := by simpa using hz
        exact hw
def segsAll (l m : List Win) (both : Bool) : Nat → Nat → List Win
  | 0, _ => []
  | d + 1, b => segsB (innF l m both b) b (marksL b [] (l ++ m)) ++ segsAll l m both d (b + 1)
theorem segsAll_mem {l m : List Win} {both : Bool} : ∀ (d b : Nat), ∀ w ∈ segsAll l m both d b, (b : Int) ≤ w.bed ∧ w.src < w.to
  | 0, b, w, h => by simp [segsAll] at h
  | d + 1, b, w, h => by
    rcases List.mem_append.1 h with h | h
    · obtain ⟨h1, h2, _⟩ := segsB_mem (marksL_sorted b (l ++ m) [] .nil) w h
      exact ⟨by omega, h2⟩
    · obtain ⟨h1, h2⟩ := segsAll_mem d (b + 1) w h
      exact ⟨by omega, h2⟩
theorem segsAll_sorted {l m : List Win} {both : Bool} : ∀ (d b : Nat), (segsAll l m both d b).Pairwise LeK
  | 0, b => .nil
  | d + 1, b => by
    refine List.pairwise_append.2 ⟨segsB_sorted (marksL_sorted b (l ++ m) [] .nil), segsAll_sorted d (b + 1), fun x hx y hy => .inl ?_⟩
    have h1 := (segsB_mem (marksL_sorted b (l ++ m) [] .nil) x hx).1
    have h2 := (segsAll_mem d (b + 1) y hy).1
    omega
theorem segsAll_has {l m : List Win} {both : Bool} (c t : Int) : ∀ (d b : Nat), Has (segsAll l m both d b) c t ↔ (b : Int) ≤ c ∧ c < (b : Int) + d ∧ Has (segsB (innF l m both c) c (marksL c [] (l ++ m))) c t
  | 0, b => by simp [segsAll, has_nil]; omega
  | d + 1, b => by
    have ih := segsAll_has (l := l) (m := m) (both := both) c t d (b + 1)
    simp only [segsAll]
    rw [has_append, ih]
    constructor
    · rintro (h | ⟨h1, h2, h3⟩)
      · obtain ⟨w, hw, a1, a2⟩ := h
        have := (segsB_mem (marksL_sorted b (l ++ m) [] .nil) w hw).1
        have e : (b : Int) = c := by omega
        subst e
        exact ⟨Int.le_refl _, by omega, w, hw, a1, a2⟩
      · exact ⟨by omega, by omega, h3⟩
    · rintro ⟨h1, h2, h3⟩
      by_cases e : (b : Int) = c
      · subst e; exact .inl h3
      · exact .inr ⟨by omega, by omega, h3⟩
theorem inn_has {l m : List Win} {both : Bool} (c t : Int) : innF l m both c t = true → Has (l ++ m) c t := by
  unfold innF
  cases both with
  | true =>
    intro h
    simp only [cond_true, Bool.or_eq_true, decide_eq_true_eq] at h
    exact has_append.2 h
  | false =>
    intro h
    simp only [cond_false, Bool.and_eq_true, decide_eq_true_eq] at h
    exact has_append.2 (.inl h.1)
theorem marks_const {l m : List Win} {both : Bool} {c : Int} {pre : List Int} {x y : Int} {r : List Int} (e : marksL c [] (l ++ m) = pre ++ x :: y :: r) {t : Int} (h1 : x ≤ t) (h2 : t < y) : innF l m both c x = innF l m both c t := by
  have hs := marksL_sorted c (l ++ m) [] .nil
  have out : ∀ z ∈ marksL c [] (l ++ m), z ≤ x ∨ y ≤ z := by
    intro z hz
    rw [e] at hz hs
    obtain ⟨_, p2, p3⟩ := List.pairwise_append.1 hs
    obtain ⟨q1, q2⟩ := List.pairwise_cons.1 p2
    rcases List.mem_append.1 hz with hz | hz
    · have := p3 z hz x (by simp); omega
    · rcases List.mem_cons.1 hz with rfl | hz
      · omega
      · rcases List.mem_cons.1 hz with rfl | hz
        · omega
        · have := (List.pairwise_cons.1 q2).1 z hz; omega
  have one : ∀ w ∈ l ++ m, HasW w c x ↔ HasW w c t := by
    intro w hw
    unfold HasW
    by_cases hb : w.bed = c
    · have m1 := out w.src ((marksL_mem c w.src (l ++ m) []).2 (.inr ⟨w, hw, hb, .inl rfl⟩))
      have m2 := out w.to ((marksL_mem c w.to (l ++ m) []).2 (.inr ⟨w, hw, hb, .inr rfl⟩))
      omega
    · simp [hb]
  have row : ∀ q : List Win, (∀ w ∈ q, w ∈ l ++ m) → decide (Has q c x) = decide (Has q c t) := by
    intro q hq
    rw [decide_eq_decide]
    exact ⟨fun ⟨w, hw, h⟩ => ⟨w, hw, (one w (hq w hw)).1 h⟩, fun ⟨w, hw, h⟩ => ⟨w, hw, (one w (hq w hw)).2 h⟩⟩
  unfold innF
  rw [row l (fun w h => List.mem_append.2 (.inl h)), row m (fun w h => List.mem_append.2 (.inr h))]
theorem segs_inn {l m : List Win} {both : Bool} (c t : Int) : Has (segsB (innF l m both c) c (marksL c [] (l ++ m))) c t ↔ innF l m both c t = true := by
  have hs := marksL_sorted c (l ++ m) [] .nil
  have near : innF l m both c t = true → (∃ x ∈ marksL c [] (l ++ m), x ≤ t) ∧ ∃ y ∈ marksL c [] (l ++ m), t < y := by
    intro h
    obtain ⟨w, hw, a1, a2, a3⟩ := inn_has c t h
    exact ⟨⟨w.src, (marksL_mem c w.src (l ++ m) []).2 (.inr ⟨w, hw, a1, .inl rfl⟩), a2⟩, ⟨w.to, (marksL_mem c w.to (l ++ m) []).2 (.inr ⟨w, hw, a1, .inr rfl⟩), a3⟩⟩
  by_cases hh : ∀ x ∈ (marksL c [] (l ++ m)).head?, x ≤ t
  · rw [segsB_has hs (fun pre x y r e t h1 h2 => marks_const e h1 h2) t hh]
    constructor
    · exact fun h => h.1
    · intro h
      obtain ⟨⟨x, hx, _⟩, y, hy, hty⟩ := near h
      exact ⟨h, (fun e => by rw [e] at hx; cases hx), y, hy, hty⟩
  · have hh' : ∃ x r, marksL c [] (l ++ m) = x :: r ∧ t < x := by
      cases hK : marksL c [] (l ++ m) with
      | nil => rw [hK] at hh; exact absurd (by simp) hh
      | cons x r =>
        rw [hK] at hh
        exact ⟨x, r, rfl, Int.not_le.1 fun h => hh (by intro z hz; obtain rfl : x = z := by simpa using hz
                                                       exact h)⟩
    obtain ⟨x, r, e, hx⟩ := hh'
    have low : ∀ z ∈ marksL c [] (l ++ m), x ≤ z := by
      rw [e] at hs ⊢
      intro z hz
      rcases List.mem_cons.1 hz with rfl | hz
      · exact Int.le_refl _
      · have := (List.pairwise_cons.1 hs).1 z hz; omega
    constructor
    · rintro ⟨w, hw, a1, a2, a3⟩
      have := low w.src (segsB_mem hs w hw).2.2
      omega
    · intro h
      obtain ⟨⟨z, hz, hzt⟩, _⟩ := near h
      have := low z hz
      omega
theorem windows_ok {l m : List Win} {both : Bool} (hl : ∀ w ∈ l, May w) (hm : ∀ w ∈ m, May w) : Canon ((segsAll l m both 99 1).foldl jstep []) ∧ ∀ c t, Has ((segsAll l m both 99 1).foldl jstep []) c t ↔ innF l m both c t = true := by
  obtain ⟨h1, h2⟩ := joined_ok (fun w hw => (segsAll_mem 99 1 w hw).2) (segsAll_sorted (l := l) (m := m) (both := both) 99 1)
  refine ⟨h1, fun c t => ?_⟩
  rw [h2, segsAll_has, segs_inn]
  constructor
  · exact fun h => h.2.2
  · intro h
    have := has_may (l := l ++ m) (fun w hw => (List.mem_append.1 hw).elim (hl w) (hm w)) (inn_has c t h)
    exact ⟨by omega, by omega, h⟩
theorem windows_add {l m : List Win} (hl : ∀ w ∈ l, May w) (hm : ∀ w ∈ m, May w) : (segsAll l m true 99 1).foldl jstep [] = joinW (l ++ m) := by
  obtain ⟨h1, h2⟩ := windows_ok (both := true) hl hm
  obtain ⟨g1, g2⟩ := joinW_ok (l := l ++ m) fun w hw => ((List.mem_append.1 hw).elim (hl w) (hm w)).lt
  refine canon_unique h1 g1 fun c t => ?_
  rw [h2, g2, has_append]
  unfold innF
  simp
theorem windows_cut {l m : List Win} (hg : Canon l) (hl : ∀ w ∈ l, May w) (hm : ∀ w ∈ m, May w) : (segsAll l m false 99 1).foldl jstep [] = m.foldl cut1 l := by
  obtain ⟨h1, h2⟩ := windows_ok (both := false) hl hm
  obtain ⟨g1, g2⟩ := cuts_ok (fun w hw => (hm w hw).lt) hg
  refine canon_unique h1 g1 fun c t => ?_
  rw [h2, g2]
  unfold innF
  simp
end Go.Proofs.Ytaooefnmdlajcaa

end
section
set_option linter.unusedVariables false
set_option linter.unusedSimpArgs false
namespace Go.Proofs.Ytaooefnmdlajcaa
open Go Go.Eng
theorem bindO_eq {α R : Type} {x : Option α} {v : α} {f : α → Option R} {r : Option R} (h : x = some v) (h2 : f v = r) : bindO x f = r := by rw [h]; exact h2
theorem f42_ok (k : Nat) {l : List Win} (h : l.length ≤ 1000000000000) : f42 k l = some l := by
  unfold f42
  rw [br_t]
  · rfl
  · rw [Bool.true_and]; exact decide_eq_true (by omega)
theorem f43_ok (k : Nat) (a b : Win) : f43 k a b = some (withoutW a b) := by
  unfold f43 withoutW
  simp only [br_if, bne_iff_ne, decide_eq_true_eq]
  by_cases c0 : a.bed ≠ b.bed
  · rw [if_pos c0, if_pos (.inl c0)]
  · rw [if_neg c0]
    by_cases c1 : b.to ≤ a.src
    · rw [if_pos c1, if_pos (.inr (.inl c1))]
    · rw [if_neg c1]
      by_cases c2 : a.to ≤ b.src
      · rw [if_pos c2, if_pos (.inr (.inr c2))]
      · rw [if_neg c2, if_neg (show ¬ (a.bed ≠ b.bed ∨ b.to ≤ a.src ∨ a.to ≤ b.src) by omega)]
        by_cases c3 : a.src < b.src
        · by_cases c4 : b.to < a.to
          · simp only [if_pos c3, if_pos c4]
          · simp only [if_pos c3, if_neg c4, List.append_nil]
        · by_cases c4 : b.to < a.to
          · simp only [if_neg c3, if_pos c4, List.nil_append]
          · simp only [if_neg c3, if_neg c4, List.append_nil]
theorem without_len (a b : Win) : (withoutW a b).length ≤ 2 := by
  unfold withoutW
  repeat' split
  all_goals simp
theorem cut1_len (b : Win) : ∀ l : List Win, (cut1 l b).length ≤ 2 * l.length
  | [] => by simp [cut1]
  | a :: l => by
    have := cut1_len b l
    have h2 := without_len a b
    unfold cut1 at *
    rw [List.flatMap_cons, List.length_append, List.length_cons]
    omega
theorem cut_take {l : List Win} {b : Win} {i : Nat} (h : i < l.length) : cut1 (l.take (i + 1)) b = cut1 (l.take i) b ++ withoutW (l.getD i default) b := by
  unfold cut1
  rw [take_next h, List.flatMap_append, List.flatMap_singleton]
theorem l14_2_ok {k : Nat} {l m : List Win} {b : Win} {n j : Int} (hk : l.length < k) (hl : l.length ≤ 1000000000000) : l14_2 k (S14_2.mk m n j (l.length : Int) 0 b.bed b.src b.to [] l) = some (E14_2.mk m n j b.bed b.src b.to (cut1 l b)) := by
  have h1 := iter_to (stp := pS14_2 k) (fun i => S14_2.mk m n j (l.length : Int) (i : Int) b.bed b.src b.to (cut1 (l.take i) b) l) l.length (e := E14_2.mk m n j b.bed b.src b.to (cut1 l b))
    (by
      intro i hi
      unfold pS14_2
      simp only [Int.toNat_natCast]
      have hw : IntKind.wrap .i64 ((i : Int) + 1) = ((i + 1 : Nat) : Int) := by rw [wrap_ok (by omega) (by omega)]; omega
      rw [br_t (lt_at hi), br_t (in_at hi), br_t (decide_eq_true hi), f43_ok, bindO_some, hw]
      have h1 := cut1_len b (l.take i)
      rw [List.length_take] at h1
      have h2 := without_len (l.getD i default) b
      rw [br_t (by rw [Bool.true_and]; exact decide_eq_true (by show (List.length (cut1 (l.take i) b) + List.length (withoutW (l.getD i default) b)) * 24 ≤ _; omega)), cut_take hi])
    (by
      unfold pS14_2
      simp only
      rw [br_f (by simp), List.take_length]) k hk
  exact h1
theorem fold_take {α β : Type} [Inhabited α] (f : β → α → β) (x : β) {m : List α} {i : Nat} (h : i < m.length) : (m.take (i + 1)).foldl f x = f ((m.take i).foldl f x) (m.getD i default) := by
  rw [take_next h, List.foldl_append]
  rfl
theorem cuts_len : ∀ (m l : List Win), (m.foldl cut1 l).length ≤ l.length * 2 ^ m.length
  | [], l => by simp
  | b :: m, l => by
    have h1 := cuts_len m (cut1 l b)
    have h2 := Nat.mul_le_mul_right (2 ^ m.length) (cut1_len b l)
    rw [List.foldl_cons, List.length_cons, Nat.pow_succ, Nat.mul_comm (2 ^ m.length) 2, ← Nat.mul_assoc]
    rw [Nat.mul_comm l.length 2]
    omega
theorem l14_0_ok {k : Nat} {l m : List Win} (hk : l.length * 2 ^ m.length < k ∧ m.length < k) (hl : l.length * 2 ^ m.length ≤ 1000000000000) (hm : m.length ≤ 1000) : l14_0 k (S14_0.mk m (m.length : Int) 0 l) = some (E14_0.mk (m.foldl cut1 l)) := by
  have h1 := iter_to (stp := pS14_0 k) (fun i => S14_0.mk m (m.length : Int) (i : Int) ((m.take i).foldl cut1 l)) m.length (e := E14_0.mk (m.foldl cut1 l))
    (by
      intro i hi
      unfold pS14_0
      simp only [Int.toNat_natCast]
      have h1 := cuts_len (m.take i) l
      have h2 : l.length * 2 ^ (m.take i).length ≤ l.length * 2 ^ m.length := Nat.mul_le_mul_left _ (Nat.pow_le_pow_right (by decide) (by rw [List.length_take]; omega))
      rw [br_t (lt_at hi), br_t (in_at hi), l14_2_ok (b := m.getD i default) (by omega) (by omega), bindO_some, fold_take cut1 l hi, next_ok (by omega)])
    (by
      unfold pS14_0
      simp only
      rw [br_f (by simp), List.take_length]) k hk.2
  exact h1
noncomputable def cutR (l m : List Win) : List Win × Int := if Right l ∧ ∀ w ∈ m, May w then toldW (m.foldl cut1 l) else ([], 1)
theorem f14_ok {k : Nat} {l m : List Win} (hk : l.length < k ∧ m.length < k ∧ 200000000000 < k) (hl : l.length ≤ 100000) (hm : m.length ≤ 30) : f14 k l m = some (cutR l m) := by
  unfold f14 cutR
  rw [f20_ok hk.1 hl, bindO_some]
  by_cases h : Right l
  · rw [decide_eq_true h, br_nt, f37_ok hk.2.1 (by omega), bindO_some]
    by_cases h2 : ∀ w ∈ m, May w
    · have hlen := h.1
      have hp : 2 ^ m.length ≤ 2 ^ 30 := Nat.pow_le_pow_right (by decide) hm
      have hb : l.length * 2 ^ m.length ≤ 100 * 2 ^ 30 := Nat.mul_le_mul hlen hp
      rw [decide_eq_true h2, br_nt, if_pos ⟨h, h2⟩]
      refine bindO_eq (f42_ok k (by omega)) ?_
      rw [l14_0_ok ⟨by omega, hk.2.1⟩ (by omega) (by omega), bindO_some]
      simp only [told_br]
    · rw [decide_eq_false h2, br_nf, if_neg (fun q => h2 q.2)]
  · rw [decide_eq_false h, br_nf, if_neg (fun q => h q.1)]
theorem f85_ok (k : Nat) (w : Win) (b t : Int) : f85 k w b t = some (decide (HasW w b t)) := by
  unfold f85
  simp only [br_if, beq_iff_eq, decide_eq_true_eq]
  repeat' split
  all_goals
    congr 1
    first
    | (rw [decide_eq_decide]; unfold HasW; omega)
    | (symm; rw [decide_eq_false_iff_not]; unfold HasW; omega)
def idxW (b t : Int) : List Win → Nat
  | [] => 0
  | w :: l => if HasW w b t then 0 else idxW b t l + 1
theorem idxW_no (b t : Int) : ∀ (l : List Win) (i : Nat), i < idxW b t l → ¬ HasW (l.getD i default) b t
  | [], i, h => by simp [idxW] at h
  | w :: l, i, h => by
    unfold idxW at h
    split at h
    · omega
    · rename_i q
      match i with
      | 0 => exact q
      | i + 1 => exact idxW_no b t l i (by omega)
theorem idxW_yes (b t : Int) : ∀ (l : List Win), idxW b t l < l.length → HasW (l.getD (idxW b t l) default) b t
  | [], h => by simp at h
  | w :: l, h => by
    unfold idxW at h ⊢
    split
    · assumption
    · rename_i q
      rw [if_neg q, List.length_cons] at h
      exact idxW_yes b t l (by omega)
theorem idxW_has (b t : Int) (l : List Win) : Has l b t ↔ idxW b t l < l.length := by
  constructor
  · rintro ⟨w, hw, e⟩
    obtain ⟨i, hi, rfl⟩ := mem_getD hw
    refine Nat.lt_of_not_le fun q => ?_
    exact idxW_no b t l i (by omega) e
  · intro h
    exact ⟨_, getD_mem h, idxW_yes b t l h⟩
theorem f44_ok {k : Nat} {l : List Win} (b t : Int) (hk : l.length < k) (hl : l.length ≤ 100000) : (f44 k l b t : Option Int) = some (if idxW b t l < l.length then (idxW b t l : Int) else -1) := by
  obtain ⟨e, h1, h2⟩ := iter_cases (stp := pS83_0B k) (fun i => S83_0B.mk l (l.length : Int) (i : Int) b t) l.length (fun i => ¬ HasW (l.getD i default) b t) (Qb := fun e => ∃ i : Nat, e = .inl (E83_0B.mk (i : Int)) ∧ i < l.length ∧ HasW (l.getD i default) b t ∧ ∀ j, j < i → ¬ HasW (l.getD j default) b t) (Qe := fun e => ∃ x, e = .inr x)
    (by
      intro i hi hg
      unfold pS83_0B
      simp only [Int.toNat_natCast]
      rw [br_t (lt_at hi), br_t (in_at hi), f85_ok, bindO_some, decide_eq_false (hg i (Nat.le_refl _)), br_f rfl, next_ok (by omega)])
    (by
      intro i hi hlt hg
      unfold pS83_0B
      simp only [Int.toNat_natCast]
      have hg := Classical.not_not.1 hg
      rw [br_t (lt_at hi), br_t (in_at hi), f85_ok, bindO_some, decide_eq_true hg, br_t rfl]
      exact ⟨_, rfl, i, rfl, hi, hg, hlt⟩)
    (by
      intro _
      unfold pS83_0B
      simp only
      rw [br_f (by simp)]
      exact ⟨_, rfl, _, rfl⟩) k hk
  unfold f44 l83_0B
  have e0 : (((0 : Nat) : Int)) = 0 := rfl
  simp only [e0] at h1
  rw [h1, bindO_some]
  rcases h2 with ⟨_, j, rfl, hj, hy, hn⟩ | ⟨hg, x, rfl⟩
  · have e : idxW b t l = j := by
      rcases Nat.lt_trichotomy (idxW b t l) j with h | h | h
      · exact absurd (idxW_yes b t l (by omega)) (hn _ h)
      · exact h
      · exact absurd hy (idxW_no b t l j h)
    simp only
    rw [e, if_pos hj]
  · simp only
    rw [if_neg (fun h => hg _ h (idxW_yes b t l h))]
theorem f22_ok {k : Nat} {l : List Win} (b t : Int) (hk : l.length < k) (hl : l.length ≤ 100000) : f22 k l b t = some (decide (Has l b t)) := by
  unfold f22 R44
  refine bindO_eq (f44_ok b t hk hl) ?_
  congr 1
  rw [decide_eq_decide, idxW_has]
  split <;> omega
def tillW (b t : Int) (l : List Win) : Int × Bool := if idxW b t l < l.length then ((l.getD (idxW b t l) default).to, true) else (0, false)
theorem f16_ok {k : Nat} {l : List Win} (b t : Int) (hk : l.length < k) (hl : l.length ≤ 100000) : f16 k l b t = some (tillW b t l) := by
  unfold f16 tillW R44
  refine bindO_eq (f44_ok b t hk hl) ?_
  by_cases q : idxW b t l < l.length
  · rw [if_pos q, if_pos q, br_f (decide_eq_false (by omega)), br_t (decide_eq_true (by omega)), Int.toNat_natCast]
  · rw [if_neg q, if_neg q, br_t (by decide)]
def sumW (b : Int) : List Win → Int
  | [] => 0
  | w :: l => (if w.bed = b then w.to - w.src else 0) + sumW b l
theorem sumW_append (b : Int) : ∀ l m, sumW b (l ++ m) = sumW b l + sumW b m
  | [], m => by simp [sumW]
  | w :: l, m => by
    have := sumW_append b l m
    simp only [List.cons_append, sumW]
    omega
theorem sumW_bound (b : Int) : ∀ (l : List Win), (∀ w ∈ l, May w) → 0 ≤ sumW b l ∧ sumW b l ≤ 1000000000 * l.length
  | [], _ => by simp [sumW]
  | w :: l, h => by
    have := sumW_bound b l (fun x hx => h x (by simp [hx]))
    have hw := h w (by simp)
    unfold May at hw
    simp only [sumW, List.length_cons]
    split <;> omega
theorem sum_take (b : Int) {l : List Win} {i : Nat} (h : i < l.length) : sumW b (l.take (i + 1)) = sumW b (l.take i) + (if (l.getD i default).bed = b then (l.getD i default).to - (l.getD i default).src else 0) := by
  rw [take_next h, sumW_append]
  simp only [sumW]
  omega
theorem f24_ok {k : Nat} {l : List Win} (b : Int) (hk : l.length < k) (hl : l.length ≤ 100000) : f24 k l b = some (if Right l then sumW b l else 0) := by
  unfold f24
  rw [f20_ok hk hl, bindO_some]
  by_cases h : Right l
  · rw [decide_eq_true h, br_nt, if_pos h]
    have hlen := h.1
    have h1 := iter_to (stp := pS24_0 k) (fun i => S24_0.mk b (sumW b (l.take i)) l (l.length : Int) (i : Int)) l.length (e := E24_0.mk (sumW b l))
      (by
        intro i hi
        unfold pS24_0
        simp only [Int.toNat_natCast]
        have hb := sumW_bound b (l.take i) (fun w hw => h.2.2 w (List.mem_of_mem_take hw))
        rw [List.length_take] at hb
        have hm := h.2.2 _ (getD_mem hi)
        unfold May at hm
        rw [br_t (lt_at hi), br_t (in_at hi), next_ok (by omega), sum_take b hi]
        generalize l.getD i default = w at hm
        by_cases q : w.bed = b
        · rw [br_t (beq_iff_eq.2 q), if_pos q, wrap_ok (n := w.to - w.src) (by omega) (by omega), wrap_ok (by omega) (by omega)]
        · rw [br_f (beq_eq_false_iff_ne.2 q), if_neg q, Int.add_zero])
      (by
        unfold pS24_0
        simp only
        rw [br_f (by simp), List.take_length]) k hk
    have e0 : (((0 : Nat) : Int)) = 0 := rfl
    simp only [e0, List.take_zero] at h1
    unfold l24_0
    simp only [sumW] at h1
    rw [h1, bindO_some]
  · rw [decide_eq_false h, br_nf, if_neg h]
end Go.Proofs.Ytaooefnmdlajcaa

end
section
set_option linter.unusedVariables false
set_option linter.unusedSimpArgs false
namespace Go.Proofs.Ytaooefnmdlajcaa
open Go Go.Eng
theorem f11_ok (k : Nat) {l : List Win} (h : l.length ≤ 1000000000000) : f11 k l = some l := by
  unfold f11
  rw [br_t]
  rw [Bool.true_and]; exact decide_eq_true (by omega)
theorem ne_cells (a b : Win) : (!(a.bed == b.bed && (a.src == b.src && a.to == b.to))) = !decide (a = b) := by
  rcases a with ⟨a0, a1, a2⟩
  rcases b with ⟨b0, b1, b2⟩
  rw [Bool.eq_iff_iff]
  simp only [Bool.not_eq_true', Bool.and_eq_false_iff, beq_eq_false_iff_ne, decide_eq_false_iff_not, GWindow.mk.injEq]
  omega
theorem eq_getD {a b : List Win} (h : a.length = b.length) : a = b ↔ ∀ i, i < a.length → a.getD i default = b.getD i default := by
  constructor
  · rintro rfl i _; rfl
  · intro q
    refine List.ext_getElem h fun i h1 h2 => ?_
    have := q i h1
    rw [List.getD_eq_getElem?_getD, List.getD_eq_getElem?_getD, List.getElem?_eq_getElem h1, List.getElem?_eq_getElem h2] at this
    exact this
theorem f18_ok {k : Nat} {a b : List Win} (hk : a.length < k) (hn : a.length ≤ 100000) : f18 k a b = some (decide (a = b)) := by
  unfold f18
  by_cases hl : a.length = b.length
  · rw [br_f (by simp [hl])]
    obtain ⟨e, h1, h2⟩ := iter_cases (stp := pS18_0 k) (fun i => S18_0.mk a b (i : Int)) a.length (fun i => a.getD i default = b.getD i default) (Qb := fun e => e = .inl (E18_0.mk false)) (Qe := fun e => ∃ x, e = .inr x)
      (by
        intro i hi hg
        unfold pS18_0
        simp only [Int.toNat_natCast, ne_cells]
        rw [br_t (lt_at hi), br_t (in_at hi), br_t (in_at (by omega)), decide_eq_true (hg i (Nat.le_refl _)), br_nt, next_ok (by omega)])
      (by
        intro i hi _ hg
        unfold pS18_0
        simp only [Int.toNat_natCast, ne_cells]
        rw [br_t (lt_at hi), br_t (in_at hi), br_t (in_at (by omega)), decide_eq_false hg, br_nf]
        exact ⟨_, rfl, rfl⟩)
      (by
        intro _
        unfold pS18_0
        simp only
        rw [br_f (by simp)]
        exact ⟨_, rfl, _, rfl⟩) k hk
    have e0 : (((0 : Nat) : Int)) = 0 := rfl
    simp only [e0] at h1
    unfold l18_0
    rw [h1, bindO_some, decide_eq_decide.2 (eq_getD hl)]
    rcases h2 with ⟨⟨i, hi, hg⟩, rfl⟩ | ⟨hg, x, rfl⟩
    · simp only
      congr 1
      rw [decide_eq_false (fun h => hg (h i hi))]
    · simp only
      congr 1
      rw [decide_eq_true hg]
  · rw [br_t (by simp; omega)]
    congr 1
    rw [decide_eq_false (fun h => hl (by rw [h]))]
theorem f21_ok {k : Nat} {l : List Win} (hk : l.length < k) (hl : l.length ≤ 100000) : f21 k l = some (decide (Right l)) := by
  obtain ⟨e, h1, h2⟩ := iter_cases (stp := pS21_0 k) (fun i => S21_0.mk l (i : Int)) l.length (fun i => May (l.getD i default) ∧ (0 < i → Lt (l.getD (i - 1) default) (l.getD i default))) (Qb := fun e => e = .inl (E21_0.mk false)) (Qe := fun e => e = .inr (E21_0b.mk l))
    (by
      intro i hi hg
      obtain ⟨g1, g2⟩ := hg i (Nat.le_refl _)
      unfold pS21_0
      simp only [Int.toNat_natCast]
      rw [br_t (lt_at hi), br_t (in_at hi), f45_ok, bindO_some, decide_eq_true g1, br_nt]
      cases i with
      | zero => rw [br_f (by simp), next_ok (by omega)]
      | succ i =>
        have g2 := g2 (by omega)
        simp only [Nat.add_sub_cancel] at g2
        simp only [prev_ok (show i < 1000000 by omega), Int.toNat_natCast]
        unfold Lt at g2
        rw [br_t (decide_eq_true (by omega)), br_t (in_at (by omega)), br_t (in_at (by omega)), br_f (decide_eq_false (by omega)), br_t (in_at (by omega)), br_t (in_at (by omega))]
        by_cases q : (l.getD i default).bed = (l.getD (i + 1) default).bed
        · rw [br_t (beq_iff_eq.2 q), br_t (in_at (by omega)), br_t (in_at (by omega)), br_f (decide_eq_false (by omega)), next_ok (by omega)]
        · rw [br_f (beq_eq_false_iff_ne.2 q), next_ok (by omega)])
    (by
      intro i hi _ hg
      unfold pS21_0
      simp only [Int.toNat_natCast]
      rw [br_t (lt_at hi), br_t (in_at hi), f45_ok, bindO_some]
      by_cases g1 : May (l.getD i default)
      · rw [decide_eq_true g1, br_nt]
        have g2 : ¬ (0 < i → Lt (l.getD (i - 1) default) (l.getD i default)) := fun h => hg ⟨g1, h⟩
        cases i with
        | zero => exact absurd (fun h => absurd h (by omega)) g2
        | succ i =>
          have g2 : ¬ Lt (l.getD i default) (l.getD (i + 1) default) := fun h => g2 fun _ => h
          simp only [prev_ok (show i < 1000000 by omega), Int.toNat_natCast]
          unfold Lt at g2
          rw [br_t (decide_eq_true (by omega)), br_t (in_at (by omega)), br_t (in_at (by omega))]
          by_cases q : (l.getD i default).bed > (l.getD (i + 1) default).bed
          · rw [br_t (decide_eq_true q)]; exact ⟨_, rfl, rfl⟩
          · rw [br_f (decide_eq_false q), br_t (in_at (by omega)), br_t (in_at (by omega)), br_t (beq_iff_eq.2 (by omega)), br_t (in_at (by omega)), br_t (in_at (by omega)), br_t (decide_eq_true (by omega))]
            exact ⟨_, rfl, rfl⟩
      · rw [decide_eq_false g1, br_nf]; exact ⟨_, rfl, rfl⟩)
    (by
      intro _
      unfold pS21_0
      simp only
      rw [br_f (by simp)]
      exact ⟨_, rfl, rfl⟩) k hk
  unfold f21 l21_0
  have e0 : (((0 : Nat) : Int)) = 0 := rfl
  simp only [e0] at h1
  rw [h1, bindO_some]
  rcases h2 with ⟨⟨i, hi, hg⟩, rfl⟩ | ⟨hg, rfl⟩
  · simp only
    congr 1
    rw [decide_eq_false]
    rintro ⟨_, h⟩
    obtain ⟨a, b⟩ := (good_iff l).1 h
    refine hg ⟨b _ (getD_mem hi), fun h0 => ?_⟩
    have := a (i - 1) (by omega)
    rw [show i - 1 + 1 = i by omega] at this
    exact this
  · simp only
    congr 1
    rw [decide_eq_decide]
    unfold Right
    rw [good_iff]
    constructor
    · intro h
      refine ⟨by omega, fun i hi => ?_, all_getD.2 fun i hi => (hg i hi).1⟩
      have := (hg (i + 1) (by omega)).2 (by omega)
      rw [Nat.add_sub_cancel] at this
      exact this
    · intro h
      have := h.1
      omega
theorem f23_ok {k : Nat} {l : List Win} (b t : Int) (hk : l.length < k) (hl : l.length ≤ 100000) : f23 k l b t = some (decide (Has l b t)) := by
  obtain ⟨e, h1, h2⟩ := iter_cases (stp := pS23_0 k) (fun i => S23_0.mk l b t (i : Int)) l.length (fun i => ¬ HasW (l.getD i default) b t) (Qb := fun e => e = .inl (E23_0.mk true)) (Qe := fun e => ∃ x, e = .inr x)
    (by
      intro i hi hg
      have hg := hg i (Nat.le_refl _)
      unfold pS23_0
      simp only [Int.toNat_natCast]
      unfold HasW at hg
      rw [br_t (lt_at hi), br_t (in_at hi), next_ok (by omega)]
      by_cases c1 : (l.getD i default).bed = b
      · rw [br_t (beq_iff_eq.2 c1), br_t (in_at hi)]
        by_cases c2 : (l.getD i default).src ≤ t
        · rw [br_t (decide_eq_true c2), br_t (in_at hi), br_f (decide_eq_false (by omega))]
        · rw [br_f (decide_eq_false c2)]
      · rw [br_f (beq_eq_false_iff_ne.2 c1)])
    (by
      intro i hi hlt hg
      have hg := Classical.not_not.1 hg
      unfold pS23_0
      simp only [Int.toNat_natCast]
      rw [br_t (lt_at hi), br_t (in_at hi), br_t (beq_iff_eq.2 hg.1), br_t (in_at hi), br_t (decide_eq_true hg.2.1), br_t (in_at hi), br_t (decide_eq_true hg.2.2)]
      exact ⟨_, rfl, rfl⟩)
    (by
      intro _
      unfold pS23_0
      simp only
      rw [br_f (by simp)]
      exact ⟨_, rfl, _, rfl⟩) k hk
  unfold f23 l23_0
  have e0 : (((0 : Nat) : Int)) = 0 := rfl
  simp only [e0] at h1
  rw [h1, bindO_some]
  rcases h2 with ⟨⟨i, hi, hg⟩, rfl⟩ | ⟨hg, x, rfl⟩
  · simp only
    congr 1
    rw [decide_eq_true]
    exact ⟨_, getD_mem hi, Classical.not_not.1 hg⟩
  · simp only
    congr 1
    rw [decide_eq_false]
    rintro ⟨w, hw, q⟩
    obtain ⟨i, hi, rfl⟩ := mem_getD hw
    exact hg i hi q
theorem f17_ok {k : Nat} {l : List Win} (b t : Int) (hk : l.length < k ∧ 1 < k) (hl : l.length ≤ 100000) : f17 k l b t = some (tillW b t l) := by
  obtain ⟨e, h1, h2⟩ := iter_cases (stp := pS17_0 k) (fun i => S17_0.mk l b t (i : Int)) l.length (fun i => ¬ HasW (l.getD i default) b t) (Qb := fun e => ∃ i : Nat, e = .inl (E17_0.mk (l.getD i default).to true) ∧ i < l.length ∧ HasW (l.getD i default) b t ∧ ∀ j, j < i → ¬ HasW (l.getD j default) b t) (Qe := fun e => ∃ x, e = .inr x)
    (by
      intro i hi hg
      have hg := hg i (Nat.le_refl _)
      unfold pS17_0
      simp only [Int.toNat_natCast, next_ok (show i < 1000000 by omega), Option.getD_some]
      have e3 : (l.drop i).take (i + 1 - i) = [l.getD i default] := by
        rw [show i + 1 - i = 1 by omega, List.drop_eq_getElem_cons hi, List.getD_eq_getElem?_getD, List.getElem?_eq_getElem hi]; rfl
      rw [br_t (lt_at hi), br_t (decide_eq_true (by omega)), e3, f23_ok b t (by simpa using hk.2) (by simp), bindO_some, br_f (decide_eq_false (by rw [has_one]; exact hg))])
    (by
      intro i hi hlt hg
      have hg := Classical.not_not.1 hg
      unfold pS17_0
      simp only [Int.toNat_natCast, next_ok (show i < 1000000 by omega), Option.getD_some]
      have e3 : (l.drop i).take (i + 1 - i) = [l.getD i default] := by
        rw [show i + 1 - i = 1 by omega, List.drop_eq_getElem_cons hi, List.getD_eq_getElem?_getD, List.getElem?_eq_getElem hi]; rfl
      rw [br_t (lt_at hi), br_t (decide_eq_true (by omega)), e3, f23_ok b t (by simpa using hk.2) (by simp), bindO_some, br_t (decide_eq_true (by rw [has_one]; exact hg)), br_t (in_at hi)]
      exact ⟨_, rfl, i, rfl, hi, hg, hlt⟩)
    (by
      intro _
      unfold pS17_0
      simp only
      rw [br_f (by simp)]
      exact ⟨_, rfl, _, rfl⟩) k hk.1
  unfold f17 l17_0 tillW
  have e0 : (((0 : Nat) : Int)) = 0 := rfl
  simp only [e0] at h1
  rw [h1, bindO_some]
  rcases h2 with ⟨_, j, rfl, hj, hy, hn⟩ | ⟨hg, x, rfl⟩
  · have e : idxW b t l = j := by
      rcases Nat.lt_trichotomy (idxW b t l) j with h | h | h
      · exact absurd (idxW_yes b t l (by omega)) (hn _ h)
      · exact h
      · exact absurd hy (idxW_no b t l j h)
    simp only
    rw [e, if_pos hj]
  · simp only
    rw [if_neg (fun h => hg _ h (idxW_yes b t l h))]
theorem f25_ok {k : Nat} {l : List Win} (b : Int) (hk : l.length < k ∧ 0 < k) (hl : l.length ≤ 100000) : f25 k l b = some (if Right l then sumW b l else 0) := by
  unfold f25 l25_0
  by_cases h : Right l
  · rw [if_pos h]
    have hlen := h.1
    have h1 := iter_to (stp := pS25_0 k) (fun i => S25_0.mk l b (sumW b (l.take i)) (i : Int)) l.length (e := E25_0.mk (sumW b l))
      (by
        intro i hi
        unfold pS25_0
        simp only [Int.toNat_natCast]
        have hb := sumW_bound b (l.take i) (fun w hw => h.2.2 w (List.mem_of_mem_take hw))
        rw [List.length_take] at hb
        have hm := h.2.2 _ (getD_mem hi)
        unfold May at hm
        rw [br_t (lt_at hi), f21_ok hk.1 hl, bindO_some, decide_eq_true h, br_t rfl, br_t (in_at hi), next_ok (by omega), sum_take b hi]
        generalize l.getD i default = w at hm
        by_cases q : w.bed = b
        · rw [br_t (beq_iff_eq.2 q), br_t (in_at hi), br_t (in_at hi), if_pos q, wrap_ok (n := sumW b (l.take i) + w.to) (by omega) (by omega), wrap_ok (by omega) (by omega)]
          congr 3
          omega
        · rw [br_f (beq_eq_false_iff_ne.2 q), if_neg q, Int.add_zero])
      (by
        unfold pS25_0
        simp only
        rw [br_f (by simp), List.take_length]) k hk.1
    have e0 : (((0 : Nat) : Int)) = 0 := rfl
    simp only [e0, List.take_zero, sumW] at h1
    rw [h1, bindO_some]
  · rw [if_neg h]
    obtain ⟨k, rfl⟩ : ∃ k', k = k' + 1 := ⟨k - 1, by omega⟩
    simp only [iterT]
    have : pS25_0 (k + 1) (S25_0.mk l b 0 0) = some (.inr (E25_0.mk 0)) := by
      unfold pS25_0
      simp only
      by_cases q : 0 < l.length
      · rw [br_t (decide_eq_true (by omega)), f21_ok hk.1 hl, bindO_some, decide_eq_false h, br_f rfl]
      · rw [br_f (decide_eq_false (by omega))]
    rw [this]
    rfl
end Go.Proofs.Ytaooefnmdlajcaa

end
section
set_option linter.unusedVariables false
set_option linter.unusedSimpArgs false
namespace Go.Proofs.Ytaooefnmdlajcaa
open Go Go.Eng
def lowN (n : Int) : List Int → Nat
  | [] => 0
  | x :: l => if x < n then lowN n l + 1 else 0
theorem lowN_le (n : Int) : ∀ l, lowN n l ≤ l.length
  | [] => Nat.le_refl _
  | x :: l => by
    have := lowN_le n l
    unfold lowN
    split <;> simp <;> omega
theorem lowN_lt (n : Int) : ∀ (l : List Int) (i : Nat), i < lowN n l → l.getD i 0 < n
  | [], i, h => by simp [lowN] at h
  | x :: l, i, h => by
    unfold lowN at h
    split at h
    · match i with
      | 0 => assumption
      | i + 1 => exact lowN_lt n l i (by omega)
    · omega
theorem lowN_ge (n : Int) : ∀ (l : List Int), lowN n l < l.length → ¬ l.getD (lowN n l) 0 < n
  | [], h => by simp at h
  | x :: l, h => by
    unfold lowN at h ⊢
    split
    · rename_i q
      rw [if_pos q, List.length_cons] at h
      exact lowN_ge n l (by omega)
    · assumption
theorem putL_eq (n : Int) : ∀ l : List Int, putL n l = if lowN n l < l.length ∧ l.getD (lowN n l) 0 = n then l else l.take (lowN n l) ++ [n] ++ l.drop (lowN n l)
  | [] => by simp [putL, lowN]
  | x :: l => by
    have ih := putL_eq n l
    unfold putL lowN
    split
    · rename_i q
      rw [ih]
      simp only [List.length_cons, Nat.add_lt_add_iff_right]
      have : (x :: l).getD (lowN n l + 1) 0 = l.getD (lowN n l) 0 := rfl
      rw [this]
      split <;> simp
    · rename_i q
      have : (x :: l).getD 0 0 = x := rfl
      rw [this]
      by_cases e : x = n
      · rw [if_pos e, if_pos ⟨by simp, e⟩]
      · rw [if_neg e, if_neg (fun h => e h.2)]; simp
theorem l127_0_ok {k : Nat} {l : List Int} (n : Int) (hk : l.length < k) (hl : l.length ≤ 100000) : l127_0 k (S127_0.mk l n 0) = some (E127_0.mk l n (lowN n l : Int)) := by
  have hle := lowN_le n l
  exact iter_to (stp := pS127_0 k) (fun i => S127_0.mk l n (i : Int)) (lowN n l)
    (by
      intro i hi
      unfold pS127_0
      simp only [Int.toNat_natCast]
      rw [br_t (lt_at (by omega)), br_t (in_at (by omega)), br_t (decide_eq_true (lowN_lt n l i hi)), next_ok (by omega)])
    (by
      unfold pS127_0
      simp only [Int.toNat_natCast]
      by_cases q : lowN n l < l.length
      · rw [br_t (lt_at q), br_t (in_at q), br_f (decide_eq_false (lowN_ge n l q))]
      · rw [br_f (decide_eq_false (by omega))]) k (by omega)
theorem f127_ok {k : Nat} {l : List Int} (n : Int) (hk : l.length < k) (hl : l.length ≤ 100000) : f127 k l n = some (putL n l) := by
  have hle := lowN_le n l
  unfold f127
  rw [l127_0_ok n hk hl, bindO_some]
  simp only [Int.toNat_natCast, Option.getD_some, Option.getD_none]
  have size : ∀ m : Nat, m ≤ 200001 → (true && decide (m * 8 ≤ 140737488355328)) = true := fun m hm => by rw [Bool.true_and]; exact decide_eq_true (by omega)
  rw [putL_eq]
  by_cases q : lowN n l < l.length
  · rw [br_t (lt_at q), br_t (in_at q)]
    by_cases e : l.getD (lowN n l) 0 = n
    · rw [br_t (beq_iff_eq.2 e), if_pos ⟨q, e⟩]
    · rw [br_f (beq_eq_false_iff_ne.2 e), if_neg (fun h => e h.2)]
      rw [br_t (decide_eq_true (by omega)), br_t (size _ (by simp; omega)), br_t (size _ (by simp; omega)), br_t (decide_eq_true (by omega)), br_t (size _ (by simp; omega))]
  · rw [br_f (decide_eq_false (by omega)), if_neg (fun h => q h.1)]
    rw [br_t (decide_eq_true (by omega)), br_t (size _ (by simp; omega)), br_t (size _ (by simp; omega)), br_t (decide_eq_true (by omega)), br_t (size _ (by simp; omega))]
theorem marksL_snoc (b : Int) (w : Win) : ∀ (l : List Win) (acc : List Int), marksL b acc (l ++ [w]) = if w.bed = b then putL w.to (putL w.src (marksL b acc l)) else marksL b acc l
  | [], acc => by simp [marksL]
  | x :: l, acc => by
    simp only [List.cons_append, marksL]
    split <;> exact marksL_snoc b w l _
theorem f115_ok {k : Nat} {l : List Win} (b : Int) (hk : 2 * l.length + 1 < k) (hl : l.length ≤ 1000) : f115 k l b = some (marksL b [] l) := by
  have h1 := iter_to (stp := pS115_0 k) (fun i => S115_0.mk l b (marksL b [] (l.take i)) (i : Int)) l.length (e := E115_0.mk (marksL b [] l))
    (by
      intro i hi
      unfold pS115_0
      simp only [Int.toNat_natCast]
      have hb := marksL_len b (l.take i) []
      rw [List.length_take, List.length_nil] at hb
      rw [br_t (lt_at hi), br_t (in_at hi), next_ok (by omega), take_next hi, marksL_snoc]
      generalize l.getD i default = w
      generalize marksL b [] (l.take i) = acc at hb
      have h3 := putL_len w.src acc
      by_cases q : w.bed = b
      · rw [br_t (beq_iff_eq.2 q), br_t (in_at hi), f127_ok _ (by omega) (by omega), bindO_some, br_t (in_at hi), f127_ok _ (by omega) (by omega), bindO_some, if_pos q]
      · rw [br_f (beq_eq_false_iff_ne.2 q), if_neg q])
    (by
      unfold pS115_0
      simp only
      rw [br_f (by simp), List.take_length]) k (by omega)
  unfold f115 l115_0
  have e0 : (((0 : Nat) : Int)) = 0 := rfl
  simp only [e0, List.take_zero, marksL] at h1
  rw [h1, bindO_some]
theorem segsB_next {inn : Int → Bool} {b : Int} {K : List Int} {i : Nat} (h : i + 1 < K.length) : segsB inn b (K.drop i) = (bif inn (K.getD i 0) then [⟨b, K.getD i 0, K.getD (i + 1) 0⟩] else []) ++ segsB inn b (K.drop (i + 1)) := by
  rw [List.drop_eq_getElem_cons (show i < K.length by omega), List.drop_eq_getElem_cons h]
  have e1 : K.getD i 0 = K[i] := by rw [List.getD_eq_getElem?_getD, List.getElem?_eq_getElem (by omega)]; rfl
  have e2 : K.getD (i + 1) 0 = K[i + 1] := by rw [List.getD_eq_getElem?_getD, List.getElem?_eq_getElem h]; rfl
  rw [e1, e2]
  rfl
theorem segsB_end {inn : Int → Bool} {b : Int} {K : List Int} {i : Nat} (h : K.length ≤ i + 1) : segsB inn b (K.drop i) = [] := by
  have : (K.drop i).length ≤ 1 := by rw [List.length_drop]; omega
  match hq : K.drop i with
  | [] => rfl
  | [x] => rfl
  | x :: y :: r => rw [hq] at this; simp at this
theorem l82_2_ok {k : Nat} {l m all : List Win} {both : Bool} {b : Int} {K : List Int} (hk : l.length < k ∧ m.length < k) (hl : l.length ≤ 1000) (hm : m.length ≤ 1000) (hb : 0 ≤ b ∧ b ≤ 1000) (hK : K.Pairwise (· < ·)) (hKl : K.length ≤ 10000) :
    ∀ (d i j : Nat) (out : List Win), K.length - i = d → i ≤ K.length → d < j → out.length + (K.length - i) ≤ 10000000 → (∀ o ∈ out.getLast?, o.bed < b ∨ o.bed = b ∧ ∀ (h : i < K.length), o.to ≤ K.getD i 0) →
    iterT (pS82_2 k) j (S82_2.mk l m both all b K (i : Int) out) = some (E82_2.mk l m both all b ((segsB (innF l m both b) b (K.drop i)).foldl jstep out))
  | d, i, 0, out, hd, hi, hj, _, _ => by omega
  | d, i, j + 1, out, hd, hi, hj, hout, hinv => by
    have hn := next_ok (show i < 1000000 by omega)
    simp only [iterT]
    by_cases hy : i + 1 < K.length
    case neg =>
      have : pS82_2 k (S82_2.mk l m both all b K (i : Int) out) = some (.inr (E82_2.mk l m both all b out)) := by
        unfold pS82_2
        simp only
        rw [hn, br_f (decide_eq_false (by omega))]
      rw [this, segsB_end (by omega)]
      rfl
    case pos =>
      have hx : i < K.length := by omega
      have hlt : K.getD i 0 < K.getD (i + 1) 0 := by
        have := List.pairwise_iff_getElem.1 hK i (i + 1) hx hy (by omega)
        rw [List.getD_eq_getElem?_getD, List.getD_eq_getElem?_getD, List.getElem?_eq_getElem hx, List.getElem?_eq_getElem hy]
        exact this
      have ih := l82_2_ok (all := all) (both := both) hk hl hm hb hK hKl (d - 1) (i + 1) j
      have step : pS82_2 k (S82_2.mk l m both all b K (i : Int) out) = some (.inl (S82_2.mk l m both all b K ((i + 1 : Nat) : Int) (if innF l m both b (K.getD i 0) = true then jstep out ⟨b, K.getD i 0, K.getD (i + 1) 0⟩ else out))) := by
        unfold pS82_2 innF
        simp only [Int.toNat_natCast, hn]
        rw [br_t (lt_at hy), br_t (in_at hx), f23_ok b _ hk.1 (by omega), bindO_some, br_t (in_at hx), f23_ok b _ hk.2 (by omega), bindO_some]
        generalize decide (Has l b (K.getD i 0)) = had
        generalize decide (Has m b (K.getD i 0)) = more
        generalize hX : K.getD i 0 = x at hlt hinv ⊢
        generalize hY : K.getD (i + 1) 0 = y at hlt ⊢
        have a1 := in_at hx
        have a2 := in_at hy
        have a3 : (true && decide ((out.length + [GWindow.mk b x y].length) * 24 ≤ 140737488355328)) = true := by rw [Bool.true_and]; exact decide_eq_true (by simp; omega)
        rcases snoc_cases out with rfl | ⟨r, o, rfl⟩
        · have a4 : decide (((([] : List Win).length : Nat) : Int) > 0) = false := by decide
          have a5 : jstep [] ⟨b, x, y⟩ = [] ++ [⟨b, x, y⟩] := rfl
          cases both <;> cases had <;> cases more <;> simp only [a1, a2, a3, a4, a5, br_true, br_false, Bool.not_true, Bool.not_false, Bool.or_true, Bool.or_false, Bool.and_true, Bool.and_false, cond_true, cond_false, if_true, Bool.false_eq_true, if_false, reduceIte]
        · have hL : (r ++ [o]).length = r.length + 1 := by simp
          have hwr : IntKind.wrap IntKind.i64 (((r ++ [o]).length : Int) - 1) = (r.length : Int) := by rw [hL, wrap_ok (by omega) (by omega)]; omega
          have c0 : decide (((r ++ [o]).length : Int) > 0) = true := decide_eq_true (by rw [hL]; omega)
          have c1 : decide ((0 : Int) ≤ (r.length : Int) ∧ (r.length : Int) < ((r ++ [o]).length : Int)) = true := decide_eq_true (by rw [hL]; omega)
          have c2 : decide (r.length < (r ++ [o]).length) = true := decide_eq_true (by rw [hL]; omega)
          have c4 : (true && decide (r.length < (r ++ [o]).length)) = true := by rw [c2]; rfl
          have ho := hinv o (by simp)
          by_cases q1 : o.bed = b
          · have d1 : (o.bed == b) = true := beq_iff_eq.2 q1
            have hle : o.to ≤ x := by
              rcases ho with h | ⟨_, h⟩
              · omega
              · exact h hx
            by_cases q2 : o.to = x
            · have d2 : (o.to == x) = true := beq_iff_eq.2 q2
              have a5 : jstep (r ++ [o]) ⟨b, x, y⟩ = (r ++ [o]).set r.length ⟨o.bed, o.src, y⟩ := by
                rw [jstep_snoc, if_pos ⟨q1, by simp only; omega⟩]
                have : max o.to y = y := by omega
                simp [this]
              cases both <;> cases had <;> cases more <;> simp only [a1, a2, a3, a5, c0, c1, c2, c4, d1, d2, hwr, Int.toNat_natCast, getD_last, hX, hY, br_true, br_false, Bool.not_true, Bool.not_false, Bool.or_true, Bool.or_false, Bool.and_true, Bool.and_false, cond_true, cond_false, if_true, Bool.false_eq_true, if_false, reduceIte]
            · have d2 : (o.to == x) = false := beq_eq_false_iff_ne.2 q2
              have a5 : jstep (r ++ [o]) ⟨b, x, y⟩ = r ++ [o] ++ [⟨b, x, y⟩] := by
                rw [jstep_snoc, if_neg (fun h => by have := h.2; simp only at this; omega)]
              cases both <;> cases had <;> cases more <;> simp only [a1, a2, a3, a5, c0, c1, c2, c4, d1, d2, hwr, Int.toNat_natCast, getD_last, hX, hY, br_true, br_false, Bool.not_true, Bool.not_false, Bool.or_true, Bool.or_false, Bool.and_true, Bool.and_false, cond_true, cond_false, if_true, Bool.false_eq_true, if_false, reduceIte]
          · have d1 : (o.bed == b) = false := beq_eq_false_iff_ne.2 q1
            have a5 : jstep (r ++ [o]) ⟨b, x, y⟩ = r ++ [o] ++ [⟨b, x, y⟩] := by
              rw [jstep_snoc, if_neg (fun h => q1 h.1)]
            cases both <;> cases had <;> cases more <;> simp only [a1, a2, a3, a5, c0, c1, c2, c4, d1, hwr, Int.toNat_natCast, getD_last, hX, hY, br_true, br_false, Bool.not_true, Bool.not_false, Bool.or_true, Bool.or_false, Bool.and_true, Bool.and_false, cond_true, cond_false, if_true, Bool.false_eq_true, if_false, reduceIte]
      rw [step]
      simp only
      rw [segsB_next hy]
      cases hin : innF l m both b (K.getD i 0) with
      | false =>
        simp only [Bool.false_eq_true, if_false, cond_false, List.nil_append]
        refine ih out (by omega) (by omega) (by omega) (by omega) fun o ho => ?_
        rcases hinv o ho with h | ⟨h, h'⟩
        · exact .inl h
        · exact .inr ⟨h, fun _ => by have := h' hx; omega⟩
      | true =>
        simp only [if_true, cond_true, List.cons_append, List.nil_append, List.foldl_cons]
        have hl1 := jstep_len out ⟨b, K.getD i 0, K.getD (i + 1) 0⟩
        refine ih _ (by omega) (by omega) (by omega) (by omega) fun o ho => ?_
        rcases snoc_cases out with rfl | ⟨r, z, rfl⟩
        · rw [jstep_nil] at ho
          obtain rfl : _ = o := by simpa using ho
          exact .inr ⟨rfl, fun _ => Int.le_refl _⟩
        · have hz := hinv z (by simp)
          rw [jstep_snoc] at ho
          split at ho
          · rename_i q
            obtain rfl : _ = o := by simpa using ho
            refine .inr ⟨q.1, fun _ => ?_⟩
            have : z.to ≤ K.getD i 0 := by
              rcases hz with h | ⟨_, h⟩
              · have := q.1; simp only at this; omega
              · exact h hx
            show max z.to (K.getD (i + 1) 0) ≤ _
            omega
          · obtain rfl : _ = o := by simpa using ho
            exact .inr ⟨rfl, fun _ => Int.le_refl _⟩
end Go.Proofs.Ytaooefnmdlajcaa

end
