/- Part 3 of the proof of NodeAgain. -/
import Derived.Test.YtaooefnmdlajcaaA2
set_option linter.unusedVariables false
set_option linter.unusedSimpArgs false
set_option linter.unusedSectionVars false
section
set_option linter.unusedVariables false
open Go Go.Eng Go.Proofs
namespace Go.Proofs.Ytaooefnmdlajcaa
set_option maxHeartbeats 0
set_option maxRecDepth 100000
noncomputable section
def HS67_0 (s : S67_0) : Heap := [(0, some (.box 80 [.int .i64 s.h0_0, .int .i64 s.h0_1, .int .i64 s.h0_2, .int .i64 s.h0_3, .int .i64 s.h0_4, .int .i64 s.h0_5, .dsl 9 s.h0_6, .slf 2, .int .i64 s.h0_8, .dsl 89 s.h0_9, .slf 3])), (1, some (.box 45 [.int .i64 s.h1_0, .int .i64 s.h1_1, .int .i64 s.h1_2, .int .i64 s.h1_3, .int .i64 s.h1_4, .int .i64 s.h1_5, .int .i64 s.h1_6, .dsl 9 s.h1_7])), (2, some (.row 3 s.h2)), (3, some (.row 45 s.h3))]
def dS67_0 (vs : List AV) (H : Heap) : Option S67_0 := match vs, H with
  | [.ptr 0 0 0, .ptr 1 0 0, .int .i64 x10, .int .i64 x11], [(0, some (.box 80 [.int .i64 h0_0, .int .i64 h0_1, .int .i64 h0_2, .int .i64 h0_3, .int .i64 h0_4, .int .i64 h0_5, bh0_6, .slf 2, .int .i64 h0_8, bh0_9, .slf 3])), (1, some (.box 45 [.int .i64 h1_0, .int .i64 h1_1, .int .i64 h1_2, .int .i64 h1_3, .int .i64 h1_4, .int .i64 h1_5, .int .i64 h1_6, bh1_7])), (2, bh2), (3, bh3)] => (match (dslD 9 bh0_6 : Option (List ByteArray)) with | some h0_6 => (match (dslD 89 bh0_9 : Option (List GVote)) with | some h0_9 => (match (dslD 9 bh1_7 : Option (List ByteArray)) with | some h1_7 => (match (rowD 3 bh2 : Option (List Int)) with | some h2 => (match (rowD 45 bh3 : Option (List GMsg)) with | some h3 => some (⟨x10, x11, h0_0, h0_1, h0_2, h0_3, h0_4, h0_5, h0_6, h0_8, h0_9, h1_0, h1_1, h1_2, h1_3, h1_4, h1_5, h1_6, h1_7, h2, h3⟩ : S67_0) | none => none) | none => none) | none => none) | none => none) | none => none)
  | _, _ => none
theorem dS67_0_ok (vs : List AV) (H : Heap) (s : S67_0) (h : dS67_0 vs H = some s) : vs = VS67_0 s ∧ H = HS67_0 s := by
  unfold dS67_0 at h
  split at h
  · skip
    split at h
    · rename_i q
      have q := dslD_ok q
      subst q
      split at h
      · rename_i q
        have q := dslD_ok q
        subst q
        split at h
        · rename_i q
          have q := dslD_ok q
          subst q
          split at h
          · rename_i q
            have q := rowD_ok q
            subst q
            split at h
            · rename_i q
              have q := rowD_ok q
              subst q
              cases h; exact ⟨rfl, rfl⟩
            · cases h
          · cases h
        · cases h
      · cases h
    · cases h
  · cases h
def tS67_0 : AExit → List (Nat × Kd) := fun x => match x with
  | .normal => [(0, .any), (3, .any), (10, .any), (11, .any)]
  | .exit i => (match i with | 0 => [] | _ => [])
  | .ret => []
  | _ => []
structure E67_0 where
  mk ::
  h0_0 : Int
  h0_1 : Int
  h0_2 : Int
  h0_3 : Int
  h0_4 : Int
  h0_5 : Int
  h0_6 : List ByteArray
  h0_8 : Int
  h0_9 : List GVote
  h1_0 : Int
  h1_1 : Int
  h1_2 : Int
  h1_3 : Int
  h1_4 : Int
  h1_5 : Int
  h1_6 : Int
  h1_7 : List ByteArray
  h2 : List Int
  h3 : List GMsg
def VE67_0 (s : E67_0) : List AV := []
def HE67_0 (s : E67_0) : Heap := [(0, some (.box 80 [.int .i64 s.h0_0, .int .i64 s.h0_1, .int .i64 s.h0_2, .int .i64 s.h0_3, .int .i64 s.h0_4, .int .i64 s.h0_5, .dsl 9 s.h0_6, .slf 2, .int .i64 s.h0_8, .dsl 89 s.h0_9, .slf 3])), (1, some (.box 45 [.int .i64 s.h1_0, .int .i64 s.h1_1, .int .i64 s.h1_2, .int .i64 s.h1_3, .int .i64 s.h1_4, .int .i64 s.h1_5, .int .i64 s.h1_6, .dsl 9 s.h1_7])), (2, some (.row 3 s.h2)), (3, some (.row 45 s.h3))]
def dE67_0 (x : AExit) (vs : List AV) (H : Heap) : Option E67_0 := match x, vs, H with
  | .exit 0, [], [(0, some (.box 80 [.int .i64 h0_0, .int .i64 h0_1, .int .i64 h0_2, .int .i64 h0_3, .int .i64 h0_4, .int .i64 h0_5, bh0_6, .slf 2, .int .i64 h0_8, bh0_9, .slf 3])), (1, some (.box 45 [.int .i64 h1_0, .int .i64 h1_1, .int .i64 h1_2, .int .i64 h1_3, .int .i64 h1_4, .int .i64 h1_5, .int .i64 h1_6, bh1_7])), (2, bh2), (3, bh3)] => (match (dslD 9 bh0_6 : Option (List ByteArray)) with | some h0_6 => (match (dslD 89 bh0_9 : Option (List GVote)) with | some h0_9 => (match (dslD 9 bh1_7 : Option (List ByteArray)) with | some h1_7 => (match (rowD 3 bh2 : Option (List Int)) with | some h2 => (match (rowD 45 bh3 : Option (List GMsg)) with | some h3 => some (⟨h0_0, h0_1, h0_2, h0_3, h0_4, h0_5, h0_6, h0_8, h0_9, h1_0, h1_1, h1_2, h1_3, h1_4, h1_5, h1_6, h1_7, h2, h3⟩ : E67_0) | none => none) | none => none) | none => none) | none => none) | none => none)
  | _, _, _ => none
theorem dE67_0_ok (x : AExit) (vs : List AV) (H : Heap) (s : E67_0) (h : dE67_0 x vs H = some s) : x = .exit 0 ∧ vs = VE67_0 s ∧ H = HE67_0 s := by
  unfold dE67_0 at h
  split at h
  · skip
    split at h
    · rename_i q
      have q := dslD_ok q
      subst q
      split at h
      · rename_i q
        have q := dslD_ok q
        subst q
        split at h
        · rename_i q
          have q := dslD_ok q
          subst q
          split at h
          · rename_i q
            have q := rowD_ok q
            subst q
            split at h
            · rename_i q
              have q := rowD_ok q
              subst q
              cases h; exact ⟨rfl, rfl, rfl⟩
            · cases h
          · cases h
        · cases h
      · cases h
    · cases h
  · cases h
def xE67_0 (_ : E67_0) : AExit := .exit 0
def pS67_0 (k : Nat) (s : S67_0) : Option (S67_0 ⊕ E67_0) :=
  br (decide (S67_0.x11 s < S67_0.x10 s))
   (br (S67_0.x11 s != S67_0.h0_0 s)
    (bindO (f95 k (GActor.mk (GNode.mk (S67_0.h0_0 s) (S67_0.h0_1 s) (S67_0.h0_2 s) (S67_0.h0_3 s) (S67_0.h0_4 s) (S67_0.h0_5 s) (S67_0.h0_6 s) (S67_0.h2 s) (S67_0.h0_8 s) (S67_0.h0_9 s)) (S67_0.h3 s)) (S67_0.x11 s) (GMsg.mk (S67_0.h1_0 s) (S67_0.h1_1 s) (S67_0.h1_2 s) (S67_0.h1_3 s) (S67_0.h1_4 s) (S67_0.h1_5 s) (S67_0.h1_6 s) (S67_0.h1_7 s))) fun r1500 =>
     some (Sum.inl (S67_0.mk (S67_0.x10 s) (IntKind.wrap IntKind.i64 (S67_0.x11 s + (1 : Int))) (GNode.id (GActor.state r1500)) (GNode.n (GActor.state r1500)) (GNode.view (GActor.state r1500)) (GNode.last (GActor.state r1500)) (GNode.phase (GActor.state r1500)) (GNode.commit (GActor.state r1500)) (GNode.rows (GActor.state r1500)) (GNode.starts (GActor.state r1500)) (GNode.votes (GActor.state r1500)) (S67_0.h1_0 s) (S67_0.h1_1 s) (S67_0.h1_2 s) (S67_0.h1_3 s) (S67_0.h1_4 s) (S67_0.h1_5 s) (S67_0.h1_6 s) (S67_0.h1_7 s) (GNode.far (GActor.state r1500)) (GActor.told r1500))))
    (some (Sum.inl (S67_0.mk (S67_0.x10 s) (IntKind.wrap IntKind.i64 (S67_0.x11 s + (1 : Int))) (S67_0.h0_0 s) (S67_0.h0_1 s) (S67_0.h0_2 s) (S67_0.h0_3 s) (S67_0.h0_4 s) (S67_0.h0_5 s) (S67_0.h0_6 s) (S67_0.h0_8 s) (S67_0.h0_9 s) (S67_0.h1_0 s) (S67_0.h1_1 s) (S67_0.h1_2 s) (S67_0.h1_3 s) (S67_0.h1_4 s) (S67_0.h1_5 s) (S67_0.h1_6 s) (S67_0.h1_7 s) (S67_0.h2 s) (S67_0.h3 s)))))
   (some (Sum.inr (E67_0.mk (S67_0.h0_0 s) (S67_0.h0_1 s) (S67_0.h0_2 s) (S67_0.h0_3 s) (S67_0.h0_4 s) (S67_0.h0_5 s) (S67_0.h0_6 s) (S67_0.h0_8 s) (S67_0.h0_9 s) (S67_0.h1_0 s) (S67_0.h1_1 s) (S67_0.h1_2 s) (S67_0.h1_3 s) (S67_0.h1_4 s) (S67_0.h1_5 s) (S67_0.h1_6 s) (S67_0.h1_7 s) (S67_0.h2 s) (S67_0.h3 s))))
theorem pS67_0_run (k : Nat) (s : S67_0) : evC (S67_0 ⊕ E67_0) Try.prog (ntmpsAt Try.prog 67) (cf48 k) ((Lm48 k) 67) 200 (loopAt Try.prog 67 0) (zipE [(0, .any), (3, .any), (10, .any), (11, .any)] (VS67_0 s)) (HS67_0 s) (List.length (HS67_0 s)) (cutS plan 2 tS67_0 (rndT dS67_0 dE67_0)) = pS67_0 k s := by kernel_rfl
def l67_0 (k : Nat) (s : S67_0) : Option E67_0 := iterT (pS67_0 k) k s
def m67_0 (k : Nat) : LamS := lamT 0 dS67_0 (l67_0 k) (elAll _) tS67_0 xE67_0 VE67_0 HE67_0
theorem loop67_0 : isLoopAt Try.prog 67 0 = true := by kernel_rfl
theorem m67_0_ok (k : Nat) : LamSOk Try.prog (ntmpsAt Try.prog 67) 2 (.block 0 (.loop (loopAt Try.prog 67 0))) [(0, .any), (3, .any), (10, .any), (11, .any)] (m67_0 k) := lamT_ok (plan := plan) (kb := 2) (body_run noNum mixed (cf48_ok k) (Lm48_ok k) loop67_0) rfl dS67_0_ok dE67_0_ok (hel := elAll_ok) (pS67_0_run k) k
def Dl49 (k : Nat) : Delta := Dl48 k
def Lm49 (k : Nat) : FuncId → Nat → Option LamF := lCons 67 0 (lamBy plan [12, 13, 4, 14, 15, 16, 17, 18, 19, 20, 21, 22, 23, 24, 25, 26, 11] [(0, .any), (3, .any), (10, .any), (11, .any)] 2 (m67_0 k)) (Lm48 k)
theorem Dl49_ok (k : Nat) : DeltaOk Try.prog (Dl49 k) := Dl48_ok k
theorem Lm49_ok (k : Nat) : LamsOk Try.prog (Lm49 k) := lCons_ok (Lm48_ok k) loop67_0 (lamBy_ok (m67_0_ok k) (by kernel_rfl))
abbrev cf49 (k : Nat) : CallF := evF Try.prog (Dl49 k) (Lm49 k) 200 12
theorem cf49_ok (k : Nat) : CfOk Try.prog (cf49 k) := evF_ok noNum mixed (Dl49_ok k) (Lm49_ok k) 12
def f67 (k : Nat) (x0 : GActor) (x1 : GMsg) : Option R67 :=
  bindO (l67_0 k (S67_0.mk (GNode.n (GActor.state x0)) (0 : Int) (GNode.id (GActor.state x0)) (GNode.n (GActor.state x0)) (GNode.view (GActor.state x0)) (GNode.last (GActor.state x0)) (GNode.phase (GActor.state x0)) (GNode.commit (GActor.state x0)) (GNode.rows (GActor.state x0)) (GNode.starts (GActor.state x0)) (GNode.votes (GActor.state x0)) (GMsg.kind x1) (GMsg.src x1) (GMsg.to x1) (GMsg.view x1) (GMsg.last x1) (GMsg.n x1) (GMsg.commit x1) (GMsg.rows x1) (GNode.far (GActor.state x0)) (GActor.told x0))) fun r3000 =>
   some (GActor.mk (GNode.mk (E67_0.h0_0 r3000) (E67_0.h0_1 r3000) (E67_0.h0_2 r3000) (E67_0.h0_3 r3000) (E67_0.h0_4 r3000) (E67_0.h0_5 r3000) (E67_0.h0_6 r3000) (E67_0.h2 r3000) (E67_0.h0_8 r3000) (E67_0.h0_9 r3000)) (E67_0.h3 r3000))
theorem f67_run (k : Nat) (x0 : GActor) (x1 : GMsg) : cf49 k R67 67 (A67 (x0, x1)) (H67 (x0, x1)) (List.length (H67 (x0, x1))) (endR planR (.any) [1, 2] (List.length (H67 (x0, x1))) r67) = f67 k x0 x1 := by kernel_rfl
def g67 (k : Nat) : CallS := entT d67 (fun p => f67 k p.1 p.2) (elAll _) (fun _ => o67) (fun _ => u67) (fun _ => n67)
theorem g67_ok (k : Nat) : CallSOk Try.prog 67 (g67 k) := entry_ok (Hp := H67) (oR := fun _ => o67) (uR := fun _ => u67) (nR := fun _ => n67) (cf49_ok k) d67_ok r67_ok (hel := elAll_ok) (fun p => f67_run k p.1 p.2)
def Dl50 (k : Nat) : Delta := dCons 67 (callAt plan [.any, .agg [.any, .any, .any, .any, .any, .any, .any, .rd 9]] (g67 k)) (Dl49 k)
def Lm50 (k : Nat) : FuncId → Nat → Option LamF := Lm49 k
theorem Dl50_ok (k : Nat) : DeltaOk Try.prog (Dl50 k) := dCons_ok (Dl49_ok k) (g67_ok k)
theorem Lm50_ok (k : Nat) : LamsOk Try.prog (Lm50 k) := Lm49_ok k
abbrev cf50 (k : Nat) : CallF := evF Try.prog (Dl50 k) (Lm50 k) 200 12
theorem cf50_ok (k : Nat) : CfOk Try.prog (cf50 k) := evF_ok noNum mixed (Dl50_ok k) (Lm50_ok k) 12
abbrev P52 := GActor × GMsg
def A52 (p : P52) : List AV := [.ptr 0 0 0, .agg [.int .i64 p.2.kind, .int .i64 p.2.src, .int .i64 p.2.to, .int .i64 p.2.view, .int .i64 p.2.last, .int .i64 p.2.n, .int .i64 p.2.commit, .dsl 9 p.2.rows]]
def H52 (p : P52) : Heap := [(0, some (.box 80 [.int .i64 p.1.state.id, .int .i64 p.1.state.n, .int .i64 p.1.state.view, .int .i64 p.1.state.last, .int .i64 p.1.state.phase, .int .i64 p.1.state.commit, .dsl 9 p.1.state.rows, .slf 1, .int .i64 p.1.state.starts, .dsl 89 p.1.state.votes, .slf 2])), (1, some (.row 3 p.1.state.far)), (2, some (.row 45 p.1.told))]
def d52 (a : List AV) (H : Heap) : Option P52 := match a, H with
  | [.ptr 0 0 0, .agg [.int .i64 a0, .int .i64 a1, .int .i64 a2, .int .i64 a3, .int .i64 a4, .int .i64 a5, .int .i64 a6, ba7]], [(0, some (.box 80 [.int .i64 a8, .int .i64 a9, .int .i64 a10, .int .i64 a11, .int .i64 a12, .int .i64 a13, ba14, .slf 1, .int .i64 a15, ba16, .slf 2])), (1, ba17), (2, ba18)] => (match (dslD 9 ba7 : Option (List ByteArray)) with | some a7 => (match (dslD 9 ba14 : Option (List ByteArray)) with | some a14 => (match (dslD 89 ba16 : Option (List GVote)) with | some a16 => (match (rowD 3 ba17 : Option (List Int)) with | some a17 => (match (rowD 45 ba18 : Option (List GMsg)) with | some a18 => some ((⟨⟨a8, a9, a10, a11, a12, a13, a14, a17, a15, a16⟩, a18⟩ : GActor), (⟨a0, a1, a2, a3, a4, a5, a6, a7⟩ : GMsg)) | none => none) | none => none) | none => none) | none => none) | none => none)
  | _, _ => none
theorem d52_ok (a : List AV) (H : Heap) (p : P52) (h : d52 a H = some p) : a = A52 p ∧ H = H52 p := by
  unfold d52 at h
  split at h
  · skip
    split at h
    · rename_i q
      have q := dslD_ok q
      subst q
      split at h
      · rename_i q
        have q := dslD_ok q
        subst q
        split at h
        · rename_i q
          have q := dslD_ok q
          subst q
          split at h
          · rename_i q
            have q := rowD_ok q
            subst q
            split at h
            · rename_i q
              have q := rowD_ok q
              subst q
              cases h; exact ⟨rfl, rfl⟩
            · cases h
          · cases h
        · cases h
      · cases h
    · cases h
  · cases h
abbrev R52 := GActor
def o52 (r : R52) : AEnd := .ret (.tup [])
def u52 (r : R52) : Heap := [(0, some (.box 80 [.int .i64 r.state.id, .int .i64 r.state.n, .int .i64 r.state.view, .int .i64 r.state.last, .int .i64 r.state.phase, .int .i64 r.state.commit, .dsl 9 r.state.rows, .slf 3, .int .i64 r.state.starts, .dsl 89 r.state.votes, .slf 4])), (1, none), (2, none), (3, some (.row 3 r.state.far)), (4, some (.row 45 r.told))]
def n52 (_ : R52) : Nat := 5
def r52 (o : AEnd) (u : Heap) (n : Nat) : Option R52 := match o, u, n with
  | .ret (.tup []), [(0, some (.box 80 [.int .i64 a0, .int .i64 a1, .int .i64 a2, .int .i64 a3, .int .i64 a4, .int .i64 a5, ba6, .slf 3, .int .i64 a7, ba8, .slf 4])), (1, none), (2, none), (3, ba9), (4, ba10)], 5 => (match (dslD 9 ba6 : Option (List ByteArray)) with | some a6 => (match (dslD 89 ba8 : Option (List GVote)) with | some a8 => (match (rowD 3 ba9 : Option (List Int)) with | some a9 => (match (rowD 45 ba10 : Option (List GMsg)) with | some a10 => some ((⟨⟨a0, a1, a2, a3, a4, a5, a6, a9, a7, a8⟩, a10⟩ : GActor)) | none => none) | none => none) | none => none) | none => none)
  | _, _, _ => none
theorem r52_ok (p : P52) (o : AEnd) (u : Heap) (n : Nat) (r : R52) (h : r52 o u n = some r) : o = o52 r ∧ u = u52 r ∧ n = n52 r := by
  unfold r52 at h
  split at h
  · skip
    split at h
    · rename_i q
      have q := dslD_ok q
      subst q
      split at h
      · rename_i q
        have q := dslD_ok q
        subst q
        split at h
        · rename_i q
          have q := rowD_ok q
          subst q
          split at h
          · rename_i q
            have q := rowD_ok q
            subst q
            cases h; exact ⟨rfl, rfl, rfl⟩
          · cases h
        · cases h
      · cases h
    · cases h
  · cases h
def f52 (k : Nat) (x0 : GActor) (x1 : GMsg) : Option R52 :=
  br (GNode.phase (GActor.state x0) == (0 : Int))
   (bindO (f118 k (GNode.view (GActor.state x0)) (GNode.n (GActor.state x0))) fun r3000 =>
    br (!Prod.fst r3000 == GNode.id (GActor.state x0))
     (some x0)
     (br (decide (GMsg.view x1 > GNode.view (GActor.state x0)))
      (some x0)
      (br (decide ((0 : Int) ≤ GMsg.src x1 ∧ GMsg.src x1 < (↑(List.length (GNode.far (GActor.state x0))) : Int)))
       (br (decide (Int.toNat (GMsg.src x1) < List.length (GNode.far (GActor.state x0))))
        (br (decide ((0 : Int) ≤ GMsg.src x1 ∧ GMsg.src x1 < (↑(List.length (GNode.far (GActor.state x0))) : Int)))
         (br (true && decide (Int.toNat (GMsg.src x1) < List.length (GNode.far (GActor.state x0))))
          (bindO (f61 k (GActor.mk (GNode.mk (GNode.id (GActor.state x0)) (GNode.n (GActor.state x0)) (GNode.view (GActor.state x0)) (GNode.last (GActor.state x0)) (GNode.phase (GActor.state x0)) (GNode.commit (GActor.state x0)) (GNode.rows (GActor.state x0)) (List.set (GNode.far (GActor.state x0)) (Int.toNat (GMsg.src x1)) (Go.Eng.max2 (List.getD (GNode.far (GActor.state x0)) (Int.toNat (GMsg.src x1)) (0 : Int)) (Go.Eng.min2 (GMsg.n x1) (↑(List.length (GNode.rows (GActor.state x0))) : Int)))) (GNode.starts (GActor.state x0)) (GNode.votes (GActor.state x0))) (GActor.told x0))) fun r2997 =>
           br (decide (GNode.commit (GActor.state r2997) > GNode.commit (GActor.state x0)))
            (bindO (f67 k r2997 (GMsg.mk (3 : Int) (0 : Int) (0 : Int) (0 : Int) (0 : Int) (0 : Int) (GNode.commit (GActor.state r2997)) [])) fun r2996 =>
             some r2996)
            (some r2997))
          (none))
         (none))
        (none))
       (none))))
   (some x0)
theorem f52_run (k : Nat) (x0 : GActor) (x1 : GMsg) : cf50 k R52 52 (A52 (x0, x1)) (H52 (x0, x1)) (List.length (H52 (x0, x1))) (endR planR (.any) [1, 2] (List.length (H52 (x0, x1))) r52) = f52 k x0 x1 := by kernel_rfl
def g52 (k : Nat) : CallS := entT d52 (fun p => f52 k p.1 p.2) (elAll _) (fun _ => o52) (fun _ => u52) (fun _ => n52)
theorem g52_ok (k : Nat) : CallSOk Try.prog 52 (g52 k) := entry_ok (Hp := H52) (oR := fun _ => o52) (uR := fun _ => u52) (nR := fun _ => n52) (cf50_ok k) d52_ok r52_ok (hel := elAll_ok) (fun p => f52_run k p.1 p.2)
def Dl51 (k : Nat) : Delta := dCons 52 (callAt plan [.any, .agg [.any, .any, .any, .any, .any, .any, .any, .rd 9]] (g52 k)) (Dl50 k)
def Lm51 (k : Nat) : FuncId → Nat → Option LamF := Lm50 k
theorem Dl51_ok (k : Nat) : DeltaOk Try.prog (Dl51 k) := dCons_ok (Dl50_ok k) (g52_ok k)
theorem Lm51_ok (k : Nat) : LamsOk Try.prog (Lm51 k) := Lm50_ok k
abbrev cf51 (k : Nat) : CallF := evF Try.prog (Dl51 k) (Lm51 k) 200 12
theorem cf51_ok (k : Nat) : CfOk Try.prog (cf51 k) := evF_ok noNum mixed (Dl51_ok k) (Lm51_ok k) 12
abbrev P63 := GActor × Int
def A63 (p : P63) : List AV := [.ptr 0 0 0, .int .i64 p.2]
def H63 (p : P63) : Heap := [(0, some (.box 80 [.int .i64 p.1.state.id, .int .i64 p.1.state.n, .int .i64 p.1.state.view, .int .i64 p.1.state.last, .int .i64 p.1.state.phase, .int .i64 p.1.state.commit, .dsl 9 p.1.state.rows, .slf 1, .int .i64 p.1.state.starts, .dsl 89 p.1.state.votes, .slf 2])), (1, some (.row 3 p.1.state.far)), (2, some (.row 45 p.1.told))]
def d63 (a : List AV) (H : Heap) : Option P63 := match a, H with
  | [.ptr 0 0 0, .int .i64 a0], [(0, some (.box 80 [.int .i64 a1, .int .i64 a2, .int .i64 a3, .int .i64 a4, .int .i64 a5, .int .i64 a6, ba7, .slf 1, .int .i64 a8, ba9, .slf 2])), (1, ba10), (2, ba11)] => (match (dslD 9 ba7 : Option (List ByteArray)) with | some a7 => (match (dslD 89 ba9 : Option (List GVote)) with | some a9 => (match (rowD 3 ba10 : Option (List Int)) with | some a10 => (match (rowD 45 ba11 : Option (List GMsg)) with | some a11 => some ((⟨⟨a1, a2, a3, a4, a5, a6, a7, a10, a8, a9⟩, a11⟩ : GActor), a0) | none => none) | none => none) | none => none) | none => none)
  | _, _ => none
theorem d63_ok (a : List AV) (H : Heap) (p : P63) (h : d63 a H = some p) : a = A63 p ∧ H = H63 p := by
  unfold d63 at h
  split at h
  · skip
    split at h
    · rename_i q
      have q := dslD_ok q
      subst q
      split at h
      · rename_i q
        have q := dslD_ok q
        subst q
        split at h
        · rename_i q
          have q := rowD_ok q
          subst q
          split at h
          · rename_i q
            have q := rowD_ok q
            subst q
            cases h; exact ⟨rfl, rfl⟩
          · cases h
        · cases h
      · cases h
    · cases h
  · cases h
abbrev R63 := GActor
def o63 (r : R63) : AEnd := .ret (.tup [])
def u63 (r : R63) : Heap := [(0, some (.box 80 [.int .i64 r.state.id, .int .i64 r.state.n, .int .i64 r.state.view, .int .i64 r.state.last, .int .i64 r.state.phase, .int .i64 r.state.commit, .dsl 9 r.state.rows, .slf 3, .int .i64 r.state.starts, .dsl 89 r.state.votes, .slf 4])), (1, none), (2, none), (3, some (.row 3 r.state.far)), (4, some (.row 45 r.told))]
def n63 (_ : R63) : Nat := 5
def r63 (o : AEnd) (u : Heap) (n : Nat) : Option R63 := match o, u, n with
  | .ret (.tup []), [(0, some (.box 80 [.int .i64 a0, .int .i64 a1, .int .i64 a2, .int .i64 a3, .int .i64 a4, .int .i64 a5, ba6, .slf 3, .int .i64 a7, ba8, .slf 4])), (1, none), (2, none), (3, ba9), (4, ba10)], 5 => (match (dslD 9 ba6 : Option (List ByteArray)) with | some a6 => (match (dslD 89 ba8 : Option (List GVote)) with | some a8 => (match (rowD 3 ba9 : Option (List Int)) with | some a9 => (match (rowD 45 ba10 : Option (List GMsg)) with | some a10 => some ((⟨⟨a0, a1, a2, a3, a4, a5, a6, a9, a7, a8⟩, a10⟩ : GActor)) | none => none) | none => none) | none => none) | none => none)
  | _, _, _ => none
theorem r63_ok (p : P63) (o : AEnd) (u : Heap) (n : Nat) (r : R63) (h : r63 o u n = some r) : o = o63 r ∧ u = u63 r ∧ n = n63 r := by
  unfold r63 at h
  split at h
  · skip
    split at h
    · rename_i q
      have q := dslD_ok q
      subst q
      split at h
      · rename_i q
        have q := dslD_ok q
        subst q
        split at h
        · rename_i q
          have q := rowD_ok q
          subst q
          split at h
          · rename_i q
            have q := rowD_ok q
            subst q
            cases h; exact ⟨rfl, rfl, rfl⟩
          · cases h
        · cases h
      · cases h
    · cases h
  · cases h
def f63 (k : Nat) (x0 : GActor) (x1 : Int) : Option R63 :=
  bindO (f59 k (GActor.mk (GNode.mk (GNode.id (GActor.state x0)) (GNode.n (GActor.state x0)) x1 (GNode.last (GActor.state x0)) (1 : Int) (GNode.commit (GActor.state x0)) (GNode.rows (GActor.state x0)) (GNode.far (GActor.state x0)) (GNode.starts (GActor.state x0)) (GNode.votes (GActor.state x0))) (GActor.told x0))) fun r3000 =>
   bindO (f60 k (0 : Int) [GNode.id (GActor.state r3000)]) fun r2999 =>
    bindO (f67 k (GActor.mk (GNode.mk (GNode.id (GActor.state r3000)) (GNode.n (GActor.state r3000)) (GNode.view (GActor.state r3000)) (GNode.last (GActor.state r3000)) (GNode.phase (GActor.state r3000)) (GNode.commit (GActor.state r3000)) (GNode.rows (GActor.state r3000)) (GNode.far (GActor.state r3000)) r2999 (GNode.votes (GActor.state r3000))) (GActor.told r3000)) (GMsg.mk (4 : Int) (0 : Int) (0 : Int) (0 : Int) (0 : Int) (0 : Int) (0 : Int) [])) fun r2998 =>
     some r2998
theorem f63_run (k : Nat) (x0 : GActor) (x1 : Int) : cf51 k R63 63 (A63 (x0, x1)) (H63 (x0, x1)) (List.length (H63 (x0, x1))) (endR planR (.any) [1, 2] (List.length (H63 (x0, x1))) r63) = f63 k x0 x1 := by kernel_rfl
def g63 (k : Nat) : CallS := entT d63 (fun p => f63 k p.1 p.2) (elAll _) (fun _ => o63) (fun _ => u63) (fun _ => n63)
theorem g63_ok (k : Nat) : CallSOk Try.prog 63 (g63 k) := entry_ok (Hp := H63) (oR := fun _ => o63) (uR := fun _ => u63) (nR := fun _ => n63) (cf51_ok k) d63_ok r63_ok (hel := elAll_ok) (fun p => f63_run k p.1 p.2)
def Dl52 (k : Nat) : Delta := dCons 63 (callAt plan [.any, .any] (g63 k)) (Dl51 k)
def Lm52 (k : Nat) : FuncId → Nat → Option LamF := Lm51 k
theorem Dl52_ok (k : Nat) : DeltaOk Try.prog (Dl52 k) := dCons_ok (Dl51_ok k) (g63_ok k)
theorem Lm52_ok (k : Nat) : LamsOk Try.prog (Lm52 k) := Lm51_ok k
abbrev cf52 (k : Nat) : CallF := evF Try.prog (Dl52 k) (Lm52 k) 200 12
theorem cf52_ok (k : Nat) : CfOk Try.prog (cf52 k) := evF_ok noNum mixed (Dl52_ok k) (Lm52_ok k) 12
abbrev P64 := GActor × Bool
def A64 (p : P64) : List AV := [.ptr 0 0 0, .bool p.2]
def H64 (p : P64) : Heap := [(0, some (.box 80 [.int .i64 p.1.state.id, .int .i64 p.1.state.n, .int .i64 p.1.state.view, .int .i64 p.1.state.last, .int .i64 p.1.state.phase, .int .i64 p.1.state.commit, .dsl 9 p.1.state.rows, .slf 1, .int .i64 p.1.state.starts, .dsl 89 p.1.state.votes, .slf 2])), (1, some (.row 3 p.1.state.far)), (2, some (.row 45 p.1.told))]
def d64 (a : List AV) (H : Heap) : Option P64 := match a, H with
  | [.ptr 0 0 0, .bool a0], [(0, some (.box 80 [.int .i64 a1, .int .i64 a2, .int .i64 a3, .int .i64 a4, .int .i64 a5, .int .i64 a6, ba7, .slf 1, .int .i64 a8, ba9, .slf 2])), (1, ba10), (2, ba11)] => (match (dslD 9 ba7 : Option (List ByteArray)) with | some a7 => (match (dslD 89 ba9 : Option (List GVote)) with | some a9 => (match (rowD 3 ba10 : Option (List Int)) with | some a10 => (match (rowD 45 ba11 : Option (List GMsg)) with | some a11 => some ((⟨⟨a1, a2, a3, a4, a5, a6, a7, a10, a8, a9⟩, a11⟩ : GActor), a0) | none => none) | none => none) | none => none) | none => none)
  | _, _ => none
theorem d64_ok (a : List AV) (H : Heap) (p : P64) (h : d64 a H = some p) : a = A64 p ∧ H = H64 p := by
  unfold d64 at h
  split at h
  · skip
    split at h
    · rename_i q
      have q := dslD_ok q
      subst q
      split at h
      · rename_i q
        have q := dslD_ok q
        subst q
        split at h
        · rename_i q
          have q := rowD_ok q
          subst q
          split at h
          · rename_i q
            have q := rowD_ok q
            subst q
            cases h; exact ⟨rfl, rfl⟩
          · cases h
        · cases h
      · cases h
    · cases h
  · cases h
abbrev R64 := GActor
def o64 (r : R64) : AEnd := .ret (.tup [])
def u64 (r : R64) : Heap := [(0, some (.box 80 [.int .i64 r.state.id, .int .i64 r.state.n, .int .i64 r.state.view, .int .i64 r.state.last, .int .i64 r.state.phase, .int .i64 r.state.commit, .dsl 9 r.state.rows, .slf 3, .int .i64 r.state.starts, .dsl 89 r.state.votes, .slf 4])), (1, none), (2, none), (3, some (.row 3 r.state.far)), (4, some (.row 45 r.told))]
def n64 (_ : R64) : Nat := 5
def r64 (o : AEnd) (u : Heap) (n : Nat) : Option R64 := match o, u, n with
  | .ret (.tup []), [(0, some (.box 80 [.int .i64 a0, .int .i64 a1, .int .i64 a2, .int .i64 a3, .int .i64 a4, .int .i64 a5, ba6, .slf 3, .int .i64 a7, ba8, .slf 4])), (1, none), (2, none), (3, ba9), (4, ba10)], 5 => (match (dslD 9 ba6 : Option (List ByteArray)) with | some a6 => (match (dslD 89 ba8 : Option (List GVote)) with | some a8 => (match (rowD 3 ba9 : Option (List Int)) with | some a9 => (match (rowD 45 ba10 : Option (List GMsg)) with | some a10 => some ((⟨⟨a0, a1, a2, a3, a4, a5, a6, a9, a7, a8⟩, a10⟩ : GActor)) | none => none) | none => none) | none => none) | none => none)
  | _, _, _ => none
theorem r64_ok (p : P64) (o : AEnd) (u : Heap) (n : Nat) (r : R64) (h : r64 o u n = some r) : o = o64 r ∧ u = u64 r ∧ n = n64 r := by
  unfold r64 at h
  split at h
  · skip
    split at h
    · rename_i q
      have q := dslD_ok q
      subst q
      split at h
      · rename_i q
        have q := dslD_ok q
        subst q
        split at h
        · rename_i q
          have q := rowD_ok q
          subst q
          split at h
          · rename_i q
            have q := rowD_ok q
            subst q
            cases h; exact ⟨rfl, rfl, rfl⟩
          · cases h
        · cases h
      · cases h
    · cases h
  · cases h
def f64 (k : Nat) (x0 : GActor) (x1 : Bool) : Option R64 :=
  br x1
   (some x0)
   (bindO (f100 k (GNode.starts (GActor.state x0)) (GNode.n (GActor.state x0))) fun r2999 =>
    br (!r2999)
     (some x0)
     (bindO (f118 k (GNode.view (GActor.state x0)) (GNode.n (GActor.state x0))) fun r2997 =>
      br (Prod.fst r2997 != GNode.id (GActor.state x0))
       (bindO (f95 k x0 (Prod.fst r2997) (GMsg.mk (5 : Int) (0 : Int) (0 : Int) (0 : Int) (GNode.last (GActor.state x0)) (0 : Int) (GNode.commit (GActor.state x0)) (GNode.rows (GActor.state x0)))) fun r2996 =>
        some r2996)
       (bindO (f90 k (GNode.votes (GActor.state x0)) (GVote.mk (GNode.id (GActor.state x0)) (GNode.last (GActor.state x0)) (GNode.commit (GActor.state x0)) (GNode.rows (GActor.state x0)))) fun r2994 =>
        some (GActor.mk (GNode.mk (GNode.id (GActor.state x0)) (GNode.n (GActor.state x0)) (GNode.view (GActor.state x0)) (GNode.last (GActor.state x0)) (GNode.phase (GActor.state x0)) (GNode.commit (GActor.state x0)) (GNode.rows (GActor.state x0)) (GNode.far (GActor.state x0)) (GNode.starts (GActor.state x0)) r2994) (GActor.told x0)))))
theorem f64_run (k : Nat) (x0 : GActor) (x1 : Bool) : cf52 k R64 64 (A64 (x0, x1)) (H64 (x0, x1)) (List.length (H64 (x0, x1))) (endR planR (.any) [1, 2] (List.length (H64 (x0, x1))) r64) = f64 k x0 x1 := by kernel_rfl
def g64 (k : Nat) : CallS := entT d64 (fun p => f64 k p.1 p.2) (elAll _) (fun _ => o64) (fun _ => u64) (fun _ => n64)
theorem g64_ok (k : Nat) : CallSOk Try.prog 64 (g64 k) := entry_ok (Hp := H64) (oR := fun _ => o64) (uR := fun _ => u64) (nR := fun _ => n64) (cf52_ok k) d64_ok r64_ok (hel := elAll_ok) (fun p => f64_run k p.1 p.2)
def Dl53 (k : Nat) : Delta := dCons 64 (callAt plan [.any, .any] (g64 k)) (Dl52 k)
def Lm53 (k : Nat) : FuncId → Nat → Option LamF := Lm52 k
theorem Dl53_ok (k : Nat) : DeltaOk Try.prog (Dl53 k) := dCons_ok (Dl52_ok k) (g64_ok k)
theorem Lm53_ok (k : Nat) : LamsOk Try.prog (Lm53 k) := Lm52_ok k
abbrev cf53 (k : Nat) : CallF := evF Try.prog (Dl53 k) (Lm53 k) 200 12
theorem cf53_ok (k : Nat) : CfOk Try.prog (cf53 k) := evF_ok noNum mixed (Dl53_ok k) (Lm53_ok k) 12
abbrev P101 := GActor
def A101 (p : P101) : List AV := [.ptr 0 0 0]
def H101 (p : P101) : Heap := [(0, some (.box 80 [.int .i64 p.state.id, .int .i64 p.state.n, .int .i64 p.state.view, .int .i64 p.state.last, .int .i64 p.state.phase, .int .i64 p.state.commit, .dsl 9 p.state.rows, .slf 1, .int .i64 p.state.starts, .dsl 89 p.state.votes, .slf 2])), (1, some (.row 3 p.state.far)), (2, some (.row 45 p.told))]
def d101 (a : List AV) (H : Heap) : Option P101 := match a, H with
  | [.ptr 0 0 0], [(0, some (.box 80 [.int .i64 a0, .int .i64 a1, .int .i64 a2, .int .i64 a3, .int .i64 a4, .int .i64 a5, ba6, .slf 1, .int .i64 a7, ba8, .slf 2])), (1, ba9), (2, ba10)] => (match (dslD 9 ba6 : Option (List ByteArray)) with | some a6 => (match (dslD 89 ba8 : Option (List GVote)) with | some a8 => (match (rowD 3 ba9 : Option (List Int)) with | some a9 => (match (rowD 45 ba10 : Option (List GMsg)) with | some a10 => some ((⟨⟨a0, a1, a2, a3, a4, a5, a6, a9, a7, a8⟩, a10⟩ : GActor)) | none => none) | none => none) | none => none) | none => none)
  | _, _ => none
theorem d101_ok (a : List AV) (H : Heap) (p : P101) (h : d101 a H = some p) : a = A101 p ∧ H = H101 p := by
  unfold d101 at h
  split at h
  · skip
    split at h
    · rename_i q
      have q := dslD_ok q
      subst q
      split at h
      · rename_i q
        have q := dslD_ok q
        subst q
        split at h
        · rename_i q
          have q := rowD_ok q
          subst q
          split at h
          · rename_i q
            have q := rowD_ok q
            subst q
            cases h; exact ⟨rfl, rfl⟩
          · cases h
        · cases h
      · cases h
    · cases h
  · cases h
abbrev R101 := GActor
def o101 (r : R101) : AEnd := .ret (.tup [])
def u101 (r : R101) : Heap := [(0, some (.box 80 [.int .i64 r.state.id, .int .i64 r.state.n, .int .i64 r.state.view, .int .i64 r.state.last, .int .i64 r.state.phase, .int .i64 r.state.commit, .dsl 9 r.state.rows, .slf 3, .int .i64 r.state.starts, .dsl 89 r.state.votes, .slf 4])), (1, none), (2, none), (3, some (.row 3 r.state.far)), (4, some (.row 45 r.told))]
def n101 (_ : R101) : Nat := 5
def r101 (o : AEnd) (u : Heap) (n : Nat) : Option R101 := match o, u, n with
  | .ret (.tup []), [(0, some (.box 80 [.int .i64 a0, .int .i64 a1, .int .i64 a2, .int .i64 a3, .int .i64 a4, .int .i64 a5, ba6, .slf 3, .int .i64 a7, ba8, .slf 4])), (1, none), (2, none), (3, ba9), (4, ba10)], 5 => (match (dslD 9 ba6 : Option (List ByteArray)) with | some a6 => (match (dslD 89 ba8 : Option (List GVote)) with | some a8 => (match (rowD 3 ba9 : Option (List Int)) with | some a9 => (match (rowD 45 ba10 : Option (List GMsg)) with | some a10 => some ((⟨⟨a0, a1, a2, a3, a4, a5, a6, a9, a7, a8⟩, a10⟩ : GActor)) | none => none) | none => none) | none => none) | none => none)
  | _, _, _ => none
theorem r101_ok (p : P101) (o : AEnd) (u : Heap) (n : Nat) (r : R101) (h : r101 o u n = some r) : o = o101 r ∧ u = u101 r ∧ n = n101 r := by
  unfold r101 at h
  split at h
  · skip
    split at h
    · rename_i q
      have q := dslD_ok q
      subst q
      split at h
      · rename_i q
        have q := dslD_ok q
        subst q
        split at h
        · rename_i q
          have q := rowD_ok q
          subst q
          split at h
          · rename_i q
            have q := rowD_ok q
            subst q
            cases h; exact ⟨rfl, rfl, rfl⟩
          · cases h
        · cases h
      · cases h
    · cases h
  · cases h
def f101 (k : Nat) (x0 : GActor) : Option R101 :=
  bindO (f59 k (GActor.mk (GNode.mk (GNode.id (GActor.state x0)) (GNode.n (GActor.state x0)) (GNode.view (GActor.state x0)) (GNode.view (GActor.state x0)) (0 : Int) (GNode.commit (GActor.state x0)) (GNode.rows (GActor.state x0)) (GNode.far (GActor.state x0)) (GNode.starts (GActor.state x0)) (GNode.votes (GActor.state x0))) (GActor.told x0))) fun r3000 =>
   bindO (f61 k r3000) fun r2999 =>
    some r2999
theorem f101_run (k : Nat) (x0 : GActor) : cf53 k R101 101 (A101 (x0)) (H101 (x0)) (List.length (H101 (x0))) (endR planR (.any) [1, 2] (List.length (H101 (x0))) r101) = f101 k x0 := by kernel_rfl
def g101 (k : Nat) : CallS := entT d101 (fun p => f101 k p) (elAll _) (fun _ => o101) (fun _ => u101) (fun _ => n101)
theorem g101_ok (k : Nat) : CallSOk Try.prog 101 (g101 k) := entry_ok (Hp := H101) (oR := fun _ => o101) (uR := fun _ => u101) (nR := fun _ => n101) (cf53_ok k) d101_ok r101_ok (hel := elAll_ok) (fun p => f101_run k p)
def Dl54 (k : Nat) : Delta := dCons 101 (callAt plan [.any] (g101 k)) (Dl53 k)
def Lm54 (k : Nat) : FuncId → Nat → Option LamF := Lm53 k
theorem Dl54_ok (k : Nat) : DeltaOk Try.prog (Dl54 k) := dCons_ok (Dl53_ok k) (g101_ok k)
theorem Lm54_ok (k : Nat) : LamsOk Try.prog (Lm54 k) := Lm53_ok k
abbrev cf54 (k : Nat) : CallF := evF Try.prog (Dl54 k) (Lm54 k) 200 12
theorem cf54_ok (k : Nat) : CfOk Try.prog (cf54 k) := evF_ok noNum mixed (Dl54_ok k) (Lm54_ok k) 12
abbrev P65 := GActor
def A65 (p : P65) : List AV := [.ptr 0 0 0]
def H65 (p : P65) : Heap := [(0, some (.box 80 [.int .i64 p.state.id, .int .i64 p.state.n, .int .i64 p.state.view, .int .i64 p.state.last, .int .i64 p.state.phase, .int .i64 p.state.commit, .dsl 9 p.state.rows, .slf 1, .int .i64 p.state.starts, .dsl 89 p.state.votes, .slf 2])), (1, some (.row 3 p.state.far)), (2, some (.row 45 p.told))]
def d65 (a : List AV) (H : Heap) : Option P65 := match a, H with
  | [.ptr 0 0 0], [(0, some (.box 80 [.int .i64 a0, .int .i64 a1, .int .i64 a2, .int .i64 a3, .int .i64 a4, .int .i64 a5, ba6, .slf 1, .int .i64 a7, ba8, .slf 2])), (1, ba9), (2, ba10)] => (match (dslD 9 ba6 : Option (List ByteArray)) with | some a6 => (match (dslD 89 ba8 : Option (List GVote)) with | some a8 => (match (rowD 3 ba9 : Option (List Int)) with | some a9 => (match (rowD 45 ba10 : Option (List GMsg)) with | some a10 => some ((⟨⟨a0, a1, a2, a3, a4, a5, a6, a9, a7, a8⟩, a10⟩ : GActor)) | none => none) | none => none) | none => none) | none => none)
  | _, _ => none
theorem d65_ok (a : List AV) (H : Heap) (p : P65) (h : d65 a H = some p) : a = A65 p ∧ H = H65 p := by
  unfold d65 at h
  split at h
  · skip
    split at h
    · rename_i q
      have q := dslD_ok q
      subst q
      split at h
      · rename_i q
        have q := dslD_ok q
        subst q
        split at h
        · rename_i q
          have q := rowD_ok q
          subst q
          split at h
          · rename_i q
            have q := rowD_ok q
            subst q
            cases h; exact ⟨rfl, rfl⟩
          · cases h
        · cases h
      · cases h
    · cases h
  · cases h
abbrev R65 := GActor
def o65 (r : R65) : AEnd := .ret (.tup [])
def u65 (r : R65) : Heap := [(0, some (.box 80 [.int .i64 r.state.id, .int .i64 r.state.n, .int .i64 r.state.view, .int .i64 r.state.last, .int .i64 r.state.phase, .int .i64 r.state.commit, .dsl 9 r.state.rows, .slf 3, .int .i64 r.state.starts, .dsl 89 r.state.votes, .slf 4])), (1, none), (2, none), (3, some (.row 3 r.state.far)), (4, some (.row 45 r.told))]
def n65 (_ : R65) : Nat := 5
def r65 (o : AEnd) (u : Heap) (n : Nat) : Option R65 := match o, u, n with
  | .ret (.tup []), [(0, some (.box 80 [.int .i64 a0, .int .i64 a1, .int .i64 a2, .int .i64 a3, .int .i64 a4, .int .i64 a5, ba6, .slf 3, .int .i64 a7, ba8, .slf 4])), (1, none), (2, none), (3, ba9), (4, ba10)], 5 => (match (dslD 9 ba6 : Option (List ByteArray)) with | some a6 => (match (dslD 89 ba8 : Option (List GVote)) with | some a8 => (match (rowD 3 ba9 : Option (List Int)) with | some a9 => (match (rowD 45 ba10 : Option (List GMsg)) with | some a10 => some ((⟨⟨a0, a1, a2, a3, a4, a5, a6, a9, a7, a8⟩, a10⟩ : GActor)) | none => none) | none => none) | none => none) | none => none)
  | _, _, _ => none
theorem r65_ok (p : P65) (o : AEnd) (u : Heap) (n : Nat) (r : R65) (h : r65 o u n = some r) : o = o65 r ∧ u = u65 r ∧ n = n65 r := by
  unfold r65 at h
  split at h
  · skip
    split at h
    · rename_i q
      have q := dslD_ok q
      subst q
      split at h
      · rename_i q
        have q := dslD_ok q
        subst q
        split at h
        · rename_i q
          have q := rowD_ok q
          subst q
          split at h
          · rename_i q
            have q := rowD_ok q
            subst q
            cases h; exact ⟨rfl, rfl, rfl⟩
          · cases h
        · cases h
      · cases h
    · cases h
  · cases h
structure S65_0 where
  mk ::
  x2 : Int
  x3 : Int
  x13 : List GVote
  x14 : Int
  x15 : Int
  h0_0 : Int
  h0_1 : Int
  h0_2 : Int
  h0_3 : Int
  h0_4 : Int
  h0_5 : Int
  h0_6 : List ByteArray
  h0_8 : Int
  h0_9 : List GVote
  h1 : List Int
  h2 : List GMsg
def VS65_0 (s : S65_0) : List AV := [.ptr 0 0 0, .int .i64 s.x2, .int .i64 s.x3, .dsl 89 s.x13, .int .i64 s.x14, .int .i64 s.x15]
def HS65_0 (s : S65_0) : Heap := [(0, some (.box 80 [.int .i64 s.h0_0, .int .i64 s.h0_1, .int .i64 s.h0_2, .int .i64 s.h0_3, .int .i64 s.h0_4, .int .i64 s.h0_5, .dsl 9 s.h0_6, .slf 1, .int .i64 s.h0_8, .dsl 89 s.h0_9, .slf 2])), (1, some (.row 3 s.h1)), (2, some (.row 45 s.h2))]
def dS65_0 (vs : List AV) (H : Heap) : Option S65_0 := match vs, H with
  | [.ptr 0 0 0, .int .i64 x2, .int .i64 x3, bx13, .int .i64 x14, .int .i64 x15], [(0, some (.box 80 [.int .i64 h0_0, .int .i64 h0_1, .int .i64 h0_2, .int .i64 h0_3, .int .i64 h0_4, .int .i64 h0_5, bh0_6, .slf 1, .int .i64 h0_8, bh0_9, .slf 2])), (1, bh1), (2, bh2)] => (match (dslD 89 bx13 : Option (List GVote)) with | some x13 => (match (dslD 9 bh0_6 : Option (List ByteArray)) with | some h0_6 => (match (dslD 89 bh0_9 : Option (List GVote)) with | some h0_9 => (match (rowD 3 bh1 : Option (List Int)) with | some h1 => (match (rowD 45 bh2 : Option (List GMsg)) with | some h2 => some (⟨x2, x3, x13, x14, x15, h0_0, h0_1, h0_2, h0_3, h0_4, h0_5, h0_6, h0_8, h0_9, h1, h2⟩ : S65_0) | none => none) | none => none) | none => none) | none => none) | none => none)
  | _, _ => none
theorem dS65_0_ok (vs : List AV) (H : Heap) (s : S65_0) (h : dS65_0 vs H = some s) : vs = VS65_0 s ∧ H = HS65_0 s := by
  unfold dS65_0 at h
  split at h
  · skip
    split at h
    · rename_i q
      have q := dslD_ok q
      subst q
      split at h
      · rename_i q
        have q := dslD_ok q
        subst q
        split at h
        · rename_i q
          have q := dslD_ok q
          subst q
          split at h
          · rename_i q
            have q := rowD_ok q
            subst q
            split at h
            · rename_i q
              have q := rowD_ok q
              subst q
              cases h; exact ⟨rfl, rfl⟩
            · cases h
          · cases h
        · cases h
      · cases h
    · cases h
  · cases h
def tS65_0 : AExit → List (Nat × Kd) := fun x => match x with
  | .normal => [(0, .any), (2, .any), (3, .any), (13, .rd 89), (14, .any), (15, .any)]
  | .exit i => (match i with | 0 => [(0, .any), (2, .any), (3, .any)] | _ => [])
  | .ret => []
  | _ => []
structure E65_0 where
  mk ::
  x2 : Int
  x3 : Int
  h0_0 : Int
  h0_1 : Int
  h0_2 : Int
  h0_3 : Int
  h0_4 : Int
  h0_5 : Int
  h0_6 : List ByteArray
  h0_8 : Int
  h0_9 : List GVote
  h1 : List Int
  h2 : List GMsg
def VE65_0 (s : E65_0) : List AV := [.ptr 0 0 0, .int .i64 s.x2, .int .i64 s.x3]
def HE65_0 (s : E65_0) : Heap := [(0, some (.box 80 [.int .i64 s.h0_0, .int .i64 s.h0_1, .int .i64 s.h0_2, .int .i64 s.h0_3, .int .i64 s.h0_4, .int .i64 s.h0_5, .dsl 9 s.h0_6, .slf 1, .int .i64 s.h0_8, .dsl 89 s.h0_9, .slf 2])), (1, some (.row 3 s.h1)), (2, some (.row 45 s.h2))]
def dE65_0 (x : AExit) (vs : List AV) (H : Heap) : Option E65_0 := match x, vs, H with
  | .exit 0, [.ptr 0 0 0, .int .i64 x2, .int .i64 x3], [(0, some (.box 80 [.int .i64 h0_0, .int .i64 h0_1, .int .i64 h0_2, .int .i64 h0_3, .int .i64 h0_4, .int .i64 h0_5, bh0_6, .slf 1, .int .i64 h0_8, bh0_9, .slf 2])), (1, bh1), (2, bh2)] => (match (dslD 9 bh0_6 : Option (List ByteArray)) with | some h0_6 => (match (dslD 89 bh0_9 : Option (List GVote)) with | some h0_9 => (match (rowD 3 bh1 : Option (List Int)) with | some h1 => (match (rowD 45 bh2 : Option (List GMsg)) with | some h2 => some (⟨x2, x3, h0_0, h0_1, h0_2, h0_3, h0_4, h0_5, h0_6, h0_8, h0_9, h1, h2⟩ : E65_0) | none => none) | none => none) | none => none) | none => none)
  | _, _, _ => none
theorem dE65_0_ok (x : AExit) (vs : List AV) (H : Heap) (s : E65_0) (h : dE65_0 x vs H = some s) : x = .exit 0 ∧ vs = VE65_0 s ∧ H = HE65_0 s := by
  unfold dE65_0 at h
  split at h
  · skip
    split at h
    · rename_i q
      have q := dslD_ok q
      subst q
      split at h
      · rename_i q
        have q := dslD_ok q
        subst q
        split at h
        · rename_i q
          have q := rowD_ok q
          subst q
          split at h
          · rename_i q
            have q := rowD_ok q
            subst q
            cases h; exact ⟨rfl, rfl, rfl⟩
          · cases h
        · cases h
      · cases h
    · cases h
  · cases h
def xE65_0 (_ : E65_0) : AExit := .exit 0
def pS65_0 (k : Nat) (s : S65_0) : Option (S65_0 ⊕ E65_0) :=
  br (decide (S65_0.x15 s < S65_0.x14 s))
   (br (decide ((0 : Int) ≤ S65_0.x15 s ∧ S65_0.x15 s < (↑(List.length (S65_0.x13 s)) : Int)))
    (bindO (f60 k (S65_0.x2 s) [GVote.src (List.getD (S65_0.x13 s) (Int.toNat (S65_0.x15 s)) default)]) fun r1500 =>
     some (Sum.inl (S65_0.mk r1500 (Go.Eng.max2 (S65_0.x3 s) (GVote.commit (List.getD (S65_0.x13 s) (Int.toNat (S65_0.x15 s)) default))) (S65_0.x13 s) (S65_0.x14 s) (IntKind.wrap IntKind.i64 (S65_0.x15 s + (1 : Int))) (S65_0.h0_0 s) (S65_0.h0_1 s) (S65_0.h0_2 s) (S65_0.h0_3 s) (S65_0.h0_4 s) (S65_0.h0_5 s) (S65_0.h0_6 s) (S65_0.h0_8 s) (S65_0.h0_9 s) (S65_0.h1 s) (S65_0.h2 s))))
    (none))
   (some (Sum.inr (E65_0.mk (S65_0.x2 s) (S65_0.x3 s) (S65_0.h0_0 s) (S65_0.h0_1 s) (S65_0.h0_2 s) (S65_0.h0_3 s) (S65_0.h0_4 s) (S65_0.h0_5 s) (S65_0.h0_6 s) (S65_0.h0_8 s) (S65_0.h0_9 s) (S65_0.h1 s) (S65_0.h2 s))))
theorem pS65_0_run (k : Nat) (s : S65_0) : evC (S65_0 ⊕ E65_0) Try.prog (ntmpsAt Try.prog 65) (cf54 k) ((Lm54 k) 65) 200 (loopAt Try.prog 65 0) (zipE [(0, .any), (2, .any), (3, .any), (13, .rd 89), (14, .any), (15, .any)] (VS65_0 s)) (HS65_0 s) (List.length (HS65_0 s)) (cutS plan 1 tS65_0 (rndT dS65_0 dE65_0)) = pS65_0 k s := by kernel_rfl
def l65_0 (k : Nat) (s : S65_0) : Option E65_0 := iterT (pS65_0 k) k s
def m65_0 (k : Nat) : LamS := lamT 0 dS65_0 (l65_0 k) (elAll _) tS65_0 xE65_0 VE65_0 HE65_0
theorem loop65_0 : isLoopAt Try.prog 65 0 = true := by kernel_rfl
theorem m65_0_ok (k : Nat) : LamSOk Try.prog (ntmpsAt Try.prog 65) 1 (.block 0 (.loop (loopAt Try.prog 65 0))) [(0, .any), (2, .any), (3, .any), (13, .rd 89), (14, .any), (15, .any)] (m65_0 k) := lamT_ok (plan := plan) (kb := 1) (body_run noNum mixed (cf54_ok k) (Lm54_ok k) loop65_0) rfl dS65_0_ok dE65_0_ok (hel := elAll_ok) (pS65_0_run k) k
def Dl55 (k : Nat) : Delta := Dl54 k
def Lm55 (k : Nat) : FuncId → Nat → Option LamF := lCons 65 0 (lamBy plan [16, 17, 18, 5, 19, 20, 21, 22, 23, 24, 25, 26, 27, 2, 3, 28, 15] [(0, .any), (2, .any), (3, .any), (13, .rd 89), (14, .any), (15, .any)] 1 (m65_0 k)) (Lm54 k)
theorem Dl55_ok (k : Nat) : DeltaOk Try.prog (Dl55 k) := Dl54_ok k
theorem Lm55_ok (k : Nat) : LamsOk Try.prog (Lm55 k) := lCons_ok (Lm54_ok k) loop65_0 (lamBy_ok (m65_0_ok k) (by kernel_rfl))
abbrev cf55 (k : Nat) : CallF := evF Try.prog (Dl55 k) (Lm55 k) 200 12
theorem cf55_ok (k : Nat) : CfOk Try.prog (cf55 k) := evF_ok noNum mixed (Dl55_ok k) (Lm55_ok k) 12
def f65 (k : Nat) (x0 : GActor) : Option R65 :=
  bindO (l65_0 k (S65_0.mk (0 : Int) (0 : Int) (GNode.votes (GActor.state x0)) (↑(List.length (GNode.votes (GActor.state x0))) : Int) (0 : Int) (GNode.id (GActor.state x0)) (GNode.n (GActor.state x0)) (GNode.view (GActor.state x0)) (GNode.last (GActor.state x0)) (GNode.phase (GActor.state x0)) (GNode.commit (GActor.state x0)) (GNode.rows (GActor.state x0)) (GNode.starts (GActor.state x0)) (GNode.votes (GActor.state x0)) (GNode.far (GActor.state x0)) (GActor.told x0))) fun r3000 =>
   bindO (f118 k (E65_0.h0_2 r3000) (E65_0.h0_1 r3000)) fun r2999 =>
    br (Prod.fst r2999 != E65_0.h0_0 r3000)
     (some (GActor.mk (GNode.mk (E65_0.h0_0 r3000) (E65_0.h0_1 r3000) (E65_0.h0_2 r3000) (E65_0.h0_3 r3000) (E65_0.h0_4 r3000) (E65_0.h0_5 r3000) (E65_0.h0_6 r3000) (E65_0.h1 r3000) (E65_0.h0_8 r3000) (E65_0.h0_9 r3000)) (E65_0.h2 r3000)))
     (bindO (f100 k (E65_0.x2 r3000) (E65_0.h0_1 r3000)) fun r2997 =>
      br (!r2997)
       (some (GActor.mk (GNode.mk (E65_0.h0_0 r3000) (E65_0.h0_1 r3000) (E65_0.h0_2 r3000) (E65_0.h0_3 r3000) (E65_0.h0_4 r3000) (E65_0.h0_5 r3000) (E65_0.h0_6 r3000) (E65_0.h1 r3000) (E65_0.h0_8 r3000) (E65_0.h0_9 r3000)) (E65_0.h2 r3000)))
       (bindO (f108 k (E65_0.h0_9 r3000)) fun r2995 =>
        bindO (f101 k (GActor.mk (GNode.mk (E65_0.h0_0 r3000) (E65_0.h0_1 r3000) (E65_0.h0_2 r3000) (E65_0.h0_3 r3000) (E65_0.h0_4 r3000) (Go.Eng.min2 (E65_0.x3 r3000) (↑(List.length (GVote.rows (Prod.fst r2995))) : Int)) (GVote.rows (Prod.fst r2995)) (E65_0.h1 r3000) (E65_0.h0_8 r3000) (E65_0.h0_9 r3000)) (E65_0.h2 r3000))) fun r2994 =>
         bindO (f67 k r2994 (GMsg.mk (6 : Int) (0 : Int) (0 : Int) (0 : Int) (0 : Int) (0 : Int) (GNode.commit (GActor.state r2994)) (GNode.rows (GActor.state r2994)))) fun r2993 =>
          some r2993))
theorem f65_run (k : Nat) (x0 : GActor) : cf55 k R65 65 (A65 (x0)) (H65 (x0)) (List.length (H65 (x0))) (endR planR (.any) [1, 2] (List.length (H65 (x0))) r65) = f65 k x0 := by kernel_rfl
def g65 (k : Nat) : CallS := entT d65 (fun p => f65 k p) (elAll _) (fun _ => o65) (fun _ => u65) (fun _ => n65)
theorem g65_ok (k : Nat) : CallSOk Try.prog 65 (g65 k) := entry_ok (Hp := H65) (oR := fun _ => o65) (uR := fun _ => u65) (nR := fun _ => n65) (cf55_ok k) d65_ok r65_ok (hel := elAll_ok) (fun p => f65_run k p)
def Dl56 (k : Nat) : Delta := dCons 65 (callAt plan [.any] (g65 k)) (Dl55 k)
def Lm56 (k : Nat) : FuncId → Nat → Option LamF := Lm55 k
theorem Dl56_ok (k : Nat) : DeltaOk Try.prog (Dl56 k) := dCons_ok (Dl55_ok k) (g65_ok k)
theorem Lm56_ok (k : Nat) : LamsOk Try.prog (Lm56 k) := Lm55_ok k
abbrev cf56 (k : Nat) : CallF := evF Try.prog (Dl56 k) (Lm56 k) 200 12
theorem cf56_ok (k : Nat) : CfOk Try.prog (cf56 k) := evF_ok noNum mixed (Dl56_ok k) (Lm56_ok k) 12
abbrev P53 := GActor × GMsg
def A53 (p : P53) : List AV := [.ptr 0 0 0, .agg [.int .i64 p.2.kind, .int .i64 p.2.src, .int .i64 p.2.to, .int .i64 p.2.view, .int .i64 p.2.last, .int .i64 p.2.n, .int .i64 p.2.commit, .dsl 9 p.2.rows]]
def H53 (p : P53) : Heap := [(0, some (.box 80 [.int .i64 p.1.state.id, .int .i64 p.1.state.n, .int .i64 p.1.state.view, .int .i64 p.1.state.last, .int .i64 p.1.state.phase, .int .i64 p.1.state.commit, .dsl 9 p.1.state.rows, .slf 1, .int .i64 p.1.state.starts, .dsl 89 p.1.state.votes, .slf 2])), (1, some (.row 3 p.1.state.far)), (2, some (.row 45 p.1.told))]
def d53 (a : List AV) (H : Heap) : Option P53 := match a, H with
  | [.ptr 0 0 0, .agg [.int .i64 a0, .int .i64 a1, .int .i64 a2, .int .i64 a3, .int .i64 a4, .int .i64 a5, .int .i64 a6, ba7]], [(0, some (.box 80 [.int .i64 a8, .int .i64 a9, .int .i64 a10, .int .i64 a11, .int .i64 a12, .int .i64 a13, ba14, .slf 1, .int .i64 a15, ba16, .slf 2])), (1, ba17), (2, ba18)] => (match (dslD 9 ba7 : Option (List ByteArray)) with | some a7 => (match (dslD 9 ba14 : Option (List ByteArray)) with | some a14 => (match (dslD 89 ba16 : Option (List GVote)) with | some a16 => (match (rowD 3 ba17 : Option (List Int)) with | some a17 => (match (rowD 45 ba18 : Option (List GMsg)) with | some a18 => some ((⟨⟨a8, a9, a10, a11, a12, a13, a14, a17, a15, a16⟩, a18⟩ : GActor), (⟨a0, a1, a2, a3, a4, a5, a6, a7⟩ : GMsg)) | none => none) | none => none) | none => none) | none => none) | none => none)
  | _, _ => none
theorem d53_ok (a : List AV) (H : Heap) (p : P53) (h : d53 a H = some p) : a = A53 p ∧ H = H53 p := by
  unfold d53 at h
  split at h
  · skip
    split at h
    · rename_i q
      have q := dslD_ok q
      subst q
      split at h
      · rename_i q
        have q := dslD_ok q
        subst q
        split at h
        · rename_i q
          have q := dslD_ok q
          subst q
          split at h
          · rename_i q
            have q := rowD_ok q
            subst q
            split at h
            · rename_i q
              have q := rowD_ok q
              subst q
              cases h; exact ⟨rfl, rfl⟩
            · cases h
          · cases h
        · cases h
      · cases h
    · cases h
  · cases h
abbrev R53 := GActor
def o53 (r : R53) : AEnd := .ret (.tup [])
def u53 (r : R53) : Heap := [(0, some (.box 80 [.int .i64 r.state.id, .int .i64 r.state.n, .int .i64 r.state.view, .int .i64 r.state.last, .int .i64 r.state.phase, .int .i64 r.state.commit, .dsl 9 r.state.rows, .slf 3, .int .i64 r.state.starts, .dsl 89 r.state.votes, .slf 4])), (1, none), (2, none), (3, some (.row 3 r.state.far)), (4, some (.row 45 r.told))]
def n53 (_ : R53) : Nat := 5
def r53 (o : AEnd) (u : Heap) (n : Nat) : Option R53 := match o, u, n with
  | .ret (.tup []), [(0, some (.box 80 [.int .i64 a0, .int .i64 a1, .int .i64 a2, .int .i64 a3, .int .i64 a4, .int .i64 a5, ba6, .slf 3, .int .i64 a7, ba8, .slf 4])), (1, none), (2, none), (3, ba9), (4, ba10)], 5 => (match (dslD 9 ba6 : Option (List ByteArray)) with | some a6 => (match (dslD 89 ba8 : Option (List GVote)) with | some a8 => (match (rowD 3 ba9 : Option (List Int)) with | some a9 => (match (rowD 45 ba10 : Option (List GMsg)) with | some a10 => some ((⟨⟨a0, a1, a2, a3, a4, a5, a6, a9, a7, a8⟩, a10⟩ : GActor)) | none => none) | none => none) | none => none) | none => none)
  | _, _, _ => none
theorem r53_ok (p : P53) (o : AEnd) (u : Heap) (n : Nat) (r : R53) (h : r53 o u n = some r) : o = o53 r ∧ u = u53 r ∧ n = n53 r := by
  unfold r53 at h
  split at h
  · skip
    split at h
    · rename_i q
      have q := dslD_ok q
      subst q
      split at h
      · rename_i q
        have q := dslD_ok q
        subst q
        split at h
        · rename_i q
          have q := rowD_ok q
          subst q
          split at h
          · rename_i q
            have q := rowD_ok q
            subst q
            cases h; exact ⟨rfl, rfl, rfl⟩
          · cases h
        · cases h
      · cases h
    · cases h
  · cases h
def f53 (k : Nat) (x0 : GActor) (x1 : GMsg) : Option R53 :=
  br (GMsg.kind x1 == (5 : Int))
   (bindO (f118 k (GMsg.view x1) (GNode.n (GActor.state x0))) fun r3000 =>
    br (Prod.fst r3000 != GNode.id (GActor.state x0))
     (some x0)
     (br (decide (GMsg.view x1 > GNode.view (GActor.state x0)))
      (bindO (f63 k x0 (GMsg.view x1)) fun r2998 =>
       br (GNode.phase (GActor.state r2998) != (1 : Int))
        (br (GNode.phase (GActor.state r2998) == (0 : Int))
         (bindO (f118 k (GNode.view (GActor.state r2998)) (GNode.n (GActor.state r2998))) fun r2997 =>
          br (Prod.fst r2997 == GNode.id (GActor.state r2998))
           (bindO (f95 k r2998 (GMsg.src x1) (GMsg.mk (6 : Int) (0 : Int) (0 : Int) (0 : Int) (0 : Int) (0 : Int) (GNode.commit (GActor.state r2998)) (GNode.rows (GActor.state r2998)))) fun r2996 =>
            some r2996)
           (some r2998))
         (some r2998))
        (bindO (f100 k (GNode.starts (GActor.state r2998)) (GNode.n (GActor.state r2998))) fun r2992 =>
         bindO (f60 k (GNode.starts (GActor.state r2998)) [GMsg.src x1]) fun r2991 =>
          bindO (f64 k (GActor.mk (GNode.mk (GNode.id (GActor.state r2998)) (GNode.n (GActor.state r2998)) (GNode.view (GActor.state r2998)) (GNode.last (GActor.state r2998)) (GNode.phase (GActor.state r2998)) (GNode.commit (GActor.state r2998)) (GNode.rows (GActor.state r2998)) (GNode.far (GActor.state r2998)) r2991 (GNode.votes (GActor.state r2998))) (GActor.told r2998)) r2992) fun r2990 =>
           br (GMsg.kind x1 == (5 : Int))
            (bindO (f90 k (GNode.votes (GActor.state r2990)) (GVote.mk (GMsg.src x1) (GMsg.last x1) (GMsg.commit x1) (GMsg.rows x1))) fun r2989 =>
             bindO (f65 k (GActor.mk (GNode.mk (GNode.id (GActor.state r2990)) (GNode.n (GActor.state r2990)) (GNode.view (GActor.state r2990)) (GNode.last (GActor.state r2990)) (GNode.phase (GActor.state r2990)) (GNode.commit (GActor.state r2990)) (GNode.rows (GActor.state r2990)) (GNode.far (GActor.state r2990)) (GNode.starts (GActor.state r2990)) r2989) (GActor.told r2990))) fun r2988 =>
              some r2988)
            (bindO (f65 k r2990) fun r2986 =>
             some r2986)))
      (br (GNode.phase (GActor.state x0) != (1 : Int))
       (br (GNode.phase (GActor.state x0) == (0 : Int))
        (bindO (f118 k (GNode.view (GActor.state x0)) (GNode.n (GActor.state x0))) fun r2984 =>
         br (Prod.fst r2984 == GNode.id (GActor.state x0))
          (bindO (f95 k x0 (GMsg.src x1) (GMsg.mk (6 : Int) (0 : Int) (0 : Int) (0 : Int) (0 : Int) (0 : Int) (GNode.commit (GActor.state x0)) (GNode.rows (GActor.state x0)))) fun r2983 =>
           some r2983)
          (some x0))
        (some x0))
       (bindO (f100 k (GNode.starts (GActor.state x0)) (GNode.n (GActor.state x0))) fun r2979 =>
        bindO (f60 k (GNode.starts (GActor.state x0)) [GMsg.src x1]) fun r2978 =>
         bindO (f64 k (GActor.mk (GNode.mk (GNode.id (GActor.state x0)) (GNode.n (GActor.state x0)) (GNode.view (GActor.state x0)) (GNode.last (GActor.state x0)) (GNode.phase (GActor.state x0)) (GNode.commit (GActor.state x0)) (GNode.rows (GActor.state x0)) (GNode.far (GActor.state x0)) r2978 (GNode.votes (GActor.state x0))) (GActor.told x0)) r2979) fun r2977 =>
          br (GMsg.kind x1 == (5 : Int))
           (bindO (f90 k (GNode.votes (GActor.state r2977)) (GVote.mk (GMsg.src x1) (GMsg.last x1) (GMsg.commit x1) (GMsg.rows x1))) fun r2976 =>
            bindO (f65 k (GActor.mk (GNode.mk (GNode.id (GActor.state r2977)) (GNode.n (GActor.state r2977)) (GNode.view (GActor.state r2977)) (GNode.last (GActor.state r2977)) (GNode.phase (GActor.state r2977)) (GNode.commit (GActor.state r2977)) (GNode.rows (GActor.state r2977)) (GNode.far (GActor.state r2977)) (GNode.starts (GActor.state r2977)) r2976) (GActor.told r2977))) fun r2975 =>
             some r2975)
           (bindO (f65 k r2977) fun r2973 =>
            some r2973)))))
   (br (decide (GMsg.view x1 > GNode.view (GActor.state x0)))
    (bindO (f63 k x0 (GMsg.view x1)) fun r2971 =>
     br (GNode.phase (GActor.state r2971) != (1 : Int))
      (br (GNode.phase (GActor.state r2971) == (0 : Int))
       (bindO (f118 k (GNode.view (GActor.state r2971)) (GNode.n (GActor.state r2971))) fun r2970 =>
        br (Prod.fst r2970 == GNode.id (GActor.state r2971))
         (bindO (f95 k r2971 (GMsg.src x1) (GMsg.mk (6 : Int) (0 : Int) (0 : Int) (0 : Int) (0 : Int) (0 : Int) (GNode.commit (GActor.state r2971)) (GNode.rows (GActor.state r2971)))) fun r2969 =>
          some r2969)
         (some r2971))
       (some r2971))
      (bindO (f100 k (GNode.starts (GActor.state r2971)) (GNode.n (GActor.state r2971))) fun r2965 =>
       bindO (f60 k (GNode.starts (GActor.state r2971)) [GMsg.src x1]) fun r2964 =>
        bindO (f64 k (GActor.mk (GNode.mk (GNode.id (GActor.state r2971)) (GNode.n (GActor.state r2971)) (GNode.view (GActor.state r2971)) (GNode.last (GActor.state r2971)) (GNode.phase (GActor.state r2971)) (GNode.commit (GActor.state r2971)) (GNode.rows (GActor.state r2971)) (GNode.far (GActor.state r2971)) r2964 (GNode.votes (GActor.state r2971))) (GActor.told r2971)) r2965) fun r2963 =>
         br (GMsg.kind x1 == (5 : Int))
          (bindO (f90 k (GNode.votes (GActor.state r2963)) (GVote.mk (GMsg.src x1) (GMsg.last x1) (GMsg.commit x1) (GMsg.rows x1))) fun r2962 =>
           bindO (f65 k (GActor.mk (GNode.mk (GNode.id (GActor.state r2963)) (GNode.n (GActor.state r2963)) (GNode.view (GActor.state r2963)) (GNode.last (GActor.state r2963)) (GNode.phase (GActor.state r2963)) (GNode.commit (GActor.state r2963)) (GNode.rows (GActor.state r2963)) (GNode.far (GActor.state r2963)) (GNode.starts (GActor.state r2963)) r2962) (GActor.told r2963))) fun r2961 =>
            some r2961)
          (bindO (f65 k r2963) fun r2959 =>
           some r2959)))
    (br (GNode.phase (GActor.state x0) != (1 : Int))
     (br (GNode.phase (GActor.state x0) == (0 : Int))
      (bindO (f118 k (GNode.view (GActor.state x0)) (GNode.n (GActor.state x0))) fun r2957 =>
       br (Prod.fst r2957 == GNode.id (GActor.state x0))
        (bindO (f95 k x0 (GMsg.src x1) (GMsg.mk (6 : Int) (0 : Int) (0 : Int) (0 : Int) (0 : Int) (0 : Int) (GNode.commit (GActor.state x0)) (GNode.rows (GActor.state x0)))) fun r2956 =>
         some r2956)
        (some x0))
      (some x0))
     (bindO (f100 k (GNode.starts (GActor.state x0)) (GNode.n (GActor.state x0))) fun r2952 =>
      bindO (f60 k (GNode.starts (GActor.state x0)) [GMsg.src x1]) fun r2951 =>
       bindO (f64 k (GActor.mk (GNode.mk (GNode.id (GActor.state x0)) (GNode.n (GActor.state x0)) (GNode.view (GActor.state x0)) (GNode.last (GActor.state x0)) (GNode.phase (GActor.state x0)) (GNode.commit (GActor.state x0)) (GNode.rows (GActor.state x0)) (GNode.far (GActor.state x0)) r2951 (GNode.votes (GActor.state x0))) (GActor.told x0)) r2952) fun r2950 =>
        br (GMsg.kind x1 == (5 : Int))
         (bindO (f90 k (GNode.votes (GActor.state r2950)) (GVote.mk (GMsg.src x1) (GMsg.last x1) (GMsg.commit x1) (GMsg.rows x1))) fun r2949 =>
          bindO (f65 k (GActor.mk (GNode.mk (GNode.id (GActor.state r2950)) (GNode.n (GActor.state r2950)) (GNode.view (GActor.state r2950)) (GNode.last (GActor.state r2950)) (GNode.phase (GActor.state r2950)) (GNode.commit (GActor.state r2950)) (GNode.rows (GActor.state r2950)) (GNode.far (GActor.state r2950)) (GNode.starts (GActor.state r2950)) r2949) (GActor.told r2950))) fun r2948 =>
           some r2948)
         (bindO (f65 k r2950) fun r2946 =>
          some r2946))))
theorem f53_run (k : Nat) (x0 : GActor) (x1 : GMsg) : cf56 k R53 53 (A53 (x0, x1)) (H53 (x0, x1)) (List.length (H53 (x0, x1))) (endR planR (.any) [1, 2] (List.length (H53 (x0, x1))) r53) = f53 k x0 x1 := by kernel_rfl
def g53 (k : Nat) : CallS := entT d53 (fun p => f53 k p.1 p.2) (elAll _) (fun _ => o53) (fun _ => u53) (fun _ => n53)
theorem g53_ok (k : Nat) : CallSOk Try.prog 53 (g53 k) := entry_ok (Hp := H53) (oR := fun _ => o53) (uR := fun _ => u53) (nR := fun _ => n53) (cf56_ok k) d53_ok r53_ok (hel := elAll_ok) (fun p => f53_run k p.1 p.2)
def Dl57 (k : Nat) : Delta := dCons 53 (callAt plan [.any, .agg [.any, .any, .any, .any, .any, .any, .any, .rd 9]] (g53 k)) (Dl56 k)
def Lm57 (k : Nat) : FuncId → Nat → Option LamF := Lm56 k
theorem Dl57_ok (k : Nat) : DeltaOk Try.prog (Dl57 k) := dCons_ok (Dl56_ok k) (g53_ok k)
theorem Lm57_ok (k : Nat) : LamsOk Try.prog (Lm57 k) := Lm56_ok k
abbrev cf57 (k : Nat) : CallF := evF Try.prog (Dl57 k) (Lm57 k) 200 12
theorem cf57_ok (k : Nat) : CfOk Try.prog (cf57 k) := evF_ok noNum mixed (Dl57_ok k) (Lm57_ok k) 12
abbrev P54 := GActor × GMsg
def A54 (p : P54) : List AV := [.ptr 0 0 0, .agg [.int .i64 p.2.kind, .int .i64 p.2.src, .int .i64 p.2.to, .int .i64 p.2.view, .int .i64 p.2.last, .int .i64 p.2.n, .int .i64 p.2.commit, .dsl 9 p.2.rows]]
def H54 (p : P54) : Heap := [(0, some (.box 80 [.int .i64 p.1.state.id, .int .i64 p.1.state.n, .int .i64 p.1.state.view, .int .i64 p.1.state.last, .int .i64 p.1.state.phase, .int .i64 p.1.state.commit, .dsl 9 p.1.state.rows, .slf 1, .int .i64 p.1.state.starts, .dsl 89 p.1.state.votes, .slf 2])), (1, some (.row 3 p.1.state.far)), (2, some (.row 45 p.1.told))]
def d54 (a : List AV) (H : Heap) : Option P54 := match a, H with
  | [.ptr 0 0 0, .agg [.int .i64 a0, .int .i64 a1, .int .i64 a2, .int .i64 a3, .int .i64 a4, .int .i64 a5, .int .i64 a6, ba7]], [(0, some (.box 80 [.int .i64 a8, .int .i64 a9, .int .i64 a10, .int .i64 a11, .int .i64 a12, .int .i64 a13, ba14, .slf 1, .int .i64 a15, ba16, .slf 2])), (1, ba17), (2, ba18)] => (match (dslD 9 ba7 : Option (List ByteArray)) with | some a7 => (match (dslD 9 ba14 : Option (List ByteArray)) with | some a14 => (match (dslD 89 ba16 : Option (List GVote)) with | some a16 => (match (rowD 3 ba17 : Option (List Int)) with | some a17 => (match (rowD 45 ba18 : Option (List GMsg)) with | some a18 => some ((⟨⟨a8, a9, a10, a11, a12, a13, a14, a17, a15, a16⟩, a18⟩ : GActor), (⟨a0, a1, a2, a3, a4, a5, a6, a7⟩ : GMsg)) | none => none) | none => none) | none => none) | none => none) | none => none)
  | _, _ => none
theorem d54_ok (a : List AV) (H : Heap) (p : P54) (h : d54 a H = some p) : a = A54 p ∧ H = H54 p := by
  unfold d54 at h
  split at h
  · skip
    split at h
    · rename_i q
      have q := dslD_ok q
      subst q
      split at h
      · rename_i q
        have q := dslD_ok q
        subst q
        split at h
        · rename_i q
          have q := dslD_ok q
          subst q
          split at h
          · rename_i q
            have q := rowD_ok q
            subst q
            split at h
            · rename_i q
              have q := rowD_ok q
              subst q
              cases h; exact ⟨rfl, rfl⟩
            · cases h
          · cases h
        · cases h
      · cases h
    · cases h
  · cases h
abbrev R54 := GActor
def o54 (r : R54) : AEnd := .ret (.tup [])
def u54 (r : R54) : Heap := [(0, some (.box 80 [.int .i64 r.state.id, .int .i64 r.state.n, .int .i64 r.state.view, .int .i64 r.state.last, .int .i64 r.state.phase, .int .i64 r.state.commit, .dsl 9 r.state.rows, .slf 3, .int .i64 r.state.starts, .dsl 89 r.state.votes, .slf 4])), (1, none), (2, none), (3, some (.row 3 r.state.far)), (4, some (.row 45 r.told))]
def n54 (_ : R54) : Nat := 5
def r54 (o : AEnd) (u : Heap) (n : Nat) : Option R54 := match o, u, n with
  | .ret (.tup []), [(0, some (.box 80 [.int .i64 a0, .int .i64 a1, .int .i64 a2, .int .i64 a3, .int .i64 a4, .int .i64 a5, ba6, .slf 3, .int .i64 a7, ba8, .slf 4])), (1, none), (2, none), (3, ba9), (4, ba10)], 5 => (match (dslD 9 ba6 : Option (List ByteArray)) with | some a6 => (match (dslD 89 ba8 : Option (List GVote)) with | some a8 => (match (rowD 3 ba9 : Option (List Int)) with | some a9 => (match (rowD 45 ba10 : Option (List GMsg)) with | some a10 => some ((⟨⟨a0, a1, a2, a3, a4, a5, a6, a9, a7, a8⟩, a10⟩ : GActor)) | none => none) | none => none) | none => none) | none => none)
  | _, _, _ => none
theorem r54_ok (p : P54) (o : AEnd) (u : Heap) (n : Nat) (r : R54) (h : r54 o u n = some r) : o = o54 r ∧ u = u54 r ∧ n = n54 r := by
  unfold r54 at h
  split at h
  · skip
    split at h
    · rename_i q
      have q := dslD_ok q
      subst q
      split at h
      · rename_i q
        have q := dslD_ok q
        subst q
        split at h
        · rename_i q
          have q := rowD_ok q
          subst q
          split at h
          · rename_i q
            have q := rowD_ok q
            subst q
            cases h; exact ⟨rfl, rfl, rfl⟩
          · cases h
        · cases h
      · cases h
    · cases h
  · cases h
def f54 (k : Nat) (x0 : GActor) (x1 : GMsg) : Option R54 :=
  bindO (f118 k (GMsg.view x1) (GNode.n (GActor.state x0))) fun r3000 =>
   br (GMsg.src x1 != Prod.fst r3000)
    (some x0)
    (br (decide (GMsg.view x1 > GNode.view (GActor.state x0)))
     (bindO (f88 k (GMsg.rows x1)) fun r2998 =>
      bindO (f96 k (GActor.mk (GNode.mk (GNode.id (GActor.state x0)) (GNode.n (GActor.state x0)) (GMsg.view x1) (GNode.last (GActor.state x0)) (GNode.phase (GActor.state x0)) (GNode.commit (GActor.state x0)) r2998 (GNode.far (GActor.state x0)) (GNode.starts (GActor.state x0)) (GNode.votes (GActor.state x0))) (GActor.told x0)) (0 : Int)) fun r2997 =>
       bindO (f101 k r2997) fun r2996 =>
        bindO (f96 k r2996 (GMsg.commit x1)) fun r2995 =>
         bindO (f95 k r2995 (GMsg.src x1) (GMsg.mk (2 : Int) (0 : Int) (0 : Int) (0 : Int) (0 : Int) (↑(List.length (GNode.rows (GActor.state r2995))) : Int) (0 : Int) [])) fun r2994 =>
          some r2994)
     (br (GNode.phase (GActor.state x0) != (0 : Int))
      (bindO (f88 k (GMsg.rows x1)) fun r2992 =>
       bindO (f96 k (GActor.mk (GNode.mk (GNode.id (GActor.state x0)) (GNode.n (GActor.state x0)) (GMsg.view x1) (GNode.last (GActor.state x0)) (GNode.phase (GActor.state x0)) (GNode.commit (GActor.state x0)) r2992 (GNode.far (GActor.state x0)) (GNode.starts (GActor.state x0)) (GNode.votes (GActor.state x0))) (GActor.told x0)) (0 : Int)) fun r2991 =>
        bindO (f101 k r2991) fun r2990 =>
         bindO (f96 k r2990 (GMsg.commit x1)) fun r2989 =>
          bindO (f95 k r2989 (GMsg.src x1) (GMsg.mk (2 : Int) (0 : Int) (0 : Int) (0 : Int) (0 : Int) (↑(List.length (GNode.rows (GActor.state r2989))) : Int) (0 : Int) [])) fun r2988 =>
           some r2988)
      (br (decide ((↑(List.length (GMsg.rows x1)) : Int) > (↑(List.length (GNode.rows (GActor.state x0))) : Int)))
       (bindO (f88 k (GMsg.rows x1)) fun r2986 =>
        bindO (f96 k (GActor.mk (GNode.mk (GNode.id (GActor.state x0)) (GNode.n (GActor.state x0)) (GNode.view (GActor.state x0)) (GNode.last (GActor.state x0)) (GNode.phase (GActor.state x0)) (GNode.commit (GActor.state x0)) r2986 (GNode.far (GActor.state x0)) (GNode.starts (GActor.state x0)) (GNode.votes (GActor.state x0))) (GActor.told x0)) (GMsg.commit x1)) fun r2985 =>
         bindO (f95 k r2985 (GMsg.src x1) (GMsg.mk (2 : Int) (0 : Int) (0 : Int) (0 : Int) (0 : Int) (↑(List.length (GNode.rows (GActor.state r2985))) : Int) (0 : Int) [])) fun r2984 =>
          some r2984)
       (bindO (f96 k x0 (GMsg.commit x1)) fun r2982 =>
        bindO (f95 k r2982 (GMsg.src x1) (GMsg.mk (2 : Int) (0 : Int) (0 : Int) (0 : Int) (0 : Int) (↑(List.length (GNode.rows (GActor.state r2982))) : Int) (0 : Int) [])) fun r2981 =>
         some r2981))))
theorem f54_run (k : Nat) (x0 : GActor) (x1 : GMsg) : cf57 k R54 54 (A54 (x0, x1)) (H54 (x0, x1)) (List.length (H54 (x0, x1))) (endR planR (.any) [1, 2] (List.length (H54 (x0, x1))) r54) = f54 k x0 x1 := by kernel_rfl
def g54 (k : Nat) : CallS := entT d54 (fun p => f54 k p.1 p.2) (elAll _) (fun _ => o54) (fun _ => u54) (fun _ => n54)
theorem g54_ok (k : Nat) : CallSOk Try.prog 54 (g54 k) := entry_ok (Hp := H54) (oR := fun _ => o54) (uR := fun _ => u54) (nR := fun _ => n54) (cf57_ok k) d54_ok r54_ok (hel := elAll_ok) (fun p => f54_run k p.1 p.2)
def Dl58 (k : Nat) : Delta := dCons 54 (callAt plan [.any, .agg [.any, .any, .any, .any, .any, .any, .any, .rd 9]] (g54 k)) (Dl57 k)
def Lm58 (k : Nat) : FuncId → Nat → Option LamF := Lm57 k
theorem Dl58_ok (k : Nat) : DeltaOk Try.prog (Dl58 k) := dCons_ok (Dl57_ok k) (g54_ok k)
theorem Lm58_ok (k : Nat) : LamsOk Try.prog (Lm58 k) := Lm57_ok k
abbrev cf58 (k : Nat) : CallF := evF Try.prog (Dl58 k) (Lm58 k) 200 12
theorem cf58_ok (k : Nat) : CfOk Try.prog (cf58 k) := evF_ok noNum mixed (Dl58_ok k) (Lm58_ok k) 12
abbrev P55 := GActor × GMsg
def A55 (p : P55) : List AV := [.ptr 0 0 0, .agg [.int .i64 p.2.kind, .int .i64 p.2.src, .int .i64 p.2.to, .int .i64 p.2.view, .int .i64 p.2.last, .int .i64 p.2.n, .int .i64 p.2.commit, .dsl 9 p.2.rows]]
def H55 (p : P55) : Heap := [(0, some (.box 80 [.int .i64 p.1.state.id, .int .i64 p.1.state.n, .int .i64 p.1.state.view, .int .i64 p.1.state.last, .int .i64 p.1.state.phase, .int .i64 p.1.state.commit, .dsl 9 p.1.state.rows, .slf 1, .int .i64 p.1.state.starts, .dsl 89 p.1.state.votes, .slf 2])), (1, some (.row 3 p.1.state.far)), (2, some (.row 45 p.1.told))]
def d55 (a : List AV) (H : Heap) : Option P55 := match a, H with
  | [.ptr 0 0 0, .agg [.int .i64 a0, .int .i64 a1, .int .i64 a2, .int .i64 a3, .int .i64 a4, .int .i64 a5, .int .i64 a6, ba7]], [(0, some (.box 80 [.int .i64 a8, .int .i64 a9, .int .i64 a10, .int .i64 a11, .int .i64 a12, .int .i64 a13, ba14, .slf 1, .int .i64 a15, ba16, .slf 2])), (1, ba17), (2, ba18)] => (match (dslD 9 ba7 : Option (List ByteArray)) with | some a7 => (match (dslD 9 ba14 : Option (List ByteArray)) with | some a14 => (match (dslD 89 ba16 : Option (List GVote)) with | some a16 => (match (rowD 3 ba17 : Option (List Int)) with | some a17 => (match (rowD 45 ba18 : Option (List GMsg)) with | some a18 => some ((⟨⟨a8, a9, a10, a11, a12, a13, a14, a17, a15, a16⟩, a18⟩ : GActor), (⟨a0, a1, a2, a3, a4, a5, a6, a7⟩ : GMsg)) | none => none) | none => none) | none => none) | none => none) | none => none)
  | _, _ => none
theorem d55_ok (a : List AV) (H : Heap) (p : P55) (h : d55 a H = some p) : a = A55 p ∧ H = H55 p := by
  unfold d55 at h
  split at h
  · skip
    split at h
    · rename_i q
      have q := dslD_ok q
      subst q
      split at h
      · rename_i q
        have q := dslD_ok q
        subst q
        split at h
        · rename_i q
          have q := dslD_ok q
          subst q
          split at h
          · rename_i q
            have q := rowD_ok q
            subst q
            split at h
            · rename_i q
              have q := rowD_ok q
              subst q
              cases h; exact ⟨rfl, rfl⟩
            · cases h
          · cases h
        · cases h
      · cases h
    · cases h
  · cases h
abbrev R55 := GActor
def o55 (r : R55) : AEnd := .ret (.tup [])
def u55 (r : R55) : Heap := [(0, some (.box 80 [.int .i64 r.state.id, .int .i64 r.state.n, .int .i64 r.state.view, .int .i64 r.state.last, .int .i64 r.state.phase, .int .i64 r.state.commit, .dsl 9 r.state.rows, .slf 3, .int .i64 r.state.starts, .dsl 89 r.state.votes, .slf 4])), (1, none), (2, none), (3, some (.row 3 r.state.far)), (4, some (.row 45 r.told))]
def n55 (_ : R55) : Nat := 5
def r55 (o : AEnd) (u : Heap) (n : Nat) : Option R55 := match o, u, n with
  | .ret (.tup []), [(0, some (.box 80 [.int .i64 a0, .int .i64 a1, .int .i64 a2, .int .i64 a3, .int .i64 a4, .int .i64 a5, ba6, .slf 3, .int .i64 a7, ba8, .slf 4])), (1, none), (2, none), (3, ba9), (4, ba10)], 5 => (match (dslD 9 ba6 : Option (List ByteArray)) with | some a6 => (match (dslD 89 ba8 : Option (List GVote)) with | some a8 => (match (rowD 3 ba9 : Option (List Int)) with | some a9 => (match (rowD 45 ba10 : Option (List GMsg)) with | some a10 => some ((⟨⟨a0, a1, a2, a3, a4, a5, a6, a9, a7, a8⟩, a10⟩ : GActor)) | none => none) | none => none) | none => none) | none => none)
  | _, _, _ => none
theorem r55_ok (p : P55) (o : AEnd) (u : Heap) (n : Nat) (r : R55) (h : r55 o u n = some r) : o = o55 r ∧ u = u55 r ∧ n = n55 r := by
  unfold r55 at h
  split at h
  · skip
    split at h
    · rename_i q
      have q := dslD_ok q
      subst q
      split at h
      · rename_i q
        have q := dslD_ok q
        subst q
        split at h
        · rename_i q
          have q := rowD_ok q
          subst q
          split at h
          · rename_i q
            have q := rowD_ok q
            subst q
            cases h; exact ⟨rfl, rfl, rfl⟩
          · cases h
        · cases h
      · cases h
    · cases h
  · cases h
def f55 (k : Nat) (x0 : GActor) (x1 : GMsg) : Option R55 :=
  br (GNode.phase (GActor.state x0) == (0 : Int))
   (br (GMsg.view x1 == GNode.view (GActor.state x0))
    (br (decide (GMsg.n x1 ≤ (↑(List.length (GNode.rows (GActor.state x0))) : Int)))
     (bindO (f102 k (GNode.rows (GActor.state x0)) (GMsg.n x1)) fun r3000 =>
      bindO (f95 k x0 (GMsg.src x1) (GMsg.mk (8 : Int) (0 : Int) (0 : Int) (0 : Int) (0 : Int) (GMsg.n x1) (GNode.commit (GActor.state x0)) r3000)) fun r2999 =>
       some r2999)
     (some x0))
    (some x0))
   (some x0)
theorem f55_run (k : Nat) (x0 : GActor) (x1 : GMsg) : cf58 k R55 55 (A55 (x0, x1)) (H55 (x0, x1)) (List.length (H55 (x0, x1))) (endR planR (.any) [1, 2] (List.length (H55 (x0, x1))) r55) = f55 k x0 x1 := by kernel_rfl
def g55 (k : Nat) : CallS := entT d55 (fun p => f55 k p.1 p.2) (elAll _) (fun _ => o55) (fun _ => u55) (fun _ => n55)
theorem g55_ok (k : Nat) : CallSOk Try.prog 55 (g55 k) := entry_ok (Hp := H55) (oR := fun _ => o55) (uR := fun _ => u55) (nR := fun _ => n55) (cf58_ok k) d55_ok r55_ok (hel := elAll_ok) (fun p => f55_run k p.1 p.2)
def Dl59 (k : Nat) : Delta := dCons 55 (callAt plan [.any, .agg [.any, .any, .any, .any, .any, .any, .any, .rd 9]] (g55 k)) (Dl58 k)
def Lm59 (k : Nat) : FuncId → Nat → Option LamF := Lm58 k
theorem Dl59_ok (k : Nat) : DeltaOk Try.prog (Dl59 k) := dCons_ok (Dl58_ok k) (g55_ok k)
theorem Lm59_ok (k : Nat) : LamsOk Try.prog (Lm59 k) := Lm58_ok k
abbrev cf59 (k : Nat) : CallF := evF Try.prog (Dl59 k) (Lm59 k) 200 12
theorem cf59_ok (k : Nat) : CfOk Try.prog (cf59 k) := evF_ok noNum mixed (Dl59_ok k) (Lm59_ok k) 12
abbrev P56 := GActor × GMsg
def A56 (p : P56) : List AV := [.ptr 0 0 0, .agg [.int .i64 p.2.kind, .int .i64 p.2.src, .int .i64 p.2.to, .int .i64 p.2.view, .int .i64 p.2.last, .int .i64 p.2.n, .int .i64 p.2.commit, .dsl 9 p.2.rows]]
def H56 (p : P56) : Heap := [(0, some (.box 80 [.int .i64 p.1.state.id, .int .i64 p.1.state.n, .int .i64 p.1.state.view, .int .i64 p.1.state.last, .int .i64 p.1.state.phase, .int .i64 p.1.state.commit, .dsl 9 p.1.state.rows, .slf 1, .int .i64 p.1.state.starts, .dsl 89 p.1.state.votes, .slf 2])), (1, some (.row 3 p.1.state.far)), (2, some (.row 45 p.1.told))]
def d56 (a : List AV) (H : Heap) : Option P56 := match a, H with
  | [.ptr 0 0 0, .agg [.int .i64 a0, .int .i64 a1, .int .i64 a2, .int .i64 a3, .int .i64 a4, .int .i64 a5, .int .i64 a6, ba7]], [(0, some (.box 80 [.int .i64 a8, .int .i64 a9, .int .i64 a10, .int .i64 a11, .int .i64 a12, .int .i64 a13, ba14, .slf 1, .int .i64 a15, ba16, .slf 2])), (1, ba17), (2, ba18)] => (match (dslD 9 ba7 : Option (List ByteArray)) with | some a7 => (match (dslD 9 ba14 : Option (List ByteArray)) with | some a14 => (match (dslD 89 ba16 : Option (List GVote)) with | some a16 => (match (rowD 3 ba17 : Option (List Int)) with | some a17 => (match (rowD 45 ba18 : Option (List GMsg)) with | some a18 => some ((⟨⟨a8, a9, a10, a11, a12, a13, a14, a17, a15, a16⟩, a18⟩ : GActor), (⟨a0, a1, a2, a3, a4, a5, a6, a7⟩ : GMsg)) | none => none) | none => none) | none => none) | none => none) | none => none)
  | _, _ => none
theorem d56_ok (a : List AV) (H : Heap) (p : P56) (h : d56 a H = some p) : a = A56 p ∧ H = H56 p := by
  unfold d56 at h
  split at h
  · skip
    split at h
    · rename_i q
      have q := dslD_ok q
      subst q
      split at h
      · rename_i q
        have q := dslD_ok q
        subst q
        split at h
        · rename_i q
          have q := dslD_ok q
          subst q
          split at h
          · rename_i q
            have q := rowD_ok q
            subst q
            split at h
            · rename_i q
              have q := rowD_ok q
              subst q
              cases h; exact ⟨rfl, rfl⟩
            · cases h
          · cases h
        · cases h
      · cases h
    · cases h
  · cases h
abbrev R56 := GActor
def o56 (r : R56) : AEnd := .ret (.tup [])
def u56 (r : R56) : Heap := [(0, some (.box 80 [.int .i64 r.state.id, .int .i64 r.state.n, .int .i64 r.state.view, .int .i64 r.state.last, .int .i64 r.state.phase, .int .i64 r.state.commit, .dsl 9 r.state.rows, .slf 3, .int .i64 r.state.starts, .dsl 89 r.state.votes, .slf 4])), (1, none), (2, none), (3, some (.row 3 r.state.far)), (4, some (.row 45 r.told))]
def n56 (_ : R56) : Nat := 5
def r56 (o : AEnd) (u : Heap) (n : Nat) : Option R56 := match o, u, n with
  | .ret (.tup []), [(0, some (.box 80 [.int .i64 a0, .int .i64 a1, .int .i64 a2, .int .i64 a3, .int .i64 a4, .int .i64 a5, ba6, .slf 3, .int .i64 a7, ba8, .slf 4])), (1, none), (2, none), (3, ba9), (4, ba10)], 5 => (match (dslD 9 ba6 : Option (List ByteArray)) with | some a6 => (match (dslD 89 ba8 : Option (List GVote)) with | some a8 => (match (rowD 3 ba9 : Option (List Int)) with | some a9 => (match (rowD 45 ba10 : Option (List GMsg)) with | some a10 => some ((⟨⟨a0, a1, a2, a3, a4, a5, a6, a9, a7, a8⟩, a10⟩ : GActor)) | none => none) | none => none) | none => none) | none => none)
  | _, _, _ => none
theorem r56_ok (p : P56) (o : AEnd) (u : Heap) (n : Nat) (r : R56) (h : r56 o u n = some r) : o = o56 r ∧ u = u56 r ∧ n = n56 r := by
  unfold r56 at h
  split at h
  · skip
    split at h
    · rename_i q
      have q := dslD_ok q
      subst q
      split at h
      · rename_i q
        have q := dslD_ok q
        subst q
        split at h
        · rename_i q
          have q := rowD_ok q
          subst q
          split at h
          · rename_i q
            have q := rowD_ok q
            subst q
            cases h; exact ⟨rfl, rfl, rfl⟩
          · cases h
        · cases h
      · cases h
    · cases h
  · cases h
def f56 (k : Nat) (x0 : GActor) (x1 : GMsg) : Option R56 :=
  br (GNode.phase (GActor.state x0) == (2 : Int))
   (br (decide (GMsg.view x1 > GNode.view (GActor.state x0)))
    (some x0)
    (br (GNode.phase (GActor.state x0) == (1 : Int))
     (some x0)
     (br (decide (GMsg.n x1 > GNode.commit (GActor.state x0)))
      (some x0)
      (br (!GNode.phase (GActor.state x0) == (2 : Int))
       (br (decide (IntKind.wrap IntKind.i64 (GMsg.n x1 + (↑(List.length (GMsg.rows x1)) : Int)) ≤ GNode.commit (GActor.state x0)))
        (some x0)
        (bindO (f103 k (GNode.rows (GActor.state x0)) (GMsg.n x1) (GMsg.rows x1)) fun r2996 =>
         br (GNode.phase (GActor.state x0) == (2 : Int))
          (bindO (f96 k (GActor.mk (GNode.mk (GNode.id (GActor.state x0)) (GNode.n (GActor.state x0)) (GNode.view (GActor.state x0)) (GNode.last (GActor.state x0)) (GNode.phase (GActor.state x0)) (GNode.commit (GActor.state x0)) (Prod.fst r2996) (GNode.far (GActor.state x0)) (GNode.starts (GActor.state x0)) (GNode.votes (GActor.state x0))) (GActor.told x0)) (0 : Int)) fun r2995 =>
           bindO (f101 k r2995) fun r2994 =>
            bindO (f96 k r2994 (GMsg.commit x1)) fun r2993 =>
             bindO (f118 k (GNode.view (GActor.state r2993)) (GNode.n (GActor.state r2993))) fun r2992 =>
              br (Prod.fst r2992 != GNode.id (GActor.state r2993))
               (bindO (f95 k r2993 (Prod.fst r2992) (GMsg.mk (2 : Int) (0 : Int) (0 : Int) (0 : Int) (0 : Int) (↑(List.length (GNode.rows (GActor.state r2993))) : Int) (0 : Int) [])) fun r2991 =>
                some r2991)
               (some r2993))
          (bindO (f96 k (GActor.mk (GNode.mk (GNode.id (GActor.state x0)) (GNode.n (GActor.state x0)) (GNode.view (GActor.state x0)) (GNode.last (GActor.state x0)) (GNode.phase (GActor.state x0)) (GNode.commit (GActor.state x0)) (Prod.fst r2996) (GNode.far (GActor.state x0)) (GNode.starts (GActor.state x0)) (GNode.votes (GActor.state x0))) (GActor.told x0)) (GMsg.commit x1)) fun r2988 =>
           bindO (f118 k (GNode.view (GActor.state r2988)) (GNode.n (GActor.state r2988))) fun r2987 =>
            br (Prod.fst r2987 != GNode.id (GActor.state r2988))
             (bindO (f95 k r2988 (Prod.fst r2987) (GMsg.mk (2 : Int) (0 : Int) (0 : Int) (0 : Int) (0 : Int) (↑(List.length (GNode.rows (GActor.state r2988))) : Int) (0 : Int) [])) fun r2986 =>
              some r2986)
             (some r2988))))
       (bindO (f103 k (GNode.rows (GActor.state x0)) (GMsg.n x1) (GMsg.rows x1)) fun r2983 =>
        br (GNode.phase (GActor.state x0) == (2 : Int))
         (bindO (f96 k (GActor.mk (GNode.mk (GNode.id (GActor.state x0)) (GNode.n (GActor.state x0)) (GNode.view (GActor.state x0)) (GNode.last (GActor.state x0)) (GNode.phase (GActor.state x0)) (GNode.commit (GActor.state x0)) (Prod.fst r2983) (GNode.far (GActor.state x0)) (GNode.starts (GActor.state x0)) (GNode.votes (GActor.state x0))) (GActor.told x0)) (0 : Int)) fun r2982 =>
          bindO (f101 k r2982) fun r2981 =>
           bindO (f96 k r2981 (GMsg.commit x1)) fun r2980 =>
            bindO (f118 k (GNode.view (GActor.state r2980)) (GNode.n (GActor.state r2980))) fun r2979 =>
             br (Prod.fst r2979 != GNode.id (GActor.state r2980))
              (bindO (f95 k r2980 (Prod.fst r2979) (GMsg.mk (2 : Int) (0 : Int) (0 : Int) (0 : Int) (0 : Int) (↑(List.length (GNode.rows (GActor.state r2980))) : Int) (0 : Int) [])) fun r2978 =>
               some r2978)
              (some r2980))
         (bindO (f96 k (GActor.mk (GNode.mk (GNode.id (GActor.state x0)) (GNode.n (GActor.state x0)) (GNode.view (GActor.state x0)) (GNode.last (GActor.state x0)) (GNode.phase (GActor.state x0)) (GNode.commit (GActor.state x0)) (Prod.fst r2983) (GNode.far (GActor.state x0)) (GNode.starts (GActor.state x0)) (GNode.votes (GActor.state x0))) (GActor.told x0)) (GMsg.commit x1)) fun r2975 =>
          bindO (f118 k (GNode.view (GActor.state r2975)) (GNode.n (GActor.state r2975))) fun r2974 =>
           br (Prod.fst r2974 != GNode.id (GActor.state r2975))
            (bindO (f95 k r2975 (Prod.fst r2974) (GMsg.mk (2 : Int) (0 : Int) (0 : Int) (0 : Int) (0 : Int) (↑(List.length (GNode.rows (GActor.state r2975))) : Int) (0 : Int) [])) fun r2973 =>
             some r2973)
            (some r2975)))))))
   (br (decide (GMsg.view x1 > GNode.view (GActor.state x0)))
    (some x0)
    (br (GNode.phase (GActor.state x0) == (1 : Int))
     (some x0)
     (br (decide (GMsg.n x1 > (↑(List.length (GNode.rows (GActor.state x0))) : Int)))
      (some x0)
      (br (!GNode.phase (GActor.state x0) == (2 : Int))
       (br (decide (IntKind.wrap IntKind.i64 (GMsg.n x1 + (↑(List.length (GMsg.rows x1)) : Int)) ≤ (↑(List.length (GNode.rows (GActor.state x0))) : Int)))
        (some x0)
        (bindO (f103 k (GNode.rows (GActor.state x0)) (GMsg.n x1) (GMsg.rows x1)) fun r2966 =>
         br (GNode.phase (GActor.state x0) == (2 : Int))
          (bindO (f96 k (GActor.mk (GNode.mk (GNode.id (GActor.state x0)) (GNode.n (GActor.state x0)) (GNode.view (GActor.state x0)) (GNode.last (GActor.state x0)) (GNode.phase (GActor.state x0)) (GNode.commit (GActor.state x0)) (Prod.fst r2966) (GNode.far (GActor.state x0)) (GNode.starts (GActor.state x0)) (GNode.votes (GActor.state x0))) (GActor.told x0)) (0 : Int)) fun r2965 =>
           bindO (f101 k r2965) fun r2964 =>
            bindO (f96 k r2964 (GMsg.commit x1)) fun r2963 =>
             bindO (f118 k (GNode.view (GActor.state r2963)) (GNode.n (GActor.state r2963))) fun r2962 =>
              br (Prod.fst r2962 != GNode.id (GActor.state r2963))
               (bindO (f95 k r2963 (Prod.fst r2962) (GMsg.mk (2 : Int) (0 : Int) (0 : Int) (0 : Int) (0 : Int) (↑(List.length (GNode.rows (GActor.state r2963))) : Int) (0 : Int) [])) fun r2961 =>
                some r2961)
               (some r2963))
          (bindO (f96 k (GActor.mk (GNode.mk (GNode.id (GActor.state x0)) (GNode.n (GActor.state x0)) (GNode.view (GActor.state x0)) (GNode.last (GActor.state x0)) (GNode.phase (GActor.state x0)) (GNode.commit (GActor.state x0)) (Prod.fst r2966) (GNode.far (GActor.state x0)) (GNode.starts (GActor.state x0)) (GNode.votes (GActor.state x0))) (GActor.told x0)) (GMsg.commit x1)) fun r2958 =>
           bindO (f118 k (GNode.view (GActor.state r2958)) (GNode.n (GActor.state r2958))) fun r2957 =>
            br (Prod.fst r2957 != GNode.id (GActor.state r2958))
             (bindO (f95 k r2958 (Prod.fst r2957) (GMsg.mk (2 : Int) (0 : Int) (0 : Int) (0 : Int) (0 : Int) (↑(List.length (GNode.rows (GActor.state r2958))) : Int) (0 : Int) [])) fun r2956 =>
              some r2956)
             (some r2958))))
       (bindO (f103 k (GNode.rows (GActor.state x0)) (GMsg.n x1) (GMsg.rows x1)) fun r2953 =>
        br (GNode.phase (GActor.state x0) == (2 : Int))
         (bindO (f96 k (GActor.mk (GNode.mk (GNode.id (GActor.state x0)) (GNode.n (GActor.state x0)) (GNode.view (GActor.state x0)) (GNode.last (GActor.state x0)) (GNode.phase (GActor.state x0)) (GNode.commit (GActor.state x0)) (Prod.fst r2953) (GNode.far (GActor.state x0)) (GNode.starts (GActor.state x0)) (GNode.votes (GActor.state x0))) (GActor.told x0)) (0 : Int)) fun r2952 =>
          bindO (f101 k r2952) fun r2951 =>
           bindO (f96 k r2951 (GMsg.commit x1)) fun r2950 =>
            bindO (f118 k (GNode.view (GActor.state r2950)) (GNode.n (GActor.state r2950))) fun r2949 =>
             br (Prod.fst r2949 != GNode.id (GActor.state r2950))
              (bindO (f95 k r2950 (Prod.fst r2949) (GMsg.mk (2 : Int) (0 : Int) (0 : Int) (0 : Int) (0 : Int) (↑(List.length (GNode.rows (GActor.state r2950))) : Int) (0 : Int) [])) fun r2948 =>
               some r2948)
              (some r2950))
         (bindO (f96 k (GActor.mk (GNode.mk (GNode.id (GActor.state x0)) (GNode.n (GActor.state x0)) (GNode.view (GActor.state x0)) (GNode.last (GActor.state x0)) (GNode.phase (GActor.state x0)) (GNode.commit (GActor.state x0)) (Prod.fst r2953) (GNode.far (GActor.state x0)) (GNode.starts (GActor.state x0)) (GNode.votes (GActor.state x0))) (GActor.told x0)) (GMsg.commit x1)) fun r2945 =>
          bindO (f118 k (GNode.view (GActor.state r2945)) (GNode.n (GActor.state r2945))) fun r2944 =>
           br (Prod.fst r2944 != GNode.id (GActor.state r2945))
            (bindO (f95 k r2945 (Prod.fst r2944) (GMsg.mk (2 : Int) (0 : Int) (0 : Int) (0 : Int) (0 : Int) (↑(List.length (GNode.rows (GActor.state r2945))) : Int) (0 : Int) [])) fun r2943 =>
             some r2943)
            (some r2945)))))))
theorem f56_run (k : Nat) (x0 : GActor) (x1 : GMsg) : cf59 k R56 56 (A56 (x0, x1)) (H56 (x0, x1)) (List.length (H56 (x0, x1))) (endR planR (.any) [1, 2] (List.length (H56 (x0, x1))) r56) = f56 k x0 x1 := by kernel_rfl
def g56 (k : Nat) : CallS := entT d56 (fun p => f56 k p.1 p.2) (elAll _) (fun _ => o56) (fun _ => u56) (fun _ => n56)
theorem g56_ok (k : Nat) : CallSOk Try.prog 56 (g56 k) := entry_ok (Hp := H56) (oR := fun _ => o56) (uR := fun _ => u56) (nR := fun _ => n56) (cf59_ok k) d56_ok r56_ok (hel := elAll_ok) (fun p => f56_run k p.1 p.2)
def Dl60 (k : Nat) : Delta := dCons 56 (callAt plan [.any, .agg [.any, .any, .any, .any, .any, .any, .any, .rd 9]] (g56 k)) (Dl59 k)
def Lm60 (k : Nat) : FuncId → Nat → Option LamF := Lm59 k
theorem Dl60_ok (k : Nat) : DeltaOk Try.prog (Dl60 k) := dCons_ok (Dl59_ok k) (g56_ok k)
theorem Lm60_ok (k : Nat) : LamsOk Try.prog (Lm60 k) := Lm59_ok k
abbrev cf60 (k : Nat) : CallF := evF Try.prog (Dl60 k) (Lm60 k) 200 12
theorem cf60_ok (k : Nat) : CfOk Try.prog (cf60 k) := evF_ok noNum mixed (Dl60_ok k) (Lm60_ok k) 12
abbrev P31 := Int × Int
def A31 (p : P31) : List AV := [.int .i64 p.1, .int .i64 p.2]
def d31 (a : List AV) (H : Heap) : Option P31 := match a, H with
  | [.int .i64 a0, .int .i64 a1], [] => some (a0, a1)
  | _, _ => none
theorem d31_ok (a : List AV) (H : Heap) (p : P31) (h : d31 a H = some p) : a = A31 p ∧ H = [] := by
  unfold d31 at h
  split at h
  · skip
    cases h; exact ⟨rfl, rfl⟩
  · cases h
abbrev R31 := GNode × Int
def o31 (r : R31) : AEnd := .ret (.tup [.agg [.int .i64 r.1.id, .int .i64 r.1.n, .int .i64 r.1.view, .int .i64 r.1.last, .int .i64 r.1.phase, .int .i64 r.1.commit, .dsl 9 r.1.rows, .dsl 3 r.1.far, .int .i64 r.1.starts, .dsl 89 r.1.votes], .int .i64 r.2])
def u31 (r : R31) : Heap := []
def n31 (_ : R31) : Nat := 0
def r31 (o : AEnd) (u : Heap) (n : Nat) : Option R31 := match o, u, n with
  | .ret (.tup [.agg [.int .i64 a0, .int .i64 a1, .int .i64 a2, .int .i64 a3, .int .i64 a4, .int .i64 a5, ba6, ba7, .int .i64 a8, ba9], .int .i64 a10]), [], 0 => (match (dslD 9 ba6 : Option (List ByteArray)) with | some a6 => (match (dslD 3 ba7 : Option (List Int)) with | some a7 => (match (dslD 89 ba9 : Option (List GVote)) with | some a9 => some ((⟨a0, a1, a2, a3, a4, a5, a6, a7, a8, a9⟩ : GNode), a10) | none => none) | none => none) | none => none)
  | _, _, _ => none
theorem r31_ok (p : P31) (o : AEnd) (u : Heap) (n : Nat) (r : R31) (h : r31 o u n = some r) : o = o31 r ∧ u = u31 r ∧ n = n31 r := by
  unfold r31 at h
  split at h
  · skip
    split at h
    · rename_i q
      have q := dslD_ok q
      subst q
      split at h
      · rename_i q
        have q := dslD_ok q
        subst q
        split at h
        · rename_i q
          have q := dslD_ok q
          subst q
          cases h; exact ⟨rfl, rfl, rfl⟩
        · cases h
      · cases h
    · cases h
  · cases h
def f31 (k : Nat) (x0 : Int) (x1 : Int) : Option R31 :=
  bindO (f62 k x1) fun r3000 =>
   br (!r3000)
    (some (GNode.mk (0 : Int) (0 : Int) (0 : Int) (0 : Int) (0 : Int) (0 : Int) [] [] (0 : Int) [], (1 : Int)))
    (br (decide (x0 < (0 : Int)))
     (some (GNode.mk (0 : Int) (0 : Int) (0 : Int) (0 : Int) (0 : Int) (0 : Int) [] [] (0 : Int) [], (1 : Int)))
     (br (decide (x0 ≥ x1))
      (some (GNode.mk (0 : Int) (0 : Int) (0 : Int) (0 : Int) (0 : Int) (0 : Int) [] [] (0 : Int) [], (1 : Int)))
      (br (x1 == x1 && decide ((0 : Int) ≤ x1 ∧ x1 * (8 : Int) ≤ (140737488355328 : Int) ∧ x1 ≤ (140737488355328 : Int)))
       (some (GNode.mk x0 x1 (0 : Int) (0 : Int) (0 : Int) (0 : Int) [] (List.replicate (Int.toNat x1) (0 : Int)) (0 : Int) [], (0 : Int)))
       (none))))
theorem f31_run (k : Nat) (x0 : Int) (x1 : Int) : cf60 k R31 31 (A31 (x0, x1)) [] 0 (endR planR (.agg [.agg [.any, .any, .any, .any, .any, .any, .ro 9, .ro 3, .any, .ro 89], .any]) [] 0 r31) = f31 k x0 x1 := by kernel_rfl
def g31 (k : Nat) : CallS := entT d31 (fun p => f31 k p.1 p.2) (elAll _) (fun _ => o31) (fun _ => u31) (fun _ => n31)
theorem g31_ok (k : Nat) : CallSOk Try.prog 31 (g31 k) := entry_ok (Hp := fun _ => []) (oR := fun _ => o31) (uR := fun _ => u31) (nR := fun _ => n31) (cf60_ok k) d31_ok r31_ok (hel := elAll_ok) (fun p => f31_run k p.1 p.2)
def Dl61 (k : Nat) : Delta := dCons 31 (callAt plan [.any, .any] (g31 k)) (Dl60 k)
def Lm61 (k : Nat) : FuncId → Nat → Option LamF := Lm60 k
theorem Dl61_ok (k : Nat) : DeltaOk Try.prog (Dl61 k) := dCons_ok (Dl60_ok k) (g31_ok k)
theorem Lm61_ok (k : Nat) : LamsOk Try.prog (Lm61 k) := Lm60_ok k
abbrev cf61 (k : Nat) : CallF := evF Try.prog (Dl61 k) (Lm61 k) 200 12
theorem cf61_ok (k : Nat) : CfOk Try.prog (cf61 k) := evF_ok noNum mixed (Dl61_ok k) (Lm61_ok k) 12
abbrev P30 := GNode
def A30 (p : P30) : List AV := [.agg [.int .i64 p.id, .int .i64 p.n, .int .i64 p.view, .int .i64 p.last, .int .i64 p.phase, .int .i64 p.commit, .dsl 9 p.rows, .dsl 3 p.far, .int .i64 p.starts, .dsl 89 p.votes]]
def d30 (a : List AV) (H : Heap) : Option P30 := match a, H with
  | [.agg [.int .i64 a0, .int .i64 a1, .int .i64 a2, .int .i64 a3, .int .i64 a4, .int .i64 a5, ba6, ba7, .int .i64 a8, ba9]], [] => (match (dslD 9 ba6 : Option (List ByteArray)) with | some a6 => (match (dslD 3 ba7 : Option (List Int)) with | some a7 => (match (dslD 89 ba9 : Option (List GVote)) with | some a9 => some ((⟨a0, a1, a2, a3, a4, a5, a6, a7, a8, a9⟩ : GNode)) | none => none) | none => none) | none => none)
  | _, _ => none
theorem d30_ok (a : List AV) (H : Heap) (p : P30) (h : d30 a H = some p) : a = A30 p ∧ H = [] := by
  unfold d30 at h
  split at h
  · skip
    split at h
    · rename_i q
      have q := dslD_ok q
      subst q
      split at h
      · rename_i q
        have q := dslD_ok q
        subst q
        split at h
        · rename_i q
          have q := dslD_ok q
          subst q
          cases h; exact ⟨rfl, rfl⟩
        · cases h
      · cases h
    · cases h
  · cases h
abbrev R30 := GNode × Int
def o30 (r : R30) : AEnd := .ret (.tup [.agg [.int .i64 r.1.id, .int .i64 r.1.n, .int .i64 r.1.view, .int .i64 r.1.last, .int .i64 r.1.phase, .int .i64 r.1.commit, .dsl 9 r.1.rows, .dsl 3 r.1.far, .int .i64 r.1.starts, .dsl 89 r.1.votes], .int .i64 r.2])
def u30 (r : R30) : Heap := []
def n30 (_ : R30) : Nat := 0
def r30 (o : AEnd) (u : Heap) (n : Nat) : Option R30 := match o, u, n with
  | .ret (.tup [.agg [.int .i64 a0, .int .i64 a1, .int .i64 a2, .int .i64 a3, .int .i64 a4, .int .i64 a5, ba6, ba7, .int .i64 a8, ba9], .int .i64 a10]), [], 0 => (match (dslD 9 ba6 : Option (List ByteArray)) with | some a6 => (match (dslD 3 ba7 : Option (List Int)) with | some a7 => (match (dslD 89 ba9 : Option (List GVote)) with | some a9 => some ((⟨a0, a1, a2, a3, a4, a5, a6, a7, a8, a9⟩ : GNode), a10) | none => none) | none => none) | none => none)
  | _, _, _ => none
theorem r30_ok (p : P30) (o : AEnd) (u : Heap) (n : Nat) (r : R30) (h : r30 o u n = some r) : o = o30 r ∧ u = u30 r ∧ n = n30 r := by
  unfold r30 at h
  split at h
  · skip
    split at h
    · rename_i q
      have q := dslD_ok q
      subst q
      split at h
      · rename_i q
        have q := dslD_ok q
        subst q
        split at h
        · rename_i q
          have q := dslD_ok q
          subst q
          cases h; exact ⟨rfl, rfl, rfl⟩
        · cases h
      · cases h
    · cases h
  · cases h
def f30 (k : Nat) (x0 : GNode) : Option R30 :=
  bindO (f49 k x0) fun r3000 =>
   match r3000 with
   | .error c2999 => some (GNode.mk (0 : Int) (0 : Int) (0 : Int) (0 : Int) (0 : Int) (0 : Int) [] [] (0 : Int) [], c2999)
   | .ok c2999 => bindO (f59 k c2999) fun r2997 =>
     br (GNode.phase (GActor.state r2997) == (1 : Int))
      (bindO (f60 k (0 : Int) [GNode.id (GActor.state r2997)]) fun r2996 =>
       bindO (f61 k (GActor.mk (GNode.mk (GNode.id (GActor.state r2997)) (GNode.n (GActor.state r2997)) (GNode.view (GActor.state r2997)) (GNode.last (GActor.state r2997)) (GNode.phase (GActor.state r2997)) (GNode.commit (GActor.state r2997)) (GNode.rows (GActor.state r2997)) (GNode.far (GActor.state r2997)) r2996 (GNode.votes (GActor.state r2997))) (GActor.told r2997))) fun r2995 =>
        some (GActor.state r2995, (0 : Int)))
      (bindO (f61 k r2997) fun r2993 =>
       some (GActor.state r2993, (0 : Int)))
theorem f30_run (k : Nat) (x0 : GNode) : cf61 k R30 30 (A30 (x0)) [] 0 (endR planR (.agg [.agg [.any, .any, .any, .any, .any, .any, .ro 9, .ro 3, .any, .ro 89], .any]) [] 0 r30) = f30 k x0 := by kernel_rfl
def g30 (k : Nat) : CallS := entT d30 (fun p => f30 k p) (elAll _) (fun _ => o30) (fun _ => u30) (fun _ => n30)
theorem g30_ok (k : Nat) : CallSOk Try.prog 30 (g30 k) := entry_ok (Hp := fun _ => []) (oR := fun _ => o30) (uR := fun _ => u30) (nR := fun _ => n30) (cf61_ok k) d30_ok r30_ok (hel := elAll_ok) (fun p => f30_run k p)
def Dl62 (k : Nat) : Delta := dCons 30 (callAt plan [.agg [.any, .any, .any, .any, .any, .any, .rd 9, .rd 3, .any, .rd 89]] (g30 k)) (Dl61 k)
def Lm62 (k : Nat) : FuncId → Nat → Option LamF := Lm61 k
theorem Dl62_ok (k : Nat) : DeltaOk Try.prog (Dl62 k) := dCons_ok (Dl61_ok k) (g30_ok k)
theorem Lm62_ok (k : Nat) : LamsOk Try.prog (Lm62 k) := Lm61_ok k
abbrev cf62 (k : Nat) : CallF := evF Try.prog (Dl62 k) (Lm62 k) 200 12
theorem cf62_ok (k : Nat) : CfOk Try.prog (cf62 k) := evF_ok noNum mixed (Dl62_ok k) (Lm62_ok k) 12
abbrev P32 := GNode
def A32 (p : P32) : List AV := [.agg [.int .i64 p.id, .int .i64 p.n, .int .i64 p.view, .int .i64 p.last, .int .i64 p.phase, .int .i64 p.commit, .dsl 9 p.rows, .dsl 3 p.far, .int .i64 p.starts, .dsl 89 p.votes]]
def d32 (a : List AV) (H : Heap) : Option P32 := match a, H with
  | [.agg [.int .i64 a0, .int .i64 a1, .int .i64 a2, .int .i64 a3, .int .i64 a4, .int .i64 a5, ba6, ba7, .int .i64 a8, ba9]], [] => (match (dslD 9 ba6 : Option (List ByteArray)) with | some a6 => (match (dslD 3 ba7 : Option (List Int)) with | some a7 => (match (dslD 89 ba9 : Option (List GVote)) with | some a9 => some ((⟨a0, a1, a2, a3, a4, a5, a6, a7, a8, a9⟩ : GNode)) | none => none) | none => none) | none => none)
  | _, _ => none
theorem d32_ok (a : List AV) (H : Heap) (p : P32) (h : d32 a H = some p) : a = A32 p ∧ H = [] := by
  unfold d32 at h
  split at h
  · skip
    split at h
    · rename_i q
      have q := dslD_ok q
      subst q
      split at h
      · rename_i q
        have q := dslD_ok q
        subst q
        split at h
        · rename_i q
          have q := dslD_ok q
          subst q
          cases h; exact ⟨rfl, rfl⟩
        · cases h
      · cases h
    · cases h
  · cases h
abbrev R32 := GNode × List GMsg × Int
def o32 (r : R32) : AEnd := .ret (.tup [.agg [.int .i64 r.1.id, .int .i64 r.1.n, .int .i64 r.1.view, .int .i64 r.1.last, .int .i64 r.1.phase, .int .i64 r.1.commit, .dsl 9 r.1.rows, .dsl 3 r.1.far, .int .i64 r.1.starts, .dsl 89 r.1.votes], .dsl 45 r.2.1, .int .i64 r.2.2])
def u32 (r : R32) : Heap := []
def n32 (_ : R32) : Nat := 0
def r32 (o : AEnd) (u : Heap) (n : Nat) : Option R32 := match o, u, n with
  | .ret (.tup [.agg [.int .i64 a0, .int .i64 a1, .int .i64 a2, .int .i64 a3, .int .i64 a4, .int .i64 a5, ba6, ba7, .int .i64 a8, ba9], ba10, .int .i64 a11]), [], 0 => (match (dslD 9 ba6 : Option (List ByteArray)) with | some a6 => (match (dslD 3 ba7 : Option (List Int)) with | some a7 => (match (dslD 89 ba9 : Option (List GVote)) with | some a9 => (match (dslD 45 ba10 : Option (List GMsg)) with | some a10 => some ((⟨a0, a1, a2, a3, a4, a5, a6, a7, a8, a9⟩ : GNode), a10, a11) | none => none) | none => none) | none => none) | none => none)
  | _, _, _ => none
theorem r32_ok (p : P32) (o : AEnd) (u : Heap) (n : Nat) (r : R32) (h : r32 o u n = some r) : o = o32 r ∧ u = u32 r ∧ n = n32 r := by
  unfold r32 at h
  split at h
  · skip
    split at h
    · rename_i q
      have q := dslD_ok q
      subst q
      split at h
      · rename_i q
        have q := dslD_ok q
        subst q
        split at h
        · rename_i q
          have q := dslD_ok q
          subst q
          split at h
          · rename_i q
            have q := dslD_ok q
            subst q
            cases h; exact ⟨rfl, rfl, rfl⟩
          · cases h
        · cases h
      · cases h
    · cases h
  · cases h
def f32 (k : Nat) (x0 : GNode) : Option R32 :=
  bindO (f49 k x0) fun r3000 =>
   match r3000 with
   | .error c2999 => some (GNode.mk (0 : Int) (0 : Int) (0 : Int) (0 : Int) (0 : Int) (0 : Int) [] [] (0 : Int) [], [], c2999)
   | .ok c2999 => br (GNode.view (GActor.state c2999) == (1000000 : Int))
     (some (GNode.mk (0 : Int) (0 : Int) (0 : Int) (0 : Int) (0 : Int) (0 : Int) [] [] (0 : Int) [], [], (2 : Int)))
     (bindO (f63 k c2999 (IntKind.wrap IntKind.i64 (GNode.view (GActor.state c2999) + (1 : Int)))) fun r2996 =>
      bindO (f64 k r2996 false) fun r2995 =>
       bindO (f65 k r2995) fun r2994 =>
        some (GActor.state r2994, GActor.told r2994, (0 : Int)))
theorem f32_run (k : Nat) (x0 : GNode) : cf62 k R32 32 (A32 (x0)) [] 0 (endR planR (.agg [.agg [.any, .any, .any, .any, .any, .any, .ro 9, .ro 3, .any, .ro 89], .ro 45, .any]) [] 0 r32) = f32 k x0 := by kernel_rfl
def g32 (k : Nat) : CallS := entT d32 (fun p => f32 k p) (elAll _) (fun _ => o32) (fun _ => u32) (fun _ => n32)
theorem g32_ok (k : Nat) : CallSOk Try.prog 32 (g32 k) := entry_ok (Hp := fun _ => []) (oR := fun _ => o32) (uR := fun _ => u32) (nR := fun _ => n32) (cf62_ok k) d32_ok r32_ok (hel := elAll_ok) (fun p => f32_run k p)
def Dl63 (k : Nat) : Delta := dCons 32 (callAt plan [.agg [.any, .any, .any, .any, .any, .any, .rd 9, .rd 3, .any, .rd 89]] (g32 k)) (Dl62 k)
def Lm63 (k : Nat) : FuncId → Nat → Option LamF := Lm62 k
theorem Dl63_ok (k : Nat) : DeltaOk Try.prog (Dl63 k) := dCons_ok (Dl62_ok k) (g32_ok k)
theorem Lm63_ok (k : Nat) : LamsOk Try.prog (Lm63 k) := Lm62_ok k
abbrev cf63 (k : Nat) : CallF := evF Try.prog (Dl63 k) (Lm63 k) 200 12
theorem cf63_ok (k : Nat) : CfOk Try.prog (cf63 k) := evF_ok noNum mixed (Dl63_ok k) (Lm63_ok k) 12
abbrev P33 := GNode × ByteArray
def A33 (p : P33) : List AV := [.agg [.int .i64 p.1.id, .int .i64 p.1.n, .int .i64 p.1.view, .int .i64 p.1.last, .int .i64 p.1.phase, .int .i64 p.1.commit, .dsl 9 p.1.rows, .dsl 3 p.1.far, .int .i64 p.1.starts, .dsl 89 p.1.votes], .str p.2]
def d33 (a : List AV) (H : Heap) : Option P33 := match a, H with
  | [.agg [.int .i64 a0, .int .i64 a1, .int .i64 a2, .int .i64 a3, .int .i64 a4, .int .i64 a5, ba6, ba7, .int .i64 a8, ba9], .str a10], [] => (match (dslD 9 ba6 : Option (List ByteArray)) with | some a6 => (match (dslD 3 ba7 : Option (List Int)) with | some a7 => (match (dslD 89 ba9 : Option (List GVote)) with | some a9 => some ((⟨a0, a1, a2, a3, a4, a5, a6, a7, a8, a9⟩ : GNode), a10) | none => none) | none => none) | none => none)
  | _, _ => none
theorem d33_ok (a : List AV) (H : Heap) (p : P33) (h : d33 a H = some p) : a = A33 p ∧ H = [] := by
  unfold d33 at h
  split at h
  · skip
    split at h
    · rename_i q
      have q := dslD_ok q
      subst q
      split at h
      · rename_i q
        have q := dslD_ok q
        subst q
        split at h
        · rename_i q
          have q := dslD_ok q
          subst q
          cases h; exact ⟨rfl, rfl⟩
        · cases h
      · cases h
    · cases h
  · cases h
abbrev R33 := GNode × List GMsg × Int
def o33 (r : R33) : AEnd := .ret (.tup [.agg [.int .i64 r.1.id, .int .i64 r.1.n, .int .i64 r.1.view, .int .i64 r.1.last, .int .i64 r.1.phase, .int .i64 r.1.commit, .dsl 9 r.1.rows, .dsl 3 r.1.far, .int .i64 r.1.starts, .dsl 89 r.1.votes], .dsl 45 r.2.1, .int .i64 r.2.2])
def u33 (r : R33) : Heap := []
def n33 (_ : R33) : Nat := 0
def r33 (o : AEnd) (u : Heap) (n : Nat) : Option R33 := match o, u, n with
  | .ret (.tup [.agg [.int .i64 a0, .int .i64 a1, .int .i64 a2, .int .i64 a3, .int .i64 a4, .int .i64 a5, ba6, ba7, .int .i64 a8, ba9], ba10, .int .i64 a11]), [], 0 => (match (dslD 9 ba6 : Option (List ByteArray)) with | some a6 => (match (dslD 3 ba7 : Option (List Int)) with | some a7 => (match (dslD 89 ba9 : Option (List GVote)) with | some a9 => (match (dslD 45 ba10 : Option (List GMsg)) with | some a10 => some ((⟨a0, a1, a2, a3, a4, a5, a6, a7, a8, a9⟩ : GNode), a10, a11) | none => none) | none => none) | none => none) | none => none)
  | _, _, _ => none
theorem r33_ok (p : P33) (o : AEnd) (u : Heap) (n : Nat) (r : R33) (h : r33 o u n = some r) : o = o33 r ∧ u = u33 r ∧ n = n33 r := by
  unfold r33 at h
  split at h
  · skip
    split at h
    · rename_i q
      have q := dslD_ok q
      subst q
      split at h
      · rename_i q
        have q := dslD_ok q
        subst q
        split at h
        · rename_i q
          have q := dslD_ok q
          subst q
          split at h
          · rename_i q
            have q := dslD_ok q
            subst q
            cases h; exact ⟨rfl, rfl, rfl⟩
          · cases h
        · cases h
      · cases h
    · cases h
  · cases h
def f33 (k : Nat) (x0 : GNode) (x1 : ByteArray) : Option R33 :=
  bindO (f49 k x0) fun r3000 =>
   match r3000 with
   | .error c2999 => some (GNode.mk (0 : Int) (0 : Int) (0 : Int) (0 : Int) (0 : Int) (0 : Int) [] [] (0 : Int) [], [], c2999)
   | .ok c2999 => br (GNode.phase (GActor.state c2999) == (0 : Int))
     (bindO (f118 k (GNode.view (GActor.state c2999)) (GNode.n (GActor.state c2999))) fun r2997 =>
      br (!Prod.fst r2997 == GNode.id (GActor.state c2999))
       (some (GNode.mk (0 : Int) (0 : Int) (0 : Int) (0 : Int) (0 : Int) (0 : Int) [] [] (0 : Int) [], [], (220 : Int)))
       (br ((↑(List.length (GNode.rows (GActor.state c2999))) : Int) == (40 : Int))
        (some (GNode.mk (0 : Int) (0 : Int) (0 : Int) (0 : Int) (0 : Int) (0 : Int) [] [] (0 : Int) [], [], (81 : Int)))
        (br (decide ((↑(ByteArray.size x1) : Int) > (45 : Int)))
         (some (GNode.mk (0 : Int) (0 : Int) (0 : Int) (0 : Int) (0 : Int) (0 : Int) [] [] (0 : Int) [], [], (2 : Int)))
         (br (true && decide ((List.length (GNode.rows (GActor.state c2999)) + List.length [x1]) * (16 : Nat) ≤ (140737488355328 : Nat)))
          (bindO (f61 k (GActor.mk (GNode.mk (GNode.id (GActor.state c2999)) (GNode.n (GActor.state c2999)) (GNode.view (GActor.state c2999)) (GNode.last (GActor.state c2999)) (GNode.phase (GActor.state c2999)) (GNode.commit (GActor.state c2999)) (GNode.rows (GActor.state c2999) ++ [x1]) (GNode.far (GActor.state c2999)) (GNode.starts (GActor.state c2999)) (GNode.votes (GActor.state c2999))) (GActor.told c2999))) fun r2993 =>
           bindO (f67 k r2993 (GMsg.mk (1 : Int) (0 : Int) (0 : Int) (0 : Int) (0 : Int) (↑(List.length (GNode.rows (GActor.state r2993))) : Int) (GNode.commit (GActor.state r2993)) [x1])) fun r2992 =>
            some (GActor.state r2992, GActor.told r2992, (0 : Int)))
          (none)))))
     (some (GNode.mk (0 : Int) (0 : Int) (0 : Int) (0 : Int) (0 : Int) (0 : Int) [] [] (0 : Int) [], [], (220 : Int)))
theorem f33_run (k : Nat) (x0 : GNode) (x1 : ByteArray) : cf63 k R33 33 (A33 (x0, x1)) [] 0 (endR planR (.agg [.agg [.any, .any, .any, .any, .any, .any, .ro 9, .ro 3, .any, .ro 89], .ro 45, .any]) [] 0 r33) = f33 k x0 x1 := by kernel_rfl
def g33 (k : Nat) : CallS := entT d33 (fun p => f33 k p.1 p.2) (elAll _) (fun _ => o33) (fun _ => u33) (fun _ => n33)
theorem g33_ok (k : Nat) : CallSOk Try.prog 33 (g33 k) := entry_ok (Hp := fun _ => []) (oR := fun _ => o33) (uR := fun _ => u33) (nR := fun _ => n33) (cf63_ok k) d33_ok r33_ok (hel := elAll_ok) (fun p => f33_run k p.1 p.2)
def Dl64 (k : Nat) : Delta := dCons 33 (callAt plan [.agg [.any, .any, .any, .any, .any, .any, .rd 9, .rd 3, .any, .rd 89], .any] (g33 k)) (Dl63 k)
def Lm64 (k : Nat) : FuncId → Nat → Option LamF := Lm63 k
theorem Dl64_ok (k : Nat) : DeltaOk Try.prog (Dl64 k) := dCons_ok (Dl63_ok k) (g33_ok k)
theorem Lm64_ok (k : Nat) : LamsOk Try.prog (Lm64 k) := Lm63_ok k
abbrev cf64 (k : Nat) : CallF := evF Try.prog (Dl64 k) (Lm64 k) 200 12
theorem cf64_ok (k : Nat) : CfOk Try.prog (cf64 k) := evF_ok noNum mixed (Dl64_ok k) (Lm64_ok k) 12
abbrev P27 := GNode × GMsg
def A27 (p : P27) : List AV := [.agg [.int .i64 p.1.id, .int .i64 p.1.n, .int .i64 p.1.view, .int .i64 p.1.last, .int .i64 p.1.phase, .int .i64 p.1.commit, .dsl 9 p.1.rows, .dsl 3 p.1.far, .int .i64 p.1.starts, .dsl 89 p.1.votes], .agg [.int .i64 p.2.kind, .int .i64 p.2.src, .int .i64 p.2.to, .int .i64 p.2.view, .int .i64 p.2.last, .int .i64 p.2.n, .int .i64 p.2.commit, .dsl 9 p.2.rows]]
def d27 (a : List AV) (H : Heap) : Option P27 := match a, H with
  | [.agg [.int .i64 a0, .int .i64 a1, .int .i64 a2, .int .i64 a3, .int .i64 a4, .int .i64 a5, ba6, ba7, .int .i64 a8, ba9], .agg [.int .i64 a10, .int .i64 a11, .int .i64 a12, .int .i64 a13, .int .i64 a14, .int .i64 a15, .int .i64 a16, ba17]], [] => (match (dslD 9 ba6 : Option (List ByteArray)) with | some a6 => (match (dslD 3 ba7 : Option (List Int)) with | some a7 => (match (dslD 89 ba9 : Option (List GVote)) with | some a9 => (match (dslD 9 ba17 : Option (List ByteArray)) with | some a17 => some ((⟨a0, a1, a2, a3, a4, a5, a6, a7, a8, a9⟩ : GNode), (⟨a10, a11, a12, a13, a14, a15, a16, a17⟩ : GMsg)) | none => none) | none => none) | none => none) | none => none)
  | _, _ => none
theorem d27_ok (a : List AV) (H : Heap) (p : P27) (h : d27 a H = some p) : a = A27 p ∧ H = [] := by
  unfold d27 at h
  split at h
  · skip
    split at h
    · rename_i q
      have q := dslD_ok q
      subst q
      split at h
      · rename_i q
        have q := dslD_ok q
        subst q
        split at h
        · rename_i q
          have q := dslD_ok q
          subst q
          split at h
          · rename_i q
            have q := dslD_ok q
            subst q
            cases h; exact ⟨rfl, rfl⟩
          · cases h
        · cases h
      · cases h
    · cases h
  · cases h
abbrev R27 := GNode × List GMsg × Int
def o27 (r : R27) : AEnd := .ret (.tup [.agg [.int .i64 r.1.id, .int .i64 r.1.n, .int .i64 r.1.view, .int .i64 r.1.last, .int .i64 r.1.phase, .int .i64 r.1.commit, .dsl 9 r.1.rows, .dsl 3 r.1.far, .int .i64 r.1.starts, .dsl 89 r.1.votes], .dsl 45 r.2.1, .int .i64 r.2.2])
def u27 (r : R27) : Heap := []
def n27 (_ : R27) : Nat := 0
def r27 (o : AEnd) (u : Heap) (n : Nat) : Option R27 := match o, u, n with
  | .ret (.tup [.agg [.int .i64 a0, .int .i64 a1, .int .i64 a2, .int .i64 a3, .int .i64 a4, .int .i64 a5, ba6, ba7, .int .i64 a8, ba9], ba10, .int .i64 a11]), [], 0 => (match (dslD 9 ba6 : Option (List ByteArray)) with | some a6 => (match (dslD 3 ba7 : Option (List Int)) with | some a7 => (match (dslD 89 ba9 : Option (List GVote)) with | some a9 => (match (dslD 45 ba10 : Option (List GMsg)) with | some a10 => some ((⟨a0, a1, a2, a3, a4, a5, a6, a7, a8, a9⟩ : GNode), a10, a11) | none => none) | none => none) | none => none) | none => none)
  | _, _, _ => none
theorem r27_ok (p : P27) (o : AEnd) (u : Heap) (n : Nat) (r : R27) (h : r27 o u n = some r) : o = o27 r ∧ u = u27 r ∧ n = n27 r := by
  unfold r27 at h
  split at h
  · skip
    split at h
    · rename_i q
      have q := dslD_ok q
      subst q
      split at h
      · rename_i q
        have q := dslD_ok q
        subst q
        split at h
        · rename_i q
          have q := dslD_ok q
          subst q
          split at h
          · rename_i q
            have q := dslD_ok q
            subst q
            cases h; exact ⟨rfl, rfl, rfl⟩
          · cases h
        · cases h
      · cases h
    · cases h
  · cases h
def f27 (k : Nat) (x0 : GNode) (x1 : GMsg) : Option R27 :=
  bindO (f49 k x0) fun r3000 =>
   match r3000 with
   | .error c2999 => some (GNode.mk (0 : Int) (0 : Int) (0 : Int) (0 : Int) (0 : Int) (0 : Int) [] [] (0 : Int) [], [], c2999)
   | .ok c2999 => bindO (f50 k x1) fun r2997 =>
     br (!r2997)
      (some (GNode.mk (0 : Int) (0 : Int) (0 : Int) (0 : Int) (0 : Int) (0 : Int) [] [] (0 : Int) [], [], (1 : Int)))
      (br (GMsg.to x1 != GNode.id x0)
       (some (GNode.mk (0 : Int) (0 : Int) (0 : Int) (0 : Int) (0 : Int) (0 : Int) [] [] (0 : Int) [], [], (1 : Int)))
       (br (decide (GMsg.src x1 ≥ GNode.n x0))
        (some (GNode.mk (0 : Int) (0 : Int) (0 : Int) (0 : Int) (0 : Int) (0 : Int) [] [] (0 : Int) [], [], (1 : Int)))
        (br (decide (GMsg.view x1 ≥ GNode.view x0))
         (br (GMsg.kind x1 == (1 : Int))
          (bindO (f51 k c2999 x1) fun r2993 =>
           some (GActor.state r2993, GActor.told r2993, (0 : Int)))
          (br (GMsg.kind x1 == (2 : Int))
           (bindO (f52 k c2999 x1) fun r2991 =>
            some (GActor.state r2991, GActor.told r2991, (0 : Int)))
           (br (GMsg.kind x1 == (3 : Int))
            (bindO (f51 k c2999 x1) fun r2989 =>
             some (GActor.state r2989, GActor.told r2989, (0 : Int)))
            (br (GMsg.kind x1 == (4 : Int))
             (bindO (f53 k c2999 x1) fun r2987 =>
              some (GActor.state r2987, GActor.told r2987, (0 : Int)))
             (br (GMsg.kind x1 == (5 : Int))
              (bindO (f53 k c2999 x1) fun r2985 =>
               some (GActor.state r2985, GActor.told r2985, (0 : Int)))
              (br (GMsg.kind x1 == (6 : Int))
               (bindO (f54 k c2999 x1) fun r2983 =>
                some (GActor.state r2983, GActor.told r2983, (0 : Int)))
               (br (GMsg.kind x1 == (7 : Int))
                (bindO (f55 k c2999 x1) fun r2981 =>
                 some (GActor.state r2981, GActor.told r2981, (0 : Int)))
                (br (GMsg.kind x1 == (8 : Int))
                 (bindO (f56 k c2999 x1) fun r2979 =>
                  some (GActor.state r2979, GActor.told r2979, (0 : Int)))
                 (none)))))))))
         (some (GActor.state c2999, GActor.told c2999, (0 : Int))))))
theorem f27_run (k : Nat) (x0 : GNode) (x1 : GMsg) : cf64 k R27 27 (A27 (x0, x1)) [] 0 (endR planR (.agg [.agg [.any, .any, .any, .any, .any, .any, .ro 9, .ro 3, .any, .ro 89], .ro 45, .any]) [] 0 r27) = f27 k x0 x1 := by kernel_rfl
def g27 (k : Nat) : CallS := entT d27 (fun p => f27 k p.1 p.2) (elAll _) (fun _ => o27) (fun _ => u27) (fun _ => n27)
theorem g27_ok (k : Nat) : CallSOk Try.prog 27 (g27 k) := entry_ok (Hp := fun _ => []) (oR := fun _ => o27) (uR := fun _ => u27) (nR := fun _ => n27) (cf64_ok k) d27_ok r27_ok (hel := elAll_ok) (fun p => f27_run k p.1 p.2)
def Dl65 (k : Nat) : Delta := dCons 27 (callAt plan [.agg [.any, .any, .any, .any, .any, .any, .rd 9, .rd 3, .any, .rd 89], .agg [.any, .any, .any, .any, .any, .any, .any, .rd 9]] (g27 k)) (Dl64 k)
def Lm65 (k : Nat) : FuncId → Nat → Option LamF := Lm64 k
theorem Dl65_ok (k : Nat) : DeltaOk Try.prog (Dl65 k) := dCons_ok (Dl64_ok k) (g27_ok k)
theorem Lm65_ok (k : Nat) : LamsOk Try.prog (Lm65 k) := Lm64_ok k
abbrev cf65 (k : Nat) : CallF := evF Try.prog (Dl65 k) (Lm65 k) 200 12
theorem cf65_ok (k : Nat) : CfOk Try.prog (cf65 k) := evF_ok noNum mixed (Dl65_ok k) (Lm65_ok k) 12
abbrev P28 := Unit
def A28 (p : P28) : List AV := []
def d28 (a : List AV) (H : Heap) : Option P28 := match a, H with
  | [], [] => some ()
  | _, _ => none
theorem d28_ok (a : List AV) (H : Heap) (p : P28) (h : d28 a H = some p) : a = A28 p ∧ H = [] := by
  unfold d28 at h
  split at h
  · skip
    cases h; exact ⟨rfl, rfl⟩
  · cases h
abbrev R28 := Bool
def o28 (r : R28) : AEnd := .ret (.bool r)
def u28 (r : R28) : Heap := []
def n28 (_ : R28) : Nat := 0
def r28 (o : AEnd) (u : Heap) (n : Nat) : Option R28 := match o, u, n with
  | .ret (.bool a0), [], 0 => some (a0)
  | _, _, _ => none
theorem r28_ok (p : P28) (o : AEnd) (u : Heap) (n : Nat) (r : R28) (h : r28 o u n = some r) : o = o28 r ∧ u = u28 r ∧ n = n28 r := by
  unfold r28 at h
  split at h
  · skip
    cases h; exact ⟨rfl, rfl, rfl⟩
  · cases h
def f28 (k : Nat) : Option R28 := some true
theorem f28_run : cf65 60 R28 28 (A28 ()) [] 0 (endR planR (.any) [] 0 r28) = some true := by kernel_rfl
def g28 (k : Nat) : CallS := entT d28 (fun p => f28 k ) (elAll _) (fun _ => o28) (fun _ => u28) (fun _ => n28)
theorem g28_ok (k : Nat) : CallSOk Try.prog 28 (g28 k) := entry_le (Hp := fun _ => []) (plan := planR) (kd := .any) (dead := []) (decR := fun _ => r28) (oR := fun _ => o28) (uR := fun _ => u28) (nR := fun _ => n28) d28_ok r28_ok (hel := elAll_ok) (fun p z h => ⟨cf65 60, cf65_ok 60, f28_run.trans h⟩)
def Dl66 (k : Nat) : Delta := dCons 28 (callAt plan [] (g28 k)) (Dl65 k)
def Lm66 (k : Nat) : FuncId → Nat → Option LamF := Lm65 k
theorem Dl66_ok (k : Nat) : DeltaOk Try.prog (Dl66 k) := dCons_ok (Dl65_ok k) (g28_ok k)
theorem Lm66_ok (k : Nat) : LamsOk Try.prog (Lm66 k) := Lm65_ok k
abbrev cf66 (k : Nat) : CallF := evF Try.prog (Dl66 k) (Lm66 k) 200 12
theorem cf66_ok (k : Nat) : CfOk Try.prog (cf66 k) := evF_ok noNum mixed (Dl66_ok k) (Lm66_ok k) 12
abbrev P34 := List ByteArray × List ByteArray
def A34 (p : P34) : List AV := [.dsl 9 p.1, .dsl 9 p.2]
def d34 (a : List AV) (H : Heap) : Option P34 := match a, H with
  | [ba0, ba1], [] => (match (dslD 9 ba0 : Option (List ByteArray)) with | some a0 => (match (dslD 9 ba1 : Option (List ByteArray)) with | some a1 => some (a0, a1) | none => none) | none => none)
  | _, _ => none
theorem d34_ok (a : List AV) (H : Heap) (p : P34) (h : d34 a H = some p) : a = A34 p ∧ H = [] := by
  unfold d34 at h
  split at h
  · skip
    split at h
    · rename_i q
      have q := dslD_ok q
      subst q
      split at h
      · rename_i q
        have q := dslD_ok q
        subst q
        cases h; exact ⟨rfl, rfl⟩
      · cases h
    · cases h
  · cases h
abbrev R34 := Bool
def o34 (r : R34) : AEnd := .ret (.bool r)
def u34 (r : R34) : Heap := []
def n34 (_ : R34) : Nat := 0
def r34 (o : AEnd) (u : Heap) (n : Nat) : Option R34 := match o, u, n with
  | .ret (.bool a0), [], 0 => some (a0)
  | _, _, _ => none
theorem r34_ok (p : P34) (o : AEnd) (u : Heap) (n : Nat) (r : R34) (h : r34 o u n = some r) : o = o34 r ∧ u = u34 r ∧ n = n34 r := by
  unfold r34 at h
  split at h
  · skip
    cases h; exact ⟨rfl, rfl, rfl⟩
  · cases h
structure S34_0 where
  mk ::
  x0 : List ByteArray
  x1 : List ByteArray
  x5 : Int
def VS34_0 (s : S34_0) : List AV := [.dsl 9 s.x0, .dsl 9 s.x1, .int .i64 s.x5]
def HS34_0 (s : S34_0) : Heap := []
def dS34_0 (vs : List AV) (H : Heap) : Option S34_0 := match vs, H with
  | [bx0, bx1, .int .i64 x5], [] => (match (dslD 9 bx0 : Option (List ByteArray)) with | some x0 => (match (dslD 9 bx1 : Option (List ByteArray)) with | some x1 => some (⟨x0, x1, x5⟩ : S34_0) | none => none) | none => none)
  | _, _ => none
theorem dS34_0_ok (vs : List AV) (H : Heap) (s : S34_0) (h : dS34_0 vs H = some s) : vs = VS34_0 s ∧ H = HS34_0 s := by
  unfold dS34_0 at h
  split at h
  · skip
    split at h
    · rename_i q
      have q := dslD_ok q
      subst q
      split at h
      · rename_i q
        have q := dslD_ok q
        subst q
        cases h; exact ⟨rfl, rfl⟩
      · cases h
    · cases h
  · cases h
def tS34_0 : AExit → List (Nat × Kd) := fun x => match x with
  | .normal => [(0, .rd 9), (1, .rd 9), (5, .any)]
  | .exit i => (match i with | 0 => [] | _ => [])
  | .ret => [(4, .any)]
  | _ => []
structure E34_0 where
  mk ::
  x4 : Bool
def VE34_0 (s : E34_0) : List AV := [.bool s.x4]
def HE34_0 (s : E34_0) : Heap := []
def dE34_0 (x : AExit) (vs : List AV) (H : Heap) : Option E34_0 := match x, vs, H with
  | .ret, [.bool x4], [] => some (⟨x4⟩ : E34_0)
  | _, _, _ => none
theorem dE34_0_ok (x : AExit) (vs : List AV) (H : Heap) (s : E34_0) (h : dE34_0 x vs H = some s) : x = .ret ∧ vs = VE34_0 s ∧ H = HE34_0 s := by
  unfold dE34_0 at h
  split at h
  · skip
    cases h; exact ⟨rfl, rfl, rfl⟩
  · cases h
structure E34_0b where
  mk ::
def VE34_0b (s : E34_0b) : List AV := []
def HE34_0b (s : E34_0b) : Heap := []
def dE34_0b (x : AExit) (vs : List AV) (H : Heap) : Option E34_0b := match x, vs, H with
  | .exit 0, [], [] => some (⟨⟩ : E34_0b)
  | _, _, _ => none
theorem dE34_0b_ok (x : AExit) (vs : List AV) (H : Heap) (s : E34_0b) (h : dE34_0b x vs H = some s) : x = .exit 0 ∧ vs = VE34_0b s ∧ H = HE34_0b s := by
  unfold dE34_0b at h
  split at h
  · skip
    cases h; exact ⟨rfl, rfl, rfl⟩
  · cases h
abbrev EE34_0 := E34_0 ⊕ E34_0b
def xEE34_0 (e : EE34_0) : AExit := match e with | .inl _ => .ret | .inr _ => .exit 0
def VEE34_0 (e : EE34_0) : List AV := match e with | .inl s => VE34_0 s | .inr s => VE34_0b s
def HEE34_0 (e : EE34_0) : Heap := match e with | .inl s => HE34_0 s | .inr s => HE34_0b s
def dEE34_0 (x : AExit) (vs : List AV) (H : Heap) : Option EE34_0 := match dE34_0 x vs H with | some s => some (.inl s) | none => (match dE34_0b x vs H with | some s => some (.inr s) | none => none)
theorem dEE34_0_ok (x : AExit) (vs : List AV) (H : Heap) (s : EE34_0) (h : dEE34_0 x vs H = some s) : x = xEE34_0 s ∧ vs = VEE34_0 s ∧ H = HEE34_0 s := by
  unfold dEE34_0 at h
  split at h
  · rename_i q; cases h; exact dE34_0_ok _ _ _ _ q
  · split at h
    · rename_i q; cases h; exact dE34_0b_ok _ _ _ _ q
    · cases h
def pS34_0 (k : Nat) (s : S34_0) : Option (S34_0 ⊕ EE34_0) :=
  br (decide (S34_0.x5 s < (↑(List.length (S34_0.x0 s)) : Int)))
   (br (decide ((0 : Int) ≤ S34_0.x5 s ∧ S34_0.x5 s < (↑(List.length (S34_0.x0 s)) : Int)))
    (br (decide ((0 : Int) ≤ S34_0.x5 s ∧ S34_0.x5 s < (↑(List.length (S34_0.x1 s)) : Int)))
     (br (!ByteArray.toList (List.getD (S34_0.x0 s) (Int.toNat (S34_0.x5 s)) default) == ByteArray.toList (List.getD (S34_0.x1 s) (Int.toNat (S34_0.x5 s)) default))
      (some (Sum.inr (Sum.inl (E34_0.mk false))))
      (some (Sum.inl (S34_0.mk (S34_0.x0 s) (S34_0.x1 s) (IntKind.wrap IntKind.i64 (S34_0.x5 s + (1 : Int)))))))
     (none))
    (none))
   (some (Sum.inr (Sum.inr E34_0b.mk)))
theorem pS34_0_run (k : Nat) (s : S34_0) : evC (S34_0 ⊕ EE34_0) Try.prog (ntmpsAt Try.prog 34) (cf66 k) ((Lm66 k) 34) 200 (loopAt Try.prog 34 0) (zipE [(0, .rd 9), (1, .rd 9), (5, .any)] (VS34_0 s)) (HS34_0 s) (List.length (HS34_0 s)) (cutS plan 0 tS34_0 (rndT dS34_0 dEE34_0)) = pS34_0 k s := by kernel_rfl
def l34_0 (k : Nat) (s : S34_0) : Option EE34_0 := iterT (pS34_0 k) k s
def m34_0 (k : Nat) : LamS := lamT 0 dS34_0 (l34_0 k) (elSum (elAll _) (elAll _)) tS34_0 xEE34_0 VEE34_0 HEE34_0
theorem loop34_0 : isLoopAt Try.prog 34 0 = true := by kernel_rfl
theorem m34_0_ok (k : Nat) : LamSOk Try.prog (ntmpsAt Try.prog 34) 0 (.block 0 (.loop (loopAt Try.prog 34 0))) [(0, .rd 9), (1, .rd 9), (5, .any)] (m34_0 k) := lamT_ok (plan := plan) (kb := 0) (body_run noNum mixed (cf66_ok k) (Lm66_ok k) loop34_0) rfl dS34_0_ok dEE34_0_ok (hel := (elSum_ok elAll_ok elAll_ok)) (pS34_0_run k) k
def Dl67 (k : Nat) : Delta := Dl66 k
def Lm67 (k : Nat) : FuncId → Nat → Option LamF := lCons 34 0 (lamBy plan [11, 12, 13, 14, 17, 18, 19, 20, 21, 22, 23, 24, 25, 4, 15, 16, 5] [(0, .rd 9), (1, .rd 9), (5, .any)] 0 (m34_0 k)) (Lm66 k)
theorem Dl67_ok (k : Nat) : DeltaOk Try.prog (Dl67 k) := Dl66_ok k
theorem Lm67_ok (k : Nat) : LamsOk Try.prog (Lm67 k) := lCons_ok (Lm66_ok k) loop34_0 (lamBy_ok (m34_0_ok k) (by kernel_rfl))
abbrev cf67 (k : Nat) : CallF := evF Try.prog (Dl67 k) (Lm67 k) 200 12
theorem cf67_ok (k : Nat) : CfOk Try.prog (cf67 k) := evF_ok noNum mixed (Dl67_ok k) (Lm67_ok k) 12
def f34 (k : Nat) (x0 : List ByteArray) (x1 : List ByteArray) : Option R34 :=
  br ((↑(List.length x0) : Int) != (↑(List.length x1) : Int))
   (some false)
   (bindO (l34_0 k (S34_0.mk x0 x1 (0 : Int))) fun r2999 =>
    match r2999 with
    | .inl c2998 => some (E34_0.x4 c2998)
    | .inr c2998 => some true)
theorem f34_run (k : Nat) (x0 : List ByteArray) (x1 : List ByteArray) : cf67 k R34 34 (A34 (x0, x1)) [] 0 (endR planR (.any) [] 0 r34) = f34 k x0 x1 := by kernel_rfl
def g34 (k : Nat) : CallS := entT d34 (fun p => f34 k p.1 p.2) (elAll _) (fun _ => o34) (fun _ => u34) (fun _ => n34)
theorem g34_ok (k : Nat) : CallSOk Try.prog 34 (g34 k) := entry_ok (Hp := fun _ => []) (oR := fun _ => o34) (uR := fun _ => u34) (nR := fun _ => n34) (cf67_ok k) d34_ok r34_ok (hel := elAll_ok) (fun p => f34_run k p.1 p.2)
def Dl68 (k : Nat) : Delta := dCons 34 (callAt plan [.rd 9, .rd 9] (g34 k)) (Dl67 k)
def Lm68 (k : Nat) : FuncId → Nat → Option LamF := Lm67 k
theorem Dl68_ok (k : Nat) : DeltaOk Try.prog (Dl68 k) := dCons_ok (Dl67_ok k) (g34_ok k)
theorem Lm68_ok (k : Nat) : LamsOk Try.prog (Lm68 k) := Lm67_ok k
abbrev cf68 (k : Nat) : CallF := evF Try.prog (Dl68 k) (Lm68 k) 200 12
theorem cf68_ok (k : Nat) : CfOk Try.prog (cf68 k) := evF_ok noNum mixed (Dl68_ok k) (Lm68_ok k) 12
abbrev P57 := List Int × List Int
def A57 (p : P57) : List AV := [.dsl 3 p.1, .dsl 3 p.2]
def d57 (a : List AV) (H : Heap) : Option P57 := match a, H with
  | [ba0, ba1], [] => (match (dslD 3 ba0 : Option (List Int)) with | some a0 => (match (dslD 3 ba1 : Option (List Int)) with | some a1 => some (a0, a1) | none => none) | none => none)
  | _, _ => none
theorem d57_ok (a : List AV) (H : Heap) (p : P57) (h : d57 a H = some p) : a = A57 p ∧ H = [] := by
  unfold d57 at h
  split at h
  · skip
    split at h
    · rename_i q
      have q := dslD_ok q
      subst q
      split at h
      · rename_i q
        have q := dslD_ok q
        subst q
        cases h; exact ⟨rfl, rfl⟩
      · cases h
    · cases h
  · cases h
abbrev R57 := Bool
def o57 (r : R57) : AEnd := .ret (.bool r)
def u57 (r : R57) : Heap := []
def n57 (_ : R57) : Nat := 0
def r57 (o : AEnd) (u : Heap) (n : Nat) : Option R57 := match o, u, n with
  | .ret (.bool a0), [], 0 => some (a0)
  | _, _, _ => none
theorem r57_ok (p : P57) (o : AEnd) (u : Heap) (n : Nat) (r : R57) (h : r57 o u n = some r) : o = o57 r ∧ u = u57 r ∧ n = n57 r := by
  unfold r57 at h
  split at h
  · skip
    cases h; exact ⟨rfl, rfl, rfl⟩
  · cases h
structure S57_0 where
  mk ::
  x0 : List Int
  x1 : List Int
  x5 : Int
def VS57_0 (s : S57_0) : List AV := [.dsl 3 s.x0, .dsl 3 s.x1, .int .i64 s.x5]
def HS57_0 (s : S57_0) : Heap := []
def dS57_0 (vs : List AV) (H : Heap) : Option S57_0 := match vs, H with
  | [bx0, bx1, .int .i64 x5], [] => (match (dslD 3 bx0 : Option (List Int)) with | some x0 => (match (dslD 3 bx1 : Option (List Int)) with | some x1 => some (⟨x0, x1, x5⟩ : S57_0) | none => none) | none => none)
  | _, _ => none
theorem dS57_0_ok (vs : List AV) (H : Heap) (s : S57_0) (h : dS57_0 vs H = some s) : vs = VS57_0 s ∧ H = HS57_0 s := by
  unfold dS57_0 at h
  split at h
  · skip
    split at h
    · rename_i q
      have q := dslD_ok q
      subst q
      split at h
      · rename_i q
        have q := dslD_ok q
        subst q
        cases h; exact ⟨rfl, rfl⟩
      · cases h
    · cases h
  · cases h
def tS57_0 : AExit → List (Nat × Kd) := fun x => match x with
  | .normal => [(0, .rd 3), (1, .rd 3), (5, .any)]
  | .exit i => (match i with | 0 => [] | _ => [])
  | .ret => [(4, .any)]
  | _ => []
structure E57_0 where
  mk ::
  x4 : Bool
def VE57_0 (s : E57_0) : List AV := [.bool s.x4]
def HE57_0 (s : E57_0) : Heap := []
def dE57_0 (x : AExit) (vs : List AV) (H : Heap) : Option E57_0 := match x, vs, H with
  | .ret, [.bool x4], [] => some (⟨x4⟩ : E57_0)
  | _, _, _ => none
theorem dE57_0_ok (x : AExit) (vs : List AV) (H : Heap) (s : E57_0) (h : dE57_0 x vs H = some s) : x = .ret ∧ vs = VE57_0 s ∧ H = HE57_0 s := by
  unfold dE57_0 at h
  split at h
  · skip
    cases h; exact ⟨rfl, rfl, rfl⟩
  · cases h
structure E57_0b where
  mk ::
def VE57_0b (s : E57_0b) : List AV := []
def HE57_0b (s : E57_0b) : Heap := []
def dE57_0b (x : AExit) (vs : List AV) (H : Heap) : Option E57_0b := match x, vs, H with
  | .exit 0, [], [] => some (⟨⟩ : E57_0b)
  | _, _, _ => none
theorem dE57_0b_ok (x : AExit) (vs : List AV) (H : Heap) (s : E57_0b) (h : dE57_0b x vs H = some s) : x = .exit 0 ∧ vs = VE57_0b s ∧ H = HE57_0b s := by
  unfold dE57_0b at h
  split at h
  · skip
    cases h; exact ⟨rfl, rfl, rfl⟩
  · cases h
abbrev EE57_0 := E57_0 ⊕ E57_0b
def xEE57_0 (e : EE57_0) : AExit := match e with | .inl _ => .ret | .inr _ => .exit 0
def VEE57_0 (e : EE57_0) : List AV := match e with | .inl s => VE57_0 s | .inr s => VE57_0b s
def HEE57_0 (e : EE57_0) : Heap := match e with | .inl s => HE57_0 s | .inr s => HE57_0b s
def dEE57_0 (x : AExit) (vs : List AV) (H : Heap) : Option EE57_0 := match dE57_0 x vs H with | some s => some (.inl s) | none => (match dE57_0b x vs H with | some s => some (.inr s) | none => none)
theorem dEE57_0_ok (x : AExit) (vs : List AV) (H : Heap) (s : EE57_0) (h : dEE57_0 x vs H = some s) : x = xEE57_0 s ∧ vs = VEE57_0 s ∧ H = HEE57_0 s := by
  unfold dEE57_0 at h
  split at h
  · rename_i q; cases h; exact dE57_0_ok _ _ _ _ q
  · split at h
    · rename_i q; cases h; exact dE57_0b_ok _ _ _ _ q
    · cases h
def pS57_0 (k : Nat) (s : S57_0) : Option (S57_0 ⊕ EE57_0) :=
  br (decide (S57_0.x5 s < (↑(List.length (S57_0.x0 s)) : Int)))
   (br (decide ((0 : Int) ≤ S57_0.x5 s ∧ S57_0.x5 s < (↑(List.length (S57_0.x0 s)) : Int)))
    (br (decide ((0 : Int) ≤ S57_0.x5 s ∧ S57_0.x5 s < (↑(List.length (S57_0.x1 s)) : Int)))
     (br (List.getD (S57_0.x0 s) (Int.toNat (S57_0.x5 s)) (0 : Int) != List.getD (S57_0.x1 s) (Int.toNat (S57_0.x5 s)) (0 : Int))
      (some (Sum.inr (Sum.inl (E57_0.mk false))))
      (some (Sum.inl (S57_0.mk (S57_0.x0 s) (S57_0.x1 s) (IntKind.wrap IntKind.i64 (S57_0.x5 s + (1 : Int)))))))
     (none))
    (none))
   (some (Sum.inr (Sum.inr E57_0b.mk)))
theorem pS57_0_run (k : Nat) (s : S57_0) : evC (S57_0 ⊕ EE57_0) Try.prog (ntmpsAt Try.prog 57) (cf68 k) ((Lm68 k) 57) 200 (loopAt Try.prog 57 0) (zipE [(0, .rd 3), (1, .rd 3), (5, .any)] (VS57_0 s)) (HS57_0 s) (List.length (HS57_0 s)) (cutS plan 0 tS57_0 (rndT dS57_0 dEE57_0)) = pS57_0 k s := by kernel_rfl
def l57_0 (k : Nat) (s : S57_0) : Option EE57_0 := iterT (pS57_0 k) k s
def m57_0 (k : Nat) : LamS := lamT 0 dS57_0 (l57_0 k) (elSum (elAll _) (elAll _)) tS57_0 xEE57_0 VEE57_0 HEE57_0
theorem loop57_0 : isLoopAt Try.prog 57 0 = true := by kernel_rfl
theorem m57_0_ok (k : Nat) : LamSOk Try.prog (ntmpsAt Try.prog 57) 0 (.block 0 (.loop (loopAt Try.prog 57 0))) [(0, .rd 3), (1, .rd 3), (5, .any)] (m57_0 k) := lamT_ok (plan := plan) (kb := 0) (body_run noNum mixed (cf68_ok k) (Lm68_ok k) loop57_0) rfl dS57_0_ok dEE57_0_ok (hel := (elSum_ok elAll_ok elAll_ok)) (pS57_0_run k) k
def Dl69 (k : Nat) : Delta := Dl68 k
def Lm69 (k : Nat) : FuncId → Nat → Option LamF := lCons 57 0 (lamBy plan [11, 12, 13, 14, 17, 18, 19, 20, 21, 22, 23, 24, 25, 4, 15, 16, 5] [(0, .rd 3), (1, .rd 3), (5, .any)] 0 (m57_0 k)) (Lm68 k)
theorem Dl69_ok (k : Nat) : DeltaOk Try.prog (Dl69 k) := Dl68_ok k
theorem Lm69_ok (k : Nat) : LamsOk Try.prog (Lm69 k) := lCons_ok (Lm68_ok k) loop57_0 (lamBy_ok (m57_0_ok k) (by kernel_rfl))
abbrev cf69 (k : Nat) : CallF := evF Try.prog (Dl69 k) (Lm69 k) 200 12
theorem cf69_ok (k : Nat) : CfOk Try.prog (cf69 k) := evF_ok noNum mixed (Dl69_ok k) (Lm69_ok k) 12
def f57 (k : Nat) (x0 : List Int) (x1 : List Int) : Option R57 :=
  br ((↑(List.length x0) : Int) != (↑(List.length x1) : Int))
   (some false)
   (bindO (l57_0 k (S57_0.mk x0 x1 (0 : Int))) fun r2999 =>
    match r2999 with
    | .inl c2998 => some (E57_0.x4 c2998)
    | .inr c2998 => some true)
theorem f57_run (k : Nat) (x0 : List Int) (x1 : List Int) : cf69 k R57 57 (A57 (x0, x1)) [] 0 (endR planR (.any) [] 0 r57) = f57 k x0 x1 := by kernel_rfl
def g57 (k : Nat) : CallS := entT d57 (fun p => f57 k p.1 p.2) (elAll _) (fun _ => o57) (fun _ => u57) (fun _ => n57)
theorem g57_ok (k : Nat) : CallSOk Try.prog 57 (g57 k) := entry_ok (Hp := fun _ => []) (oR := fun _ => o57) (uR := fun _ => u57) (nR := fun _ => n57) (cf69_ok k) d57_ok r57_ok (hel := elAll_ok) (fun p => f57_run k p.1 p.2)
def Dl70 (k : Nat) : Delta := dCons 57 (callAt plan [.rd 3, .rd 3] (g57 k)) (Dl69 k)
def Lm70 (k : Nat) : FuncId → Nat → Option LamF := Lm69 k
theorem Dl70_ok (k : Nat) : DeltaOk Try.prog (Dl70 k) := dCons_ok (Dl69_ok k) (g57_ok k)
theorem Lm70_ok (k : Nat) : LamsOk Try.prog (Lm70 k) := Lm69_ok k
abbrev cf70 (k : Nat) : CallF := evF Try.prog (Dl70 k) (Lm70 k) 200 12
theorem cf70_ok (k : Nat) : CfOk Try.prog (cf70 k) := evF_ok noNum mixed (Dl70_ok k) (Lm70_ok k) 12
abbrev P104 := GVote × GVote
def A104 (p : P104) : List AV := [.agg [.int .i64 p.1.src, .int .i64 p.1.last, .int .i64 p.1.commit, .dsl 9 p.1.rows], .agg [.int .i64 p.2.src, .int .i64 p.2.last, .int .i64 p.2.commit, .dsl 9 p.2.rows]]
def d104 (a : List AV) (H : Heap) : Option P104 := match a, H with
  | [.agg [.int .i64 a0, .int .i64 a1, .int .i64 a2, ba3], .agg [.int .i64 a4, .int .i64 a5, .int .i64 a6, ba7]], [] => (match (dslD 9 ba3 : Option (List ByteArray)) with | some a3 => (match (dslD 9 ba7 : Option (List ByteArray)) with | some a7 => some ((⟨a0, a1, a2, a3⟩ : GVote), (⟨a4, a5, a6, a7⟩ : GVote)) | none => none) | none => none)
  | _, _ => none
theorem d104_ok (a : List AV) (H : Heap) (p : P104) (h : d104 a H = some p) : a = A104 p ∧ H = [] := by
  unfold d104 at h
  split at h
  · skip
    split at h
    · rename_i q
      have q := dslD_ok q
      subst q
      split at h
      · rename_i q
        have q := dslD_ok q
        subst q
        cases h; exact ⟨rfl, rfl⟩
      · cases h
    · cases h
  · cases h
abbrev R104 := Bool
def o104 (r : R104) : AEnd := .ret (.bool r)
def u104 (r : R104) : Heap := []
def n104 (_ : R104) : Nat := 0
def r104 (o : AEnd) (u : Heap) (n : Nat) : Option R104 := match o, u, n with
  | .ret (.bool a0), [], 0 => some (a0)
  | _, _, _ => none
theorem r104_ok (p : P104) (o : AEnd) (u : Heap) (n : Nat) (r : R104) (h : r104 o u n = some r) : o = o104 r ∧ u = u104 r ∧ n = n104 r := by
  unfold r104 at h
  split at h
  · skip
    cases h; exact ⟨rfl, rfl, rfl⟩
  · cases h
def f104 (k : Nat) (x0 : GVote) (x1 : GVote) : Option R104 :=
  br (GVote.src x0 == GVote.src x1)
   (br (GVote.last x0 == GVote.last x1)
    (br (GVote.commit x0 == GVote.commit x1)
     (bindO (f34 k (GVote.rows x0) (GVote.rows x1)) fun r3000 =>
      some r3000)
     (some false))
    (some false))
   (some false)
theorem f104_run (k : Nat) (x0 : GVote) (x1 : GVote) : cf70 k R104 104 (A104 (x0, x1)) [] 0 (endR planR (.any) [] 0 r104) = f104 k x0 x1 := by kernel_rfl
def g104 (k : Nat) : CallS := entT d104 (fun p => f104 k p.1 p.2) (elAll _) (fun _ => o104) (fun _ => u104) (fun _ => n104)
theorem g104_ok (k : Nat) : CallSOk Try.prog 104 (g104 k) := entry_ok (Hp := fun _ => []) (oR := fun _ => o104) (uR := fun _ => u104) (nR := fun _ => n104) (cf70_ok k) d104_ok r104_ok (hel := elAll_ok) (fun p => f104_run k p.1 p.2)
def Dl71 (k : Nat) : Delta := dCons 104 (callAt plan [.agg [.any, .any, .any, .rd 9], .agg [.any, .any, .any, .rd 9]] (g104 k)) (Dl70 k)
def Lm71 (k : Nat) : FuncId → Nat → Option LamF := Lm70 k
theorem Dl71_ok (k : Nat) : DeltaOk Try.prog (Dl71 k) := dCons_ok (Dl70_ok k) (g104_ok k)
theorem Lm71_ok (k : Nat) : LamsOk Try.prog (Lm71 k) := Lm70_ok k
abbrev cf71 (k : Nat) : CallF := evF Try.prog (Dl71 k) (Lm71 k) 200 12
theorem cf71_ok (k : Nat) : CfOk Try.prog (cf71 k) := evF_ok noNum mixed (Dl71_ok k) (Lm71_ok k) 12
abbrev P58 := List GVote × List GVote
def A58 (p : P58) : List AV := [.dsl 89 p.1, .dsl 89 p.2]
def d58 (a : List AV) (H : Heap) : Option P58 := match a, H with
  | [ba0, ba1], [] => (match (dslD 89 ba0 : Option (List GVote)) with | some a0 => (match (dslD 89 ba1 : Option (List GVote)) with | some a1 => some (a0, a1) | none => none) | none => none)
  | _, _ => none
theorem d58_ok (a : List AV) (H : Heap) (p : P58) (h : d58 a H = some p) : a = A58 p ∧ H = [] := by
  unfold d58 at h
  split at h
  · skip
    split at h
    · rename_i q
      have q := dslD_ok q
      subst q
      split at h
      · rename_i q
        have q := dslD_ok q
        subst q
        cases h; exact ⟨rfl, rfl⟩
      · cases h
    · cases h
  · cases h
abbrev R58 := Bool
def o58 (r : R58) : AEnd := .ret (.bool r)
def u58 (r : R58) : Heap := []
def n58 (_ : R58) : Nat := 0
def r58 (o : AEnd) (u : Heap) (n : Nat) : Option R58 := match o, u, n with
  | .ret (.bool a0), [], 0 => some (a0)
  | _, _, _ => none
theorem r58_ok (p : P58) (o : AEnd) (u : Heap) (n : Nat) (r : R58) (h : r58 o u n = some r) : o = o58 r ∧ u = u58 r ∧ n = n58 r := by
  unfold r58 at h
  split at h
  · skip
    cases h; exact ⟨rfl, rfl, rfl⟩
  · cases h
structure S58_0 where
  mk ::
  x0 : List GVote
  x1 : List GVote
  x5 : Int
def VS58_0 (s : S58_0) : List AV := [.dsl 89 s.x0, .dsl 89 s.x1, .int .i64 s.x5]
def HS58_0 (s : S58_0) : Heap := []
def dS58_0 (vs : List AV) (H : Heap) : Option S58_0 := match vs, H with
  | [bx0, bx1, .int .i64 x5], [] => (match (dslD 89 bx0 : Option (List GVote)) with | some x0 => (match (dslD 89 bx1 : Option (List GVote)) with | some x1 => some (⟨x0, x1, x5⟩ : S58_0) | none => none) | none => none)
  | _, _ => none
theorem dS58_0_ok (vs : List AV) (H : Heap) (s : S58_0) (h : dS58_0 vs H = some s) : vs = VS58_0 s ∧ H = HS58_0 s := by
  unfold dS58_0 at h
  split at h
  · skip
    split at h
    · rename_i q
      have q := dslD_ok q
      subst q
      split at h
      · rename_i q
        have q := dslD_ok q
        subst q
        cases h; exact ⟨rfl, rfl⟩
      · cases h
    · cases h
  · cases h
def tS58_0 : AExit → List (Nat × Kd) := fun x => match x with
  | .normal => [(0, .rd 89), (1, .rd 89), (5, .any)]
  | .exit i => (match i with | 0 => [] | _ => [])
  | .ret => [(4, .any)]
  | _ => []
structure E58_0 where
  mk ::
  x4 : Bool
def VE58_0 (s : E58_0) : List AV := [.bool s.x4]
def HE58_0 (s : E58_0) : Heap := []
def dE58_0 (x : AExit) (vs : List AV) (H : Heap) : Option E58_0 := match x, vs, H with
  | .ret, [.bool x4], [] => some (⟨x4⟩ : E58_0)
  | _, _, _ => none
theorem dE58_0_ok (x : AExit) (vs : List AV) (H : Heap) (s : E58_0) (h : dE58_0 x vs H = some s) : x = .ret ∧ vs = VE58_0 s ∧ H = HE58_0 s := by
  unfold dE58_0 at h
  split at h
  · skip
    cases h; exact ⟨rfl, rfl, rfl⟩
  · cases h
structure E58_0b where
  mk ::
def VE58_0b (s : E58_0b) : List AV := []
def HE58_0b (s : E58_0b) : Heap := []
def dE58_0b (x : AExit) (vs : List AV) (H : Heap) : Option E58_0b := match x, vs, H with
  | .exit 0, [], [] => some (⟨⟩ : E58_0b)
  | _, _, _ => none
theorem dE58_0b_ok (x : AExit) (vs : List AV) (H : Heap) (s : E58_0b) (h : dE58_0b x vs H = some s) : x = .exit 0 ∧ vs = VE58_0b s ∧ H = HE58_0b s := by
  unfold dE58_0b at h
  split at h
  · skip
    cases h; exact ⟨rfl, rfl, rfl⟩
  · cases h
abbrev EE58_0 := E58_0 ⊕ E58_0b
def xEE58_0 (e : EE58_0) : AExit := match e with | .inl _ => .ret | .inr _ => .exit 0
def VEE58_0 (e : EE58_0) : List AV := match e with | .inl s => VE58_0 s | .inr s => VE58_0b s
def HEE58_0 (e : EE58_0) : Heap := match e with | .inl s => HE58_0 s | .inr s => HE58_0b s
def dEE58_0 (x : AExit) (vs : List AV) (H : Heap) : Option EE58_0 := match dE58_0 x vs H with | some s => some (.inl s) | none => (match dE58_0b x vs H with | some s => some (.inr s) | none => none)
theorem dEE58_0_ok (x : AExit) (vs : List AV) (H : Heap) (s : EE58_0) (h : dEE58_0 x vs H = some s) : x = xEE58_0 s ∧ vs = VEE58_0 s ∧ H = HEE58_0 s := by
  unfold dEE58_0 at h
  split at h
  · rename_i q; cases h; exact dE58_0_ok _ _ _ _ q
  · split at h
    · rename_i q; cases h; exact dE58_0b_ok _ _ _ _ q
    · cases h
def pS58_0 (k : Nat) (s : S58_0) : Option (S58_0 ⊕ EE58_0) :=
  br (decide (S58_0.x5 s < (↑(List.length (S58_0.x0 s)) : Int)))
   (br (decide ((0 : Int) ≤ S58_0.x5 s ∧ S58_0.x5 s < (↑(List.length (S58_0.x0 s)) : Int)))
    (br (decide ((0 : Int) ≤ S58_0.x5 s ∧ S58_0.x5 s < (↑(List.length (S58_0.x1 s)) : Int)))
     (bindO (f104 k (List.getD (S58_0.x0 s) (Int.toNat (S58_0.x5 s)) default) (List.getD (S58_0.x1 s) (Int.toNat (S58_0.x5 s)) default)) fun r1500 =>
      br (!r1500)
       (some (Sum.inr (Sum.inl (E58_0.mk false))))
       (some (Sum.inl (S58_0.mk (S58_0.x0 s) (S58_0.x1 s) (IntKind.wrap IntKind.i64 (S58_0.x5 s + (1 : Int)))))))
     (none))
    (none))
   (some (Sum.inr (Sum.inr E58_0b.mk)))
theorem pS58_0_run (k : Nat) (s : S58_0) : evC (S58_0 ⊕ EE58_0) Try.prog (ntmpsAt Try.prog 58) (cf71 k) ((Lm71 k) 58) 200 (loopAt Try.prog 58 0) (zipE [(0, .rd 89), (1, .rd 89), (5, .any)] (VS58_0 s)) (HS58_0 s) (List.length (HS58_0 s)) (cutS plan 0 tS58_0 (rndT dS58_0 dEE58_0)) = pS58_0 k s := by kernel_rfl
def l58_0 (k : Nat) (s : S58_0) : Option EE58_0 := iterT (pS58_0 k) k s
def m58_0 (k : Nat) : LamS := lamT 0 dS58_0 (l58_0 k) (elSum (elAll _) (elAll _)) tS58_0 xEE58_0 VEE58_0 HEE58_0
theorem loop58_0 : isLoopAt Try.prog 58 0 = true := by kernel_rfl
theorem m58_0_ok (k : Nat) : LamSOk Try.prog (ntmpsAt Try.prog 58) 0 (.block 0 (.loop (loopAt Try.prog 58 0))) [(0, .rd 89), (1, .rd 89), (5, .any)] (m58_0 k) := lamT_ok (plan := plan) (kb := 0) (body_run noNum mixed (cf71_ok k) (Lm71_ok k) loop58_0) rfl dS58_0_ok dEE58_0_ok (hel := (elSum_ok elAll_ok elAll_ok)) (pS58_0_run k) k
def Dl72 (k : Nat) : Delta := Dl71 k
def Lm72 (k : Nat) : FuncId → Nat → Option LamF := lCons 58 0 (lamBy plan [11, 12, 13, 14, 17, 18, 19, 20, 21, 22, 23, 24, 25, 26, 4, 15, 16, 5] [(0, .rd 89), (1, .rd 89), (5, .any)] 0 (m58_0 k)) (Lm71 k)
theorem Dl72_ok (k : Nat) : DeltaOk Try.prog (Dl72 k) := Dl71_ok k
theorem Lm72_ok (k : Nat) : LamsOk Try.prog (Lm72 k) := lCons_ok (Lm71_ok k) loop58_0 (lamBy_ok (m58_0_ok k) (by kernel_rfl))
abbrev cf72 (k : Nat) : CallF := evF Try.prog (Dl72 k) (Lm72 k) 200 12
theorem cf72_ok (k : Nat) : CfOk Try.prog (cf72 k) := evF_ok noNum mixed (Dl72_ok k) (Lm72_ok k) 12
def f58 (k : Nat) (x0 : List GVote) (x1 : List GVote) : Option R58 :=
  br ((↑(List.length x0) : Int) != (↑(List.length x1) : Int))
   (some false)
   (bindO (l58_0 k (S58_0.mk x0 x1 (0 : Int))) fun r2999 =>
    match r2999 with
    | .inl c2998 => some (E58_0.x4 c2998)
    | .inr c2998 => some true)
theorem f58_run (k : Nat) (x0 : List GVote) (x1 : List GVote) : cf72 k R58 58 (A58 (x0, x1)) [] 0 (endR planR (.any) [] 0 r58) = f58 k x0 x1 := by kernel_rfl
def g58 (k : Nat) : CallS := entT d58 (fun p => f58 k p.1 p.2) (elAll _) (fun _ => o58) (fun _ => u58) (fun _ => n58)
theorem g58_ok (k : Nat) : CallSOk Try.prog 58 (g58 k) := entry_ok (Hp := fun _ => []) (oR := fun _ => o58) (uR := fun _ => u58) (nR := fun _ => n58) (cf72_ok k) d58_ok r58_ok (hel := elAll_ok) (fun p => f58_run k p.1 p.2)
def Dl73 (k : Nat) : Delta := dCons 58 (callAt plan [.rd 89, .rd 89] (g58 k)) (Dl72 k)
def Lm73 (k : Nat) : FuncId → Nat → Option LamF := Lm72 k
theorem Dl73_ok (k : Nat) : DeltaOk Try.prog (Dl73 k) := dCons_ok (Dl72_ok k) (g58_ok k)
theorem Lm73_ok (k : Nat) : LamsOk Try.prog (Lm73 k) := Lm72_ok k
abbrev cf73 (k : Nat) : CallF := evF Try.prog (Dl73 k) (Lm73 k) 200 12
theorem cf73_ok (k : Nat) : CfOk Try.prog (cf73 k) := evF_ok noNum mixed (Dl73_ok k) (Lm73_ok k) 12
abbrev P29 := GNode × GNode
def A29 (p : P29) : List AV := [.agg [.int .i64 p.1.id, .int .i64 p.1.n, .int .i64 p.1.view, .int .i64 p.1.last, .int .i64 p.1.phase, .int .i64 p.1.commit, .dsl 9 p.1.rows, .dsl 3 p.1.far, .int .i64 p.1.starts, .dsl 89 p.1.votes], .agg [.int .i64 p.2.id, .int .i64 p.2.n, .int .i64 p.2.view, .int .i64 p.2.last, .int .i64 p.2.phase, .int .i64 p.2.commit, .dsl 9 p.2.rows, .dsl 3 p.2.far, .int .i64 p.2.starts, .dsl 89 p.2.votes]]
def d29 (a : List AV) (H : Heap) : Option P29 := match a, H with
  | [.agg [.int .i64 a0, .int .i64 a1, .int .i64 a2, .int .i64 a3, .int .i64 a4, .int .i64 a5, ba6, ba7, .int .i64 a8, ba9], .agg [.int .i64 a10, .int .i64 a11, .int .i64 a12, .int .i64 a13, .int .i64 a14, .int .i64 a15, ba16, ba17, .int .i64 a18, ba19]], [] => (match (dslD 9 ba6 : Option (List ByteArray)) with | some a6 => (match (dslD 3 ba7 : Option (List Int)) with | some a7 => (match (dslD 89 ba9 : Option (List GVote)) with | some a9 => (match (dslD 9 ba16 : Option (List ByteArray)) with | some a16 => (match (dslD 3 ba17 : Option (List Int)) with | some a17 => (match (dslD 89 ba19 : Option (List GVote)) with | some a19 => some ((⟨a0, a1, a2, a3, a4, a5, a6, a7, a8, a9⟩ : GNode), (⟨a10, a11, a12, a13, a14, a15, a16, a17, a18, a19⟩ : GNode)) | none => none) | none => none) | none => none) | none => none) | none => none) | none => none)
  | _, _ => none
theorem d29_ok (a : List AV) (H : Heap) (p : P29) (h : d29 a H = some p) : a = A29 p ∧ H = [] := by
  unfold d29 at h
  split at h
  · skip
    split at h
    · rename_i q
      have q := dslD_ok q
      subst q
      split at h
      · rename_i q
        have q := dslD_ok q
        subst q
        split at h
        · rename_i q
          have q := dslD_ok q
          subst q
          split at h
          · rename_i q
            have q := dslD_ok q
            subst q
            split at h
            · rename_i q
              have q := dslD_ok q
              subst q
              split at h
              · rename_i q
                have q := dslD_ok q
                subst q
                cases h; exact ⟨rfl, rfl⟩
              · cases h
            · cases h
          · cases h
        · cases h
      · cases h
    · cases h
  · cases h
abbrev R29 := Bool
def o29 (r : R29) : AEnd := .ret (.bool r)
def u29 (r : R29) : Heap := []
def n29 (_ : R29) : Nat := 0
def r29 (o : AEnd) (u : Heap) (n : Nat) : Option R29 := match o, u, n with
  | .ret (.bool a0), [], 0 => some (a0)
  | _, _, _ => none
theorem r29_ok (p : P29) (o : AEnd) (u : Heap) (n : Nat) (r : R29) (h : r29 o u n = some r) : o = o29 r ∧ u = u29 r ∧ n = n29 r := by
  unfold r29 at h
  split at h
  · skip
    cases h; exact ⟨rfl, rfl, rfl⟩
  · cases h
def f29 (k : Nat) (x0 : GNode) (x1 : GNode) : Option R29 :=
  br (GNode.id x0 == GNode.id x1)
   (br (GNode.n x0 == GNode.n x1)
    (br (GNode.view x0 == GNode.view x1)
     (br (GNode.last x0 == GNode.last x1)
      (br (GNode.phase x0 == GNode.phase x1)
       (br (GNode.commit x0 == GNode.commit x1)
        (br (GNode.starts x0 == GNode.starts x1)
         (bindO (f34 k (GNode.rows x0) (GNode.rows x1)) fun r3000 =>
          br r3000
           (bindO (f57 k (GNode.far x0) (GNode.far x1)) fun r2999 =>
            br r2999
             (bindO (f58 k (GNode.votes x0) (GNode.votes x1)) fun r2998 =>
              some r2998)
             (some false))
           (some false))
         (some false))
        (some false))
       (some false))
      (some false))
     (some false))
    (some false))
   (some false)
theorem f29_run (k : Nat) (x0 : GNode) (x1 : GNode) : cf73 k R29 29 (A29 (x0, x1)) [] 0 (endR planR (.any) [] 0 r29) = f29 k x0 x1 := by kernel_rfl
def g29 (k : Nat) : CallS := entT d29 (fun p => f29 k p.1 p.2) (elAll _) (fun _ => o29) (fun _ => u29) (fun _ => n29)
theorem g29_ok (k : Nat) : CallSOk Try.prog 29 (g29 k) := entry_ok (Hp := fun _ => []) (oR := fun _ => o29) (uR := fun _ => u29) (nR := fun _ => n29) (cf73_ok k) d29_ok r29_ok (hel := elAll_ok) (fun p => f29_run k p.1 p.2)
def Dl74 (k : Nat) : Delta := dCons 29 (callAt plan [.agg [.any, .any, .any, .any, .any, .any, .rd 9, .rd 3, .any, .rd 89], .agg [.any, .any, .any, .any, .any, .any, .rd 9, .rd 3, .any, .rd 89]] (g29 k)) (Dl73 k)
def Lm74 (k : Nat) : FuncId → Nat → Option LamF := Lm73 k
theorem Dl74_ok (k : Nat) : DeltaOk Try.prog (Dl74 k) := dCons_ok (Dl73_ok k) (g29_ok k)
theorem Lm74_ok (k : Nat) : LamsOk Try.prog (Lm74 k) := Lm73_ok k
abbrev cf74 (k : Nat) : CallF := evF Try.prog (Dl74 k) (Lm74 k) 200 12
theorem cf74_ok (k : Nat) : CfOk Try.prog (cf74 k) := evF_ok noNum mixed (Dl74_ok k) (Lm74_ok k) 12
abbrev P86 := List ByteArray
def A86 (p : P86) : List AV := [.dsl 9 p]
def d86 (a : List AV) (H : Heap) : Option P86 := match a, H with
  | [ba0], [] => (match (dslD 9 ba0 : Option (List ByteArray)) with | some a0 => some (a0) | none => none)
  | _, _ => none
theorem d86_ok (a : List AV) (H : Heap) (p : P86) (h : d86 a H = some p) : a = A86 p ∧ H = [] := by
  unfold d86 at h
  split at h
  · skip
    split at h
    · rename_i q
      have q := dslD_ok q
      subst q
      cases h; exact ⟨rfl, rfl⟩
    · cases h
  · cases h
abbrev R86 := Bool
def o86 (r : R86) : AEnd := .ret (.bool r)
def u86 (r : R86) : Heap := []
def n86 (_ : R86) : Nat := 0
def r86 (o : AEnd) (u : Heap) (n : Nat) : Option R86 := match o, u, n with
  | .ret (.bool a0), [], 0 => some (a0)
  | _, _, _ => none
theorem r86_ok (p : P86) (o : AEnd) (u : Heap) (n : Nat) (r : R86) (h : r86 o u n = some r) : o = o86 r ∧ u = u86 r ∧ n = n86 r := by
  unfold r86 at h
  split at h
  · skip
    cases h; exact ⟨rfl, rfl, rfl⟩
  · cases h
structure S86_0 where
  mk ::
  x0 : List ByteArray
  x3 : Int
def VS86_0 (s : S86_0) : List AV := [.dsl 9 s.x0, .int .i64 s.x3]
def HS86_0 (s : S86_0) : Heap := []
def dS86_0 (vs : List AV) (H : Heap) : Option S86_0 := match vs, H with
  | [bx0, .int .i64 x3], [] => (match (dslD 9 bx0 : Option (List ByteArray)) with | some x0 => some (⟨x0, x3⟩ : S86_0) | none => none)
  | _, _ => none
theorem dS86_0_ok (vs : List AV) (H : Heap) (s : S86_0) (h : dS86_0 vs H = some s) : vs = VS86_0 s ∧ H = HS86_0 s := by
  unfold dS86_0 at h
  split at h
  · skip
    split at h
    · rename_i q
      have q := dslD_ok q
      subst q
      cases h; exact ⟨rfl, rfl⟩
    · cases h
  · cases h
def tS86_0 : AExit → List (Nat × Kd) := fun x => match x with
  | .normal => [(0, .rd 9), (3, .any)]
  | .exit i => (match i with | 0 => [(0, .rd 9)] | _ => [])
  | .ret => [(2, .any)]
  | _ => []
structure E86_0 where
  mk ::
  x2 : Bool
def VE86_0 (s : E86_0) : List AV := [.bool s.x2]
def HE86_0 (s : E86_0) : Heap := []
def dE86_0 (x : AExit) (vs : List AV) (H : Heap) : Option E86_0 := match x, vs, H with
  | .ret, [.bool x2], [] => some (⟨x2⟩ : E86_0)
  | _, _, _ => none
theorem dE86_0_ok (x : AExit) (vs : List AV) (H : Heap) (s : E86_0) (h : dE86_0 x vs H = some s) : x = .ret ∧ vs = VE86_0 s ∧ H = HE86_0 s := by
  unfold dE86_0 at h
  split at h
  · skip
    cases h; exact ⟨rfl, rfl, rfl⟩
  · cases h
structure E86_0b where
  mk ::
  x0 : List ByteArray
def VE86_0b (s : E86_0b) : List AV := [.dsl 9 s.x0]
def HE86_0b (s : E86_0b) : Heap := []
def dE86_0b (x : AExit) (vs : List AV) (H : Heap) : Option E86_0b := match x, vs, H with
  | .exit 0, [bx0], [] => (match (dslD 9 bx0 : Option (List ByteArray)) with | some x0 => some (⟨x0⟩ : E86_0b) | none => none)
  | _, _, _ => none
theorem dE86_0b_ok (x : AExit) (vs : List AV) (H : Heap) (s : E86_0b) (h : dE86_0b x vs H = some s) : x = .exit 0 ∧ vs = VE86_0b s ∧ H = HE86_0b s := by
  unfold dE86_0b at h
  split at h
  · skip
    split at h
    · rename_i q
      have q := dslD_ok q
      subst q
      cases h; exact ⟨rfl, rfl, rfl⟩
    · cases h
  · cases h
abbrev EE86_0 := E86_0 ⊕ E86_0b
def xEE86_0 (e : EE86_0) : AExit := match e with | .inl _ => .ret | .inr _ => .exit 0
def VEE86_0 (e : EE86_0) : List AV := match e with | .inl s => VE86_0 s | .inr s => VE86_0b s
def HEE86_0 (e : EE86_0) : Heap := match e with | .inl s => HE86_0 s | .inr s => HE86_0b s
def dEE86_0 (x : AExit) (vs : List AV) (H : Heap) : Option EE86_0 := match dE86_0 x vs H with | some s => some (.inl s) | none => (match dE86_0b x vs H with | some s => some (.inr s) | none => none)
theorem dEE86_0_ok (x : AExit) (vs : List AV) (H : Heap) (s : EE86_0) (h : dEE86_0 x vs H = some s) : x = xEE86_0 s ∧ vs = VEE86_0 s ∧ H = HEE86_0 s := by
  unfold dEE86_0 at h
  split at h
  · rename_i q; cases h; exact dE86_0_ok _ _ _ _ q
  · split at h
    · rename_i q; cases h; exact dE86_0b_ok _ _ _ _ q
    · cases h
def pS86_0 (k : Nat) (s : S86_0) : Option (S86_0 ⊕ EE86_0) :=
  br (decide (S86_0.x3 s < (↑(List.length (S86_0.x0 s)) : Int)))
   (br (decide ((0 : Int) ≤ S86_0.x3 s ∧ S86_0.x3 s < (↑(List.length (S86_0.x0 s)) : Int)))
    (br (decide ((↑(ByteArray.size (List.getD (S86_0.x0 s) (Int.toNat (S86_0.x3 s)) default)) : Int) > (300 : Int)))
     (some (Sum.inr (Sum.inl (E86_0.mk false))))
     (some (Sum.inl (S86_0.mk (S86_0.x0 s) (IntKind.wrap IntKind.i64 (S86_0.x3 s + (1 : Int)))))))
    (none))
   (some (Sum.inr (Sum.inr (E86_0b.mk (S86_0.x0 s)))))
theorem pS86_0_run (k : Nat) (s : S86_0) : evC (S86_0 ⊕ EE86_0) Try.prog (ntmpsAt Try.prog 86) (cf74 k) ((Lm74 k) 86) 200 (loopAt Try.prog 86 0) (zipE [(0, .rd 9), (3, .any)] (VS86_0 s)) (HS86_0 s) (List.length (HS86_0 s)) (cutS plan 0 tS86_0 (rndT dS86_0 dEE86_0)) = pS86_0 k s := by kernel_rfl
def l86_0 (k : Nat) (s : S86_0) : Option EE86_0 := iterT (pS86_0 k) k s
def m86_0 (k : Nat) : LamS := lamT 0 dS86_0 (l86_0 k) (elSum (elAll _) (elAll _)) tS86_0 xEE86_0 VEE86_0 HEE86_0
theorem loop86_0 : isLoopAt Try.prog 86 0 = true := by kernel_rfl
theorem m86_0_ok (k : Nat) : LamSOk Try.prog (ntmpsAt Try.prog 86) 0 (.block 0 (.loop (loopAt Try.prog 86 0))) [(0, .rd 9), (3, .any)] (m86_0 k) := lamT_ok (plan := plan) (kb := 0) (body_run noNum mixed (cf74_ok k) (Lm74_ok k) loop86_0) rfl dS86_0_ok dEE86_0_ok (hel := (elSum_ok elAll_ok elAll_ok)) (pS86_0_run k) k
def Dl75 (k : Nat) : Delta := Dl74 k
def Lm75 (k : Nat) : FuncId → Nat → Option LamF := lCons 86 0 (lamBy plan [4, 5, 6, 7, 10, 11, 12, 13, 14, 15, 2, 8, 9, 3] [(0, .rd 9), (3, .any)] 0 (m86_0 k)) (Lm74 k)
theorem Dl75_ok (k : Nat) : DeltaOk Try.prog (Dl75 k) := Dl74_ok k
theorem Lm75_ok (k : Nat) : LamsOk Try.prog (Lm75 k) := lCons_ok (Lm74_ok k) loop86_0 (lamBy_ok (m86_0_ok k) (by kernel_rfl))
abbrev cf75 (k : Nat) : CallF := evF Try.prog (Dl75 k) (Lm75 k) 200 12
theorem cf75_ok (k : Nat) : CfOk Try.prog (cf75 k) := evF_ok noNum mixed (Dl75_ok k) (Lm75_ok k) 12
def f86 (k : Nat) (x0 : List ByteArray) : Option R86 :=
  bindO (l86_0 k (S86_0.mk x0 (0 : Int))) fun r3000 =>
   match r3000 with
   | .inl c2999 => some (E86_0.x2 c2999)
   | .inr c2999 => some (decide ((↑(List.length (E86_0b.x0 c2999)) : Int) ≤ (60 : Int)))
theorem f86_run (k : Nat) (x0 : List ByteArray) : cf75 k R86 86 (A86 (x0)) [] 0 (endR planR (.any) [] 0 r86) = f86 k x0 := by kernel_rfl
def g86 (k : Nat) : CallS := entT d86 (fun p => f86 k p) (elAll _) (fun _ => o86) (fun _ => u86) (fun _ => n86)
theorem g86_ok (k : Nat) : CallSOk Try.prog 86 (g86 k) := entry_ok (Hp := fun _ => []) (oR := fun _ => o86) (uR := fun _ => u86) (nR := fun _ => n86) (cf75_ok k) d86_ok r86_ok (hel := elAll_ok) (fun p => f86_run k p)
def Dl76 (k : Nat) : Delta := dCons 86 (callAt plan [.rd 9] (g86 k)) (Dl75 k)
def Lm76 (k : Nat) : FuncId → Nat → Option LamF := Lm75 k
theorem Dl76_ok (k : Nat) : DeltaOk Try.prog (Dl76 k) := dCons_ok (Dl75_ok k) (g86_ok k)
theorem Lm76_ok (k : Nat) : LamsOk Try.prog (Lm76 k) := Lm75_ok k
abbrev cf76 (k : Nat) : CallF := evF Try.prog (Dl76 k) (Lm76 k) 200 12
theorem cf76_ok (k : Nat) : CfOk Try.prog (cf76 k) := evF_ok noNum mixed (Dl76_ok k) (Lm76_ok k) 12
abbrev P87 := List GVote
def A87 (p : P87) : List AV := [.dsl 89 p]
def d87 (a : List AV) (H : Heap) : Option P87 := match a, H with
  | [ba0], [] => (match (dslD 89 ba0 : Option (List GVote)) with | some a0 => some (a0) | none => none)
  | _, _ => none
theorem d87_ok (a : List AV) (H : Heap) (p : P87) (h : d87 a H = some p) : a = A87 p ∧ H = [] := by
  unfold d87 at h
  split at h
  · skip
    split at h
    · rename_i q
      have q := dslD_ok q
      subst q
      cases h; exact ⟨rfl, rfl⟩
    · cases h
  · cases h
abbrev R87 := Bool
def o87 (r : R87) : AEnd := .ret (.bool r)
def u87 (r : R87) : Heap := []
def n87 (_ : R87) : Nat := 0
def r87 (o : AEnd) (u : Heap) (n : Nat) : Option R87 := match o, u, n with
  | .ret (.bool a0), [], 0 => some (a0)
  | _, _, _ => none
theorem r87_ok (p : P87) (o : AEnd) (u : Heap) (n : Nat) (r : R87) (h : r87 o u n = some r) : o = o87 r ∧ u = u87 r ∧ n = n87 r := by
  unfold r87 at h
  split at h
  · skip
    cases h; exact ⟨rfl, rfl, rfl⟩
  · cases h
structure S87_0 where
  mk ::
  x0 : List GVote
  x3 : Int
def VS87_0 (s : S87_0) : List AV := [.dsl 89 s.x0, .int .i64 s.x3]
def HS87_0 (s : S87_0) : Heap := []
def dS87_0 (vs : List AV) (H : Heap) : Option S87_0 := match vs, H with
  | [bx0, .int .i64 x3], [] => (match (dslD 89 bx0 : Option (List GVote)) with | some x0 => some (⟨x0, x3⟩ : S87_0) | none => none)
  | _, _ => none
theorem dS87_0_ok (vs : List AV) (H : Heap) (s : S87_0) (h : dS87_0 vs H = some s) : vs = VS87_0 s ∧ H = HS87_0 s := by
  unfold dS87_0 at h
  split at h
  · skip
    split at h
    · rename_i q
      have q := dslD_ok q
      subst q
      cases h; exact ⟨rfl, rfl⟩
    · cases h
  · cases h
def tS87_0 : AExit → List (Nat × Kd) := fun x => match x with
  | .normal => [(0, .rd 89), (3, .any)]
  | .exit i => (match i with | 0 => [(0, .rd 89)] | _ => [])
  | .ret => [(2, .any)]
  | _ => []
structure E87_0 where
  mk ::
  x2 : Bool
def VE87_0 (s : E87_0) : List AV := [.bool s.x2]
def HE87_0 (s : E87_0) : Heap := []
def dE87_0 (x : AExit) (vs : List AV) (H : Heap) : Option E87_0 := match x, vs, H with
  | .ret, [.bool x2], [] => some (⟨x2⟩ : E87_0)
  | _, _, _ => none
theorem dE87_0_ok (x : AExit) (vs : List AV) (H : Heap) (s : E87_0) (h : dE87_0 x vs H = some s) : x = .ret ∧ vs = VE87_0 s ∧ H = HE87_0 s := by
  unfold dE87_0 at h
  split at h
  · skip
    cases h; exact ⟨rfl, rfl, rfl⟩
  · cases h
structure E87_0b where
  mk ::
  x0 : List GVote
def VE87_0b (s : E87_0b) : List AV := [.dsl 89 s.x0]
def HE87_0b (s : E87_0b) : Heap := []
def dE87_0b (x : AExit) (vs : List AV) (H : Heap) : Option E87_0b := match x, vs, H with
  | .exit 0, [bx0], [] => (match (dslD 89 bx0 : Option (List GVote)) with | some x0 => some (⟨x0⟩ : E87_0b) | none => none)
  | _, _, _ => none
theorem dE87_0b_ok (x : AExit) (vs : List AV) (H : Heap) (s : E87_0b) (h : dE87_0b x vs H = some s) : x = .exit 0 ∧ vs = VE87_0b s ∧ H = HE87_0b s := by
  unfold dE87_0b at h
  split at h
  · skip
    split at h
    · rename_i q
      have q := dslD_ok q
      subst q
      cases h; exact ⟨rfl, rfl, rfl⟩
    · cases h
  · cases h
abbrev EE87_0 := E87_0 ⊕ E87_0b
def xEE87_0 (e : EE87_0) : AExit := match e with | .inl _ => .ret | .inr _ => .exit 0
def VEE87_0 (e : EE87_0) : List AV := match e with | .inl s => VE87_0 s | .inr s => VE87_0b s
def HEE87_0 (e : EE87_0) : Heap := match e with | .inl s => HE87_0 s | .inr s => HE87_0b s
def dEE87_0 (x : AExit) (vs : List AV) (H : Heap) : Option EE87_0 := match dE87_0 x vs H with | some s => some (.inl s) | none => (match dE87_0b x vs H with | some s => some (.inr s) | none => none)
theorem dEE87_0_ok (x : AExit) (vs : List AV) (H : Heap) (s : EE87_0) (h : dEE87_0 x vs H = some s) : x = xEE87_0 s ∧ vs = VEE87_0 s ∧ H = HEE87_0 s := by
  unfold dEE87_0 at h
  split at h
  · rename_i q; cases h; exact dE87_0_ok _ _ _ _ q
  · split at h
    · rename_i q; cases h; exact dE87_0b_ok _ _ _ _ q
    · cases h
def pS87_0 (k : Nat) (s : S87_0) : Option (S87_0 ⊕ EE87_0) :=
  br (decide (S87_0.x3 s < (↑(List.length (S87_0.x0 s)) : Int)))
   (br (decide ((↑(List.length (S87_0.x0 s)) : Int) ≤ (20 : Int)))
    (br (decide ((0 : Int) ≤ S87_0.x3 s ∧ S87_0.x3 s < (↑(List.length (S87_0.x0 s)) : Int)))
     (bindO (f86 k (GVote.rows (List.getD (S87_0.x0 s) (Int.toNat (S87_0.x3 s)) default))) fun r1500 =>
      br (!r1500)
       (some (Sum.inr (Sum.inl (E87_0.mk true))))
       (some (Sum.inl (S87_0.mk (S87_0.x0 s) (IntKind.wrap IntKind.i64 (S87_0.x3 s + (1 : Int)))))))
     (none))
    (some (Sum.inr (Sum.inr (E87_0b.mk (S87_0.x0 s))))))
   (some (Sum.inr (Sum.inr (E87_0b.mk (S87_0.x0 s)))))
theorem pS87_0_run (k : Nat) (s : S87_0) : evC (S87_0 ⊕ EE87_0) Try.prog (ntmpsAt Try.prog 87) (cf76 k) ((Lm76 k) 87) 200 (loopAt Try.prog 87 0) (zipE [(0, .rd 89), (3, .any)] (VS87_0 s)) (HS87_0 s) (List.length (HS87_0 s)) (cutS plan 0 tS87_0 (rndT dS87_0 dEE87_0)) = pS87_0 k s := by kernel_rfl
def l87_0 (k : Nat) (s : S87_0) : Option EE87_0 := iterT (pS87_0 k) k s
def m87_0 (k : Nat) : LamS := lamT 0 dS87_0 (l87_0 k) (elSum (elAll _) (elAll _)) tS87_0 xEE87_0 VEE87_0 HEE87_0
theorem loop87_0 : isLoopAt Try.prog 87 0 = true := by kernel_rfl
theorem m87_0_ok (k : Nat) : LamSOk Try.prog (ntmpsAt Try.prog 87) 0 (.block 0 (.loop (loopAt Try.prog 87 0))) [(0, .rd 89), (3, .any)] (m87_0 k) := lamT_ok (plan := plan) (kb := 0) (body_run noNum mixed (cf76_ok k) (Lm76_ok k) loop87_0) rfl dS87_0_ok dEE87_0_ok (hel := (elSum_ok elAll_ok elAll_ok)) (pS87_0_run k) k
def Dl77 (k : Nat) : Delta := Dl76 k
def Lm77 (k : Nat) : FuncId → Nat → Option LamF := lCons 87 0 (lamBy plan [4, 5, 6, 7, 8, 9, 10, 11, 12, 15, 16, 17, 18, 19, 20, 21, 2, 13, 14, 3] [(0, .rd 89), (3, .any)] 0 (m87_0 k)) (Lm76 k)
theorem Dl77_ok (k : Nat) : DeltaOk Try.prog (Dl77 k) := Dl76_ok k
theorem Lm77_ok (k : Nat) : LamsOk Try.prog (Lm77 k) := lCons_ok (Lm76_ok k) loop87_0 (lamBy_ok (m87_0_ok k) (by kernel_rfl))
abbrev cf77 (k : Nat) : CallF := evF Try.prog (Dl77 k) (Lm77 k) 200 12
theorem cf77_ok (k : Nat) : CfOk Try.prog (cf77 k) := evF_ok noNum mixed (Dl77_ok k) (Lm77_ok k) 12
def f87 (k : Nat) (x0 : List GVote) : Option R87 :=
  bindO (l87_0 k (S87_0.mk x0 (0 : Int))) fun r3000 =>
   match r3000 with
   | .inl c2999 => some (E87_0.x2 c2999)
   | .inr c2999 => some (decide ((↑(List.length (E87_0b.x0 c2999)) : Int) > (20 : Int)))
theorem f87_run (k : Nat) (x0 : List GVote) : cf77 k R87 87 (A87 (x0)) [] 0 (endR planR (.any) [] 0 r87) = f87 k x0 := by kernel_rfl
def g87 (k : Nat) : CallS := entT d87 (fun p => f87 k p) (elAll _) (fun _ => o87) (fun _ => u87) (fun _ => n87)
theorem g87_ok (k : Nat) : CallSOk Try.prog 87 (g87 k) := entry_ok (Hp := fun _ => []) (oR := fun _ => o87) (uR := fun _ => u87) (nR := fun _ => n87) (cf77_ok k) d87_ok r87_ok (hel := elAll_ok) (fun p => f87_run k p)
def Dl78 (k : Nat) : Delta := dCons 87 (callAt plan [.rd 89] (g87 k)) (Dl77 k)
def Lm78 (k : Nat) : FuncId → Nat → Option LamF := Lm77 k
theorem Dl78_ok (k : Nat) : DeltaOk Try.prog (Dl78 k) := dCons_ok (Dl77_ok k) (g87_ok k)
theorem Lm78_ok (k : Nat) : LamsOk Try.prog (Lm78 k) := Lm77_ok k
abbrev cf78 (k : Nat) : CallF := evF Try.prog (Dl78 k) (Lm78 k) 200 12
theorem cf78_ok (k : Nat) : CfOk Try.prog (cf78 k) := evF_ok noNum mixed (Dl78_ok k) (Lm78_ok k) 12
abbrev P46 := GNode
def A46 (p : P46) : List AV := [.agg [.int .i64 p.id, .int .i64 p.n, .int .i64 p.view, .int .i64 p.last, .int .i64 p.phase, .int .i64 p.commit, .dsl 9 p.rows, .dsl 3 p.far, .int .i64 p.starts, .dsl 89 p.votes]]
def d46 (a : List AV) (H : Heap) : Option P46 := match a, H with
  | [.agg [.int .i64 a0, .int .i64 a1, .int .i64 a2, .int .i64 a3, .int .i64 a4, .int .i64 a5, ba6, ba7, .int .i64 a8, ba9]], [] => (match (dslD 9 ba6 : Option (List ByteArray)) with | some a6 => (match (dslD 3 ba7 : Option (List Int)) with | some a7 => (match (dslD 89 ba9 : Option (List GVote)) with | some a9 => some ((⟨a0, a1, a2, a3, a4, a5, a6, a7, a8, a9⟩ : GNode)) | none => none) | none => none) | none => none)
  | _, _ => none
theorem d46_ok (a : List AV) (H : Heap) (p : P46) (h : d46 a H = some p) : a = A46 p ∧ H = [] := by
  unfold d46 at h
  split at h
  · skip
    split at h
    · rename_i q
      have q := dslD_ok q
      subst q
      split at h
      · rename_i q
        have q := dslD_ok q
        subst q
        split at h
        · rename_i q
          have q := dslD_ok q
          subst q
          cases h; exact ⟨rfl, rfl⟩
        · cases h
      · cases h
    · cases h
  · cases h
abbrev R46 := Bool
def o46 (r : R46) : AEnd := .ret (.bool r)
def u46 (r : R46) : Heap := []
def n46 (_ : R46) : Nat := 0
def r46 (o : AEnd) (u : Heap) (n : Nat) : Option R46 := match o, u, n with
  | .ret (.bool a0), [], 0 => some (a0)
  | _, _, _ => none
theorem r46_ok (p : P46) (o : AEnd) (u : Heap) (n : Nat) (r : R46) (h : r46 o u n = some r) : o = o46 r ∧ u = u46 r ∧ n = n46 r := by
  unfold r46 at h
  split at h
  · skip
    cases h; exact ⟨rfl, rfl, rfl⟩
  · cases h
def f46 (k : Nat) (x0 : GNode) : Option R46 :=
  bindO (f86 k (GNode.rows x0)) fun r3000 =>
   br (!r3000)
    (some true)
    (br (decide ((↑(List.length (GNode.far x0)) : Int) > (30 : Int)))
     (some true)
     (bindO (f87 k (GNode.votes x0)) fun r2997 =>
      some r2997))
theorem f46_run (k : Nat) (x0 : GNode) : cf78 k R46 46 (A46 (x0)) [] 0 (endR planR (.any) [] 0 r46) = f46 k x0 := by kernel_rfl
def g46 (k : Nat) : CallS := entT d46 (fun p => f46 k p) (elAll _) (fun _ => o46) (fun _ => u46) (fun _ => n46)
theorem g46_ok (k : Nat) : CallSOk Try.prog 46 (g46 k) := entry_ok (Hp := fun _ => []) (oR := fun _ => o46) (uR := fun _ => u46) (nR := fun _ => n46) (cf78_ok k) d46_ok r46_ok (hel := elAll_ok) (fun p => f46_run k p)
def Dl79 (k : Nat) : Delta := dCons 46 (callAt plan [.agg [.any, .any, .any, .any, .any, .any, .rd 9, .rd 3, .any, .rd 89]] (g46 k)) (Dl78 k)
def Lm79 (k : Nat) : FuncId → Nat → Option LamF := Lm78 k
theorem Dl79_ok (k : Nat) : DeltaOk Try.prog (Dl79 k) := dCons_ok (Dl78_ok k) (g46_ok k)
theorem Lm79_ok (k : Nat) : LamsOk Try.prog (Lm79 k) := Lm78_ok k
abbrev cf79 (k : Nat) : CallF := evF Try.prog (Dl79 k) (Lm79 k) 200 12
theorem cf79_ok (k : Nat) : CfOk Try.prog (cf79 k) := evF_ok noNum mixed (Dl79_ok k) (Lm79_ok k) 12
abbrev P47 := GMsg
def A47 (p : P47) : List AV := [.agg [.int .i64 p.kind, .int .i64 p.src, .int .i64 p.to, .int .i64 p.view, .int .i64 p.last, .int .i64 p.n, .int .i64 p.commit, .dsl 9 p.rows]]
def d47 (a : List AV) (H : Heap) : Option P47 := match a, H with
  | [.agg [.int .i64 a0, .int .i64 a1, .int .i64 a2, .int .i64 a3, .int .i64 a4, .int .i64 a5, .int .i64 a6, ba7]], [] => (match (dslD 9 ba7 : Option (List ByteArray)) with | some a7 => some ((⟨a0, a1, a2, a3, a4, a5, a6, a7⟩ : GMsg)) | none => none)
  | _, _ => none
theorem d47_ok (a : List AV) (H : Heap) (p : P47) (h : d47 a H = some p) : a = A47 p ∧ H = [] := by
  unfold d47 at h
  split at h
  · skip
    split at h
    · rename_i q
      have q := dslD_ok q
      subst q
      cases h; exact ⟨rfl, rfl⟩
    · cases h
  · cases h
abbrev R47 := Bool
def o47 (r : R47) : AEnd := .ret (.bool r)
def u47 (r : R47) : Heap := []
def n47 (_ : R47) : Nat := 0
def r47 (o : AEnd) (u : Heap) (n : Nat) : Option R47 := match o, u, n with
  | .ret (.bool a0), [], 0 => some (a0)
  | _, _, _ => none
theorem r47_ok (p : P47) (o : AEnd) (u : Heap) (n : Nat) (r : R47) (h : r47 o u n = some r) : o = o47 r ∧ u = u47 r ∧ n = n47 r := by
  unfold r47 at h
  split at h
  · skip
    cases h; exact ⟨rfl, rfl, rfl⟩
  · cases h
def f47 (k : Nat) (x0 : GMsg) : Option R47 :=
  bindO (f86 k (GMsg.rows x0)) fun r3000 =>
   some (!r3000)
theorem f47_run (k : Nat) (x0 : GMsg) : cf79 k R47 47 (A47 (x0)) [] 0 (endR planR (.any) [] 0 r47) = f47 k x0 := by kernel_rfl
def g47 (k : Nat) : CallS := entT d47 (fun p => f47 k p) (elAll _) (fun _ => o47) (fun _ => u47) (fun _ => n47)
theorem g47_ok (k : Nat) : CallSOk Try.prog 47 (g47 k) := entry_ok (Hp := fun _ => []) (oR := fun _ => o47) (uR := fun _ => u47) (nR := fun _ => n47) (cf79_ok k) d47_ok r47_ok (hel := elAll_ok) (fun p => f47_run k p)
def Dl80 (k : Nat) : Delta := dCons 47 (callAt plan [.agg [.any, .any, .any, .any, .any, .any, .any, .rd 9]] (g47 k)) (Dl79 k)
def Lm80 (k : Nat) : FuncId → Nat → Option LamF := Lm79 k
theorem Dl80_ok (k : Nat) : DeltaOk Try.prog (Dl80 k) := dCons_ok (Dl79_ok k) (g47_ok k)
theorem Lm80_ok (k : Nat) : LamsOk Try.prog (Lm80 k) := Lm79_ok k
abbrev cf80 (k : Nat) : CallF := evF Try.prog (Dl80 k) (Lm80 k) 200 12
theorem cf80_ok (k : Nat) : CfOk Try.prog (cf80 k) := evF_ok noNum mixed (Dl80_ok k) (Lm80_ok k) 12
abbrev P26 := GNode × GMsg × ByteArray
def A26 (p : P26) : List AV := [.agg [.int .i64 p.1.id, .int .i64 p.1.n, .int .i64 p.1.view, .int .i64 p.1.last, .int .i64 p.1.phase, .int .i64 p.1.commit, .dsl 9 p.1.rows, .dsl 3 p.1.far, .int .i64 p.1.starts, .dsl 89 p.1.votes], .agg [.int .i64 p.2.1.kind, .int .i64 p.2.1.src, .int .i64 p.2.1.to, .int .i64 p.2.1.view, .int .i64 p.2.1.last, .int .i64 p.2.1.n, .int .i64 p.2.1.commit, .dsl 9 p.2.1.rows], .str p.2.2]
def d26 (a : List AV) (H : Heap) : Option P26 := match a, H with
  | [.agg [.int .i64 a0, .int .i64 a1, .int .i64 a2, .int .i64 a3, .int .i64 a4, .int .i64 a5, ba6, ba7, .int .i64 a8, ba9], .agg [.int .i64 a10, .int .i64 a11, .int .i64 a12, .int .i64 a13, .int .i64 a14, .int .i64 a15, .int .i64 a16, ba17], .str a18], [] => (match (dslD 9 ba6 : Option (List ByteArray)) with | some a6 => (match (dslD 3 ba7 : Option (List Int)) with | some a7 => (match (dslD 89 ba9 : Option (List GVote)) with | some a9 => (match (dslD 9 ba17 : Option (List ByteArray)) with | some a17 => some ((⟨a0, a1, a2, a3, a4, a5, a6, a7, a8, a9⟩ : GNode), (⟨a10, a11, a12, a13, a14, a15, a16, a17⟩ : GMsg), a18) | none => none) | none => none) | none => none) | none => none)
  | _, _ => none
theorem d26_ok (a : List AV) (H : Heap) (p : P26) (h : d26 a H = some p) : a = A26 p ∧ H = [] := by
  unfold d26 at h
  split at h
  · skip
    split at h
    · rename_i q
      have q := dslD_ok q
      subst q
      split at h
      · rename_i q
        have q := dslD_ok q
        subst q
        split at h
        · rename_i q
          have q := dslD_ok q
          subst q
          split at h
          · rename_i q
            have q := dslD_ok q
            subst q
            cases h; exact ⟨rfl, rfl⟩
          · cases h
        · cases h
      · cases h
    · cases h
  · cases h
abbrev R26 := Bool
def o26 (r : R26) : AEnd := .ret (.bool r)
def u26 (r : R26) : Heap := []
def n26 (_ : R26) : Nat := 0
def r26 (o : AEnd) (u : Heap) (n : Nat) : Option R26 := match o, u, n with
  | .ret (.bool a0), [], 0 => some (a0)
  | _, _, _ => none
theorem r26_ok (p : P26) (o : AEnd) (u : Heap) (n : Nat) (r : R26) (h : r26 o u n = some r) : o = o26 r ∧ u = u26 r ∧ n = n26 r := by
  unfold r26 at h
  split at h
  · skip
    cases h; exact ⟨rfl, rfl, rfl⟩
  · cases h
def f26 (k : Nat) (x0 : GNode) (x1 : GMsg) (x2 : ByteArray) : Option R26 :=
  bindO (f46 k x0) fun r3000 =>
   br r3000
    (some true)
    (bindO (f47 k x1) fun r2998 =>
     br r2998
      (some true)
      (some (decide ((↑(ByteArray.size x2) : Int) > (300 : Int)))))
theorem f26_run (k : Nat) (x0 : GNode) (x1 : GMsg) (x2 : ByteArray) : cf80 k R26 26 (A26 (x0, x1, x2)) [] 0 (endR planR (.any) [] 0 r26) = f26 k x0 x1 x2 := by kernel_rfl
def g26 (k : Nat) : CallS := entT d26 (fun p => f26 k p.1 p.2.1 p.2.2) (elAll _) (fun _ => o26) (fun _ => u26) (fun _ => n26)
theorem g26_ok (k : Nat) : CallSOk Try.prog 26 (g26 k) := entry_ok (Hp := fun _ => []) (oR := fun _ => o26) (uR := fun _ => u26) (nR := fun _ => n26) (cf80_ok k) d26_ok r26_ok (hel := elAll_ok) (fun p => f26_run k p.1 p.2.1 p.2.2)
def Dl81 (k : Nat) : Delta := dCons 26 (callAt plan [.agg [.any, .any, .any, .any, .any, .any, .rd 9, .rd 3, .any, .rd 89], .agg [.any, .any, .any, .any, .any, .any, .any, .rd 9], .any] (g26 k)) (Dl80 k)
def Lm81 (k : Nat) : FuncId → Nat → Option LamF := Lm80 k
theorem Dl81_ok (k : Nat) : DeltaOk Try.prog (Dl81 k) := dCons_ok (Dl80_ok k) (g26_ok k)
theorem Lm81_ok (k : Nat) : LamsOk Try.prog (Lm81 k) := Lm80_ok k
abbrev cf81 (k : Nat) : CallF := evF Try.prog (Dl81 k) (Lm81 k) 200 12
theorem cf81_ok (k : Nat) : CfOk Try.prog (cf81 k) := evF_ok noNum mixed (Dl81_ok k) (Lm81_ok k) 12
abbrev P36 := GNode × List GMsg
def A36 (p : P36) : List AV := [.agg [.int .i64 p.1.id, .int .i64 p.1.n, .int .i64 p.1.view, .int .i64 p.1.last, .int .i64 p.1.phase, .int .i64 p.1.commit, .dsl 9 p.1.rows, .dsl 3 p.1.far, .int .i64 p.1.starts, .dsl 89 p.1.votes], .dsl 45 p.2]
def d36 (a : List AV) (H : Heap) : Option P36 := match a, H with
  | [.agg [.int .i64 a0, .int .i64 a1, .int .i64 a2, .int .i64 a3, .int .i64 a4, .int .i64 a5, ba6, ba7, .int .i64 a8, ba9], ba10], [] => (match (dslD 9 ba6 : Option (List ByteArray)) with | some a6 => (match (dslD 3 ba7 : Option (List Int)) with | some a7 => (match (dslD 89 ba9 : Option (List GVote)) with | some a9 => (match (dslD 45 ba10 : Option (List GMsg)) with | some a10 => some ((⟨a0, a1, a2, a3, a4, a5, a6, a7, a8, a9⟩ : GNode), a10) | none => none) | none => none) | none => none) | none => none)
  | _, _ => none
theorem d36_ok (a : List AV) (H : Heap) (p : P36) (h : d36 a H = some p) : a = A36 p ∧ H = [] := by
  unfold d36 at h
  split at h
  · skip
    split at h
    · rename_i q
      have q := dslD_ok q
      subst q
      split at h
      · rename_i q
        have q := dslD_ok q
        subst q
        split at h
        · rename_i q
          have q := dslD_ok q
          subst q
          split at h
          · rename_i q
            have q := dslD_ok q
            subst q
            cases h; exact ⟨rfl, rfl⟩
          · cases h
        · cases h
      · cases h
    · cases h
  · cases h
abbrev R36 := Bool
def o36 (r : R36) : AEnd := .ret (.bool r)
def u36 (r : R36) : Heap := []
def n36 (_ : R36) : Nat := 0
def r36 (o : AEnd) (u : Heap) (n : Nat) : Option R36 := match o, u, n with
  | .ret (.bool a0), [], 0 => some (a0)
  | _, _, _ => none
theorem r36_ok (p : P36) (o : AEnd) (u : Heap) (n : Nat) (r : R36) (h : r36 o u n = some r) : o = o36 r ∧ u = u36 r ∧ n = n36 r := by
  unfold r36 at h
  split at h
  · skip
    cases h; exact ⟨rfl, rfl, rfl⟩
  · cases h
structure S36_0 where
  mk ::
  x1 : List GMsg
  x5 : Int
  h0_0 : Int
  h0_1 : Int
  h0_2 : Int
  h0_3 : Int
  h0_4 : Int
  h0_5 : Int
  h0_6 : List ByteArray
  h0_7 : List Int
  h0_8 : Int
  h0_9 : List GVote
def VS36_0 (s : S36_0) : List AV := [.dsl 45 s.x1, .ptr 0 0 0, .int .i64 s.x5]
def HS36_0 (s : S36_0) : Heap := [(0, some (.box 43 [.int .i64 s.h0_0, .int .i64 s.h0_1, .int .i64 s.h0_2, .int .i64 s.h0_3, .int .i64 s.h0_4, .int .i64 s.h0_5, .dsl 9 s.h0_6, .dsl 3 s.h0_7, .int .i64 s.h0_8, .dsl 89 s.h0_9]))]
def dS36_0 (vs : List AV) (H : Heap) : Option S36_0 := match vs, H with
  | [bx1, .ptr 0 0 0, .int .i64 x5], [(0, some (.box 43 [.int .i64 h0_0, .int .i64 h0_1, .int .i64 h0_2, .int .i64 h0_3, .int .i64 h0_4, .int .i64 h0_5, bh0_6, bh0_7, .int .i64 h0_8, bh0_9]))] => (match (dslD 45 bx1 : Option (List GMsg)) with | some x1 => (match (dslD 9 bh0_6 : Option (List ByteArray)) with | some h0_6 => (match (dslD 3 bh0_7 : Option (List Int)) with | some h0_7 => (match (dslD 89 bh0_9 : Option (List GVote)) with | some h0_9 => some (⟨x1, x5, h0_0, h0_1, h0_2, h0_3, h0_4, h0_5, h0_6, h0_7, h0_8, h0_9⟩ : S36_0) | none => none) | none => none) | none => none) | none => none)
  | _, _ => none
theorem dS36_0_ok (vs : List AV) (H : Heap) (s : S36_0) (h : dS36_0 vs H = some s) : vs = VS36_0 s ∧ H = HS36_0 s := by
  unfold dS36_0 at h
  split at h
  · skip
    split at h
    · rename_i q
      have q := dslD_ok q
      subst q
      split at h
      · rename_i q
        have q := dslD_ok q
        subst q
        split at h
        · rename_i q
          have q := dslD_ok q
          subst q
          split at h
          · rename_i q
            have q := dslD_ok q
            subst q
            cases h; exact ⟨rfl, rfl⟩
          · cases h
        · cases h
      · cases h
    · cases h
  · cases h
def tS36_0 : AExit → List (Nat × Kd) := fun x => match x with
  | .normal => [(1, .rd 45), (2, .any), (5, .any)]
  | .exit i => (match i with | 0 => [] | _ => [])
  | .ret => [(4, .any)]
  | _ => []
structure E36_0 where
  mk ::
  x4 : Bool
  h0_0 : Int
  h0_1 : Int
  h0_2 : Int
  h0_3 : Int
  h0_4 : Int
  h0_5 : Int
  h0_6 : List ByteArray
  h0_7 : List Int
  h0_8 : Int
  h0_9 : List GVote
def VE36_0 (s : E36_0) : List AV := [.bool s.x4]
def HE36_0 (s : E36_0) : Heap := [(0, some (.box 43 [.int .i64 s.h0_0, .int .i64 s.h0_1, .int .i64 s.h0_2, .int .i64 s.h0_3, .int .i64 s.h0_4, .int .i64 s.h0_5, .dsl 9 s.h0_6, .dsl 3 s.h0_7, .int .i64 s.h0_8, .dsl 89 s.h0_9]))]
def dE36_0 (x : AExit) (vs : List AV) (H : Heap) : Option E36_0 := match x, vs, H with
  | .ret, [.bool x4], [(0, some (.box 43 [.int .i64 h0_0, .int .i64 h0_1, .int .i64 h0_2, .int .i64 h0_3, .int .i64 h0_4, .int .i64 h0_5, bh0_6, bh0_7, .int .i64 h0_8, bh0_9]))] => (match (dslD 9 bh0_6 : Option (List ByteArray)) with | some h0_6 => (match (dslD 3 bh0_7 : Option (List Int)) with | some h0_7 => (match (dslD 89 bh0_9 : Option (List GVote)) with | some h0_9 => some (⟨x4, h0_0, h0_1, h0_2, h0_3, h0_4, h0_5, h0_6, h0_7, h0_8, h0_9⟩ : E36_0) | none => none) | none => none) | none => none)
  | _, _, _ => none
theorem dE36_0_ok (x : AExit) (vs : List AV) (H : Heap) (s : E36_0) (h : dE36_0 x vs H = some s) : x = .ret ∧ vs = VE36_0 s ∧ H = HE36_0 s := by
  unfold dE36_0 at h
  split at h
  · skip
    split at h
    · rename_i q
      have q := dslD_ok q
      subst q
      split at h
      · rename_i q
        have q := dslD_ok q
        subst q
        split at h
        · rename_i q
          have q := dslD_ok q
          subst q
          cases h; exact ⟨rfl, rfl, rfl⟩
        · cases h
      · cases h
    · cases h
  · cases h
structure E36_0b where
  mk ::
  h0_0 : Int
  h0_1 : Int
  h0_2 : Int
  h0_3 : Int
  h0_4 : Int
  h0_5 : Int
  h0_6 : List ByteArray
  h0_7 : List Int
  h0_8 : Int
  h0_9 : List GVote
def VE36_0b (s : E36_0b) : List AV := []
def HE36_0b (s : E36_0b) : Heap := [(0, some (.box 43 [.int .i64 s.h0_0, .int .i64 s.h0_1, .int .i64 s.h0_2, .int .i64 s.h0_3, .int .i64 s.h0_4, .int .i64 s.h0_5, .dsl 9 s.h0_6, .dsl 3 s.h0_7, .int .i64 s.h0_8, .dsl 89 s.h0_9]))]
def dE36_0b (x : AExit) (vs : List AV) (H : Heap) : Option E36_0b := match x, vs, H with
  | .exit 0, [], [(0, some (.box 43 [.int .i64 h0_0, .int .i64 h0_1, .int .i64 h0_2, .int .i64 h0_3, .int .i64 h0_4, .int .i64 h0_5, bh0_6, bh0_7, .int .i64 h0_8, bh0_9]))] => (match (dslD 9 bh0_6 : Option (List ByteArray)) with | some h0_6 => (match (dslD 3 bh0_7 : Option (List Int)) with | some h0_7 => (match (dslD 89 bh0_9 : Option (List GVote)) with | some h0_9 => some (⟨h0_0, h0_1, h0_2, h0_3, h0_4, h0_5, h0_6, h0_7, h0_8, h0_9⟩ : E36_0b) | none => none) | none => none) | none => none)
  | _, _, _ => none
theorem dE36_0b_ok (x : AExit) (vs : List AV) (H : Heap) (s : E36_0b) (h : dE36_0b x vs H = some s) : x = .exit 0 ∧ vs = VE36_0b s ∧ H = HE36_0b s := by
  unfold dE36_0b at h
  split at h
  · skip
    split at h
    · rename_i q
      have q := dslD_ok q
      subst q
      split at h
      · rename_i q
        have q := dslD_ok q
        subst q
        split at h
        · rename_i q
          have q := dslD_ok q
          subst q
          cases h; exact ⟨rfl, rfl, rfl⟩
        · cases h
      · cases h
    · cases h
  · cases h
abbrev EE36_0 := E36_0 ⊕ E36_0b
def xEE36_0 (e : EE36_0) : AExit := match e with | .inl _ => .ret | .inr _ => .exit 0
def VEE36_0 (e : EE36_0) : List AV := match e with | .inl s => VE36_0 s | .inr s => VE36_0b s
def HEE36_0 (e : EE36_0) : Heap := match e with | .inl s => HE36_0 s | .inr s => HE36_0b s
def dEE36_0 (x : AExit) (vs : List AV) (H : Heap) : Option EE36_0 := match dE36_0 x vs H with | some s => some (.inl s) | none => (match dE36_0b x vs H with | some s => some (.inr s) | none => none)
theorem dEE36_0_ok (x : AExit) (vs : List AV) (H : Heap) (s : EE36_0) (h : dEE36_0 x vs H = some s) : x = xEE36_0 s ∧ vs = VEE36_0 s ∧ H = HEE36_0 s := by
  unfold dEE36_0 at h
  split at h
  · rename_i q; cases h; exact dE36_0_ok _ _ _ _ q
  · split at h
    · rename_i q; cases h; exact dE36_0b_ok _ _ _ _ q
    · cases h
def pS36_0 (k : Nat) (s : S36_0) : Option (S36_0 ⊕ EE36_0) :=
  br (decide (S36_0.x5 s < (↑(List.length (S36_0.x1 s)) : Int)))
   (br (decide ((0 : Int) ≤ S36_0.x5 s ∧ S36_0.x5 s < (↑(List.length (S36_0.x1 s)) : Int)))
    (bindO (f50 k (List.getD (S36_0.x1 s) (Int.toNat (S36_0.x5 s)) default)) fun r1500 =>
     br (!r1500)
      (some (Sum.inr (Sum.inl (E36_0.mk false (S36_0.h0_0 s) (S36_0.h0_1 s) (S36_0.h0_2 s) (S36_0.h0_3 s) (S36_0.h0_4 s) (S36_0.h0_5 s) (S36_0.h0_6 s) (S36_0.h0_7 s) (S36_0.h0_8 s) (S36_0.h0_9 s)))))
      (br (decide ((0 : Int) ≤ S36_0.x5 s ∧ S36_0.x5 s < (↑(List.length (S36_0.x1 s)) : Int)))
       (br (GMsg.src (List.getD (S36_0.x1 s) (Int.toNat (S36_0.x5 s)) default) != S36_0.h0_0 s)
        (some (Sum.inr (Sum.inl (E36_0.mk false (S36_0.h0_0 s) (S36_0.h0_1 s) (S36_0.h0_2 s) (S36_0.h0_3 s) (S36_0.h0_4 s) (S36_0.h0_5 s) (S36_0.h0_6 s) (S36_0.h0_7 s) (S36_0.h0_8 s) (S36_0.h0_9 s)))))
        (br (decide ((0 : Int) ≤ S36_0.x5 s ∧ S36_0.x5 s < (↑(List.length (S36_0.x1 s)) : Int)))
         (br (decide (GMsg.to (List.getD (S36_0.x1 s) (Int.toNat (S36_0.x5 s)) default) ≥ S36_0.h0_1 s))
          (some (Sum.inr (Sum.inl (E36_0.mk false (S36_0.h0_0 s) (S36_0.h0_1 s) (S36_0.h0_2 s) (S36_0.h0_3 s) (S36_0.h0_4 s) (S36_0.h0_5 s) (S36_0.h0_6 s) (S36_0.h0_7 s) (S36_0.h0_8 s) (S36_0.h0_9 s)))))
          (br (decide ((0 : Int) ≤ S36_0.x5 s ∧ S36_0.x5 s < (↑(List.length (S36_0.x1 s)) : Int)))
           (br (GMsg.view (List.getD (S36_0.x1 s) (Int.toNat (S36_0.x5 s)) default) != S36_0.h0_2 s)
            (some (Sum.inr (Sum.inl (E36_0.mk false (S36_0.h0_0 s) (S36_0.h0_1 s) (S36_0.h0_2 s) (S36_0.h0_3 s) (S36_0.h0_4 s) (S36_0.h0_5 s) (S36_0.h0_6 s) (S36_0.h0_7 s) (S36_0.h0_8 s) (S36_0.h0_9 s)))))
            (some (Sum.inl (S36_0.mk (S36_0.x1 s) (IntKind.wrap IntKind.i64 (S36_0.x5 s + (1 : Int))) (S36_0.h0_0 s) (S36_0.h0_1 s) (S36_0.h0_2 s) (S36_0.h0_3 s) (S36_0.h0_4 s) (S36_0.h0_5 s) (S36_0.h0_6 s) (S36_0.h0_7 s) (S36_0.h0_8 s) (S36_0.h0_9 s)))))
           (none)))
         (none)))
       (none)))
    (none))
   (some (Sum.inr (Sum.inr (E36_0b.mk (S36_0.h0_0 s) (S36_0.h0_1 s) (S36_0.h0_2 s) (S36_0.h0_3 s) (S36_0.h0_4 s) (S36_0.h0_5 s) (S36_0.h0_6 s) (S36_0.h0_7 s) (S36_0.h0_8 s) (S36_0.h0_9 s)))))
theorem pS36_0_run (k : Nat) (s : S36_0) : evC (S36_0 ⊕ EE36_0) Try.prog (ntmpsAt Try.prog 36) (cf81 k) ((Lm81 k) 36) 200 (loopAt Try.prog 36 0) (zipE [(1, .rd 45), (2, .any), (5, .any)] (VS36_0 s)) (HS36_0 s) (List.length (HS36_0 s)) (cutS plan 1 tS36_0 (rndT dS36_0 dEE36_0)) = pS36_0 k s := by kernel_rfl
def l36_0 (k : Nat) (s : S36_0) : Option EE36_0 := iterT (pS36_0 k) k s
def m36_0 (k : Nat) : LamS := lamT 0 dS36_0 (l36_0 k) (elSum (elAll _) (elAll _)) tS36_0 xEE36_0 VEE36_0 HEE36_0
theorem loop36_0 : isLoopAt Try.prog 36 0 = true := by kernel_rfl
theorem m36_0_ok (k : Nat) : LamSOk Try.prog (ntmpsAt Try.prog 36) 1 (.block 0 (.loop (loopAt Try.prog 36 0))) [(1, .rd 45), (2, .any), (5, .any)] (m36_0 k) := lamT_ok (plan := plan) (kb := 1) (body_run noNum mixed (cf81_ok k) (Lm81_ok k) loop36_0) rfl dS36_0_ok dEE36_0_ok (hel := (elSum_ok elAll_ok elAll_ok)) (pS36_0_run k) k
def Dl82 (k : Nat) : Delta := Dl81 k
def Lm82 (k : Nat) : FuncId → Nat → Option LamF := lCons 36 0 (lamBy plan [6, 7, 8, 9, 12, 13, 14, 15, 16, 17, 18, 19, 20, 21, 22, 23, 24, 25, 26, 27, 28, 29, 30, 31, 32, 33, 34, 35, 36, 37, 38, 39, 40, 41, 42, 43, 44, 45, 46, 47, 4, 10, 11, 5] [(1, .rd 45), (2, .any), (5, .any)] 1 (m36_0 k)) (Lm81 k)
theorem Dl82_ok (k : Nat) : DeltaOk Try.prog (Dl82 k) := Dl81_ok k
theorem Lm82_ok (k : Nat) : LamsOk Try.prog (Lm82 k) := lCons_ok (Lm81_ok k) loop36_0 (lamBy_ok (m36_0_ok k) (by kernel_rfl))
abbrev cf82 (k : Nat) : CallF := evF Try.prog (Dl82 k) (Lm82 k) 200 12
theorem cf82_ok (k : Nat) : CfOk Try.prog (cf82 k) := evF_ok noNum mixed (Dl82_ok k) (Lm82_ok k) 12
def f36 (k : Nat) (x0 : GNode) (x1 : List GMsg) : Option R36 :=
  bindO (l36_0 k (S36_0.mk x1 (0 : Int) (GNode.id x0) (GNode.n x0) (GNode.view x0) (GNode.last x0) (GNode.phase x0) (GNode.commit x0) (GNode.rows x0) (GNode.far x0) (GNode.starts x0) (GNode.votes x0))) fun r3000 =>
   match r3000 with
   | .inl c2999 => some (E36_0.x4 c2999)
   | .inr c2999 => some true
theorem f36_run (k : Nat) (x0 : GNode) (x1 : List GMsg) : cf82 k R36 36 (A36 (x0, x1)) [] 0 (endR planR (.any) [] 0 r36) = f36 k x0 x1 := by kernel_rfl
def g36 (k : Nat) : CallS := entT d36 (fun p => f36 k p.1 p.2) (elAll _) (fun _ => o36) (fun _ => u36) (fun _ => n36)
theorem g36_ok (k : Nat) : CallSOk Try.prog 36 (g36 k) := entry_ok (Hp := fun _ => []) (oR := fun _ => o36) (uR := fun _ => u36) (nR := fun _ => n36) (cf82_ok k) d36_ok r36_ok (hel := elAll_ok) (fun p => f36_run k p.1 p.2)
def Dl83 (k : Nat) : Delta := dCons 36 (callAt plan [.agg [.any, .any, .any, .any, .any, .any, .rd 9, .rd 3, .any, .rd 89], .rd 45] (g36 k)) (Dl82 k)
def Lm83 (k : Nat) : FuncId → Nat → Option LamF := Lm82 k
theorem Dl83_ok (k : Nat) : DeltaOk Try.prog (Dl83 k) := dCons_ok (Dl82_ok k) (g36_ok k)
theorem Lm83_ok (k : Nat) : LamsOk Try.prog (Lm83 k) := Lm82_ok k
abbrev cf83 (k : Nat) : CallF := evF Try.prog (Dl83 k) (Lm83 k) 200 12
theorem cf83_ok (k : Nat) : CfOk Try.prog (cf83 k) := evF_ok noNum mixed (Dl83_ok k) (Lm83_ok k) 12
abbrev P7 := GNode × GMsg
def A7 (p : P7) : List AV := [.agg [.int .i64 p.1.id, .int .i64 p.1.n, .int .i64 p.1.view, .int .i64 p.1.last, .int .i64 p.1.phase, .int .i64 p.1.commit, .dsl 9 p.1.rows, .dsl 3 p.1.far, .int .i64 p.1.starts, .dsl 89 p.1.votes], .agg [.int .i64 p.2.kind, .int .i64 p.2.src, .int .i64 p.2.to, .int .i64 p.2.view, .int .i64 p.2.last, .int .i64 p.2.n, .int .i64 p.2.commit, .dsl 9 p.2.rows]]
def d7 (a : List AV) (H : Heap) : Option P7 := match a, H with
  | [.agg [.int .i64 a0, .int .i64 a1, .int .i64 a2, .int .i64 a3, .int .i64 a4, .int .i64 a5, ba6, ba7, .int .i64 a8, ba9], .agg [.int .i64 a10, .int .i64 a11, .int .i64 a12, .int .i64 a13, .int .i64 a14, .int .i64 a15, .int .i64 a16, ba17]], [] => (match (dslD 9 ba6 : Option (List ByteArray)) with | some a6 => (match (dslD 3 ba7 : Option (List Int)) with | some a7 => (match (dslD 89 ba9 : Option (List GVote)) with | some a9 => (match (dslD 9 ba17 : Option (List ByteArray)) with | some a17 => some ((⟨a0, a1, a2, a3, a4, a5, a6, a7, a8, a9⟩ : GNode), (⟨a10, a11, a12, a13, a14, a15, a16, a17⟩ : GMsg)) | none => none) | none => none) | none => none) | none => none)
  | _, _ => none
theorem d7_ok (a : List AV) (H : Heap) (p : P7) (h : d7 a H = some p) : a = A7 p ∧ H = [] := by
  unfold d7 at h
  split at h
  · skip
    split at h
    · rename_i q
      have q := dslD_ok q
      subst q
      split at h
      · rename_i q
        have q := dslD_ok q
        subst q
        split at h
        · rename_i q
          have q := dslD_ok q
          subst q
          split at h
          · rename_i q
            have q := dslD_ok q
            subst q
            cases h; exact ⟨rfl, rfl⟩
          · cases h
        · cases h
      · cases h
    · cases h
  · cases h
abbrev R7 := Bool
def o7 (r : R7) : AEnd := .ret (.bool r)
def u7 (r : R7) : Heap := []
def n7 (_ : R7) : Nat := 0
def r7 (o : AEnd) (u : Heap) (n : Nat) : Option R7 := match o, u, n with
  | .ret (.bool a0), [], 0 => some (a0)
  | _, _, _ => none
theorem r7_ok (p : P7) (o : AEnd) (u : Heap) (n : Nat) (r : R7) (h : r7 o u n = some r) : o = o7 r ∧ u = u7 r ∧ n = n7 r := by
  unfold r7 at h
  split at h
  · skip
    cases h; exact ⟨rfl, rfl, rfl⟩
  · cases h
def f7 (k : Nat) (x0 : GNode) (x1 : GMsg) : Option R7 :=
  bindO (f26 k x0 x1 (ByteArray.mk #[])) fun r3000 =>
   br r3000
    (some true)
    (br (decide (GMsg.view x1 ≥ GNode.view x0))
     (some true)
     (bindO (f27 k x0 x1) fun r2997 =>
      br (Prod.snd (Prod.snd r2997) != (0 : Int))
       (some ((↑(List.length (Prod.fst (Prod.snd r2997))) : Int) == (0 : Int)))
       (bindO (f29 k (Prod.fst r2997) x0) fun r2995 =>
        br r2995
         (some ((↑(List.length (Prod.fst (Prod.snd r2997))) : Int) == (0 : Int)))
         (some false))))
theorem f7_run (k : Nat) (x0 : GNode) (x1 : GMsg) : cf83 k R7 7 (A7 (x0, x1)) [] 0 (endR planR (.any) [] 0 r7) = f7 k x0 x1 := by kernel_rfl
def g7 (k : Nat) : CallS := entT d7 (fun p => f7 k p.1 p.2) (elAll _) (fun _ => o7) (fun _ => u7) (fun _ => n7)
theorem g7_ok (k : Nat) : CallSOk Try.prog 7 (g7 k) := entry_ok (Hp := fun _ => []) (oR := fun _ => o7) (uR := fun _ => u7) (nR := fun _ => n7) (cf83_ok k) d7_ok r7_ok (hel := elAll_ok) (fun p => f7_run k p.1 p.2)
def Dl84 (k : Nat) : Delta := dCons 7 (callAt plan [.agg [.any, .any, .any, .any, .any, .any, .rd 9, .rd 3, .any, .rd 89], .agg [.any, .any, .any, .any, .any, .any, .any, .rd 9]] (g7 k)) (Dl83 k)
def Lm84 (k : Nat) : FuncId → Nat → Option LamF := Lm83 k
theorem Dl84_ok (k : Nat) : DeltaOk Try.prog (Dl84 k) := dCons_ok (Dl83_ok k) (g7_ok k)
theorem Lm84_ok (k : Nat) : LamsOk Try.prog (Lm84 k) := Lm83_ok k
abbrev cf84 (k : Nat) : CallF := evF Try.prog (Dl84 k) (Lm84 k) 200 12
theorem cf84_ok (k : Nat) : CfOk Try.prog (cf84 k) := evF_ok noNum mixed (Dl84_ok k) (Lm84_ok k) 12
abbrev P9 := List ByteArray × Int
def A9 (p : P9) : List AV := [.dsl 9 p.1, .int .i64 p.2]
def d9 (a : List AV) (H : Heap) : Option P9 := match a, H with
  | [ba0, .int .i64 a1], [] => (match (dslD 9 ba0 : Option (List ByteArray)) with | some a0 => some (a0, a1) | none => none)
  | _, _ => none
theorem d9_ok (a : List AV) (H : Heap) (p : P9) (h : d9 a H = some p) : a = A9 p ∧ H = [] := by
  unfold d9 at h
  split at h
  · skip
    split at h
    · rename_i q
      have q := dslD_ok q
      subst q
      cases h; exact ⟨rfl, rfl⟩
    · cases h
  · cases h
abbrev R9 := Bool
def o9 (r : R9) : AEnd := .ret (.bool r)
def u9 (r : R9) : Heap := []
def n9 (_ : R9) : Nat := 0
def r9 (o : AEnd) (u : Heap) (n : Nat) : Option R9 := match o, u, n with
  | .ret (.bool a0), [], 0 => some (a0)
  | _, _, _ => none
theorem r9_ok (p : P9) (o : AEnd) (u : Heap) (n : Nat) (r : R9) (h : r9 o u n = some r) : o = o9 r ∧ u = u9 r ∧ n = n9 r := by
  unfold r9 at h
  split at h
  · skip
    cases h; exact ⟨rfl, rfl, rfl⟩
  · cases h
structure S9_0 where
  mk ::
  x0 : List ByteArray
  x1 : Int
  x7 : Int
  h0_0 : Int
  h0_1 : Int
  h0_2 : Int
  h0_3 : Int
  h0_4 : Int
  h0_5 : Int
  h0_6 : List ByteArray
  h0_7 : List Int
  h0_8 : Int
  h0_9 : List GVote
def VS9_0 (s : S9_0) : List AV := [.dsl 9 s.x0, .int .i64 s.x1, .ptr 0 0 0, .int .i64 s.x7]
def HS9_0 (s : S9_0) : Heap := [(0, some (.box 43 [.int .i64 s.h0_0, .int .i64 s.h0_1, .int .i64 s.h0_2, .int .i64 s.h0_3, .int .i64 s.h0_4, .int .i64 s.h0_5, .dsl 9 s.h0_6, .dsl 3 s.h0_7, .int .i64 s.h0_8, .dsl 89 s.h0_9]))]
def dS9_0 (vs : List AV) (H : Heap) : Option S9_0 := match vs, H with
  | [bx0, .int .i64 x1, .ptr 0 0 0, .int .i64 x7], [(0, some (.box 43 [.int .i64 h0_0, .int .i64 h0_1, .int .i64 h0_2, .int .i64 h0_3, .int .i64 h0_4, .int .i64 h0_5, bh0_6, bh0_7, .int .i64 h0_8, bh0_9]))] => (match (dslD 9 bx0 : Option (List ByteArray)) with | some x0 => (match (dslD 9 bh0_6 : Option (List ByteArray)) with | some h0_6 => (match (dslD 3 bh0_7 : Option (List Int)) with | some h0_7 => (match (dslD 89 bh0_9 : Option (List GVote)) with | some h0_9 => some (⟨x0, x1, x7, h0_0, h0_1, h0_2, h0_3, h0_4, h0_5, h0_6, h0_7, h0_8, h0_9⟩ : S9_0) | none => none) | none => none) | none => none) | none => none)
  | _, _ => none
theorem dS9_0_ok (vs : List AV) (H : Heap) (s : S9_0) (h : dS9_0 vs H = some s) : vs = VS9_0 s ∧ H = HS9_0 s := by
  unfold dS9_0 at h
  split at h
  · skip
    split at h
    · rename_i q
      have q := dslD_ok q
      subst q
      split at h
      · rename_i q
        have q := dslD_ok q
        subst q
        split at h
        · rename_i q
          have q := dslD_ok q
          subst q
          split at h
          · rename_i q
            have q := dslD_ok q
            subst q
            cases h; exact ⟨rfl, rfl⟩
          · cases h
        · cases h
      · cases h
    · cases h
  · cases h
def tS9_0 : AExit → List (Nat × Kd) := fun x => match x with
  | .normal => [(0, .rd 9), (1, .any), (5, .any), (7, .any)]
  | .exit i => (match i with | 0 => [(0, .rd 9), (1, .any), (5, .any)] | _ => [])
  | .ret => [(4, .any)]
  | _ => []
structure E9_0 where
  mk ::
  x4 : Bool
  h0_0 : Int
  h0_1 : Int
  h0_2 : Int
  h0_3 : Int
  h0_4 : Int
  h0_5 : Int
  h0_6 : List ByteArray
  h0_7 : List Int
  h0_8 : Int
  h0_9 : List GVote
def VE9_0 (s : E9_0) : List AV := [.bool s.x4]
def HE9_0 (s : E9_0) : Heap := [(0, some (.box 43 [.int .i64 s.h0_0, .int .i64 s.h0_1, .int .i64 s.h0_2, .int .i64 s.h0_3, .int .i64 s.h0_4, .int .i64 s.h0_5, .dsl 9 s.h0_6, .dsl 3 s.h0_7, .int .i64 s.h0_8, .dsl 89 s.h0_9]))]
def dE9_0 (x : AExit) (vs : List AV) (H : Heap) : Option E9_0 := match x, vs, H with
  | .ret, [.bool x4], [(0, some (.box 43 [.int .i64 h0_0, .int .i64 h0_1, .int .i64 h0_2, .int .i64 h0_3, .int .i64 h0_4, .int .i64 h0_5, bh0_6, bh0_7, .int .i64 h0_8, bh0_9]))] => (match (dslD 9 bh0_6 : Option (List ByteArray)) with | some h0_6 => (match (dslD 3 bh0_7 : Option (List Int)) with | some h0_7 => (match (dslD 89 bh0_9 : Option (List GVote)) with | some h0_9 => some (⟨x4, h0_0, h0_1, h0_2, h0_3, h0_4, h0_5, h0_6, h0_7, h0_8, h0_9⟩ : E9_0) | none => none) | none => none) | none => none)
  | _, _, _ => none
theorem dE9_0_ok (x : AExit) (vs : List AV) (H : Heap) (s : E9_0) (h : dE9_0 x vs H = some s) : x = .ret ∧ vs = VE9_0 s ∧ H = HE9_0 s := by
  unfold dE9_0 at h
  split at h
  · skip
    split at h
    · rename_i q
      have q := dslD_ok q
      subst q
      split at h
      · rename_i q
        have q := dslD_ok q
        subst q
        split at h
        · rename_i q
          have q := dslD_ok q
          subst q
          cases h; exact ⟨rfl, rfl, rfl⟩
        · cases h
      · cases h
    · cases h
  · cases h
structure E9_0b where
  mk ::
  x0 : List ByteArray
  x1 : Int
  h0_0 : Int
  h0_1 : Int
  h0_2 : Int
  h0_3 : Int
  h0_4 : Int
  h0_5 : Int
  h0_6 : List ByteArray
  h0_7 : List Int
  h0_8 : Int
  h0_9 : List GVote
def VE9_0b (s : E9_0b) : List AV := [.dsl 9 s.x0, .int .i64 s.x1, .ptr 0 0 0]
def HE9_0b (s : E9_0b) : Heap := [(0, some (.box 43 [.int .i64 s.h0_0, .int .i64 s.h0_1, .int .i64 s.h0_2, .int .i64 s.h0_3, .int .i64 s.h0_4, .int .i64 s.h0_5, .dsl 9 s.h0_6, .dsl 3 s.h0_7, .int .i64 s.h0_8, .dsl 89 s.h0_9]))]
def dE9_0b (x : AExit) (vs : List AV) (H : Heap) : Option E9_0b := match x, vs, H with
  | .exit 0, [bx0, .int .i64 x1, .ptr 0 0 0], [(0, some (.box 43 [.int .i64 h0_0, .int .i64 h0_1, .int .i64 h0_2, .int .i64 h0_3, .int .i64 h0_4, .int .i64 h0_5, bh0_6, bh0_7, .int .i64 h0_8, bh0_9]))] => (match (dslD 9 bx0 : Option (List ByteArray)) with | some x0 => (match (dslD 9 bh0_6 : Option (List ByteArray)) with | some h0_6 => (match (dslD 3 bh0_7 : Option (List Int)) with | some h0_7 => (match (dslD 89 bh0_9 : Option (List GVote)) with | some h0_9 => some (⟨x0, x1, h0_0, h0_1, h0_2, h0_3, h0_4, h0_5, h0_6, h0_7, h0_8, h0_9⟩ : E9_0b) | none => none) | none => none) | none => none) | none => none)
  | _, _, _ => none
theorem dE9_0b_ok (x : AExit) (vs : List AV) (H : Heap) (s : E9_0b) (h : dE9_0b x vs H = some s) : x = .exit 0 ∧ vs = VE9_0b s ∧ H = HE9_0b s := by
  unfold dE9_0b at h
  split at h
  · skip
    split at h
    · rename_i q
      have q := dslD_ok q
      subst q
      split at h
      · rename_i q
        have q := dslD_ok q
        subst q
        split at h
        · rename_i q
          have q := dslD_ok q
          subst q
          split at h
          · rename_i q
            have q := dslD_ok q
            subst q
            cases h; exact ⟨rfl, rfl, rfl⟩
          · cases h
        · cases h
      · cases h
    · cases h
  · cases h
abbrev EE9_0 := E9_0 ⊕ E9_0b
def xEE9_0 (e : EE9_0) : AExit := match e with | .inl _ => .ret | .inr _ => .exit 0
def VEE9_0 (e : EE9_0) : List AV := match e with | .inl s => VE9_0 s | .inr s => VE9_0b s
def HEE9_0 (e : EE9_0) : Heap := match e with | .inl s => HE9_0 s | .inr s => HE9_0b s
def dEE9_0 (x : AExit) (vs : List AV) (H : Heap) : Option EE9_0 := match dE9_0 x vs H with | some s => some (.inl s) | none => (match dE9_0b x vs H with | some s => some (.inr s) | none => none)
theorem dEE9_0_ok (x : AExit) (vs : List AV) (H : Heap) (s : EE9_0) (h : dEE9_0 x vs H = some s) : x = xEE9_0 s ∧ vs = VEE9_0 s ∧ H = HEE9_0 s := by
  unfold dEE9_0 at h
  split at h
  · rename_i q; cases h; exact dE9_0_ok _ _ _ _ q
  · split at h
    · rename_i q; cases h; exact dE9_0b_ok _ _ _ _ q
    · cases h
def pS9_0 (k : Nat) (s : S9_0) : Option (S9_0 ⊕ EE9_0) :=
  br (decide (S9_0.x7 s < (↑(List.length (S9_0.x0 s)) : Int)))
   (br (decide (S9_0.x7 s < S9_0.x1 s))
    (bindO (f32 k (GNode.mk (S9_0.h0_0 s) (S9_0.h0_1 s) (S9_0.h0_2 s) (S9_0.h0_3 s) (S9_0.h0_4 s) (S9_0.h0_5 s) (S9_0.h0_6 s) (S9_0.h0_7 s) (S9_0.h0_8 s) (S9_0.h0_9 s))) fun r1500 =>
     br (Prod.snd (Prod.snd r1500) != (0 : Int))
      (some (Sum.inr (Sum.inl (E9_0.mk false (S9_0.h0_0 s) (S9_0.h0_1 s) (S9_0.h0_2 s) (S9_0.h0_3 s) (S9_0.h0_4 s) (S9_0.h0_5 s) (S9_0.h0_6 s) (S9_0.h0_7 s) (S9_0.h0_8 s) (S9_0.h0_9 s)))))
      (br (decide ((↑(List.length (Prod.fst (Prod.snd r1500))) : Int) > (0 : Int)))
       (some (Sum.inr (Sum.inl (E9_0.mk false (S9_0.h0_0 s) (S9_0.h0_1 s) (S9_0.h0_2 s) (S9_0.h0_3 s) (S9_0.h0_4 s) (S9_0.h0_5 s) (S9_0.h0_6 s) (S9_0.h0_7 s) (S9_0.h0_8 s) (S9_0.h0_9 s)))))
       (br (GNode.phase (Prod.fst r1500) != (0 : Int))
        (some (Sum.inr (Sum.inl (E9_0.mk false (S9_0.h0_0 s) (S9_0.h0_1 s) (S9_0.h0_2 s) (S9_0.h0_3 s) (S9_0.h0_4 s) (S9_0.h0_5 s) (S9_0.h0_6 s) (S9_0.h0_7 s) (S9_0.h0_8 s) (S9_0.h0_9 s)))))
        (br (GNode.view (Prod.fst r1500) != IntKind.wrap IntKind.i64 (S9_0.h0_2 s + (1 : Int)))
         (some (Sum.inr (Sum.inl (E9_0.mk false (S9_0.h0_0 s) (S9_0.h0_1 s) (S9_0.h0_2 s) (S9_0.h0_3 s) (S9_0.h0_4 s) (S9_0.h0_5 s) (S9_0.h0_6 s) (S9_0.h0_7 s) (S9_0.h0_8 s) (S9_0.h0_9 s)))))
         (br (GNode.commit (Prod.fst r1500) != S9_0.h0_5 s)
          (some (Sum.inr (Sum.inl (E9_0.mk false (S9_0.h0_0 s) (S9_0.h0_1 s) (S9_0.h0_2 s) (S9_0.h0_3 s) (S9_0.h0_4 s) (S9_0.h0_5 s) (S9_0.h0_6 s) (S9_0.h0_7 s) (S9_0.h0_8 s) (S9_0.h0_9 s)))))
          (br (decide (S9_0.x7 s < (↑(List.length (S9_0.x0 s)) : Int)))
           (br (decide ((0 : Int) ≤ S9_0.x7 s ∧ S9_0.x7 s < (↑(List.length (S9_0.x0 s)) : Int)))
            (br (decide ((↑(ByteArray.size (List.getD (S9_0.x0 s) (Int.toNat (S9_0.x7 s)) default)) : Int) > (45 : Int)))
             (some (Sum.inr (Sum.inl (E9_0.mk true (GNode.id (Prod.fst r1500)) (GNode.n (Prod.fst r1500)) (GNode.view (Prod.fst r1500)) (GNode.last (Prod.fst r1500)) (GNode.phase (Prod.fst r1500)) (GNode.commit (Prod.fst r1500)) (GNode.rows (Prod.fst r1500)) (GNode.far (Prod.fst r1500)) (GNode.starts (Prod.fst r1500)) (GNode.votes (Prod.fst r1500))))))
             (br (decide ((0 : Int) ≤ S9_0.x7 s ∧ S9_0.x7 s < (↑(List.length (S9_0.x0 s)) : Int)))
              (bindO (f33 k (Prod.fst r1500) (List.getD (S9_0.x0 s) (Int.toNat (S9_0.x7 s)) default)) fun r1493 =>
               br (Prod.snd (Prod.snd r1493) != (0 : Int))
                (some (Sum.inr (Sum.inl (E9_0.mk false (GNode.id (Prod.fst r1500)) (GNode.n (Prod.fst r1500)) (GNode.view (Prod.fst r1500)) (GNode.last (Prod.fst r1500)) (GNode.phase (Prod.fst r1500)) (GNode.commit (Prod.fst r1500)) (GNode.rows (Prod.fst r1500)) (GNode.far (Prod.fst r1500)) (GNode.starts (Prod.fst r1500)) (GNode.votes (Prod.fst r1500))))))
                (br (decide ((↑(List.length (Prod.fst (Prod.snd r1493))) : Int) > (0 : Int)))
                 (some (Sum.inr (Sum.inl (E9_0.mk false (GNode.id (Prod.fst r1500)) (GNode.n (Prod.fst r1500)) (GNode.view (Prod.fst r1500)) (GNode.last (Prod.fst r1500)) (GNode.phase (Prod.fst r1500)) (GNode.commit (Prod.fst r1500)) (GNode.rows (Prod.fst r1500)) (GNode.far (Prod.fst r1500)) (GNode.starts (Prod.fst r1500)) (GNode.votes (Prod.fst r1500))))))
                 (br (GNode.commit (Prod.fst r1493) != IntKind.wrap IntKind.i64 (S9_0.x7 s + (1 : Int)))
                  (some (Sum.inr (Sum.inl (E9_0.mk false (GNode.id (Prod.fst r1500)) (GNode.n (Prod.fst r1500)) (GNode.view (Prod.fst r1500)) (GNode.last (Prod.fst r1500)) (GNode.phase (Prod.fst r1500)) (GNode.commit (Prod.fst r1500)) (GNode.rows (Prod.fst r1500)) (GNode.far (Prod.fst r1500)) (GNode.starts (Prod.fst r1500)) (GNode.votes (Prod.fst r1500))))))
                  (br ((↑(List.length (GNode.rows (Prod.fst r1493))) : Int) != IntKind.wrap IntKind.i64 (S9_0.x7 s + (1 : Int)))
                   (some (Sum.inr (Sum.inl (E9_0.mk false (GNode.id (Prod.fst r1500)) (GNode.n (Prod.fst r1500)) (GNode.view (Prod.fst r1500)) (GNode.last (Prod.fst r1500)) (GNode.phase (Prod.fst r1500)) (GNode.commit (Prod.fst r1500)) (GNode.rows (Prod.fst r1500)) (GNode.far (Prod.fst r1500)) (GNode.starts (Prod.fst r1500)) (GNode.votes (Prod.fst r1500))))))
                   (br (decide ((0 : Int) ≤ S9_0.x7 s ∧ S9_0.x7 s < (↑(List.length (GNode.rows (Prod.fst r1493))) : Int)))
                    (br (decide ((0 : Int) ≤ S9_0.x7 s ∧ S9_0.x7 s < (↑(List.length (S9_0.x0 s)) : Int)))
                     (br (!ByteArray.toList (List.getD (GNode.rows (Prod.fst r1493)) (Int.toNat (S9_0.x7 s)) default) == ByteArray.toList (List.getD (S9_0.x0 s) (Int.toNat (S9_0.x7 s)) default))
                      (some (Sum.inr (Sum.inl (E9_0.mk false (GNode.id (Prod.fst r1500)) (GNode.n (Prod.fst r1500)) (GNode.view (Prod.fst r1500)) (GNode.last (Prod.fst r1500)) (GNode.phase (Prod.fst r1500)) (GNode.commit (Prod.fst r1500)) (GNode.rows (Prod.fst r1500)) (GNode.far (Prod.fst r1500)) (GNode.starts (Prod.fst r1500)) (GNode.votes (Prod.fst r1500))))))
                      (some (Sum.inl (S9_0.mk (S9_0.x0 s) (S9_0.x1 s) (IntKind.wrap IntKind.i64 (S9_0.x7 s + (1 : Int))) (GNode.id (Prod.fst r1493)) (GNode.n (Prod.fst r1493)) (GNode.view (Prod.fst r1493)) (GNode.last (Prod.fst r1493)) (GNode.phase (Prod.fst r1493)) (GNode.commit (Prod.fst r1493)) (GNode.rows (Prod.fst r1493)) (GNode.far (Prod.fst r1493)) (GNode.starts (Prod.fst r1493)) (GNode.votes (Prod.fst r1493))))))
                     (none))
                    (none))))))
              (none)))
            (none))
           (some (Sum.inl (S9_0.mk (S9_0.x0 s) (S9_0.x1 s) (IntKind.wrap IntKind.i64 (S9_0.x7 s + (1 : Int))) (GNode.id (Prod.fst r1500)) (GNode.n (Prod.fst r1500)) (GNode.view (Prod.fst r1500)) (GNode.last (Prod.fst r1500)) (GNode.phase (Prod.fst r1500)) (GNode.commit (Prod.fst r1500)) (GNode.rows (Prod.fst r1500)) (GNode.far (Prod.fst r1500)) (GNode.starts (Prod.fst r1500)) (GNode.votes (Prod.fst r1500)))))))))))
    (br (decide (S9_0.x7 s < (↑(List.length (S9_0.x0 s)) : Int)))
     (br (decide ((0 : Int) ≤ S9_0.x7 s ∧ S9_0.x7 s < (↑(List.length (S9_0.x0 s)) : Int)))
      (br (decide ((↑(ByteArray.size (List.getD (S9_0.x0 s) (Int.toNat (S9_0.x7 s)) default)) : Int) > (45 : Int)))
       (some (Sum.inr (Sum.inl (E9_0.mk true (S9_0.h0_0 s) (S9_0.h0_1 s) (S9_0.h0_2 s) (S9_0.h0_3 s) (S9_0.h0_4 s) (S9_0.h0_5 s) (S9_0.h0_6 s) (S9_0.h0_7 s) (S9_0.h0_8 s) (S9_0.h0_9 s)))))
       (br (decide ((0 : Int) ≤ S9_0.x7 s ∧ S9_0.x7 s < (↑(List.length (S9_0.x0 s)) : Int)))
        (bindO (f33 k (GNode.mk (S9_0.h0_0 s) (S9_0.h0_1 s) (S9_0.h0_2 s) (S9_0.h0_3 s) (S9_0.h0_4 s) (S9_0.h0_5 s) (S9_0.h0_6 s) (S9_0.h0_7 s) (S9_0.h0_8 s) (S9_0.h0_9 s)) (List.getD (S9_0.x0 s) (Int.toNat (S9_0.x7 s)) default)) fun r1484 =>
         br (Prod.snd (Prod.snd r1484) != (0 : Int))
          (some (Sum.inr (Sum.inl (E9_0.mk false (S9_0.h0_0 s) (S9_0.h0_1 s) (S9_0.h0_2 s) (S9_0.h0_3 s) (S9_0.h0_4 s) (S9_0.h0_5 s) (S9_0.h0_6 s) (S9_0.h0_7 s) (S9_0.h0_8 s) (S9_0.h0_9 s)))))
          (br (decide ((↑(List.length (Prod.fst (Prod.snd r1484))) : Int) > (0 : Int)))
           (some (Sum.inr (Sum.inl (E9_0.mk false (S9_0.h0_0 s) (S9_0.h0_1 s) (S9_0.h0_2 s) (S9_0.h0_3 s) (S9_0.h0_4 s) (S9_0.h0_5 s) (S9_0.h0_6 s) (S9_0.h0_7 s) (S9_0.h0_8 s) (S9_0.h0_9 s)))))
           (br (GNode.commit (Prod.fst r1484) != IntKind.wrap IntKind.i64 (S9_0.x7 s + (1 : Int)))
            (some (Sum.inr (Sum.inl (E9_0.mk false (S9_0.h0_0 s) (S9_0.h0_1 s) (S9_0.h0_2 s) (S9_0.h0_3 s) (S9_0.h0_4 s) (S9_0.h0_5 s) (S9_0.h0_6 s) (S9_0.h0_7 s) (S9_0.h0_8 s) (S9_0.h0_9 s)))))
            (br ((↑(List.length (GNode.rows (Prod.fst r1484))) : Int) != IntKind.wrap IntKind.i64 (S9_0.x7 s + (1 : Int)))
             (some (Sum.inr (Sum.inl (E9_0.mk false (S9_0.h0_0 s) (S9_0.h0_1 s) (S9_0.h0_2 s) (S9_0.h0_3 s) (S9_0.h0_4 s) (S9_0.h0_5 s) (S9_0.h0_6 s) (S9_0.h0_7 s) (S9_0.h0_8 s) (S9_0.h0_9 s)))))
             (br (decide ((0 : Int) ≤ S9_0.x7 s ∧ S9_0.x7 s < (↑(List.length (GNode.rows (Prod.fst r1484))) : Int)))
              (br (decide ((0 : Int) ≤ S9_0.x7 s ∧ S9_0.x7 s < (↑(List.length (S9_0.x0 s)) : Int)))
               (br (!ByteArray.toList (List.getD (GNode.rows (Prod.fst r1484)) (Int.toNat (S9_0.x7 s)) default) == ByteArray.toList (List.getD (S9_0.x0 s) (Int.toNat (S9_0.x7 s)) default))
                (some (Sum.inr (Sum.inl (E9_0.mk false (S9_0.h0_0 s) (S9_0.h0_1 s) (S9_0.h0_2 s) (S9_0.h0_3 s) (S9_0.h0_4 s) (S9_0.h0_5 s) (S9_0.h0_6 s) (S9_0.h0_7 s) (S9_0.h0_8 s) (S9_0.h0_9 s)))))
                (some (Sum.inl (S9_0.mk (S9_0.x0 s) (S9_0.x1 s) (IntKind.wrap IntKind.i64 (S9_0.x7 s + (1 : Int))) (GNode.id (Prod.fst r1484)) (GNode.n (Prod.fst r1484)) (GNode.view (Prod.fst r1484)) (GNode.last (Prod.fst r1484)) (GNode.phase (Prod.fst r1484)) (GNode.commit (Prod.fst r1484)) (GNode.rows (Prod.fst r1484)) (GNode.far (Prod.fst r1484)) (GNode.starts (Prod.fst r1484)) (GNode.votes (Prod.fst r1484))))))
               (none))
              (none))))))
        (none)))
      (none))
     (some (Sum.inl (S9_0.mk (S9_0.x0 s) (S9_0.x1 s) (IntKind.wrap IntKind.i64 (S9_0.x7 s + (1 : Int))) (S9_0.h0_0 s) (S9_0.h0_1 s) (S9_0.h0_2 s) (S9_0.h0_3 s) (S9_0.h0_4 s) (S9_0.h0_5 s) (S9_0.h0_6 s) (S9_0.h0_7 s) (S9_0.h0_8 s) (S9_0.h0_9 s))))))
   (br (decide (S9_0.x7 s < S9_0.x1 s))
    (br (decide (S9_0.x7 s < S9_0.x1 s))
     (bindO (f32 k (GNode.mk (S9_0.h0_0 s) (S9_0.h0_1 s) (S9_0.h0_2 s) (S9_0.h0_3 s) (S9_0.h0_4 s) (S9_0.h0_5 s) (S9_0.h0_6 s) (S9_0.h0_7 s) (S9_0.h0_8 s) (S9_0.h0_9 s))) fun r1476 =>
      br (Prod.snd (Prod.snd r1476) != (0 : Int))
       (some (Sum.inr (Sum.inl (E9_0.mk false (S9_0.h0_0 s) (S9_0.h0_1 s) (S9_0.h0_2 s) (S9_0.h0_3 s) (S9_0.h0_4 s) (S9_0.h0_5 s) (S9_0.h0_6 s) (S9_0.h0_7 s) (S9_0.h0_8 s) (S9_0.h0_9 s)))))
       (br (decide ((↑(List.length (Prod.fst (Prod.snd r1476))) : Int) > (0 : Int)))
        (some (Sum.inr (Sum.inl (E9_0.mk false (S9_0.h0_0 s) (S9_0.h0_1 s) (S9_0.h0_2 s) (S9_0.h0_3 s) (S9_0.h0_4 s) (S9_0.h0_5 s) (S9_0.h0_6 s) (S9_0.h0_7 s) (S9_0.h0_8 s) (S9_0.h0_9 s)))))
        (br (GNode.phase (Prod.fst r1476) != (0 : Int))
         (some (Sum.inr (Sum.inl (E9_0.mk false (S9_0.h0_0 s) (S9_0.h0_1 s) (S9_0.h0_2 s) (S9_0.h0_3 s) (S9_0.h0_4 s) (S9_0.h0_5 s) (S9_0.h0_6 s) (S9_0.h0_7 s) (S9_0.h0_8 s) (S9_0.h0_9 s)))))
         (br (GNode.view (Prod.fst r1476) != IntKind.wrap IntKind.i64 (S9_0.h0_2 s + (1 : Int)))
          (some (Sum.inr (Sum.inl (E9_0.mk false (S9_0.h0_0 s) (S9_0.h0_1 s) (S9_0.h0_2 s) (S9_0.h0_3 s) (S9_0.h0_4 s) (S9_0.h0_5 s) (S9_0.h0_6 s) (S9_0.h0_7 s) (S9_0.h0_8 s) (S9_0.h0_9 s)))))
          (br (GNode.commit (Prod.fst r1476) != S9_0.h0_5 s)
           (some (Sum.inr (Sum.inl (E9_0.mk false (S9_0.h0_0 s) (S9_0.h0_1 s) (S9_0.h0_2 s) (S9_0.h0_3 s) (S9_0.h0_4 s) (S9_0.h0_5 s) (S9_0.h0_6 s) (S9_0.h0_7 s) (S9_0.h0_8 s) (S9_0.h0_9 s)))))
           (br (decide (S9_0.x7 s < (↑(List.length (S9_0.x0 s)) : Int)))
            (br (decide ((0 : Int) ≤ S9_0.x7 s ∧ S9_0.x7 s < (↑(List.length (S9_0.x0 s)) : Int)))
             (br (decide ((↑(ByteArray.size (List.getD (S9_0.x0 s) (Int.toNat (S9_0.x7 s)) default)) : Int) > (45 : Int)))
              (some (Sum.inr (Sum.inl (E9_0.mk true (GNode.id (Prod.fst r1476)) (GNode.n (Prod.fst r1476)) (GNode.view (Prod.fst r1476)) (GNode.last (Prod.fst r1476)) (GNode.phase (Prod.fst r1476)) (GNode.commit (Prod.fst r1476)) (GNode.rows (Prod.fst r1476)) (GNode.far (Prod.fst r1476)) (GNode.starts (Prod.fst r1476)) (GNode.votes (Prod.fst r1476))))))
              (br (decide ((0 : Int) ≤ S9_0.x7 s ∧ S9_0.x7 s < (↑(List.length (S9_0.x0 s)) : Int)))
               (bindO (f33 k (Prod.fst r1476) (List.getD (S9_0.x0 s) (Int.toNat (S9_0.x7 s)) default)) fun r1469 =>
                br (Prod.snd (Prod.snd r1469) != (0 : Int))
                 (some (Sum.inr (Sum.inl (E9_0.mk false (GNode.id (Prod.fst r1476)) (GNode.n (Prod.fst r1476)) (GNode.view (Prod.fst r1476)) (GNode.last (Prod.fst r1476)) (GNode.phase (Prod.fst r1476)) (GNode.commit (Prod.fst r1476)) (GNode.rows (Prod.fst r1476)) (GNode.far (Prod.fst r1476)) (GNode.starts (Prod.fst r1476)) (GNode.votes (Prod.fst r1476))))))
                 (br (decide ((↑(List.length (Prod.fst (Prod.snd r1469))) : Int) > (0 : Int)))
                  (some (Sum.inr (Sum.inl (E9_0.mk false (GNode.id (Prod.fst r1476)) (GNode.n (Prod.fst r1476)) (GNode.view (Prod.fst r1476)) (GNode.last (Prod.fst r1476)) (GNode.phase (Prod.fst r1476)) (GNode.commit (Prod.fst r1476)) (GNode.rows (Prod.fst r1476)) (GNode.far (Prod.fst r1476)) (GNode.starts (Prod.fst r1476)) (GNode.votes (Prod.fst r1476))))))
                  (br (GNode.commit (Prod.fst r1469) != IntKind.wrap IntKind.i64 (S9_0.x7 s + (1 : Int)))
                   (some (Sum.inr (Sum.inl (E9_0.mk false (GNode.id (Prod.fst r1476)) (GNode.n (Prod.fst r1476)) (GNode.view (Prod.fst r1476)) (GNode.last (Prod.fst r1476)) (GNode.phase (Prod.fst r1476)) (GNode.commit (Prod.fst r1476)) (GNode.rows (Prod.fst r1476)) (GNode.far (Prod.fst r1476)) (GNode.starts (Prod.fst r1476)) (GNode.votes (Prod.fst r1476))))))
                   (br ((↑(List.length (GNode.rows (Prod.fst r1469))) : Int) != IntKind.wrap IntKind.i64 (S9_0.x7 s + (1 : Int)))
                    (some (Sum.inr (Sum.inl (E9_0.mk false (GNode.id (Prod.fst r1476)) (GNode.n (Prod.fst r1476)) (GNode.view (Prod.fst r1476)) (GNode.last (Prod.fst r1476)) (GNode.phase (Prod.fst r1476)) (GNode.commit (Prod.fst r1476)) (GNode.rows (Prod.fst r1476)) (GNode.far (Prod.fst r1476)) (GNode.starts (Prod.fst r1476)) (GNode.votes (Prod.fst r1476))))))
                    (br (decide ((0 : Int) ≤ S9_0.x7 s ∧ S9_0.x7 s < (↑(List.length (GNode.rows (Prod.fst r1469))) : Int)))
                     (br (decide ((0 : Int) ≤ S9_0.x7 s ∧ S9_0.x7 s < (↑(List.length (S9_0.x0 s)) : Int)))
                      (br (!ByteArray.toList (List.getD (GNode.rows (Prod.fst r1469)) (Int.toNat (S9_0.x7 s)) default) == ByteArray.toList (List.getD (S9_0.x0 s) (Int.toNat (S9_0.x7 s)) default))
                       (some (Sum.inr (Sum.inl (E9_0.mk false (GNode.id (Prod.fst r1476)) (GNode.n (Prod.fst r1476)) (GNode.view (Prod.fst r1476)) (GNode.last (Prod.fst r1476)) (GNode.phase (Prod.fst r1476)) (GNode.commit (Prod.fst r1476)) (GNode.rows (Prod.fst r1476)) (GNode.far (Prod.fst r1476)) (GNode.starts (Prod.fst r1476)) (GNode.votes (Prod.fst r1476))))))
                       (some (Sum.inl (S9_0.mk (S9_0.x0 s) (S9_0.x1 s) (IntKind.wrap IntKind.i64 (S9_0.x7 s + (1 : Int))) (GNode.id (Prod.fst r1469)) (GNode.n (Prod.fst r1469)) (GNode.view (Prod.fst r1469)) (GNode.last (Prod.fst r1469)) (GNode.phase (Prod.fst r1469)) (GNode.commit (Prod.fst r1469)) (GNode.rows (Prod.fst r1469)) (GNode.far (Prod.fst r1469)) (GNode.starts (Prod.fst r1469)) (GNode.votes (Prod.fst r1469))))))
                      (none))
                     (none))))))
               (none)))
             (none))
            (some (Sum.inl (S9_0.mk (S9_0.x0 s) (S9_0.x1 s) (IntKind.wrap IntKind.i64 (S9_0.x7 s + (1 : Int))) (GNode.id (Prod.fst r1476)) (GNode.n (Prod.fst r1476)) (GNode.view (Prod.fst r1476)) (GNode.last (Prod.fst r1476)) (GNode.phase (Prod.fst r1476)) (GNode.commit (Prod.fst r1476)) (GNode.rows (Prod.fst r1476)) (GNode.far (Prod.fst r1476)) (GNode.starts (Prod.fst r1476)) (GNode.votes (Prod.fst r1476)))))))))))
     (br (decide (S9_0.x7 s < (↑(List.length (S9_0.x0 s)) : Int)))
      (br (decide ((0 : Int) ≤ S9_0.x7 s ∧ S9_0.x7 s < (↑(List.length (S9_0.x0 s)) : Int)))
       (br (decide ((↑(ByteArray.size (List.getD (S9_0.x0 s) (Int.toNat (S9_0.x7 s)) default)) : Int) > (45 : Int)))
        (some (Sum.inr (Sum.inl (E9_0.mk true (S9_0.h0_0 s) (S9_0.h0_1 s) (S9_0.h0_2 s) (S9_0.h0_3 s) (S9_0.h0_4 s) (S9_0.h0_5 s) (S9_0.h0_6 s) (S9_0.h0_7 s) (S9_0.h0_8 s) (S9_0.h0_9 s)))))
        (br (decide ((0 : Int) ≤ S9_0.x7 s ∧ S9_0.x7 s < (↑(List.length (S9_0.x0 s)) : Int)))
         (bindO (f33 k (GNode.mk (S9_0.h0_0 s) (S9_0.h0_1 s) (S9_0.h0_2 s) (S9_0.h0_3 s) (S9_0.h0_4 s) (S9_0.h0_5 s) (S9_0.h0_6 s) (S9_0.h0_7 s) (S9_0.h0_8 s) (S9_0.h0_9 s)) (List.getD (S9_0.x0 s) (Int.toNat (S9_0.x7 s)) default)) fun r1460 =>
          br (Prod.snd (Prod.snd r1460) != (0 : Int))
           (some (Sum.inr (Sum.inl (E9_0.mk false (S9_0.h0_0 s) (S9_0.h0_1 s) (S9_0.h0_2 s) (S9_0.h0_3 s) (S9_0.h0_4 s) (S9_0.h0_5 s) (S9_0.h0_6 s) (S9_0.h0_7 s) (S9_0.h0_8 s) (S9_0.h0_9 s)))))
           (br (decide ((↑(List.length (Prod.fst (Prod.snd r1460))) : Int) > (0 : Int)))
            (some (Sum.inr (Sum.inl (E9_0.mk false (S9_0.h0_0 s) (S9_0.h0_1 s) (S9_0.h0_2 s) (S9_0.h0_3 s) (S9_0.h0_4 s) (S9_0.h0_5 s) (S9_0.h0_6 s) (S9_0.h0_7 s) (S9_0.h0_8 s) (S9_0.h0_9 s)))))
            (br (GNode.commit (Prod.fst r1460) != IntKind.wrap IntKind.i64 (S9_0.x7 s + (1 : Int)))
             (some (Sum.inr (Sum.inl (E9_0.mk false (S9_0.h0_0 s) (S9_0.h0_1 s) (S9_0.h0_2 s) (S9_0.h0_3 s) (S9_0.h0_4 s) (S9_0.h0_5 s) (S9_0.h0_6 s) (S9_0.h0_7 s) (S9_0.h0_8 s) (S9_0.h0_9 s)))))
             (br ((↑(List.length (GNode.rows (Prod.fst r1460))) : Int) != IntKind.wrap IntKind.i64 (S9_0.x7 s + (1 : Int)))
              (some (Sum.inr (Sum.inl (E9_0.mk false (S9_0.h0_0 s) (S9_0.h0_1 s) (S9_0.h0_2 s) (S9_0.h0_3 s) (S9_0.h0_4 s) (S9_0.h0_5 s) (S9_0.h0_6 s) (S9_0.h0_7 s) (S9_0.h0_8 s) (S9_0.h0_9 s)))))
              (br (decide ((0 : Int) ≤ S9_0.x7 s ∧ S9_0.x7 s < (↑(List.length (GNode.rows (Prod.fst r1460))) : Int)))
               (br (decide ((0 : Int) ≤ S9_0.x7 s ∧ S9_0.x7 s < (↑(List.length (S9_0.x0 s)) : Int)))
                (br (!ByteArray.toList (List.getD (GNode.rows (Prod.fst r1460)) (Int.toNat (S9_0.x7 s)) default) == ByteArray.toList (List.getD (S9_0.x0 s) (Int.toNat (S9_0.x7 s)) default))
                 (some (Sum.inr (Sum.inl (E9_0.mk false (S9_0.h0_0 s) (S9_0.h0_1 s) (S9_0.h0_2 s) (S9_0.h0_3 s) (S9_0.h0_4 s) (S9_0.h0_5 s) (S9_0.h0_6 s) (S9_0.h0_7 s) (S9_0.h0_8 s) (S9_0.h0_9 s)))))
                 (some (Sum.inl (S9_0.mk (S9_0.x0 s) (S9_0.x1 s) (IntKind.wrap IntKind.i64 (S9_0.x7 s + (1 : Int))) (GNode.id (Prod.fst r1460)) (GNode.n (Prod.fst r1460)) (GNode.view (Prod.fst r1460)) (GNode.last (Prod.fst r1460)) (GNode.phase (Prod.fst r1460)) (GNode.commit (Prod.fst r1460)) (GNode.rows (Prod.fst r1460)) (GNode.far (Prod.fst r1460)) (GNode.starts (Prod.fst r1460)) (GNode.votes (Prod.fst r1460))))))
                (none))
               (none))))))
         (none)))
       (none))
      (some (Sum.inl (S9_0.mk (S9_0.x0 s) (S9_0.x1 s) (IntKind.wrap IntKind.i64 (S9_0.x7 s + (1 : Int))) (S9_0.h0_0 s) (S9_0.h0_1 s) (S9_0.h0_2 s) (S9_0.h0_3 s) (S9_0.h0_4 s) (S9_0.h0_5 s) (S9_0.h0_6 s) (S9_0.h0_7 s) (S9_0.h0_8 s) (S9_0.h0_9 s))))))
    (some (Sum.inr (Sum.inr (E9_0b.mk (S9_0.x0 s) (S9_0.x1 s) (S9_0.h0_0 s) (S9_0.h0_1 s) (S9_0.h0_2 s) (S9_0.h0_3 s) (S9_0.h0_4 s) (S9_0.h0_5 s) (S9_0.h0_6 s) (S9_0.h0_7 s) (S9_0.h0_8 s) (S9_0.h0_9 s))))))
theorem pS9_0_run (k : Nat) (s : S9_0) : evC (S9_0 ⊕ EE9_0) Try.prog (ntmpsAt Try.prog 9) (cf84 k) ((Lm84 k) 9) 200 (loopAt Try.prog 9 0) (zipE [(0, .rd 9), (1, .any), (5, .any), (7, .any)] (VS9_0 s)) (HS9_0 s) (List.length (HS9_0 s)) (cutS plan 1 tS9_0 (rndT dS9_0 dEE9_0)) = pS9_0 k s := by kernel_rfl
def l9_0 (k : Nat) (s : S9_0) : Option EE9_0 := iterT (pS9_0 k) k s
def m9_0 (k : Nat) : LamS := lamT 0 dS9_0 (l9_0 k) (elSum (elAll _) (elAll _)) tS9_0 xEE9_0 VEE9_0 HEE9_0
theorem loop9_0 : isLoopAt Try.prog 9 0 = true := by kernel_rfl
theorem m9_0_ok (k : Nat) : LamSOk Try.prog (ntmpsAt Try.prog 9) 1 (.block 0 (.loop (loopAt Try.prog 9 0))) [(0, .rd 9), (1, .any), (5, .any), (7, .any)] (m9_0 k) := lamT_ok (plan := plan) (kb := 1) (body_run noNum mixed (cf84_ok k) (Lm84_ok k) loop9_0) rfl dS9_0_ok dEE9_0_ok (hel := (elSum_ok elAll_ok elAll_ok)) (pS9_0_run k) k
def Dl85 (k : Nat) : Delta := Dl84 k
def Lm85 (k : Nat) : FuncId → Nat → Option LamF := lCons 9 0 (lamBy plan [34, 35, 36, 37, 38, 39, 40, 41, 42, 45, 46, 47, 49, 50, 48, 51, 52, 53, 8, 9, 10, 54, 55, 56, 57, 58, 59, 60, 61, 62, 63, 64, 65, 66, 67, 68, 69, 70, 71, 72, 73, 74, 75, 76, 77, 78, 79, 80, 4, 81, 82, 83, 84, 85, 86, 87, 88, 89, 90, 91, 92, 4, 94, 95, 96, 97, 98, 99, 93, 100, 101, 102, 11, 12, 13, 103, 104, 105, 106, 107, 108, 109, 110, 111, 112, 113, 114, 115, 116, 117, 118, 119, 120, 121, 122, 123, 124, 125, 126, 127, 128, 129, 130, 131, 132, 133, 134, 135, 136, 4, 137, 43, 44, 7] [(0, .rd 9), (1, .any), (5, .any), (7, .any)] 1 (m9_0 k)) (Lm84 k)
theorem Dl85_ok (k : Nat) : DeltaOk Try.prog (Dl85 k) := Dl84_ok k
theorem Lm85_ok (k : Nat) : LamsOk Try.prog (Lm85 k) := lCons_ok (Lm84_ok k) loop9_0 (lamBy_ok (m9_0_ok k) (by kernel_rfl))
abbrev cf85 (k : Nat) : CallF := evF Try.prog (Dl85 k) (Lm85 k) 200 12
theorem cf85_ok (k : Nat) : CfOk Try.prog (cf85 k) := evF_ok noNum mixed (Dl85_ok k) (Lm85_ok k) 12
def f9 (k : Nat) (x0 : List ByteArray) (x1 : Int) : Option R9 :=
  bindO (f31 k (0 : Int) (1 : Int)) fun r3000 =>
   br (Prod.snd r3000 != (0 : Int))
    (some true)
    (br (decide ((↑(List.length x0) : Int) > (40 : Int)))
     (some true)
     (br (decide (x1 < (0 : Int)))
      (some true)
      (br (decide (x1 > (40 : Int)))
       (some true)
       (bindO (l9_0 k (S9_0.mk x0 x1 (0 : Int) (GNode.id (Prod.fst r3000)) (GNode.n (Prod.fst r3000)) (GNode.view (Prod.fst r3000)) (GNode.last (Prod.fst r3000)) (GNode.phase (Prod.fst r3000)) (GNode.commit (Prod.fst r3000)) (GNode.rows (Prod.fst r3000)) (GNode.far (Prod.fst r3000)) (GNode.starts (Prod.fst r3000)) (GNode.votes (Prod.fst r3000)))) fun r2995 =>
        match r2995 with
        | .inl c2994 => some (E9_0.x4 c2994)
        | .inr c2994 => br (E9_0b.h0_2 c2994 == E9_0b.x1 c2994)
          (bindO (f34 k (E9_0b.h0_6 c2994) (E9_0b.x0 c2994)) fun r2992 =>
           some r2992)
          (some false)))))
theorem f9_run (k : Nat) (x0 : List ByteArray) (x1 : Int) : cf85 k R9 9 (A9 (x0, x1)) [] 0 (endR planR (.any) [] 0 r9) = f9 k x0 x1 := by kernel_rfl
def g9 (k : Nat) : CallS := entT d9 (fun p => f9 k p.1 p.2) (elAll _) (fun _ => o9) (fun _ => u9) (fun _ => n9)
theorem g9_ok (k : Nat) : CallSOk Try.prog 9 (g9 k) := entry_ok (Hp := fun _ => []) (oR := fun _ => o9) (uR := fun _ => u9) (nR := fun _ => n9) (cf85_ok k) d9_ok r9_ok (hel := elAll_ok) (fun p => f9_run k p.1 p.2)
def Dl86 (k : Nat) : Delta := dCons 9 (callAt plan [.rd 9, .any] (g9 k)) (Dl85 k)
def Lm86 (k : Nat) : FuncId → Nat → Option LamF := Lm85 k
theorem Dl86_ok (k : Nat) : DeltaOk Try.prog (Dl86 k) := dCons_ok (Dl85_ok k) (g9_ok k)
theorem Lm86_ok (k : Nat) : LamsOk Try.prog (Lm86 k) := Lm85_ok k
abbrev cf86 (k : Nat) : CallF := evF Try.prog (Dl86 k) (Lm86 k) 200 12
theorem cf86_ok (k : Nat) : CfOk Try.prog (cf86 k) := evF_ok noNum mixed (Dl86_ok k) (Lm86_ok k) 12
abbrev P8 := GNode × GMsg
def A8 (p : P8) : List AV := [.agg [.int .i64 p.1.id, .int .i64 p.1.n, .int .i64 p.1.view, .int .i64 p.1.last, .int .i64 p.1.phase, .int .i64 p.1.commit, .dsl 9 p.1.rows, .dsl 3 p.1.far, .int .i64 p.1.starts, .dsl 89 p.1.votes], .agg [.int .i64 p.2.kind, .int .i64 p.2.src, .int .i64 p.2.to, .int .i64 p.2.view, .int .i64 p.2.last, .int .i64 p.2.n, .int .i64 p.2.commit, .dsl 9 p.2.rows]]
def d8 (a : List AV) (H : Heap) : Option P8 := match a, H with
  | [.agg [.int .i64 a0, .int .i64 a1, .int .i64 a2, .int .i64 a3, .int .i64 a4, .int .i64 a5, ba6, ba7, .int .i64 a8, ba9], .agg [.int .i64 a10, .int .i64 a11, .int .i64 a12, .int .i64 a13, .int .i64 a14, .int .i64 a15, .int .i64 a16, ba17]], [] => (match (dslD 9 ba6 : Option (List ByteArray)) with | some a6 => (match (dslD 3 ba7 : Option (List Int)) with | some a7 => (match (dslD 89 ba9 : Option (List GVote)) with | some a9 => (match (dslD 9 ba17 : Option (List ByteArray)) with | some a17 => some ((⟨a0, a1, a2, a3, a4, a5, a6, a7, a8, a9⟩ : GNode), (⟨a10, a11, a12, a13, a14, a15, a16, a17⟩ : GMsg)) | none => none) | none => none) | none => none) | none => none)
  | _, _ => none
theorem d8_ok (a : List AV) (H : Heap) (p : P8) (h : d8 a H = some p) : a = A8 p ∧ H = [] := by
  unfold d8 at h
  split at h
  · skip
    split at h
    · rename_i q
      have q := dslD_ok q
      subst q
      split at h
      · rename_i q
        have q := dslD_ok q
        subst q
        split at h
        · rename_i q
          have q := dslD_ok q
          subst q
          split at h
          · rename_i q
            have q := dslD_ok q
            subst q
            cases h; exact ⟨rfl, rfl⟩
          · cases h
        · cases h
      · cases h
    · cases h
  · cases h
abbrev R8 := Bool
def o8 (r : R8) : AEnd := .ret (.bool r)
def u8 (r : R8) : Heap := []
def n8 (_ : R8) : Nat := 0
def r8 (o : AEnd) (u : Heap) (n : Nat) : Option R8 := match o, u, n with
  | .ret (.bool a0), [], 0 => some (a0)
  | _, _, _ => none
theorem r8_ok (p : P8) (o : AEnd) (u : Heap) (n : Nat) (r : R8) (h : r8 o u n = some r) : o = o8 r ∧ u = u8 r ∧ n = n8 r := by
  unfold r8 at h
  split at h
  · skip
    cases h; exact ⟨rfl, rfl, rfl⟩
  · cases h
def f8 (k : Nat) (x0 : GNode) (x1 : GMsg) : Option R8 :=
  bindO (f26 k x0 x1 (ByteArray.mk #[])) fun r3000 =>
   br r3000
    (some true)
    (bindO (f30 k x0) fun r2998 =>
     bindO (f30 k (Prod.fst r2998)) fun r2997 =>
      br (Prod.snd r2998 == (0 : Int))
       (br (Prod.snd r2997 != (0 : Int))
        (some false)
        (bindO (f29 k (Prod.fst r2998) (Prod.fst r2997)) fun r2995 =>
         br (!r2995)
          (some false)
          (bindO (f27 k x0 x1) fun r2993 =>
           bindO (f27 k (Prod.fst r2993) x1) fun r2992 =>
            br (Prod.snd (Prod.snd r2993) != (0 : Int))
             (some true)
             (br (Prod.snd (Prod.snd r2992) == (0 : Int))
              (bindO (f29 k (Prod.fst r2993) (Prod.fst r2992)) fun r2990 =>
               some r2990)
              (some false)))))
       (bindO (f27 k x0 x1) fun r2987 =>
        bindO (f27 k (Prod.fst r2987) x1) fun r2986 =>
         br (Prod.snd (Prod.snd r2987) != (0 : Int))
          (some true)
          (br (Prod.snd (Prod.snd r2986) == (0 : Int))
           (bindO (f29 k (Prod.fst r2987) (Prod.fst r2986)) fun r2984 =>
            some r2984)
           (some false))))
theorem f8_run (k : Nat) (x0 : GNode) (x1 : GMsg) : cf86 k R8 8 (A8 (x0, x1)) [] 0 (endR planR (.any) [] 0 r8) = f8 k x0 x1 := by kernel_rfl
def g8 (k : Nat) : CallS := entT d8 (fun p => f8 k p.1 p.2) (elAll _) (fun _ => o8) (fun _ => u8) (fun _ => n8)
theorem g8_ok (k : Nat) : CallSOk Try.prog 8 (g8 k) := entry_ok (Hp := fun _ => []) (oR := fun _ => o8) (uR := fun _ => u8) (nR := fun _ => n8) (cf86_ok k) d8_ok r8_ok (hel := elAll_ok) (fun p => f8_run k p.1 p.2)
abbrev R10 := Bool
def r10 (o : AEnd) (u : Heap) (n : Nat) : Option R10 := match o, u, n with
  | .ret (.bool a0), [], 0 => some (a0)
  | _, _, _ => none
end
end Go.Proofs.Ytaooefnmdlajcaa

end
section
set_option linter.unusedVariables false
set_option linter.unusedSimpArgs false
namespace Go.Proofs.Ytaooefnmdlajcaa
open Go Go.Eng
theorem bindO_some {α R : Type} (x : α) (f : α → Option R) : bindO (some x) f = f x := rfl
theorem br_if {R : Type} (b : Bool) (x y : Option R) : br b x y = if b = true then x else y := by cases b <;> rfl
theorem wrap_ok {n : Int} (h0 : 0 ≤ n) (h1 : n ≤ 9223372036854775807) : IntKind.wrap .i64 n = n := by
  unfold IntKind.wrap
  have hb : IntKind.bits .i64 = 64 := rfl
  have hs : IntKind.signed .i64 = true := rfl
  simp only [hb, hs]
  have : n % (2 ^ 64 : Int) = n := Int.emod_eq_of_lt h0 (by omega)
  rw [this]
  simp
  intro h; omega
theorem iter_to {S E : Type} {stp : S → Option (S ⊕ E)} (st : Nat → S) (m : Nat) {e : E} (h : ∀ i, i < m → stp (st i) = some (.inl (st (i + 1)))) (he : stp (st m) = some (.inr e)) :
    ∀ j, m < j → iterT stp j (st 0) = some e := by
  have key : ∀ (d i j : Nat), i + d = m → d < j → iterT stp j (st i) = some e := by
    intro d
    induction d with
    | zero =>
      intro i j hi hj
      obtain ⟨j, rfl⟩ : ∃ j', j = j' + 1 := ⟨j - 1, by omega⟩
      have : i = m := by omega
      subst this
      simp only [iterT, he]
    | succ d ih =>
      intro i j hi hj
      obtain ⟨j, rfl⟩ : ∃ j', j = j' + 1 := ⟨j - 1, by omega⟩
      simp only [iterT, h i (by omega)]
      exact ih (i + 1) j (by omega) (by omega)
  exact fun j hj => key m 0 j (by omega) hj
theorem iter_cases {S E : Type} {stp : S → Option (S ⊕ E)} (st : Nat → S) (n : Nat) (good : Nat → Prop) {Qb Qe : E → Prop} (h1 : ∀ i, i < n → (∀ j, j ≤ i → good j) → stp (st i) = some (.inl (st (i + 1))))
    (h2 : ∀ i, i < n → (∀ j, j < i → good j) → ¬ good i → ∃ e, stp (st i) = some (.inr e) ∧ Qb e) (h3 : (∀ i, i < n → good i) → ∃ e, stp (st n) = some (.inr e) ∧ Qe e) :
    ∀ j, n < j → ∃ e, iterT stp j (st 0) = some e ∧ (((∃ i, i < n ∧ ¬ good i) ∧ Qb e) ∨ ((∀ i, i < n → good i) ∧ Qe e)) := by
  intro j hj
  by_cases hall : ∀ i, i < n → good i
  · obtain ⟨e, e1, e2⟩ := h3 hall
    exact ⟨e, iter_to st n (fun i hi => h1 i hi (fun j hj => hall j (by omega))) e1 j hj, .inr ⟨hall, e2⟩⟩
  · have hex : ∃ i, i < n ∧ ¬ good i := by
      apply Classical.byContradiction
      intro q
      exact hall fun i hi => Classical.byContradiction fun g => q ⟨i, hi, g⟩
    have hmin : ∃ m, m < n ∧ ¬ good m ∧ ∀ i, i < m → good i := by
      obtain ⟨i, hi, hg⟩ := hex
      have : ∀ d, ∀ i, i ≤ d → i < n → ¬ good i → ∃ m, m < n ∧ ¬ good m ∧ ∀ i, i < m → good i := by
        intro d
        induction d with
        | zero => intro i hi hn hg; exact ⟨i, hn, hg, fun k hk => by omega⟩
        | succ d ih =>
          intro i hi hn hg
          by_cases hb : ∃ k, k < i ∧ ¬ good k
          · obtain ⟨k, hk, hg'⟩ := hb
            exact ih k (by omega) (by omega) hg'
          · exact ⟨i, hn, hg, fun k hk => Classical.byContradiction fun g => hb ⟨k, hk, g⟩⟩
      exact this i i (Nat.le_refl _) hi hg
    obtain ⟨m, hm, hg, hlt⟩ := hmin
    obtain ⟨e, e1, e2⟩ := h2 m hm hlt hg
    exact ⟨e, iter_to st m (fun i hi => h1 i (by omega) (fun j hj => hlt j (by omega))) e1 j (by omega), .inl ⟨hex, e2⟩⟩
theorem lt_len {α : Type} {l : List α} {i : Nat} (h : i < l.length) : decide ((i : Int) < (l.length : Int)) = true := by simp; exact h
theorem in_len {α : Type} {l : List α} {i : Nat} (h : i < l.length) : decide ((0 : Int) ≤ (i : Int) ∧ (i : Int) < (l.length : Int)) = true := by simp; exact h
theorem end_len {α : Type} {l : List α} : decide ((l.length : Int) < (l.length : Int)) = false := by simp
theorem next_ok {i : Nat} (h : i < 1000000) : IntKind.wrap .i64 ((i : Int) + 1) = ((i + 1 : Nat) : Int) := by rw [wrap_ok (by omega) (by omega)]; simp
theorem f88_ok {k : Nat} {l : List ByteArray} (h : l.length ≤ 1000000) : f88 k l = some l := by
  unfold f88
  rw [show (true && decide ((0 + l.length) * 16 ≤ 140737488355328)) = true by simp; omega, br_true]
  rfl
theorem f89_ok {k : Nat} {l : List Int} (h : l.length ≤ 1000000) : f89 k l = some l := by
  unfold f89
  rw [show (true && decide ((0 + l.length) * 8 ≤ 140737488355328)) = true by simp; omega, br_true]
  rfl
theorem f116_ok {k : Nat} {v : GVote} (h : v.rows.length ≤ 1000000) : f116 k v = some v := by
  unfold f116
  rw [f88_ok h, bindO_some]
theorem f68_ok (k : Nat) (x y : Int) : f68 k x y = some (decide (0 ≤ x ∧ x ≤ y)) := by
  unfold f68
  by_cases h : x ≥ 0
  · rw [decide_eq_true h, br_true]; congr 1; simp [h]
  · rw [decide_eq_false h, br_false, decide_eq_false (by omega)]
def sizeB (n : Int) : Bool := n == 1 || n == 3 || n == 5 || n == 7
theorem f62_ok (k : Nat) (n : Int) : f62 k n = some (sizeB n) := by
  unfold f62 sizeB
  cases h1 : n == 1 <;> cases h3 : n == 3 <;> cases h5 : n == 5 <;> simp [br_if]
theorem size_cases {n : Int} (h : sizeB n = true) : n = 1 ∨ n = 3 ∨ n = 5 ∨ n = 7 := by
  unfold sizeB at h
  simp at h
  omega
noncomputable def hasS (s u : Int) : Bool := (f70 0 s u).getD false
noncomputable def addS (s u : Int) : Int := (f60 2 s [u]).getD 0
theorem f70_k (k : Nat) (s u : Int) : f70 k s u = f70 0 s u := rfl
def all8 : List Int := [0, 1, 2, 3, 4, 5, 6]
def all128 : List Int := (List.range 128).map (fun (n : Nat) => (n : Int))
theorem mem8 {u : Int} (h : 0 ≤ u ∧ u ≤ 6) : u ∈ all8 := by unfold all8; simp; omega
theorem mem128 {s : Int} (h : 0 ≤ s ∧ s ≤ 127) : s ∈ all128 := by
  unfold all128
  rw [List.mem_map]
  exact ⟨s.toNat, by simp; omega, by omega⟩
theorem sets_in : (all128.all fun s => all8.all fun u => decide (f70 0 s u = some (hasS s u)) && decide (f60 2 s [u] = some (addS s u)) && decide (0 ≤ addS s u ∧ addS s u ≤ 127)) = true := by kernel_rfl
theorem sets_has : (all128.all fun s => all8.all fun u => all8.all fun v => hasS (addS s u) v == (v == u || hasS s v)) = true := by kernel_rfl
theorem f70_ok (k : Nat) {s u : Int} (hs : 0 ≤ s ∧ s ≤ 127) (hu : 0 ≤ u ∧ u ≤ 6) : f70 k s u = some (hasS s u) := by
  have := List.all_eq_true.1 (List.all_eq_true.1 sets_in s (mem128 hs)) u (mem8 hu)
  simp only [Bool.and_eq_true] at this
  exact (f70_k k s u).trans (of_decide_eq_true this.1.1)
theorem addS_range {s u : Int} (hs : 0 ≤ s ∧ s ≤ 127) (hu : 0 ≤ u ∧ u ≤ 6) : 0 ≤ addS s u ∧ addS s u ≤ 127 := by
  have := List.all_eq_true.1 (List.all_eq_true.1 sets_in s (mem128 hs)) u (mem8 hu)
  simp only [Bool.and_eq_true] at this
  exact of_decide_eq_true this.2
theorem hasS_add {s u v : Int} (hs : 0 ≤ s ∧ s ≤ 127) (hu : 0 ≤ u ∧ u ≤ 6) (hv : 0 ≤ v ∧ v ≤ 6) : hasS (addS s u) v = (v == u || hasS s v) := by
  have := List.all_eq_true.1 (List.all_eq_true.1 (List.all_eq_true.1 sets_has s (mem128 hs)) u (mem8 hu)) v (mem8 hv)
  exact eq_of_beq this
theorem f60_one {k : Nat} (hk : 2 ≤ k) {s u : Int} (hs : 0 ≤ s ∧ s ≤ 127) (hu : 0 ≤ u ∧ u ≤ 6) : f60 k s [u] = some (addS s u) := by
  have h2 := List.all_eq_true.1 (List.all_eq_true.1 sets_in s (mem128 hs)) u (mem8 hu)
  simp only [Bool.and_eq_true] at h2
  have h2 := of_decide_eq_true h2.1.2
  obtain ⟨k, rfl⟩ : ∃ k', k = k' + 2 := ⟨k - 2, by omega⟩
  have e : f60 (k + 2) s [u] = f60 2 s [u] := by
    have hp : ∀ k s, pS60_0 k s = pS60_0 0 s := fun _ _ => rfl
    unfold f60 l60_0
    rw [show f105 (k + 2) s = f105 2 s from rfl]
    have hs' : f105 2 s = some s := by
      unfold f105
      rw [decide_eq_false (by omega), br_false, decide_eq_false (by omega), br_false]
    rw [hs', bindO_some, bindO_some]
    have two : ∀ j, iterT (pS60_0 (k + 2)) (j + 2) (S60_0.mk s [u] ((List.length [u] : Nat) : Int) 0) = iterT (pS60_0 2) 2 (S60_0.mk s [u] ((List.length [u] : Nat) : Int) 0) := by
      intro j
      have m1 : f106 (k + 2) u = some true := by
        unfold f106
        rw [decide_eq_true hu.1, br_true, decide_eq_true (by omega)]
      have m2 : f106 2 u = some true := m1
      have hu0 : (!decide (u < 0)) = true := by simp; omega
      simp [iterT, pS60_0, br_if, m1, m2, bindO_some, hu0, wrap_ok]
    rw [two k]
  exact e.trans h2
end Go.Proofs.Ytaooefnmdlajcaa

end
section
set_option linter.unusedVariables false
set_option linter.unusedSimpArgs false
namespace Go.Proofs.Ytaooefnmdlajcaa
open Go Go.Eng
theorem f109_ok (k : Nat) (b : ByteArray) : ∃ r, f109 k b = some r := ⟨_, rfl⟩
theorem f69_tot {k : Nat} (hk : 41 ≤ k) (rows : List ByteArray) (c : Int) : ∃ b, f69 k rows c = some b ∧ (b = true → rows.length ≤ 40) := by
  unfold f69
  by_cases h : ((rows.length : Int) ≤ 40)
  · rw [decide_eq_true h, br_true, f68_ok, bindO_some]
    by_cases h2 : (0 ≤ c ∧ c ≤ (rows.length : Int))
    · rw [decide_eq_true h2, br_true]
      have hl : rows.length ≤ 40 := by omega
      obtain ⟨e, he, -⟩ := iter_cases (stp := pS117_0 k) (fun i => S117_0.mk rows (rows.length : Int) (i : Int)) rows.length (fun i => f109 k (rows.getD i default) = some false) (Qb := fun _ => True) (Qe := fun _ => True)
        (by
          intro i hi hg
          have := hg i (Nat.le_refl i)
          unfold pS117_0
          simp only [lt_len hi, in_len hi, br_true, Int.toNat_natCast]
          rw [this, bindO_some, br_false, next_ok (by omega)])
        (by
          intro i hi _ hg
          obtain ⟨r, hr⟩ := f109_ok k (rows.getD i default)
          unfold pS117_0
          simp only [lt_len hi, in_len hi, br_true, Int.toNat_natCast]
          cases r with
          | false => exact absurd hr hg
          | true => rw [hr, bindO_some, br_true]; exact ⟨_, rfl, trivial⟩)
        (by
          intro _
          unfold pS117_0
          simp only [end_len, br_false]
          exact ⟨_, rfl, trivial⟩) k (by omega)
      unfold l117_0
      rw [show ((0 : Int)) = ((0 : Nat) : Int) from rfl] at *
      rw [he, bindO_some]
      cases e <;> exact ⟨_, rfl, fun _ => hl⟩
    · rw [decide_eq_false h2, br_false]; exact ⟨_, rfl, by simp⟩
  · rw [decide_eq_false h, br_false]; exact ⟨_, rfl, by simp⟩
noncomputable def setOf (l : List GVote) : Int := l.foldl (fun s v => addS s v.src) 0
theorem fold_range (l : List GVote) (h : ∀ v ∈ l, 0 ≤ v.src ∧ v.src ≤ 6) : ∀ s : Int, 0 ≤ s ∧ s ≤ 127 → 0 ≤ l.foldl (fun s v => addS s v.src) s ∧ l.foldl (fun s v => addS s v.src) s ≤ 127 := by
  induction l with
  | nil => intro s hs; exact hs
  | cons v l ih =>
    intro s hs
    exact ih (fun w hw => h w (List.mem_cons_of_mem _ hw)) _ (addS_range hs (h v (List.mem_cons_self ..)))
theorem setOf_range {l : List GVote} (h : ∀ v ∈ l, 0 ≤ v.src ∧ v.src ≤ 6) : 0 ≤ setOf l ∧ setOf l ≤ 127 := fold_range l h 0 (by omega)
theorem take_next {α : Type} [Inhabited α] {l : List α} {i : Nat} (h : i < l.length) : l.take (i + 1) = l.take i ++ [l.getD i default] := by
  rw [List.take_add_one, List.getD_eq_getElem?_getD, List.getElem?_eq_getElem h]
  rfl
theorem mem_take {α : Type} [Inhabited α] {l : List α} {i : Nat} {v : α} (h : v ∈ l.take i) : ∃ j, j < i ∧ j < l.length ∧ v = l.getD j default := by
  obtain ⟨j, hj, e⟩ := List.mem_iff_getElem.1 h
  rw [List.length_take] at hj
  refine ⟨j, by omega, by omega, ?_⟩
  rw [List.getElem_take] at e
  rw [List.getD_eq_getElem?_getD, List.getElem?_eq_getElem (by omega)]
  exact e.symm
structure GoodV (k : Nat) (x : GNode) (i : Nat) : Prop where
  src : 0 ≤ (x.votes.getD i default).src ∧ (x.votes.getD i default).src ≤ x.n - 1
  new : hasS (setOf (x.votes.take i)) (x.votes.getD i default).src = false
  last : 0 ≤ (x.votes.getD i default).last ∧ (x.votes.getD i default).last ≤ x.view
  rows : f69 k (x.votes.getD i default).rows (x.votes.getD i default).commit = some true
theorem set_at {k : Nat} {x : GNode} {i : Nat} (hn : sizeB x.n = true) (hi : i ≤ x.votes.length) (h : ∀ j, j < i → GoodV k x j) : 0 ≤ setOf (x.votes.take i) ∧ setOf (x.votes.take i) ≤ 127 := by
  refine setOf_range fun v hv => ?_
  obtain ⟨j, hj, _, rfl⟩ := mem_take hv
  have := (h j hj).src
  have := size_cases hn
  omega
theorem votes_loop {k : Nat} (hk : 41 ≤ k) {x : GNode} (hn : sizeB x.n = true) (hv : x.votes.length ≤ 7) :
    ∃ e, l35_0 k (S35_0.mk 0 x.votes (x.votes.length : Int) 0 x.id x.n x.view x.last x.phase x.commit x.rows x.far x.starts x.votes) = some e ∧
      (((∃ i, i < x.votes.length ∧ ¬ GoodV k x i) ∧ ∃ c, e = .inl c ∧ E35_0.x2 c = false) ∨ ((∀ i, i < x.votes.length → GoodV k x i) ∧ e = .inr (E35_0b.mk x.id x.n x.view x.last x.phase x.commit x.rows x.far x.starts x.votes))) := by
  have hn' := size_cases hn
  have hw : IntKind.wrap .i64 (x.n - 1) = x.n - 1 := wrap_ok (by omega) (by omega)
  exact iter_cases (stp := pS35_0 k) (fun i => S35_0.mk (setOf (x.votes.take i)) x.votes (x.votes.length : Int) (i : Int) x.id x.n x.view x.last x.phase x.commit x.rows x.far x.starts x.votes) x.votes.length (GoodV k x)
    (Qb := fun e => ∃ c, e = .inl c ∧ E35_0.x2 c = false) (Qe := fun e => e = .inr (E35_0b.mk x.id x.n x.view x.last x.phase x.commit x.rows x.far x.starts x.votes))
    (by
      intro i hi hg
      have hr := set_at hn (Nat.le_of_lt hi) (fun j hj => hg j (Nat.le_of_lt hj))
      have g := hg i (Nat.le_refl i)
      have hs := g.src
      have hs6 : 0 ≤ (x.votes.getD i default).src ∧ (x.votes.getD i default).src ≤ 6 := by omega
      unfold pS35_0
      simp only [lt_len hi, in_len hi, br_true, Int.toNat_natCast, hw]
      rw [f68_ok, decide_eq_true hs, bindO_some, Bool.not_true, br_false, f70_ok k hr hs6, g.new, bindO_some, br_false, f68_ok, decide_eq_true g.last, bindO_some, Bool.not_true, br_false,
        g.rows, bindO_some, Bool.not_true, br_false, f60_one (by omega) hr hs6, bindO_some, next_ok (by omega)]
      rw [show setOf (x.votes.take (i + 1)) = addS (setOf (x.votes.take i)) (x.votes.getD i default).src by rw [take_next hi]; unfold setOf; rw [List.foldl_append]; rfl])
    (by
      intro i hi hg hb
      have hr := set_at hn (Nat.le_of_lt hi) hg
      unfold pS35_0
      simp only [lt_len hi, in_len hi, br_true, Int.toNat_natCast, hw]
      by_cases hs : 0 ≤ (x.votes.getD i default).src ∧ (x.votes.getD i default).src ≤ x.n - 1
      · have hs6 : 0 ≤ (x.votes.getD i default).src ∧ (x.votes.getD i default).src ≤ 6 := by omega
        rw [f68_ok, decide_eq_true hs, bindO_some, Bool.not_true, br_false, f70_ok k hr hs6, bindO_some]
        cases hh : hasS (setOf (x.votes.take i)) (x.votes.getD i default).src with
        | true => rw [br_true]; exact ⟨_, rfl, _, rfl, rfl⟩
        | false =>
          rw [br_false, f68_ok, bindO_some]
          by_cases hl : 0 ≤ (x.votes.getD i default).last ∧ (x.votes.getD i default).last ≤ x.view
          · rw [decide_eq_true hl, Bool.not_true, br_false]
            obtain ⟨b, hb1, hb2⟩ := f69_tot hk (x.votes.getD i default).rows (x.votes.getD i default).commit
            rw [hb1, bindO_some]
            cases b with
            | false => exact ⟨_, rfl, _, rfl, rfl⟩
            | true => exact absurd ⟨hs, hh, hl, hb1⟩ hb
          · rw [decide_eq_false hl, Bool.not_false, br_true]; exact ⟨_, rfl, _, rfl, rfl⟩
      · rw [f68_ok, decide_eq_false hs, bindO_some, Bool.not_false, br_true]; exact ⟨_, rfl, _, rfl, rfl⟩)
    (by
      intro _
      unfold pS35_0
      simp only [end_len, br_false]
      exact ⟨_, rfl, rfl⟩) k (by omega)
def tail35 (k : Nat) (x0 : GNode) : Option R35 :=
  bindO (f69 k (GNode.rows x0) (GNode.commit x0)) fun r2993 =>
              br (!r2993)
               (some false)
               (br ((↑(List.length (GNode.far x0)) : Int) != GNode.n x0)
                (some false)
                (bindO (f68 k (GNode.starts x0) (127 : Int)) fun r2990 =>
                 br (!r2990)
                  (some false)
                  (br (decide ((↑(List.length (GNode.votes x0)) : Int) > GNode.n x0))
                   (some false)
                   (bindO (l35_0 k (S35_0.mk (0 : Int) (GNode.votes x0) (↑(List.length (GNode.votes x0)) : Int) (0 : Int) (GNode.id x0) (GNode.n x0) (GNode.view x0) (GNode.last x0) (GNode.phase x0) (GNode.commit x0) (GNode.rows x0) (GNode.far x0) (GNode.starts x0) (GNode.votes x0))) fun r2987 =>
                    match r2987 with
                    | .inl c2986 => some (E35_0.x2 c2986)
                    | .inr c2986 => bindO (l110_0 k (S110_0.mk (E35_0b.h0_7 c2986) (↑(List.length (E35_0b.h0_7 c2986)) : Int) (0 : Int) (E35_0b.h0_0 c2986) (E35_0b.h0_1 c2986) (E35_0b.h0_2 c2986) (E35_0b.h0_3 c2986) (E35_0b.h0_4 c2986) (E35_0b.h0_5 c2986) (E35_0b.h0_6 c2986) (E35_0b.h0_7 c2986) (E35_0b.h0_8 c2986) (E35_0b.h0_9 c2986))) fun r2984 =>
                      match r2984 with
                      | .inl c2983 => some (!decide (E110_0.x4 c2983 ≥ (0 : Int)))
                      | .inr c2983 => some true))))
theorem f35_eq (k : Nat) (x0 : GNode) : f35 k x0 = (
  bindO (f68 k (GNode.view x0) (1000000 : Int)) fun r3000 =>
   br r3000
    (bindO (f68 k (GNode.last x0) (GNode.view x0)) fun r2999 =>
     br r2999
      (bindO (f68 k (GNode.phase x0) (2 : Int)) fun r2998 =>
       br r2998
        (br (GNode.phase x0 != (0 : Int))
         (bindO (f62 k (GNode.n x0)) fun r2997 =>
          br (!r2997)
           (some false)
           (bindO (f68 k (GNode.id x0) (IntKind.wrap IntKind.i64 (GNode.n x0 - (1 : Int)))) fun r2995 =>
            br (!r2995)
             (some false)
             (tail35 k x0)))
         (bindO (f62 k (GNode.n x0)) fun r2980 =>
          br (!r2980)
           (some false)
           (bindO (f68 k (GNode.id x0) (IntKind.wrap IntKind.i64 (GNode.n x0 - (1 : Int)))) fun r2978 =>
            br (!r2978)
             (some false)
             (br (!GNode.last x0 == GNode.view x0)
              (some false)
              (tail35 k x0)))))
        (bindO (f62 k (GNode.n x0)) fun r2962 =>
         br (!r2962)
          (some false)
          (bindO (f68 k (GNode.id x0) (IntKind.wrap IntKind.i64 (GNode.n x0 - (1 : Int)))) fun r2960 =>
           br (!r2960)
            (some false)
            (some false))))
      (bindO (f62 k (GNode.n x0)) fun r2957 =>
       br (!r2957)
        (some false)
        (bindO (f68 k (GNode.id x0) (IntKind.wrap IntKind.i64 (GNode.n x0 - (1 : Int)))) fun r2955 =>
         br (!r2955)
          (some false)
          (some false))))
    (bindO (f62 k (GNode.n x0)) fun r2952 =>
     br (!r2952)
      (some false)
      (bindO (f68 k (GNode.id x0) (IntKind.wrap IntKind.i64 (GNode.n x0 - (1 : Int)))) fun r2950 =>
       br (!r2950)
        (some false)
        (some false)))) := rfl
structure Fit (k : Nat) (x : GNode) : Prop where
  size : sizeB x.n = true
  rows : x.rows.length ≤ 40
  far : (x.far.length : Int) = x.n
  votes : (x.votes.length : Int) ≤ x.n
  good : ∀ i, i < x.votes.length → GoodV k x i
theorem has_none : (all8.all fun u => hasS 0 u == false) = true := by kernel_rfl
theorem fold_has (l : List GVote) (h : ∀ v ∈ l, 0 ≤ v.src ∧ v.src ≤ 6) {u : Int} (hu : 0 ≤ u ∧ u ≤ 6) : ∀ s : Int, 0 ≤ s ∧ s ≤ 127 → hasS (l.foldl (fun s v => addS s v.src) s) u = (hasS s u || l.any fun v => u == v.src) := by
  induction l with
  | nil => intro s hs; simp
  | cons v l ih =>
    intro s hs
    have hv := h v (List.mem_cons_self ..)
    rw [List.foldl_cons, ih (fun w hw => h w (List.mem_cons_of_mem _ hw)) _ (addS_range hs hv), hasS_add hs hv hu, List.any_cons]
    cases (u == v.src) <;> cases hasS s u <;> simp
theorem setOf_has {l : List GVote} (h : ∀ v ∈ l, 0 ≤ v.src ∧ v.src ≤ 6) {u : Int} (hu : 0 ≤ u ∧ u ≤ 6) : hasS (setOf l) u = l.any fun v => u == v.src := by
  unfold setOf
  rw [fold_has l h hu 0 (by omega), eq_of_beq (List.all_eq_true.1 has_none u (mem8 hu)), Bool.false_or]
theorem f90_new {k : Nat} (hk : 41 ≤ k) {l : List GVote} {v : GVote} (hl : l.length ≤ 7) (hr : ∀ w ∈ l, w.rows.length ≤ 40) (hv : v.rows.length ≤ 40) (hn : ∀ w ∈ l, w.src ≠ v.src) : f90 k l v = some (l ++ [v]) := by
  have hm : ∀ i, i < l.length → l.getD i default ∈ l := by
    intro i hi
    rw [List.getD_eq_getElem?_getD, List.getElem?_eq_getElem hi]
    exact List.getElem_mem hi
  have hlo := iter_to (stp := pS90_0 k) (fun i => S90_0.mk l (l.length : Int) (i : Int) v.src v.last v.commit v.rows (l.take i)) l.length (e := E90_0.mk v.src v.last v.commit v.rows l)
    (by
      intro i hi
      unfold pS90_0
      simp only [lt_len hi, in_len hi, br_true, Int.toNat_natCast]
      rw [show ((l.getD i default).src != v.src) = true by simpa using hn _ (hm i hi), br_true, f116_ok (by have := hr _ (hm i hi); omega), bindO_some,
        show (true && decide (((l.take i).length + [l.getD i default].length) * 48 ≤ 140737488355328)) = true by simp; omega, br_true, next_ok (by omega), ← take_next hi])
    (by
      unfold pS90_0
      simp only [end_len, br_false, List.take_length]) k (by omega)
  unfold f90 l90_0
  simp only [List.take_zero] at hlo
  have e : (((0 : Nat) : Int)) = 0 := rfl
  rw [e] at hlo
  rw [hlo, bindO_some]
  show bindO (f116 k v) _ = _
  rw [f116_ok (by omega), bindO_some]
  show br (true && decide ((l.length + [v].length) * 48 ≤ 140737488355328)) (some (l ++ [v])) none = _
  rw [show (true && decide ((l.length + [v].length) * 48 ≤ 140737488355328)) = true by simp; omega, br_true]
theorem f49_fit {k : Nat} (hk : 41 ≤ k) {x : GNode} (h35 : f35 k x = some true) (hx : Fit k x) : f49 k x = some (.ok (GActor.mk x [])) := by
  have hn' := size_cases hx.size
  have hlen : x.votes.length ≤ 7 := by have := hx.votes; omega
  have hm : ∀ {i} {w}, i ≤ x.votes.length → w ∈ x.votes.take i → 0 ≤ w.src ∧ w.src ≤ 6 ∧ w.rows.length ≤ 40 := by
    intro i w hi hw
    obtain ⟨j, hj, hj', rfl⟩ := mem_take hw
    have g := hx.good j hj'
    obtain ⟨b, h1, h2⟩ := f69_tot hk (x.votes.getD j default).rows (x.votes.getD j default).commit
    rw [g.rows] at h1
    have := g.src
    exact ⟨by omega, by omega, h2 (by injection h1 with h1; exact h1.symm)⟩
  have hlo := iter_to (stp := pS49_0 k) (fun i => S49_0.mk x.votes (x.votes.length : Int) (i : Int) x.id x.n x.view x.last x.phase x.commit x.starts (x.votes.take i) x.rows x.far) x.votes.length
    (e := E49_0.mk x.id x.n x.view x.last x.phase x.commit x.starts x.votes x.rows x.far)
    (by
      intro i hi
      have g := hx.good i hi
      obtain ⟨b, h1, h2⟩ := f69_tot hk (x.votes.getD i default).rows (x.votes.getD i default).commit
      rw [g.rows] at h1
      have hb := h2 (by injection h1 with h1; exact h1.symm)
      have hs := g.src
      have hs6 : 0 ≤ (x.votes.getD i default).src ∧ (x.votes.getD i default).src ≤ 6 := by omega
      have hnew : ∀ w ∈ x.votes.take i, w.src ≠ (x.votes.getD i default).src := by
        intro w hw q
        have := g.new
        rw [setOf_has (fun v hv => ⟨(hm (Nat.le_of_lt hi) hv).1, (hm (Nat.le_of_lt hi) hv).2.1⟩) hs6, List.any_eq_false] at this
        exact this w hw (by simp [q])
      unfold pS49_0
      simp only [lt_len hi, in_len hi, br_true, Int.toNat_natCast]
      rw [f90_new hk (by rw [List.length_take]; omega) (fun w hw => (hm (Nat.le_of_lt hi) hw).2.2) hb hnew, bindO_some, next_ok (by omega), ← take_next hi])
    (by
      unfold pS49_0
      simp only [end_len, br_false, List.take_length]) k (by omega)
  simp only [List.take_zero] at hlo
  have e : (((0 : Nat) : Int)) = 0 := rfl
  rw [e] at hlo
  unfold f49 l49_0
  rw [h35, bindO_some, Bool.not_true, br_false, f88_ok (by have := hx.rows; omega), bindO_some, f89_ok (by have := hx.far; omega), bindO_some, hlo, bindO_some]
end Go.Proofs.Ytaooefnmdlajcaa

end
section
set_option linter.unusedVariables false
set_option linter.unusedSimpArgs false
namespace Go.Proofs.Ytaooefnmdlajcaa
open Go Go.Eng
theorem next_big {i : Nat} (h : i < 9223372036854775807) : IntKind.wrap .i64 ((i : Int) + 1) = ((i + 1 : Nat) : Int) := by rw [wrap_ok (by omega) (by omega)]; simp
theorem f86_tot {k : Nat} {l : List ByteArray} (hk : l.length < k) (hl : l.length ≤ 9223372036854775807) : ∃ b, f86 k l = some b := by
  obtain ⟨e, he, -⟩ := iter_cases (stp := pS86_0 k) (fun i => S86_0.mk l (i : Int)) l.length (fun i => ¬ (((l.getD i default).size : Int) > 300)) (Qb := fun _ => True) (Qe := fun _ => True)
    (by
      intro i hi hg
      have := hg i (Nat.le_refl i)
      unfold pS86_0
      simp only [lt_len hi, in_len hi, br_true, Int.toNat_natCast]
      rw [decide_eq_false this, br_false, next_big (by omega)])
    (by
      intro i hi _ hg
      have hg := Classical.not_not.1 hg
      unfold pS86_0
      simp only [lt_len hi, in_len hi, br_true, Int.toNat_natCast]
      rw [decide_eq_true hg, br_true]
      exact ⟨_, rfl, trivial⟩)
    (by
      intro _
      unfold pS86_0
      simp only [end_len, br_false]
      exact ⟨_, rfl, trivial⟩) k hk
  unfold f86 l86_0
  have e0 : (((0 : Nat) : Int)) = 0 := rfl
  simp only [e0] at he
  rw [he, bindO_some]
  cases e <;> exact ⟨_, rfl⟩
theorem f87_tot {k : Nat} {l : List GVote} (hk : 41 ≤ k) (hv : ∀ v ∈ l, v.rows.length < k ∧ v.rows.length ≤ 9223372036854775807) : ∃ b, f87 k l = some b := by
  have hm : ∀ i, i < l.length → l.getD i default ∈ l := by
    intro i hi
    rw [List.getD_eq_getElem?_getD, List.getElem?_eq_getElem hi]
    exact List.getElem_mem hi
  by_cases h20 : (l.length : Int) ≤ 20
  · obtain ⟨e, he, -⟩ := iter_cases (stp := pS87_0 k) (fun i => S87_0.mk l (i : Int)) l.length (fun i => f86 k (l.getD i default).rows = some true) (Qb := fun _ => True) (Qe := fun _ => True)
      (by
        intro i hi hg
        have := hg i (Nat.le_refl i)
        unfold pS87_0
        simp only [lt_len hi, in_len hi, br_true, Int.toNat_natCast, decide_eq_true h20]
        rw [this, bindO_some, Bool.not_true, br_false, next_ok (by omega)])
      (by
        intro i hi _ hg
        obtain ⟨b, hb⟩ := f86_tot (hv _ (hm i hi)).1 (hv _ (hm i hi)).2
        unfold pS87_0
        simp only [lt_len hi, in_len hi, br_true, Int.toNat_natCast, decide_eq_true h20]
        cases b with
        | true => exact absurd hb hg
        | false => rw [hb, bindO_some, Bool.not_false, br_true]; exact ⟨_, rfl, trivial⟩)
      (by
        intro _
        unfold pS87_0
        simp only [end_len, br_false]
        exact ⟨_, rfl, trivial⟩) k (by omega)
    unfold f87 l87_0
    have e0 : (((0 : Nat) : Int)) = 0 := rfl
    simp only [e0] at he
    rw [he, bindO_some]
    cases e <;> exact ⟨_, rfl⟩
  · have he : iterT (pS87_0 k) k (S87_0.mk l 0) = some (.inr (E87_0b.mk l)) := by
      obtain ⟨k, rfl⟩ : ∃ k', k = k' + 1 := ⟨k - 1, by omega⟩
      have : pS87_0 (k + 1) (S87_0.mk l 0) = some (.inr (.inr (E87_0b.mk l))) := by
        unfold pS87_0
        rw [show decide ((S87_0.mk l 0).x3 < (((S87_0.mk l 0).x0.length : Nat) : Int)) = true by simp; omega, br_true,
          show decide ((((S87_0.mk l 0).x0.length : Nat) : Int) ≤ 20) = false by simp; omega, br_false]
      simp only [iterT, this]
    unfold f87 l87_0
    rw [he, bindO_some]
    exact ⟨_, rfl⟩
theorem f46_tot {k : Nat} {x : GNode} (hk : 41 ≤ k) (hr : x.rows.length < k ∧ x.rows.length ≤ 9223372036854775807) (hv : ∀ v ∈ x.votes, v.rows.length < k ∧ v.rows.length ≤ 9223372036854775807) : ∃ b, f46 k x = some b := by
  obtain ⟨b, hb⟩ := f86_tot hr.1 hr.2
  obtain ⟨c, hc⟩ := f87_tot hk hv
  unfold f46
  rw [hb, bindO_some, hc]
  simp only [br_if]
  repeat' split
  all_goals exact ⟨_, rfl⟩
theorem f47_tot {k : Nat} {m : GMsg} (hr : m.rows.length < k ∧ m.rows.length ≤ 9223372036854775807) : ∃ b, f47 k m = some b := by
  obtain ⟨b, hb⟩ := f86_tot hr.1 hr.2
  unfold f47
  rw [hb, bindO_some]
  exact ⟨_, rfl⟩
theorem f26_tot {k : Nat} {x : GNode} {m : GMsg} {s : ByteArray} (hk : 41 ≤ k) (hr : x.rows.length < k ∧ x.rows.length ≤ 9223372036854775807) (hv : ∀ v ∈ x.votes, v.rows.length < k ∧ v.rows.length ≤ 9223372036854775807)
    (hm : m.rows.length < k ∧ m.rows.length ≤ 9223372036854775807) : ∃ b, f26 k x m s = some b := by
  obtain ⟨b, hb⟩ := f46_tot hk hr hv
  obtain ⟨c, hc⟩ := f47_tot hm
  unfold f26
  rw [hb, bindO_some, hc, bindO_some]
  simp only [br_if]
  repeat' split
  all_goals exact ⟨_, rfl⟩
theorem f34_same {k : Nat} {l : List ByteArray} (hk : l.length < k) (hl : l.length ≤ 1000) : f34 k l l = some true := by
  have he := iter_to (stp := pS34_0 k) (fun i => S34_0.mk l l (i : Int)) l.length (e := .inr E34_0b.mk)
    (by
      intro i hi
      unfold pS34_0
      simp only [lt_len hi, in_len hi, br_true, Int.toNat_natCast]
      rw [show (!ByteArray.toList (l.getD i default) == ByteArray.toList (l.getD i default)) = false by simp, br_false, next_ok (by omega)])
    (by unfold pS34_0; simp only [end_len, br_false]) k hk
  unfold f34 l34_0
  have e0 : (((0 : Nat) : Int)) = 0 := rfl
  simp only [e0] at he
  rw [show ((l.length : Int) != (l.length : Int)) = false by simp, br_false, he, bindO_some]
theorem f57_same {k : Nat} {l : List Int} (hk : l.length < k) (hl : l.length ≤ 1000) : f57 k l l = some true := by
  have he := iter_to (stp := pS57_0 k) (fun i => S57_0.mk l l (i : Int)) l.length (e := .inr E57_0b.mk)
    (by
      intro i hi
      unfold pS57_0
      simp only [lt_len hi, in_len hi, br_true, Int.toNat_natCast]
      rw [show (l.getD i 0 != l.getD i 0) = false by simp, br_false, next_ok (by omega)])
    (by unfold pS57_0; simp only [end_len, br_false]) k hk
  unfold f57 l57_0
  have e0 : (((0 : Nat) : Int)) = 0 := rfl
  simp only [e0] at he
  rw [show ((l.length : Int) != (l.length : Int)) = false by simp, br_false, he, bindO_some]
theorem f104_same {k : Nat} {v : GVote} (hk : v.rows.length < k) (hl : v.rows.length ≤ 1000) : f104 k v v = some true := by
  unfold f104
  simp only [beq_self_eq_true, br_true]
  rw [f34_same hk hl, bindO_some]
theorem f58_same {k : Nat} {l : List GVote} (hk : l.length < k) (hl : l.length ≤ 1000) (hv : ∀ i, i < l.length → (l.getD i default).rows.length ≤ 40) (hk2 : 41 ≤ k) : f58 k l l = some true := by
  have he := iter_to (stp := pS58_0 k) (fun i => S58_0.mk l l (i : Int)) l.length (e := .inr E58_0b.mk)
    (by
      intro i hi
      have := hv i hi
      unfold pS58_0
      simp only [lt_len hi, in_len hi, br_true, Int.toNat_natCast]
      rw [f104_same (by omega) (by omega), bindO_some, Bool.not_true, br_false, next_ok (by omega)])
    (by unfold pS58_0; simp only [end_len, br_false]) k hk
  unfold f58 l58_0
  have e0 : (((0 : Nat) : Int)) = 0 := rfl
  simp only [e0] at he
  rw [show ((l.length : Int) != (l.length : Int)) = false by simp, br_false, he, bindO_some]
theorem f29_same {k : Nat} (hk : 41 ≤ k) {x : GNode} (hx : Fit k x) : f29 k x x = some true := by
  have hn := size_cases hx.size
  have := hx.rows
  have := hx.far
  have := hx.votes
  unfold f29
  simp only [beq_self_eq_true, br_true]
  rw [f34_same (by omega) (by omega), bindO_some, br_true, f57_same (by omega) (by omega), bindO_some, br_true, f58_same (by omega) (by omega) (by
    intro i hi
    obtain ⟨b, h1, h2⟩ := f69_tot hk (x.votes.getD i default).rows (x.votes.getD i default).commit
    rw [(hx.good i hi).rows] at h1
    exact h2 (by injection h1 with h1; exact h1.symm)) hk, bindO_some]
end Go.Proofs.Ytaooefnmdlajcaa

end
section
set_option linter.unusedVariables false
set_option linter.unusedSimpArgs false
namespace Go.Proofs.Ytaooefnmdlajcaa
open Go Go.Eng
theorem len_le {l : List GVote} {v : GVote} (h : v ∈ l) : v.rows.length ≤ (l.map fun v => v.rows.length).sum := by
  induction l with
  | nil => cases h
  | cons a l ih =>
    rw [List.map_cons, List.sum_cons]
    rcases List.mem_cons.1 h with rfl | h
    · omega
    · have := ih h; omega
end Go.Proofs.Ytaooefnmdlajcaa

end
section
set_option linter.unusedVariables false
set_option linter.unusedSimpArgs false
namespace Go.Proofs.Ytaooefnmdlajcaa
open Go Go.Eng
theorem br_t {R : Type} {b : Bool} (h : b = true) (x y : Option R) : br b x y = x := by rw [h, br_true]
theorem br_f {R : Type} {b : Bool} (h : b = false) (x y : Option R) : br b x y = y := by rw [h, br_false]
def othersL (id : Int) (n : Nat) : List Int := ((List.range n).map fun (i : Nat) => (i : Int)).filter fun i => i != id
def msgP (x : GNode) (who : Int) (m : GMsg) : GMsg := ⟨m.kind, x.id, who, x.view, m.last, m.n, m.commit, m.rows⟩
def toP (a : GActor) (who : Int) (m : GMsg) : GActor := ⟨a.state, a.told ++ [msgP a.state who m]⟩
def allP (a : GActor) (m : GMsg) : GActor := ⟨a.state, a.told ++ (othersL a.state.id a.state.n.toNat).map fun i => msgP a.state i m⟩
theorem othersL_succ (id : Int) (n : Nat) : othersL id (n + 1) = othersL id n ++ (if (n : Int) != id then [(n : Int)] else []) := by
  unfold othersL
  rw [List.range_succ, List.map_append, List.filter_append]
  congr 1
  simp only [List.map_cons, List.map_nil, List.filter_cons, List.filter_nil]
theorem othersL_len (id : Int) (n : Nat) : (othersL id n).length ≤ n := by
  unfold othersL
  refine Nat.le_trans (List.length_filter_le _ _) ?_
  simp
theorem f95_ok (k : Nat) {a : GActor} {who : Int} {m : GMsg} (h1 : a.told.length ≤ 1000) (h2 : m.rows.length ≤ 1000) : f95 k a who m = some (toP a who m) := by
  unfold f95
  rw [f88_ok (by omega), bindO_some, br_t (by simp; omega)]
  rfl
theorem f67_ok {k : Nat} (hk : 41 ≤ k) {a : GActor} {m : GMsg} (hn : 0 ≤ a.state.n ∧ a.state.n ≤ 7) (h1 : a.told.length ≤ 900) (h2 : m.rows.length ≤ 1000) : f67 k a m = some (allP a m) := by
  have he := iter_to (stp := pS67_0 k) (fun i => S67_0.mk a.state.n (i : Int) a.state.id a.state.n a.state.view a.state.last a.state.phase a.state.commit a.state.rows a.state.starts a.state.votes
      m.kind m.src m.to m.view m.last m.n m.commit m.rows a.state.far (a.told ++ (othersL a.state.id i).map fun i => msgP a.state i m)) a.state.n.toNat
    (e := E67_0.mk a.state.id a.state.n a.state.view a.state.last a.state.phase a.state.commit a.state.rows a.state.starts a.state.votes m.kind m.src m.to m.view m.last m.n m.commit m.rows a.state.far (allP a m).told)
    (by
      intro i hi
      have hlen := othersL_len a.state.id i
      unfold pS67_0
      dsimp only
      rw [br_t (decide_eq_true (by omega)), othersL_succ]
      cases h : ((i : Int) != a.state.id) with
      | true =>
        rw [br_true, f95_ok k (by simp; omega) (by simpa using h2), bindO_some, next_ok (by omega)]
        simp only [toP, if_true, List.map_append, List.map_cons, List.map_nil, List.append_assoc]
        try rfl
      | false =>
        rw [br_false, next_ok (by omega)]
        try simp)
    (by
      unfold pS67_0
      dsimp only
      rw [br_f (decide_eq_false (by omega))]
      rfl) k (by omega)
  unfold f67 l67_0
  have e0 : (((0 : Nat) : Int)) = 0 := rfl
  rw [e0, show othersL a.state.id 0 = [] from rfl, List.map_nil, List.append_nil] at he
  rw [he, bindO_some]
  rfl
theorem f119_ok (k : Nat) {n : Int} (hn : sizeB n = true) : f119 k n = some (n / 2 + 1, true) := by
  rcases size_cases hn with rfl | rfl | rfl | rfl <;> rfl
theorem f118_ok (k : Nat) {v n : Int} (hn : sizeB n = true) (hv : 0 ≤ v) : f118 k v n = some (v % n, true) := by
  have hn' := size_cases hn
  unfold f118
  rw [f119_ok k hn, bindO_some]
  dsimp only
  rw [Bool.not_true, br_false, br_f (decide_eq_false (by omega)), br_t (by rcases hn' with rfl | rfl | rfl | rfl <;> rfl), Int.tmod_eq_emod_of_nonneg hv]
theorem lead_range {v n : Int} (hn : sizeB n = true) : 0 ≤ v % n ∧ v % n ≤ n - 1 := by
  have hn' := size_cases hn
  have h1 := Int.emod_nonneg v (show n ≠ 0 by omega)
  have h2 := Int.emod_lt_of_pos v (show 0 < n by omega)
  omega
def alls : List Int := [1, 3, 5, 7]
theorem mem_alls {n : Int} (hn : sizeB n = true) : n ∈ alls := by rcases size_cases hn with rfl | rfl | rfl | rfl <;> simp [alls]
noncomputable def enoughB (s n : Int) : Bool := (f100 0 s n).getD false
theorem f100_k (k : Nat) (s n : Int) : f100 k s n = f100 0 s n := rfl
theorem enough_in : (all128.all fun s => alls.all fun n => decide (f100 0 s n = some (enoughB s n))) = true := by kernel_rfl
theorem f100_ok (k : Nat) {s n : Int} (hs : 0 ≤ s ∧ s ≤ 127) (hn : sizeB n = true) : f100 k s n = some (enoughB s n) := by
  have := List.all_eq_true.1 (List.all_eq_true.1 enough_in s (mem128 hs)) n (mem_alls hn)
  exact (f100_k k s n).trans (of_decide_eq_true this)
def reachedP (n : Int) (far : List Int) : Int := max2 ((sortLe far).getD (far.length - (n / 2 + 1).toNat) 0) 0
theorem f107_ok (k : Nat) {n : Int} {far : List Int} (hn : sizeB n = true) (hf : (far.length : Int) = n) : f107 k n far = some (reachedP n far) := by
  have hn' := size_cases hn
  have hl : (sortLe far).length = far.length := (sortLe_perm far).length_eq
  unfold f107
  rw [f119_ok k hn, bindO_some]
  dsimp only
  rw [Bool.not_true, br_false, br_f (decide_eq_false (by omega)), f89_ok (by omega), bindO_some]
  have hs : fSort far = some (sortLe far) := by unfold fSort; rw [br_t (decide_eq_true (by omega))]
  rw [hs, bindO_some]
  have hw : IntKind.wrap .i64 (((sortLe far).length : Int) - (n / 2 + 1)) = ((far.length - (n / 2 + 1).toNat : Nat) : Int) := by rw [wrap_ok (by omega) (by omega)]; omega
  rw [hw, br_t (decide_eq_true (by omega)), Int.toNat_natCast, br_t (decide_eq_true (by omega))]
  rfl
theorem reached_range {n : Int} {far : List Int} {c : Int} (hn : sizeB n = true) (hf : (far.length : Int) = n) (hc : ∀ f ∈ far, 0 ≤ f ∧ f ≤ c) (h0 : 0 ≤ c) : 0 ≤ reachedP n far ∧ reachedP n far ≤ c := by
  unfold reachedP
  rw [max2_eq]
  have : (sortLe far).getD (far.length - (n / 2 + 1).toNat) 0 ≤ c := by
    rw [List.getD_eq_getElem?_getD]
    cases h : (sortLe far)[far.length - (n / 2 + 1).toNat]? with
    | none => simpa using h0
    | some y => exact (hc y ((sortLe_perm far).mem_iff.1 (List.mem_of_getElem? h))).2
  omega
def forgetP (a : GActor) : GActor := ⟨⟨a.state.id, a.state.n, a.state.view, a.state.last, a.state.phase, a.state.commit, a.state.rows, List.replicate a.state.n.toNat 0, 0, []⟩, a.told⟩
theorem f59_ok (k : Nat) {a : GActor} (hn : 0 ≤ a.state.n ∧ a.state.n ≤ 7) : f59 k a = some (forgetP a) := by
  unfold f59
  rw [br_t (by simp; omega)]
  rfl
def leadsP (x : GNode) : Prop := x.phase = 0 ∧ x.view % x.n = x.id
instance (x : GNode) : Decidable (leadsP x) := by unfold leadsP; infer_instance
def setFar (x : GNode) : List Int := x.far.set x.id.toNat x.rows.length
def countP (a : GActor) : GActor := if leadsP a.state then
  ⟨⟨a.state.id, a.state.n, a.state.view, a.state.last, a.state.phase, max2 a.state.commit (reachedP a.state.n (setFar a.state)), a.state.rows, setFar a.state, a.state.starts, a.state.votes⟩, a.told⟩ else a
theorem f61_ok (k : Nat) {a : GActor} (hn : sizeB a.state.n = true) (hid : 0 ≤ a.state.id ∧ a.state.id ≤ a.state.n - 1) (hv : 0 ≤ a.state.view) (hf : (a.state.far.length : Int) = a.state.n) : f61 k a = some (countP a) := by
  unfold f61 countP
  by_cases hp : a.state.phase = 0
  · rw [br_t (by simpa using hp), f118_ok k hn hv, bindO_some]
    dsimp only
    by_cases hl : a.state.view % a.state.n = a.state.id
    · rw [br_t (by simpa using hl), br_t (decide_eq_true (by omega)), br_t (by simp; omega), f107_ok k hn (by simpa using hf), bindO_some, if_pos (show leadsP a.state from ⟨hp, hl⟩)]
      rfl
    · rw [br_f (by simpa using hl), if_neg (fun h : leadsP a.state => hl h.2)]
  · rw [br_f (by simpa using hp), if_neg (fun h : leadsP a.state => hp h.1)]
def workP (a : GActor) : GActor := countP (forgetP ⟨⟨a.state.id, a.state.n, a.state.view, a.state.view, 0, a.state.commit, a.state.rows, a.state.far, a.state.starts, a.state.votes⟩, a.told⟩)
theorem f101_ok (k : Nat) {a : GActor} (hn : sizeB a.state.n = true) (hid : 0 ≤ a.state.id ∧ a.state.id ≤ a.state.n - 1) (hv : 0 ≤ a.state.view) : f101 k a = some (workP a) := by
  have hn' := size_cases hn
  unfold f101
  have h61 := f61_ok k (a := forgetP ⟨⟨a.state.id, a.state.n, a.state.view, a.state.view, 0, a.state.commit, a.state.rows, a.state.far, a.state.starts, a.state.votes⟩, a.told⟩) hn hid hv (by simp [forgetP]; omega)
  rw [f59_ok k (by dsimp only; omega), bindO_some, h61, bindO_some]
  rfl
def startM : GMsg := ⟨4, 0, 0, 0, 0, 0, 0, []⟩
noncomputable def enterP (a : GActor) (view : Int) : GActor :=
  allP ⟨⟨a.state.id, a.state.n, view, a.state.last, 1, a.state.commit, a.state.rows, List.replicate a.state.n.toNat 0, addS 0 a.state.id, []⟩, a.told⟩ startM
theorem f63_ok {k : Nat} (hk : 41 ≤ k) {a : GActor} {view : Int} (hn : sizeB a.state.n = true) (hid : 0 ≤ a.state.id ∧ a.state.id ≤ a.state.n - 1) (ht : a.told.length ≤ 900) : f63 k a view = some (enterP a view) := by
  have hn' := size_cases hn
  unfold f63
  rw [f59_ok k (by dsimp only; omega), bindO_some]
  dsimp only [forgetP]
  rw [f60_one (by omega) (by omega) (by omega), bindO_some, f67_ok hk (by dsimp only; omega) (by dsimp only; omega) (by simp), bindO_some]
  rfl
def voteM (x : GNode) : GMsg := ⟨5, 0, 0, 0, x.last, 0, x.commit, x.rows⟩
def ownV (x : GNode) : GVote := ⟨x.id, x.last, x.commit, x.rows⟩
def withP (l : List GVote) (v : GVote) : List GVote := l.filter (fun w => w.src != v.src) ++ [v]
theorem f90_ok {k : Nat} (hk : 41 ≤ k) {l : List GVote} {v : GVote} (hl : l.length ≤ 20) (hr : ∀ w ∈ l, w.rows.length ≤ 1000) (hv : v.rows.length ≤ 1000) : f90 k l v = some (withP l v) := by
  have hm : ∀ i, i < l.length → l.getD i default ∈ l := by
    intro i hi
    rw [List.getD_eq_getElem?_getD, List.getElem?_eq_getElem hi]
    exact List.getElem_mem hi
  have hlo := iter_to (stp := pS90_0 k) (fun i => S90_0.mk l (l.length : Int) (i : Int) v.src v.last v.commit v.rows ((l.take i).filter fun w => w.src != v.src)) l.length (e := E90_0.mk v.src v.last v.commit v.rows (l.filter fun w => w.src != v.src))
    (by
      intro i hi
      have hfl := List.length_filter_le (fun w : GVote => w.src != v.src) (l.take i)
      rw [List.length_take] at hfl
      unfold pS90_0
      simp only [lt_len hi, in_len hi, br_true, Int.toNat_natCast]
      cases h : ((l.getD i default).src != v.src) with
      | true =>
        rw [br_true, f116_ok (by have := hr _ (hm i hi); omega), bindO_some, br_t (by simp; omega), next_ok (by omega), take_next hi, List.filter_append]
        simp only [List.filter_cons, h, if_true, List.filter_nil]
      | false =>
        rw [br_false, next_ok (by omega), take_next hi, List.filter_append]
        simp only [List.filter_cons, h, Bool.false_eq_true, if_false, List.filter_nil, List.append_nil])
    (by
      unfold pS90_0
      simp only [end_len, br_false, List.take_length]) k (by omega)
  have hfl := List.length_filter_le (fun w : GVote => w.src != v.src) l
  unfold f90 l90_0
  simp only [List.take_zero, List.filter_nil] at hlo
  have e : (((0 : Nat) : Int)) = 0 := rfl
  rw [e] at hlo
  rw [hlo, bindO_some]
  dsimp only
  rw [f116_ok (by dsimp only; omega), bindO_some, br_t (by simp; omega)]
  rfl
noncomputable def votesP (a : GActor) (was : Bool) : GActor :=
  if was = true ∨ enoughB a.state.starts a.state.n = false then a else
  if a.state.view % a.state.n ≠ a.state.id then toP a (a.state.view % a.state.n) (voteM a.state) else
  ⟨⟨a.state.id, a.state.n, a.state.view, a.state.last, a.state.phase, a.state.commit, a.state.rows, a.state.far, a.state.starts, withP a.state.votes (ownV a.state)⟩, a.told⟩
theorem f64_ok {k : Nat} (hk : 41 ≤ k) {a : GActor} {was : Bool} (hn : sizeB a.state.n = true) (hv : 0 ≤ a.state.view) (hs : 0 ≤ a.state.starts ∧ a.state.starts ≤ 127) (ht : a.told.length ≤ 900) (hr : a.state.rows.length ≤ 1000)
    (hl : a.state.votes.length ≤ 20) (hvr : ∀ w ∈ a.state.votes, w.rows.length ≤ 1000) : f64 k a was = some (votesP a was) := by
  unfold f64 votesP
  cases was with
  | true => rw [br_true, if_pos (.inl rfl)]
  | false =>
    rw [br_false, f100_ok k hs hn, bindO_some]
    cases he : enoughB a.state.starts a.state.n with
    | false => rw [Bool.not_false, br_true, if_pos (.inr rfl)]
    | true =>
      rw [Bool.not_true, br_false, f118_ok k hn hv, bindO_some, if_neg (by simp)]
      dsimp only
      by_cases h : a.state.view % a.state.n = a.state.id
      · rw [br_f (by simpa using h), f90_ok hk hl hvr hr, bindO_some, if_neg (by simpa using h)]
        rfl
      · rw [br_t (by simpa using h), f95_ok k (by omega) hr, bindO_some, if_pos h]
        rfl
end Go.Proofs.Ytaooefnmdlajcaa

end
section
set_option linter.unusedVariables false
set_option linter.unusedSimpArgs false
namespace Go.Proofs.Ytaooefnmdlajcaa
open Go Go.Eng
theorem getD_mem {α : Type} [Inhabited α] {l : List α} {i : Nat} (h : i < l.length) : l.getD i default ∈ l := by
  rw [List.getD_eq_getElem?_getD, List.getElem?_eq_getElem h]
  exact List.getElem_mem h
theorem mem_getD {α : Type} [Inhabited α] {l : List α} {x : α} (h : x ∈ l) : ∃ i, i < l.length ∧ x = l.getD i default := by
  obtain ⟨i, hi, rfl⟩ := List.mem_iff_getElem.1 h
  exact ⟨i, hi, by rw [List.getD_eq_getElem?_getD, List.getElem?_eq_getElem hi]; rfl⟩
def mayP (rows : List ByteArray) (c : Int) : Prop := rows.length ≤ 40 ∧ (0 ≤ c ∧ c ≤ rows.length) ∧ ∀ r ∈ rows, r.size ≤ 45
instance (rows : List ByteArray) (c : Int) : Decidable (mayP rows c) := by unfold mayP; infer_instance
theorem f109_eq (k : Nat) (r : ByteArray) : f109 k r = some (decide ((r.size : Int) > 45)) := rfl
theorem f69_ok {k : Nat} (hk : 41 ≤ k) (rows : List ByteArray) (c : Int) : f69 k rows c = some (decide (mayP rows c)) := by
  unfold f69
  by_cases h : ((rows.length : Int) ≤ 40)
  · rw [decide_eq_true h, br_true, f68_ok, bindO_some]
    by_cases h2 : (0 ≤ c ∧ c ≤ (rows.length : Int))
    · rw [decide_eq_true h2, br_true]
      have hl : rows.length ≤ 40 := by omega
      obtain ⟨e, he, hc⟩ := iter_cases (stp := pS117_0 k) (fun i => S117_0.mk rows (rows.length : Int) (i : Int)) rows.length (fun i => (rows.getD i default).size ≤ 45) (Qb := fun e => ∃ c, e = .inl c ∧ c.x4 ≥ 0) (Qe := fun e => e = .inr E117_0b.mk)
        (by
          intro i hi hg
          have := hg i (Nat.le_refl i)
          unfold pS117_0
          simp only [lt_len hi, in_len hi, br_true, Int.toNat_natCast]
          rw [f109_eq, decide_eq_false (by omega), bindO_some, br_false, next_ok (by omega)])
        (by
          intro i hi _ hg
          unfold pS117_0
          simp only [lt_len hi, in_len hi, br_true, Int.toNat_natCast]
          rw [f109_eq, decide_eq_true (by omega), bindO_some, br_true]
          exact ⟨_, rfl, _, rfl, by simp⟩)
        (by
          intro _
          unfold pS117_0
          simp only [end_len, br_false]
          exact ⟨_, rfl, rfl⟩) k (by omega)
      unfold l117_0
      have e0 : (((0 : Nat) : Int)) = 0 := rfl
      rw [e0] at he
      rw [he, bindO_some]
      rcases hc with ⟨⟨i, hi, hg⟩, c', rfl, hx⟩ | ⟨hg, rfl⟩
      · dsimp only
        rw [decide_eq_true hx, decide_eq_false (fun hm : mayP rows c => hg (hm.2.2 _ (getD_mem hi)))]; rfl
      · dsimp only
        have hm : mayP rows c := ⟨hl, h2, fun r hr => by obtain ⟨i, hi, rfl⟩ := mem_getD hr; exact hg i hi⟩
        rw [decide_eq_true hm]
    · rw [decide_eq_false h2, br_false, decide_eq_false (fun hm : mayP rows c => h2 hm.2.1)]
  · rw [decide_eq_false h, br_false, decide_eq_false (fun hm : mayP rows c => h (by have := hm.1; omega))]
structure RightV (n view : Int) (v : GVote) : Prop where
  src : 0 ≤ v.src ∧ v.src ≤ n - 1
  last : 0 ≤ v.last ∧ v.last ≤ view
  may : mayP v.rows v.commit
structure RightN (x : GNode) : Prop where
  size : sizeB x.n = true
  id : 0 ≤ x.id ∧ x.id ≤ x.n - 1
  view : 0 ≤ x.view ∧ x.view ≤ 1000000
  last : 0 ≤ x.last ∧ x.last ≤ x.view
  phase : 0 ≤ x.phase ∧ x.phase ≤ 2
  works : x.phase = 0 → x.last = x.view
  may : mayP x.rows x.commit
  far : (x.far.length : Int) = x.n
  starts : 0 ≤ x.starts ∧ x.starts ≤ 127
  votes : (x.votes.length : Int) ≤ x.n
  vs : ∀ v ∈ x.votes, RightV x.n x.view v
  nodup : x.votes.Pairwise fun v w => v.src ≠ w.src
  fars : ∀ f ∈ x.far, 0 ≤ f ∧ f ≤ (x.rows.length : Int)
theorem good_iff {k : Nat} (hk : 41 ≤ k) {x : GNode} (hn : sizeB x.n = true) : (∀ i, i < x.votes.length → GoodV k x i) ↔ ((∀ v ∈ x.votes, RightV x.n x.view v) ∧ x.votes.Pairwise fun v w => v.src ≠ w.src) := by
  have hn' := size_cases hn
  constructor
  · intro h
    have hv : ∀ v ∈ x.votes, RightV x.n x.view v := by
      intro v hv
      obtain ⟨i, hi, rfl⟩ := mem_getD hv
      have g := h i hi
      have gr := g.rows
      rw [f69_ok hk] at gr
      exact ⟨g.src, g.last, of_decide_eq_true (Option.some.inj gr)⟩
    refine ⟨hv, List.pairwise_iff_getElem.2 fun i j hi hj hij q => ?_⟩
    have g := h j hj
    have hs := g.src
    have := g.new
    rw [setOf_has (fun w hw => by have := (hv w (List.mem_of_mem_take hw)).src; omega) (by omega), List.any_eq_false] at this
    have hgj : x.votes.getD j default = x.votes[j] := by rw [List.getD_eq_getElem?_getD, List.getElem?_eq_getElem hj]; rfl
    refine this x.votes[i] (List.mem_take_iff_getElem.2 ⟨i, by omega, rfl⟩) ?_
    rw [hgj, q]
    simp
  · rintro ⟨hv, hp⟩ i hi
    have g := hv _ (getD_mem hi)
    refine ⟨g.src, ?_, g.last, by rw [f69_ok hk, decide_eq_true g.may]⟩
    have hs := g.src
    rw [setOf_has (fun w hw => by have := (hv w (List.mem_of_mem_take hw)).src; omega) (by omega), List.any_eq_false]
    intro w hw q
    obtain ⟨j, hj, _, rfl⟩ := mem_take hw
    have hgi : x.votes.getD i default = x.votes[i] := by rw [List.getD_eq_getElem?_getD, List.getElem?_eq_getElem hi]; rfl
    have hgj : x.votes.getD j default = x.votes[j]'(by omega) := by rw [List.getD_eq_getElem?_getD, List.getElem?_eq_getElem (by omega)]; rfl
    have q : (x.votes.getD i default).src = (x.votes.getD j default).src := by simpa using q
    rw [hgi, hgj] at q
    exact List.pairwise_iff_getElem.1 hp j i (by omega) hi hj q.symm
theorem far_loop' {k : Nat} (hk : 41 ≤ k) {x : GNode} (hl : x.far.length ≤ 7) :
    ∃ e, l110_0 k (S110_0.mk x.far (x.far.length : Int) 0 x.id x.n x.view x.last x.phase x.commit x.rows x.far x.starts x.votes) = some e ∧
      ((¬ (∀ f ∈ x.far, 0 ≤ f ∧ f ≤ (x.rows.length : Int)) ∧ ∃ c, e = .inl c ∧ c.x4 ≥ 0) ∨ ((∀ f ∈ x.far, 0 ≤ f ∧ f ≤ (x.rows.length : Int)) ∧ ∃ c, e = .inr c)) := by
  obtain ⟨e, he, hc⟩ := iter_cases (stp := pS110_0 k) (fun i => S110_0.mk x.far (x.far.length : Int) (i : Int) x.id x.n x.view x.last x.phase x.commit x.rows x.far x.starts x.votes) x.far.length
    (fun i => 0 ≤ x.far.getD i default ∧ x.far.getD i default ≤ (x.rows.length : Int)) (Qb := fun e => ∃ c, e = .inl c ∧ c.x4 ≥ 0) (Qe := fun e => ∃ c, e = .inr c)
    (by
      intro i hi hg
      have := hg i (Nat.le_refl i)
      unfold pS110_0
      simp only [lt_len hi, in_len hi, br_true, Int.toNat_natCast]
      rw [f68_ok, decide_eq_true (by exact this), bindO_some, Bool.not_true, br_false, next_ok (by omega)])
    (by
      intro i hi _ hg
      unfold pS110_0
      simp only [lt_len hi, in_len hi, br_true, Int.toNat_natCast]
      rw [f68_ok, decide_eq_false (by exact hg), bindO_some, Bool.not_false, br_true]
      exact ⟨_, rfl, _, rfl, by simp⟩)
    (by
      intro _
      unfold pS110_0
      simp only [end_len, br_false]
      exact ⟨_, rfl, _, rfl⟩) k (by omega)
  refine ⟨e, he, hc.imp (fun ⟨⟨i, hi, hg⟩, h⟩ => ⟨fun q => hg (q _ (getD_mem hi)), h⟩) (fun ⟨h, h'⟩ => ⟨fun f hf => by obtain ⟨i, hi, rfl⟩ := mem_getD hf; exact h i hi, h'⟩)⟩
theorem tail_ok {k : Nat} (hk : 41 ≤ k) {x : GNode} (hn : sizeB x.n = true) : ∃ b, tail35 k x = some b ∧ (b = true ↔ (mayP x.rows x.commit ∧ (x.far.length : Int) = x.n ∧ (0 ≤ x.starts ∧ x.starts ≤ 127) ∧ (x.votes.length : Int) ≤ x.n ∧ ((∀ v ∈ x.votes, RightV x.n x.view v) ∧ x.votes.Pairwise fun v w => v.src ≠ w.src) ∧ ∀ f ∈ x.far, 0 ≤ f ∧ f ≤ (x.rows.length : Int))) := by
  have hn' := size_cases hn
  unfold tail35
  rw [f69_ok hk, bindO_some]
  by_cases hm : mayP x.rows x.commit
  · rw [decide_eq_true hm, Bool.not_true, br_false]
    by_cases hf : (x.far.length : Int) = x.n
    · rw [br_f (by simp [hf]), f68_ok, bindO_some]
      by_cases hs : 0 ≤ x.starts ∧ x.starts ≤ 127
      · rw [decide_eq_true hs, Bool.not_true, br_false]
        by_cases hv : (x.votes.length : Int) > x.n
        · rw [decide_eq_true hv, br_true]; exact ⟨_, rfl, by simp; omega⟩
        · rw [decide_eq_false hv, br_false]
          obtain ⟨e, he, hc⟩ := votes_loop hk hn (show x.votes.length ≤ 7 by omega)
          rw [he, bindO_some]
          rcases hc with ⟨⟨i, hi, hg⟩, c, rfl, h2⟩ | ⟨hg, rfl⟩
          · refine ⟨_, rfl, ?_⟩
            rw [h2]
            constructor
            · intro q; cases q
            · intro q; exact absurd ((good_iff hk hn).2 q.2.2.2.2.1 i hi) hg
          · obtain ⟨e, he, hc⟩ := far_loop' hk (x := x) (by omega)
            have hg := (good_iff hk hn).1 hg
            show ∃ b, bindO (l110_0 k _) _ = some b ∧ _
            rw [he, bindO_some]
            rcases hc with ⟨hb, c, rfl, h2⟩ | ⟨hb, c, rfl⟩
            · refine ⟨_, rfl, ?_⟩
              rw [decide_eq_true h2]
              constructor
              · intro q; cases q
              · intro q; exact absurd q.2.2.2.2.2 hb
            · exact ⟨_, rfl, fun _ => ⟨hm, hf, hs, by omega, hg, hb⟩, fun _ => rfl⟩
      · rw [decide_eq_false hs, Bool.not_false, br_true]; exact ⟨_, rfl, by simp; intro _ _ h1 h2; exact absurd ⟨h1, h2⟩ hs⟩
    · rw [br_t (by simpa using hf)]; exact ⟨_, rfl, by simp [hf]⟩
  · rw [decide_eq_false hm, Bool.not_false, br_true]; exact ⟨_, rfl, by simp [hm]⟩
theorem f35_iff {k : Nat} (hk : 41 ≤ k) (x : GNode) : ∃ b, f35 k x = some b ∧ (b = true ↔ RightN x) := by
  by_cases hn : sizeB x.n = true
  · have hn' := size_cases hn
    have hw : IntKind.wrap .i64 (x.n - 1) = x.n - 1 := wrap_ok (by omega) (by omega)
    obtain ⟨b, hb, hf⟩ := tail_ok hk hn
    rw [f35_eq]
    simp only [f68_ok, f62_ok, bindO_some, hn, hb, hw]
    have no : ¬ ((0 ≤ x.id ∧ x.id ≤ x.n - 1) ∧ (0 ≤ x.view ∧ x.view ≤ 1000000) ∧ (0 ≤ x.last ∧ x.last ≤ x.view) ∧ (0 ≤ x.phase ∧ x.phase ≤ 2) ∧ (x.phase = 0 → x.last = x.view)) → (false = true ↔ RightN x) :=
      fun h => ⟨fun q => by (cases q), fun q => absurd ⟨q.id, q.view, q.last, q.phase, q.works⟩ h⟩
    have yes : ((0 ≤ x.id ∧ x.id ≤ x.n - 1) ∧ (0 ≤ x.view ∧ x.view ≤ 1000000) ∧ (0 ≤ x.last ∧ x.last ≤ x.view) ∧ (0 ≤ x.phase ∧ x.phase ≤ 2) ∧ (x.phase = 0 → x.last = x.view)) → (b = true ↔ RightN x) :=
      fun h => ⟨fun q => by
        obtain ⟨h1, h2, h3, h4, h5, h6⟩ := hf.1 q
        exact ⟨hn, h.1, h.2.1, h.2.2.1, h.2.2.2.1, h.2.2.2.2, h1, h2, h3, h4, h5.1, h5.2, h6⟩, fun q => hf.2 ⟨q.may, q.far, q.starts, q.votes, ⟨q.vs, q.nodup⟩, q.fars⟩⟩
    simp only [br_if, Bool.not_true, Bool.false_eq_true, if_false, decide_eq_true_eq, bne_iff_ne, ne_eq, Bool.not_eq_true', decide_eq_false_iff_not, beq_eq_false_iff_ne]
    repeat' split
    all_goals first
      | (refine ⟨_, rfl, no ?_⟩; omega)
      | (refine ⟨_, rfl, yes ?_⟩; omega)
  · have hn : sizeB x.n = false := by simpa using hn
    have no : (false = true ↔ RightN x) := ⟨fun q => by (cases q), fun q => by have := q.size; rw [hn] at this; cases this⟩
    rw [f35_eq]
    simp only [f68_ok, f62_ok, bindO_some, hn, br_if]
    repeat' split
    all_goals first | exact ⟨_, rfl, no⟩ | simp_all
theorem f35_right {k : Nat} (hk : 41 ≤ k) {x : GNode} (h : RightN x) : f35 k x = some true := by
  obtain ⟨b, h1, h2⟩ := f35_iff hk x
  rw [h1, h2.2 h]
theorem f35_wrong {k : Nat} (hk : 41 ≤ k) {x : GNode} (h : ¬ RightN x) : f35 k x = some false := by
  obtain ⟨b, h1, h2⟩ := f35_iff hk x
  rw [h1]
  cases b with
  | false => rfl
  | true => exact absurd (h2.1 rfl) h
theorem RightN.fit {k : Nat} (hk : 41 ≤ k) {x : GNode} (h : RightN x) : Fit k x := ⟨h.size, h.may.1, h.far, h.votes, (good_iff hk h.size).2 ⟨h.vs, h.nodup⟩⟩
theorem f49_right {k : Nat} (hk : 41 ≤ k) {x : GNode} (h : RightN x) : f49 k x = some (.ok ⟨x, []⟩) := f49_fit hk (f35_right hk h) (h.fit hk)
theorem f49_wrong {k : Nat} (hk : 41 ≤ k) {x : GNode} (h : ¬ RightN x) : f49 k x = some (.error 1) := by
  unfold f49
  rw [f35_wrong hk h, bindO_some]
  rfl
end Go.Proofs.Ytaooefnmdlajcaa

end
section
set_option linter.unusedVariables false
set_option linter.unusedSimpArgs false
namespace Go.Proofs.Ytaooefnmdlajcaa
open Go Go.Eng
def candP (c : GCandidate) (v : GVote) : GCandidate :=
  if c.any = true then (if v.last < c.vote.last ∨ (v.last = c.vote.last ∧ v.rows.length ≤ c.vote.rows.length) then c else ⟨v, true⟩) else ⟨v, true⟩
theorem f123_ok (k : Nat) (c : GCandidate) (v : GVote) : f123 k c v = some (candP c v) := by
  unfold f123 f131 candP
  simp only [br_if, bindO_some]
  cases c.any with
  | false => simp
  | true =>
    simp only [if_true, decide_eq_true_eq, beq_iff_eq]
    by_cases h1 : v.last < c.vote.last
    · rw [if_pos h1, if_pos (Or.inl h1)]
    · rw [if_neg h1]
      by_cases h2 : v.last = c.vote.last
      · rw [if_pos h2]
        by_cases h3 : ((v.rows.length : Int) ≤ (c.vote.rows.length : Int))
        · have h4 : v.last < c.vote.last ∨ (v.last = c.vote.last ∧ v.rows.length ≤ c.vote.rows.length) := by omega
          rw [if_pos h3, if_pos h4]
        · have h4 : ¬ (v.last < c.vote.last ∨ (v.last = c.vote.last ∧ v.rows.length ≤ c.vote.rows.length)) := by omega
          rw [if_neg h3, if_neg h4]
      · have h4 : ¬ (v.last < c.vote.last ∨ (v.last = c.vote.last ∧ v.rows.length ≤ c.vote.rows.length)) := by omega
        rw [if_neg h2, if_neg h4]
def bestP (l : List GVote) : GCandidate := l.foldl candP ⟨⟨0, 0, 0, []⟩, false⟩
theorem cand_mem (v : GVote) (c : GCandidate) : candP c v = c ∧ c.any = true ∨ candP c v = ⟨v, true⟩ := by
  unfold candP
  split
  · rename_i h
    split
    · exact .inl ⟨rfl, h⟩
    · exact .inr rfl
  · exact .inr rfl
theorem best_fold : ∀ (l : List GVote) (c : GCandidate), (l.foldl candP c = c ∧ (l = [] ∨ c.any = true)) ∨ ((l.foldl candP c).any = true ∧ (l.foldl candP c).vote ∈ l)
  | [], c => .inl ⟨rfl, .inl rfl⟩
  | v :: l, c => by
    rw [List.foldl_cons]
    rcases best_fold l (candP c v) with ⟨h, h2⟩ | ⟨h1, h2⟩
    · rw [h]
      rcases cand_mem v c with ⟨h3, h4⟩ | h3
      · rw [h3]; exact .inl ⟨rfl, .inr h4⟩
      · rw [h3]; exact .inr ⟨rfl, List.mem_cons_self ..⟩
    · exact .inr ⟨h1, List.mem_cons_of_mem _ h2⟩
theorem best_mem {l : List GVote} (h : l ≠ []) : (bestP l).vote ∈ l := by
  rcases best_fold l ⟨⟨0, 0, 0, []⟩, false⟩ with ⟨_, h2⟩ | h2
  · rcases h2 with h2 | h2
    · exact absurd h2 h
    · cases h2
  · exact h2.2
theorem best_rows {l : List GVote} {b : Nat} (h : ∀ v ∈ l, v.rows.length ≤ b) : (bestP l).vote.rows.length ≤ b := by
  by_cases h0 : l = []
  · subst h0; exact Nat.zero_le _
  · exact h _ (best_mem h0)
theorem f108_ok {k : Nat} (hk : 41 ≤ k) {l : List GVote} (hl : l.length ≤ 20) (hr : ∀ v ∈ l, v.rows.length ≤ 1000) : f108 k l = some ((bestP l).vote, (bestP l).any) := by
  have hlo := iter_to (stp := pS108_0 k) (fun i => S108_0.mk l (l.length : Int) (i : Int) 0 0 0 [] (bestP (l.take i)).vote.src (bestP (l.take i)).vote.last (bestP (l.take i)).vote.commit (bestP (l.take i)).vote.rows (bestP (l.take i)).any) l.length
    (e := E108_0.mk 0 0 0 [] (bestP l).vote.src (bestP l).vote.last (bestP l).vote.commit (bestP l).vote.rows (bestP l).any)
    (by
      intro i hi
      unfold pS108_0
      simp only [lt_len hi, in_len hi, br_true, Int.toNat_natCast]
      rw [f123_ok, bindO_some, next_ok (by omega), take_next hi]
      unfold bestP
      rw [List.foldl_append]
      rfl)
    (by
      unfold pS108_0
      simp only [end_len, br_false, List.take_length]) k (by omega)
  unfold f108 l108_0
  have e : (((0 : Nat) : Int)) = 0 := rfl
  rw [e] at hlo
  rw [show bestP (l.take 0) = ⟨⟨0, 0, 0, []⟩, false⟩ from rfl] at hlo
  rw [hlo, bindO_some]
  dsimp only
  rw [f116_ok (by dsimp only; have := best_rows hr; omega), bindO_some]
def begunM (x : GNode) : GMsg := ⟨6, 0, 0, 0, 0, 0, x.commit, x.rows⟩
def mostC (l : List GVote) : Int := l.foldl (fun c v => max2 c v.commit) 0
def begunA (a : GActor) : GActor :=
  workP ⟨⟨a.state.id, a.state.n, a.state.view, a.state.last, a.state.phase, min2 (mostC a.state.votes) (bestP a.state.votes).vote.rows.length, (bestP a.state.votes).vote.rows, a.state.far, a.state.starts, a.state.votes⟩, a.told⟩
noncomputable def beginsP (a : GActor) : GActor :=
  if a.state.view % a.state.n ≠ a.state.id ∨ enoughB (setOf a.state.votes) a.state.n = false then a else allP (begunA a) (begunM (begunA a).state)
theorem countP_id (a : GActor) : (countP a).state.id = a.state.id := by unfold countP; split <;> rfl
theorem countP_n (a : GActor) : (countP a).state.n = a.state.n := by unfold countP; split <;> rfl
theorem countP_rows (a : GActor) : (countP a).state.rows = a.state.rows := by unfold countP; split <;> rfl
theorem countP_told (a : GActor) : (countP a).told = a.told := by unfold countP; split <;> rfl
theorem f65_ok {k : Nat} (hk : 41 ≤ k) {a : GActor} (hn : sizeB a.state.n = true) (hid : 0 ≤ a.state.id ∧ a.state.id ≤ a.state.n - 1) (hv : 0 ≤ a.state.view)
    (hl : a.state.votes.length ≤ 20) (hs : ∀ v ∈ a.state.votes, 0 ≤ v.src ∧ v.src ≤ 6) (hr : ∀ v ∈ a.state.votes, v.rows.length ≤ 1000) (ht : a.told.length ≤ 900) : f65 k a = some (beginsP a) := by
  have hn' := size_cases hn
  have hlo := iter_to (stp := pS65_0 k) (fun i => S65_0.mk (setOf (a.state.votes.take i)) (mostC (a.state.votes.take i)) a.state.votes (a.state.votes.length : Int) (i : Int) a.state.id a.state.n a.state.view a.state.last a.state.phase a.state.commit a.state.rows a.state.starts a.state.votes a.state.far a.told) a.state.votes.length
    (e := E65_0.mk (setOf a.state.votes) (mostC a.state.votes) a.state.id a.state.n a.state.view a.state.last a.state.phase a.state.commit a.state.rows a.state.starts a.state.votes a.state.far a.told)
    (by
      intro i hi
      have hr := setOf_range (l := a.state.votes.take i) (fun v hv => hs v (List.mem_of_mem_take hv))
      unfold pS65_0
      simp only [lt_len hi, in_len hi, br_true, Int.toNat_natCast]
      rw [f60_one (by omega) hr (hs _ (getD_mem hi)), bindO_some, next_ok (by omega), take_next hi]
      unfold setOf mostC
      rw [List.foldl_append, List.foldl_append]
      rfl)
    (by
      unfold pS65_0
      simp only [end_len, br_false, List.take_length]) k (by omega)
  unfold f65 l65_0
  have e : (((0 : Nat) : Int)) = 0 := rfl
  rw [e] at hlo
  rw [show setOf (a.state.votes.take 0) = 0 from rfl, show mostC (a.state.votes.take 0) = 0 from rfl] at hlo
  rw [hlo, bindO_some]
  dsimp only
  rw [f118_ok k hn hv, bindO_some]
  unfold beginsP
  by_cases hld : a.state.view % a.state.n = a.state.id
  · dsimp only
    rw [br_f (by simpa using hld), f100_ok k (setOf_range hs) hn, bindO_some]
    cases he : enoughB (setOf a.state.votes) a.state.n with
    | false => rw [Bool.not_false, br_true, if_pos (.inr rfl)]
    | true =>
      have hb := best_rows hr
      rw [Bool.not_true, br_false, f108_ok hk hl hr, bindO_some, if_neg (by simpa using hld)]
      dsimp only
      have h101 := f101_ok k (a := ⟨⟨a.state.id, a.state.n, a.state.view, a.state.last, a.state.phase, min2 (mostC a.state.votes) (bestP a.state.votes).vote.rows.length, (bestP a.state.votes).vote.rows, a.state.far, a.state.starts, a.state.votes⟩, a.told⟩) hn hid hv
      rw [h101, bindO_some]
      have hw : workP ⟨⟨a.state.id, a.state.n, a.state.view, a.state.last, a.state.phase, min2 (mostC a.state.votes) (bestP a.state.votes).vote.rows.length, (bestP a.state.votes).vote.rows, a.state.far, a.state.starts, a.state.votes⟩, a.told⟩ = begunA a := rfl
      rw [hw]
      have h1 : (begunA a).state.n = a.state.n := countP_n _
      have h2 : (begunA a).state.rows = (bestP a.state.votes).vote.rows := countP_rows _
      have h3 : (begunA a).told = a.told := countP_told _
      rw [f67_ok hk (by rw [h1]; omega) (by rw [h3]; exact ht) (by dsimp only; rw [h2]; exact hb), bindO_some]
      rfl
  · dsimp only
    rw [br_t (by simpa using hld), if_pos (.inl hld)]
end Go.Proofs.Ytaooefnmdlajcaa

end
