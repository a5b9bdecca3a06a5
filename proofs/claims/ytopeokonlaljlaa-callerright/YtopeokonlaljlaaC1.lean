/- Bounds. -/
import Derived.Test.YtopeokonlaljlaaC0
set_option linter.unusedVariables false
set_option linter.unusedSimpArgs false
namespace Go.Proofs.Ytopeokonlaljlaa
open Go.Eng Go.Proofs

def mWithin (a : Int) (b : Int) (c : Int) : Bool :=
  bif (decide (a ≥ b)) then ((decide (a ≤ c)))
  else false
theorem mWithinCf : CfOk Try.prog (runG Try.prog (conΔ []) 60 12) := runG_ok noNum mixed (conΔ_ok (fun c hc => by cases hc)) _
theorem mWithin_w0 (a : Int) (b : Int) (c : Int) : resOf (runG Try.prog (conΔ []) 60 12 59 [.int .i64 a, .int .i64 b, .int .i64 c] [] 0 [.go 0 true]) = some (.ret (.bool (decide (a ≤ c))), [(true, (decide (a ≥ b)))]) := by kernel_rfl
theorem mWithin_w1 (a : Int) (b : Int) (c : Int) : resOf (runG Try.prog (conΔ []) 60 12 59 [.int .i64 a, .int .i64 b, .int .i64 c] [] 0 [.go 0 false]) = some (.ret (.bool false), [(false, (decide (a ≥ b)))]) := by kernel_rfl
theorem mWithin_ok (a : Int) (b : Int) (c : Int)  (h : Heap) (n : Nat) : CallOk Try.prog 59 [.int .i64 a, .int .i64 b, .int .i64 c] h n (.ret (.bool (mWithin a b c))) h n := by
  rcases Bool.eq_false_or_eq_true (decide (a ≥ b)) with h0 | h0
  · 
    have e : mWithin a b c = (decide (a ≤ c)) := by simp only [mWithin, h0, cond]
    rw [e]
    exact way mWithinCf (mWithin_w0 a b c) (conds_cons h0.symm conds_nil) rfl rfl h n
  · 
    have e : mWithin a b c = false := by simp only [mWithin, h0, cond]
    rw [e]
    exact way mWithinCf (mWithin_w1 a b c) (conds_cons h0.symm conds_nil) rfl rfl h n
def conmWithin : Con := (59, fun l => match l with
  | [.int .i64 s0, .int .i64 s1, .int .i64 s2] => some (.bool (mWithin s0 s1 s2))
  | _ => none)
theorem conmWithin_ok : ConOk Try.prog conmWithin := by
  intro l v e h n
  simp only [conmWithin] at e
  split at e
  · skip
    cases e
    exact mWithin_ok _ _ _ h n
  · cases e

def cWithin (a : Int) (b : Int) (c : Int) : Bool :=
  bif (decide (a ≥ b)) then ((decide (a ≤ c)))
  else false
theorem cWithinCf : CfOk Try.prog (runG Try.prog (conΔ []) 60 12) := runG_ok noNum mixed (conΔ_ok (fun c hc => by cases hc)) _
theorem cWithin_w0 (a : Int) (b : Int) (c : Int) : resOf (runG Try.prog (conΔ []) 60 12 44 [.int .i64 a, .int .i64 b, .int .i64 c] [] 0 [.go 0 true]) = some (.ret (.bool (decide (a ≤ c))), [(true, (decide (a ≥ b)))]) := by kernel_rfl
theorem cWithin_w1 (a : Int) (b : Int) (c : Int) : resOf (runG Try.prog (conΔ []) 60 12 44 [.int .i64 a, .int .i64 b, .int .i64 c] [] 0 [.go 0 false]) = some (.ret (.bool false), [(false, (decide (a ≥ b)))]) := by kernel_rfl
theorem cWithin_ok (a : Int) (b : Int) (c : Int)  (h : Heap) (n : Nat) : CallOk Try.prog 44 [.int .i64 a, .int .i64 b, .int .i64 c] h n (.ret (.bool (cWithin a b c))) h n := by
  rcases Bool.eq_false_or_eq_true (decide (a ≥ b)) with h0 | h0
  · 
    have e : cWithin a b c = (decide (a ≤ c)) := by simp only [cWithin, h0, cond]
    rw [e]
    exact way cWithinCf (cWithin_w0 a b c) (conds_cons h0.symm conds_nil) rfl rfl h n
  · 
    have e : cWithin a b c = false := by simp only [cWithin, h0, cond]
    rw [e]
    exact way cWithinCf (cWithin_w1 a b c) (conds_cons h0.symm conds_nil) rfl rfl h n
def concWithin : Con := (44, fun l => match l with
  | [.int .i64 s0, .int .i64 s1, .int .i64 s2] => some (.bool (cWithin s0 s1 s2))
  | _ => none)
theorem concWithin_ok : ConOk Try.prog concWithin := by
  intro l v e h n
  simp only [concWithin] at e
  split at e
  · skip
    cases e
    exact cWithin_ok _ _ _ h n
  · cases e

def r26in (a : Int) (b : Int) (c : Int) : Bool :=
  bif (decide (a ≥ b)) then ((decide (a ≤ c)))
  else false
theorem r26inCf : CfOk Try.prog (runG Try.prog (conΔ []) 60 12) := runG_ok noNum mixed (conΔ_ok (fun c hc => by cases hc)) _
theorem r26in_w0 (a : Int) (b : Int) (c : Int) : resOf (runG Try.prog (conΔ []) 60 12 48 [.int .i64 a, .int .i64 b, .int .i64 c] [] 0 [.go 0 true]) = some (.ret (.bool (decide (a ≤ c))), [(true, (decide (a ≥ b)))]) := by kernel_rfl
theorem r26in_w1 (a : Int) (b : Int) (c : Int) : resOf (runG Try.prog (conΔ []) 60 12 48 [.int .i64 a, .int .i64 b, .int .i64 c] [] 0 [.go 0 false]) = some (.ret (.bool false), [(false, (decide (a ≥ b)))]) := by kernel_rfl
theorem r26in_ok (a : Int) (b : Int) (c : Int)  (h : Heap) (n : Nat) : CallOk Try.prog 48 [.int .i64 a, .int .i64 b, .int .i64 c] h n (.ret (.bool (r26in a b c))) h n := by
  rcases Bool.eq_false_or_eq_true (decide (a ≥ b)) with h0 | h0
  · 
    have e : r26in a b c = (decide (a ≤ c)) := by simp only [r26in, h0, cond]
    rw [e]
    exact way r26inCf (r26in_w0 a b c) (conds_cons h0.symm conds_nil) rfl rfl h n
  · 
    have e : r26in a b c = false := by simp only [r26in, h0, cond]
    rw [e]
    exact way r26inCf (r26in_w1 a b c) (conds_cons h0.symm conds_nil) rfl rfl h n
def conr26in : Con := (48, fun l => match l with
  | [.int .i64 s0, .int .i64 s1, .int .i64 s2] => some (.bool (r26in s0 s1 s2))
  | _ => none)
theorem conr26in_ok : ConOk Try.prog conr26in := by
  intro l v e h n
  simp only [conr26in] at e
  split at e
  · skip
    cases e
    exact r26in_ok _ _ _ h n
  · cases e

def r19in (a : Int) (b : Int) (c : Int) : Bool :=
  bif (decide (a ≥ b)) then ((decide (a ≤ c)))
  else false
theorem r19inCf : CfOk Try.prog (runG Try.prog (conΔ []) 60 12) := runG_ok noNum mixed (conΔ_ok (fun c hc => by cases hc)) _
theorem r19in_w0 (a : Int) (b : Int) (c : Int) : resOf (runG Try.prog (conΔ []) 60 12 61 [.int .i64 a, .int .i64 b, .int .i64 c] [] 0 [.go 0 true]) = some (.ret (.bool (decide (a ≤ c))), [(true, (decide (a ≥ b)))]) := by kernel_rfl
theorem r19in_w1 (a : Int) (b : Int) (c : Int) : resOf (runG Try.prog (conΔ []) 60 12 61 [.int .i64 a, .int .i64 b, .int .i64 c] [] 0 [.go 0 false]) = some (.ret (.bool false), [(false, (decide (a ≥ b)))]) := by kernel_rfl
theorem r19in_ok (a : Int) (b : Int) (c : Int)  (h : Heap) (n : Nat) : CallOk Try.prog 61 [.int .i64 a, .int .i64 b, .int .i64 c] h n (.ret (.bool (r19in a b c))) h n := by
  rcases Bool.eq_false_or_eq_true (decide (a ≥ b)) with h0 | h0
  · 
    have e : r19in a b c = (decide (a ≤ c)) := by simp only [r19in, h0, cond]
    rw [e]
    exact way r19inCf (r19in_w0 a b c) (conds_cons h0.symm conds_nil) rfl rfl h n
  · 
    have e : r19in a b c = false := by simp only [r19in, h0, cond]
    rw [e]
    exact way r19inCf (r19in_w1 a b c) (conds_cons h0.symm conds_nil) rfl rfl h n
def conr19in : Con := (61, fun l => match l with
  | [.int .i64 s0, .int .i64 s1, .int .i64 s2] => some (.bool (r19in s0 s1 s2))
  | _ => none)
theorem conr19in_ok : ConOk Try.prog conr19in := by
  intro l v e h n
  simp only [conr19in] at e
  split at e
  · skip
    cases e
    exact r19in_ok _ _ _ h n
  · cases e

def spotIs (s : Spot) : Bool :=
  bif (decide (Spot.bed s ≥ (1 : Int))) then (bif (decide (Spot.bed s ≤ (99 : Int))) then (bif (decide (Spot.channel s ≥ (0 : Int))) then ((decide (Spot.channel s < (8 : Int))))
      else false)
    else false)
  else false
theorem spotIsCf : CfOk Try.prog (runG Try.prog (conΔ []) 60 12) := runG_ok noNum mixed (conΔ_ok (fun c hc => by cases hc)) _
theorem spotIs_w0 (s : Spot) : resOf (runG Try.prog (conΔ []) 60 12 60 [.agg (Spot.cells s)] [] 0 [.go 0 true, .go 0 true, .go 0 true]) = some (.ret (.bool (decide (Spot.channel s < (8 : Int)))), [(true, (decide (Spot.bed s ≥ (1 : Int)))), (true, (decide (Spot.bed s ≤ (99 : Int)))), (true, (decide (Spot.channel s ≥ (0 : Int))))]) := by kernel_rfl
theorem spotIs_w1 (s : Spot) : resOf (runG Try.prog (conΔ []) 60 12 60 [.agg (Spot.cells s)] [] 0 [.go 0 true, .go 0 true, .go 0 false]) = some (.ret (.bool false), [(true, (decide (Spot.bed s ≥ (1 : Int)))), (true, (decide (Spot.bed s ≤ (99 : Int)))), (false, (decide (Spot.channel s ≥ (0 : Int))))]) := by kernel_rfl
theorem spotIs_w2 (s : Spot) : resOf (runG Try.prog (conΔ []) 60 12 60 [.agg (Spot.cells s)] [] 0 [.go 0 true, .go 0 false]) = some (.ret (.bool false), [(true, (decide (Spot.bed s ≥ (1 : Int)))), (false, (decide (Spot.bed s ≤ (99 : Int))))]) := by kernel_rfl
theorem spotIs_w3 (s : Spot) : resOf (runG Try.prog (conΔ []) 60 12 60 [.agg (Spot.cells s)] [] 0 [.go 0 false]) = some (.ret (.bool false), [(false, (decide (Spot.bed s ≥ (1 : Int))))]) := by kernel_rfl
theorem spotIs_ok (s : Spot)  (h : Heap) (n : Nat) : CallOk Try.prog 60 [.agg (Spot.cells s)] h n (.ret (.bool (spotIs s))) h n := by
  rcases Bool.eq_false_or_eq_true (decide (Spot.bed s ≥ (1 : Int))) with h0 | h0
  · 
    rcases Bool.eq_false_or_eq_true (decide (Spot.bed s ≤ (99 : Int))) with h1 | h1
    · 
      rcases Bool.eq_false_or_eq_true (decide (Spot.channel s ≥ (0 : Int))) with h2 | h2
      · 
        have e : spotIs s = (decide (Spot.channel s < (8 : Int))) := by simp only [spotIs, h0, h1, h2, cond]
        rw [e]
        exact way spotIsCf (spotIs_w0 s) (conds_cons h0.symm (conds_cons h1.symm (conds_cons h2.symm conds_nil))) rfl rfl h n
      · 
        have e : spotIs s = false := by simp only [spotIs, h0, h1, h2, cond]
        rw [e]
        exact way spotIsCf (spotIs_w1 s) (conds_cons h0.symm (conds_cons h1.symm (conds_cons h2.symm conds_nil))) rfl rfl h n
    · 
      have e : spotIs s = false := by simp only [spotIs, h0, h1, cond]
      rw [e]
      exact way spotIsCf (spotIs_w2 s) (conds_cons h0.symm (conds_cons h1.symm conds_nil)) rfl rfl h n
  · 
    have e : spotIs s = false := by simp only [spotIs, h0, cond]
    rw [e]
    exact way spotIsCf (spotIs_w3 s) (conds_cons h0.symm conds_nil) rfl rfl h n
def conspotIs : Con := (60, fun l => match l with
  | [x0] => (match Spot.of x0 with | some s0 => some (.bool (spotIs s0)) | none => none)
  | _ => none)
theorem conspotIs_ok : ConOk Try.prog conspotIs := by
  intro l v e h n
  simp only [conspotIs] at e
  split at e
  · skip
    split at e
    · rename_i s0 es0
      cases e
      cases Spot.of_eq es0
      exact spotIs_ok _ h n
    · cases e
  · cases e

def r04Is (s : Spot) : Bool :=
  bif (decide (Spot.bed s ≥ (1 : Int))) then (bif (decide (Spot.bed s ≤ (99 : Int))) then (bif (decide (Spot.channel s ≥ (0 : Int))) then ((decide (Spot.channel s ≤ (7 : Int))))
      else false)
    else false)
  else false
theorem r04IsCf : CfOk Try.prog (runG Try.prog (conΔ []) 60 12) := runG_ok noNum mixed (conΔ_ok (fun c hc => by cases hc)) _
theorem r04Is_w0 (s : Spot) : resOf (runG Try.prog (conΔ []) 60 12 62 [.agg (Spot.cells s)] [] 0 [.go 0 true, .go 0 true, .go 0 true]) = some (.ret (.bool (decide (Spot.channel s ≤ (7 : Int)))), [(true, (decide (Spot.bed s ≥ (1 : Int)))), (true, (decide (Spot.bed s ≤ (99 : Int)))), (true, (decide (Spot.channel s ≥ (0 : Int))))]) := by kernel_rfl
theorem r04Is_w1 (s : Spot) : resOf (runG Try.prog (conΔ []) 60 12 62 [.agg (Spot.cells s)] [] 0 [.go 0 true, .go 0 true, .go 0 false]) = some (.ret (.bool false), [(true, (decide (Spot.bed s ≥ (1 : Int)))), (true, (decide (Spot.bed s ≤ (99 : Int)))), (false, (decide (Spot.channel s ≥ (0 : Int))))]) := by kernel_rfl
theorem r04Is_w2 (s : Spot) : resOf (runG Try.prog (conΔ []) 60 12 62 [.agg (Spot.cells s)] [] 0 [.go 0 true, .go 0 false]) = some (.ret (.bool false), [(true, (decide (Spot.bed s ≥ (1 : Int)))), (false, (decide (Spot.bed s ≤ (99 : Int))))]) := by kernel_rfl
theorem r04Is_w3 (s : Spot) : resOf (runG Try.prog (conΔ []) 60 12 62 [.agg (Spot.cells s)] [] 0 [.go 0 false]) = some (.ret (.bool false), [(false, (decide (Spot.bed s ≥ (1 : Int))))]) := by kernel_rfl
theorem r04Is_ok (s : Spot)  (h : Heap) (n : Nat) : CallOk Try.prog 62 [.agg (Spot.cells s)] h n (.ret (.bool (r04Is s))) h n := by
  rcases Bool.eq_false_or_eq_true (decide (Spot.bed s ≥ (1 : Int))) with h0 | h0
  · 
    rcases Bool.eq_false_or_eq_true (decide (Spot.bed s ≤ (99 : Int))) with h1 | h1
    · 
      rcases Bool.eq_false_or_eq_true (decide (Spot.channel s ≥ (0 : Int))) with h2 | h2
      · 
        have e : r04Is s = (decide (Spot.channel s ≤ (7 : Int))) := by simp only [r04Is, h0, h1, h2, cond]
        rw [e]
        exact way r04IsCf (r04Is_w0 s) (conds_cons h0.symm (conds_cons h1.symm (conds_cons h2.symm conds_nil))) rfl rfl h n
      · 
        have e : r04Is s = false := by simp only [r04Is, h0, h1, h2, cond]
        rw [e]
        exact way r04IsCf (r04Is_w1 s) (conds_cons h0.symm (conds_cons h1.symm (conds_cons h2.symm conds_nil))) rfl rfl h n
    · 
      have e : r04Is s = false := by simp only [r04Is, h0, h1, cond]
      rw [e]
      exact way r04IsCf (r04Is_w2 s) (conds_cons h0.symm (conds_cons h1.symm conds_nil)) rfl rfl h n
  · 
    have e : r04Is s = false := by simp only [r04Is, h0, cond]
    rw [e]
    exact way r04IsCf (r04Is_w3 s) (conds_cons h0.symm conds_nil) rfl rfl h n
def conr04Is : Con := (62, fun l => match l with
  | [x0] => (match Spot.of x0 with | some s0 => some (.bool (r04Is s0)) | none => none)
  | _ => none)
theorem conr04Is_ok : ConOk Try.prog conr04Is := by
  intro l v e h n
  simp only [conr04Is] at e
  split at e
  · skip
    split at e
    · rename_i s0 es0
      cases e
      cases Spot.of_eq es0
      exact r04Is_ok _ h n
    · cases e
  · cases e

def called  : Bool :=
  true
theorem calledCf : CfOk Try.prog (runG Try.prog (conΔ []) 60 12) := runG_ok noNum mixed (conΔ_ok (fun c hc => by cases hc)) _
theorem called_w0  : resOf (runG Try.prog (conΔ []) 60 12 24 [] [] 0 []) = some (.ret (.bool true), [(true, true), (true, true), (true, true), (true, true), (true, true), (true, true), (false, false), (true, true), (true, true), (true, true), (true, true), (true, true), (true, true), (true, true), (true, true), (true, true), (true, true), (false, false), (true, true), (true, true), (true, true), (true, true), (true, true), (true, true)]) := by kernel_rfl
theorem called_ok   (h : Heap) (n : Nat) : CallOk Try.prog 24 [] h n (.ret (.bool called)) h n := by
  have e : called  = true := by simp only [called, cond]
  rw [e]
  exact way calledCf (called_w0 ) (conds_cons rfl (conds_cons rfl (conds_cons rfl (conds_cons rfl (conds_cons rfl (conds_cons rfl (conds_cons rfl (conds_cons rfl (conds_cons rfl (conds_cons rfl (conds_cons rfl (conds_cons rfl (conds_cons rfl (conds_cons rfl (conds_cons rfl (conds_cons rfl (conds_cons rfl (conds_cons rfl (conds_cons rfl (conds_cons rfl (conds_cons rfl (conds_cons rfl (conds_cons rfl (conds_cons rfl conds_nil)))))))))))))))))))))))) rfl rfl h n
def concalled : Con := (24, fun l => match l with
  | [] => some (.bool called)
  | _ => none)
theorem concalled_ok : ConOk Try.prog concalled := by
  intro l v e h n
  simp only [concalled] at e
  split at e
  · skip
    cases e
    exact called_ok  h n
  · cases e

end Go.Proofs.Ytopeokonlaljlaa
