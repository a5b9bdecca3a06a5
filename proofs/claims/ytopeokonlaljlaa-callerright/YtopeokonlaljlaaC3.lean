/- Right callers. -/
import Derived.Test.YtopeokonlaljlaaC2
set_option linter.unusedVariables false
set_option linter.unusedSimpArgs false
namespace Go.Proofs.Ytopeokonlaljlaa
open Go.Eng Go.Proofs

def isC (c : Caller) : Bool :=
  bif (!cWithin (Caller.n c) (1 : Int) (7 : Int)) then false
  else (bif (!cWithin (Caller.to c) (0 : Int) (Go.IntKind.wrap Go.IntKind.i64 (Caller.n c - (1 : Int)))) then false
    else (bif (!cWithin (Caller.wait c) (1 : Int) (100 : Int)) then false
      else (bif (!cWithin (Caller.left c) (0 : Int) (Caller.wait c)) then false
        else (bif (!cWithin (Caller.session c) (0 : Int) (1000000000 : Int)) then false
          else (bif (!cWithin (Caller.request c) (0 : Int) (1000000000 : Int)) then false
            else (bif (Caller.busy c) then (bif (decide (Caller.left c > (0 : Int))) then (bif (may (Caller.cmd c)) then (bif (Cmd.kind (Caller.cmd c) == (1 : Int)) then true
                    else (bif (Cmd.session (Caller.cmd c) == Caller.session c) then ((Cmd.request (Caller.cmd c) == Caller.request c))
                      else false))
                  else false)
                else false)
              else (bif (Caller.left c == (0 : Int)) then ((Cmd.session (Caller.cmd c) == (0 : Int) && (Cmd.request (Caller.cmd c) == (0 : Int) && (Cmd.kind (Caller.cmd c) == (0 : Int) && (Spot.bed (Cmd.spot (Caller.cmd c)) == (0 : Int) && Spot.channel (Cmd.spot (Caller.cmd c)) == (0 : Int) && (Cmd.prio (Caller.cmd c) == (0 : Int) && (Cmd.at_ (Caller.cmd c) == (0 : Int) && Cmd.long (Caller.cmd c) == (0 : Int))))))))
                else false)))))))
theorem isCCf : CfOk Try.prog (runG Try.prog (conΔ [concWithin, conmay]) 60 12) := runG_ok noNum mixed (conΔ_ok (List.forall_mem_cons.2 ⟨concWithin_ok, List.forall_mem_cons.2 ⟨conmay_ok, List.forall_mem_nil _⟩⟩)) _
theorem isC_w0 (c : Caller) : resOf (runG Try.prog (conΔ [concWithin, conmay]) 60 12 25 [.agg (Caller.cells c)] [] 0 [.go 0 true]) = some (.ret (.bool false), [(true, (!cWithin (Caller.n c) (1 : Int) (7 : Int)))]) := by kernel_rfl
theorem isC_w1 (c : Caller) : resOf (runG Try.prog (conΔ [concWithin, conmay]) 60 12 25 [.agg (Caller.cells c)] [] 0 [.go 0 false, .go 0 true]) = some (.ret (.bool false), [(false, (!cWithin (Caller.n c) (1 : Int) (7 : Int))), (true, (!cWithin (Caller.to c) (0 : Int) (Go.IntKind.wrap Go.IntKind.i64 (Caller.n c - (1 : Int)))))]) := by kernel_rfl
theorem isC_w2 (c : Caller) : resOf (runG Try.prog (conΔ [concWithin, conmay]) 60 12 25 [.agg (Caller.cells c)] [] 0 [.go 0 false, .go 0 false, .go 0 true]) = some (.ret (.bool false), [(false, (!cWithin (Caller.n c) (1 : Int) (7 : Int))), (false, (!cWithin (Caller.to c) (0 : Int) (Go.IntKind.wrap Go.IntKind.i64 (Caller.n c - (1 : Int))))), (true, (!cWithin (Caller.wait c) (1 : Int) (100 : Int)))]) := by kernel_rfl
theorem isC_w3 (c : Caller) : resOf (runG Try.prog (conΔ [concWithin, conmay]) 60 12 25 [.agg (Caller.cells c)] [] 0 [.go 0 false, .go 0 false, .go 0 false, .go 0 true]) = some (.ret (.bool false), [(false, (!cWithin (Caller.n c) (1 : Int) (7 : Int))), (false, (!cWithin (Caller.to c) (0 : Int) (Go.IntKind.wrap Go.IntKind.i64 (Caller.n c - (1 : Int))))), (false, (!cWithin (Caller.wait c) (1 : Int) (100 : Int))), (true, (!cWithin (Caller.left c) (0 : Int) (Caller.wait c)))]) := by kernel_rfl
theorem isC_w4 (c : Caller) : resOf (runG Try.prog (conΔ [concWithin, conmay]) 60 12 25 [.agg (Caller.cells c)] [] 0 [.go 0 false, .go 0 false, .go 0 false, .go 0 false, .go 0 true]) = some (.ret (.bool false), [(false, (!cWithin (Caller.n c) (1 : Int) (7 : Int))), (false, (!cWithin (Caller.to c) (0 : Int) (Go.IntKind.wrap Go.IntKind.i64 (Caller.n c - (1 : Int))))), (false, (!cWithin (Caller.wait c) (1 : Int) (100 : Int))), (false, (!cWithin (Caller.left c) (0 : Int) (Caller.wait c))), (true, (!cWithin (Caller.session c) (0 : Int) (1000000000 : Int)))]) := by kernel_rfl
theorem isC_w5 (c : Caller) : resOf (runG Try.prog (conΔ [concWithin, conmay]) 60 12 25 [.agg (Caller.cells c)] [] 0 [.go 0 false, .go 0 false, .go 0 false, .go 0 false, .go 0 false, .go 0 true]) = some (.ret (.bool false), [(false, (!cWithin (Caller.n c) (1 : Int) (7 : Int))), (false, (!cWithin (Caller.to c) (0 : Int) (Go.IntKind.wrap Go.IntKind.i64 (Caller.n c - (1 : Int))))), (false, (!cWithin (Caller.wait c) (1 : Int) (100 : Int))), (false, (!cWithin (Caller.left c) (0 : Int) (Caller.wait c))), (false, (!cWithin (Caller.session c) (0 : Int) (1000000000 : Int))), (true, (!cWithin (Caller.request c) (0 : Int) (1000000000 : Int)))]) := by kernel_rfl
theorem isC_w6 (c : Caller) : resOf (runG Try.prog (conΔ [concWithin, conmay]) 60 12 25 [.agg (Caller.cells c)] [] 0 [.go 0 false, .go 0 false, .go 0 false, .go 0 false, .go 0 false, .go 0 false, .go 0 true, .go 0 true, .go 0 true, .go 0 true]) = some (.ret (.bool true), [(false, (!cWithin (Caller.n c) (1 : Int) (7 : Int))), (false, (!cWithin (Caller.to c) (0 : Int) (Go.IntKind.wrap Go.IntKind.i64 (Caller.n c - (1 : Int))))), (false, (!cWithin (Caller.wait c) (1 : Int) (100 : Int))), (false, (!cWithin (Caller.left c) (0 : Int) (Caller.wait c))), (false, (!cWithin (Caller.session c) (0 : Int) (1000000000 : Int))), (false, (!cWithin (Caller.request c) (0 : Int) (1000000000 : Int))), (true, (Caller.busy c)), (true, (decide (Caller.left c > (0 : Int)))), (true, (may (Caller.cmd c))), (true, (Cmd.kind (Caller.cmd c) == (1 : Int)))]) := by kernel_rfl
theorem isC_w7 (c : Caller) : resOf (runG Try.prog (conΔ [concWithin, conmay]) 60 12 25 [.agg (Caller.cells c)] [] 0 [.go 0 false, .go 0 false, .go 0 false, .go 0 false, .go 0 false, .go 0 false, .go 0 true, .go 0 true, .go 0 true, .go 0 false, .go 0 true]) = some (.ret (.bool (Cmd.request (Caller.cmd c) == Caller.request c)), [(false, (!cWithin (Caller.n c) (1 : Int) (7 : Int))), (false, (!cWithin (Caller.to c) (0 : Int) (Go.IntKind.wrap Go.IntKind.i64 (Caller.n c - (1 : Int))))), (false, (!cWithin (Caller.wait c) (1 : Int) (100 : Int))), (false, (!cWithin (Caller.left c) (0 : Int) (Caller.wait c))), (false, (!cWithin (Caller.session c) (0 : Int) (1000000000 : Int))), (false, (!cWithin (Caller.request c) (0 : Int) (1000000000 : Int))), (true, (Caller.busy c)), (true, (decide (Caller.left c > (0 : Int)))), (true, (may (Caller.cmd c))), (false, (Cmd.kind (Caller.cmd c) == (1 : Int))), (true, (Cmd.session (Caller.cmd c) == Caller.session c))]) := by kernel_rfl
theorem isC_w8 (c : Caller) : resOf (runG Try.prog (conΔ [concWithin, conmay]) 60 12 25 [.agg (Caller.cells c)] [] 0 [.go 0 false, .go 0 false, .go 0 false, .go 0 false, .go 0 false, .go 0 false, .go 0 true, .go 0 true, .go 0 true, .go 0 false, .go 0 false]) = some (.ret (.bool false), [(false, (!cWithin (Caller.n c) (1 : Int) (7 : Int))), (false, (!cWithin (Caller.to c) (0 : Int) (Go.IntKind.wrap Go.IntKind.i64 (Caller.n c - (1 : Int))))), (false, (!cWithin (Caller.wait c) (1 : Int) (100 : Int))), (false, (!cWithin (Caller.left c) (0 : Int) (Caller.wait c))), (false, (!cWithin (Caller.session c) (0 : Int) (1000000000 : Int))), (false, (!cWithin (Caller.request c) (0 : Int) (1000000000 : Int))), (true, (Caller.busy c)), (true, (decide (Caller.left c > (0 : Int)))), (true, (may (Caller.cmd c))), (false, (Cmd.kind (Caller.cmd c) == (1 : Int))), (false, (Cmd.session (Caller.cmd c) == Caller.session c))]) := by kernel_rfl
theorem isC_w9 (c : Caller) : resOf (runG Try.prog (conΔ [concWithin, conmay]) 60 12 25 [.agg (Caller.cells c)] [] 0 [.go 0 false, .go 0 false, .go 0 false, .go 0 false, .go 0 false, .go 0 false, .go 0 true, .go 0 true, .go 0 false]) = some (.ret (.bool false), [(false, (!cWithin (Caller.n c) (1 : Int) (7 : Int))), (false, (!cWithin (Caller.to c) (0 : Int) (Go.IntKind.wrap Go.IntKind.i64 (Caller.n c - (1 : Int))))), (false, (!cWithin (Caller.wait c) (1 : Int) (100 : Int))), (false, (!cWithin (Caller.left c) (0 : Int) (Caller.wait c))), (false, (!cWithin (Caller.session c) (0 : Int) (1000000000 : Int))), (false, (!cWithin (Caller.request c) (0 : Int) (1000000000 : Int))), (true, (Caller.busy c)), (true, (decide (Caller.left c > (0 : Int)))), (false, (may (Caller.cmd c)))]) := by kernel_rfl
theorem isC_w10 (c : Caller) : resOf (runG Try.prog (conΔ [concWithin, conmay]) 60 12 25 [.agg (Caller.cells c)] [] 0 [.go 0 false, .go 0 false, .go 0 false, .go 0 false, .go 0 false, .go 0 false, .go 0 true, .go 0 false]) = some (.ret (.bool false), [(false, (!cWithin (Caller.n c) (1 : Int) (7 : Int))), (false, (!cWithin (Caller.to c) (0 : Int) (Go.IntKind.wrap Go.IntKind.i64 (Caller.n c - (1 : Int))))), (false, (!cWithin (Caller.wait c) (1 : Int) (100 : Int))), (false, (!cWithin (Caller.left c) (0 : Int) (Caller.wait c))), (false, (!cWithin (Caller.session c) (0 : Int) (1000000000 : Int))), (false, (!cWithin (Caller.request c) (0 : Int) (1000000000 : Int))), (true, (Caller.busy c)), (false, (decide (Caller.left c > (0 : Int))))]) := by kernel_rfl
theorem isC_w11 (c : Caller) : resOf (runG Try.prog (conΔ [concWithin, conmay]) 60 12 25 [.agg (Caller.cells c)] [] 0 [.go 0 false, .go 0 false, .go 0 false, .go 0 false, .go 0 false, .go 0 false, .go 0 false, .go 0 true]) = some (.ret (.bool (Cmd.session (Caller.cmd c) == (0 : Int) && (Cmd.request (Caller.cmd c) == (0 : Int) && (Cmd.kind (Caller.cmd c) == (0 : Int) && (Spot.bed (Cmd.spot (Caller.cmd c)) == (0 : Int) && Spot.channel (Cmd.spot (Caller.cmd c)) == (0 : Int) && (Cmd.prio (Caller.cmd c) == (0 : Int) && (Cmd.at_ (Caller.cmd c) == (0 : Int) && Cmd.long (Caller.cmd c) == (0 : Int)))))))), [(false, (!cWithin (Caller.n c) (1 : Int) (7 : Int))), (false, (!cWithin (Caller.to c) (0 : Int) (Go.IntKind.wrap Go.IntKind.i64 (Caller.n c - (1 : Int))))), (false, (!cWithin (Caller.wait c) (1 : Int) (100 : Int))), (false, (!cWithin (Caller.left c) (0 : Int) (Caller.wait c))), (false, (!cWithin (Caller.session c) (0 : Int) (1000000000 : Int))), (false, (!cWithin (Caller.request c) (0 : Int) (1000000000 : Int))), (false, (Caller.busy c)), (true, (Caller.left c == (0 : Int)))]) := by kernel_rfl
theorem isC_w12 (c : Caller) : resOf (runG Try.prog (conΔ [concWithin, conmay]) 60 12 25 [.agg (Caller.cells c)] [] 0 [.go 0 false, .go 0 false, .go 0 false, .go 0 false, .go 0 false, .go 0 false, .go 0 false, .go 0 false]) = some (.ret (.bool false), [(false, (!cWithin (Caller.n c) (1 : Int) (7 : Int))), (false, (!cWithin (Caller.to c) (0 : Int) (Go.IntKind.wrap Go.IntKind.i64 (Caller.n c - (1 : Int))))), (false, (!cWithin (Caller.wait c) (1 : Int) (100 : Int))), (false, (!cWithin (Caller.left c) (0 : Int) (Caller.wait c))), (false, (!cWithin (Caller.session c) (0 : Int) (1000000000 : Int))), (false, (!cWithin (Caller.request c) (0 : Int) (1000000000 : Int))), (false, (Caller.busy c)), (false, (Caller.left c == (0 : Int)))]) := by kernel_rfl
theorem isC_ok (c : Caller)  (h : Heap) (n : Nat) : CallOk Try.prog 25 [.agg (Caller.cells c)] h n (.ret (.bool (isC c))) h n := by
  rcases Bool.eq_false_or_eq_true (!cWithin (Caller.n c) (1 : Int) (7 : Int)) with h0 | h0
  · 
    have e : isC c = false := by simp only [isC, h0, cond]
    rw [e]
    exact way isCCf (isC_w0 c) (conds_cons h0.symm conds_nil) rfl rfl h n
  · 
    rcases Bool.eq_false_or_eq_true (!cWithin (Caller.to c) (0 : Int) (Go.IntKind.wrap Go.IntKind.i64 (Caller.n c - (1 : Int)))) with h1 | h1
    · 
      have e : isC c = false := by simp only [isC, h0, h1, cond]
      rw [e]
      exact way isCCf (isC_w1 c) (conds_cons h0.symm (conds_cons h1.symm conds_nil)) rfl rfl h n
    · 
      rcases Bool.eq_false_or_eq_true (!cWithin (Caller.wait c) (1 : Int) (100 : Int)) with h2 | h2
      · 
        have e : isC c = false := by simp only [isC, h0, h1, h2, cond]
        rw [e]
        exact way isCCf (isC_w2 c) (conds_cons h0.symm (conds_cons h1.symm (conds_cons h2.symm conds_nil))) rfl rfl h n
      · 
        rcases Bool.eq_false_or_eq_true (!cWithin (Caller.left c) (0 : Int) (Caller.wait c)) with h3 | h3
        · 
          have e : isC c = false := by simp only [isC, h0, h1, h2, h3, cond]
          rw [e]
          exact way isCCf (isC_w3 c) (conds_cons h0.symm (conds_cons h1.symm (conds_cons h2.symm (conds_cons h3.symm conds_nil)))) rfl rfl h n
        · 
          rcases Bool.eq_false_or_eq_true (!cWithin (Caller.session c) (0 : Int) (1000000000 : Int)) with h4 | h4
          · 
            have e : isC c = false := by simp only [isC, h0, h1, h2, h3, h4, cond]
            rw [e]
            exact way isCCf (isC_w4 c) (conds_cons h0.symm (conds_cons h1.symm (conds_cons h2.symm (conds_cons h3.symm (conds_cons h4.symm conds_nil))))) rfl rfl h n
          · 
            rcases Bool.eq_false_or_eq_true (!cWithin (Caller.request c) (0 : Int) (1000000000 : Int)) with h5 | h5
            · 
              have e : isC c = false := by simp only [isC, h0, h1, h2, h3, h4, h5, cond]
              rw [e]
              exact way isCCf (isC_w5 c) (conds_cons h0.symm (conds_cons h1.symm (conds_cons h2.symm (conds_cons h3.symm (conds_cons h4.symm (conds_cons h5.symm conds_nil)))))) rfl rfl h n
            · 
              rcases Bool.eq_false_or_eq_true (Caller.busy c) with h6 | h6
              · 
                rcases Bool.eq_false_or_eq_true (decide (Caller.left c > (0 : Int))) with h7 | h7
                · 
                  rcases Bool.eq_false_or_eq_true (may (Caller.cmd c)) with h8 | h8
                  · 
                    rcases Bool.eq_false_or_eq_true (Cmd.kind (Caller.cmd c) == (1 : Int)) with h9 | h9
                    · 
                      have e : isC c = true := by simp only [isC, h0, h1, h2, h3, h4, h5, h6, h7, h8, h9, cond]
                      rw [e]
                      exact way isCCf (isC_w6 c) (conds_cons h0.symm (conds_cons h1.symm (conds_cons h2.symm (conds_cons h3.symm (conds_cons h4.symm (conds_cons h5.symm (conds_cons h6.symm (conds_cons h7.symm (conds_cons h8.symm (conds_cons h9.symm conds_nil)))))))))) rfl rfl h n
                    · 
                      rcases Bool.eq_false_or_eq_true (Cmd.session (Caller.cmd c) == Caller.session c) with h10 | h10
                      · 
                        have e : isC c = (Cmd.request (Caller.cmd c) == Caller.request c) := by simp only [isC, h0, h1, h2, h3, h4, h5, h6, h7, h8, h9, h10, cond]
                        rw [e]
                        exact way isCCf (isC_w7 c) (conds_cons h0.symm (conds_cons h1.symm (conds_cons h2.symm (conds_cons h3.symm (conds_cons h4.symm (conds_cons h5.symm (conds_cons h6.symm (conds_cons h7.symm (conds_cons h8.symm (conds_cons h9.symm (conds_cons h10.symm conds_nil))))))))))) rfl rfl h n
                      · 
                        have e : isC c = false := by simp only [isC, h0, h1, h2, h3, h4, h5, h6, h7, h8, h9, h10, cond]
                        rw [e]
                        exact way isCCf (isC_w8 c) (conds_cons h0.symm (conds_cons h1.symm (conds_cons h2.symm (conds_cons h3.symm (conds_cons h4.symm (conds_cons h5.symm (conds_cons h6.symm (conds_cons h7.symm (conds_cons h8.symm (conds_cons h9.symm (conds_cons h10.symm conds_nil))))))))))) rfl rfl h n
                  · 
                    have e : isC c = false := by simp only [isC, h0, h1, h2, h3, h4, h5, h6, h7, h8, cond]
                    rw [e]
                    exact way isCCf (isC_w9 c) (conds_cons h0.symm (conds_cons h1.symm (conds_cons h2.symm (conds_cons h3.symm (conds_cons h4.symm (conds_cons h5.symm (conds_cons h6.symm (conds_cons h7.symm (conds_cons h8.symm conds_nil))))))))) rfl rfl h n
                · 
                  have e : isC c = false := by simp only [isC, h0, h1, h2, h3, h4, h5, h6, h7, cond]
                  rw [e]
                  exact way isCCf (isC_w10 c) (conds_cons h0.symm (conds_cons h1.symm (conds_cons h2.symm (conds_cons h3.symm (conds_cons h4.symm (conds_cons h5.symm (conds_cons h6.symm (conds_cons h7.symm conds_nil)))))))) rfl rfl h n
              · 
                rcases Bool.eq_false_or_eq_true (Caller.left c == (0 : Int)) with h7 | h7
                · 
                  have e : isC c = (Cmd.session (Caller.cmd c) == (0 : Int) && (Cmd.request (Caller.cmd c) == (0 : Int) && (Cmd.kind (Caller.cmd c) == (0 : Int) && (Spot.bed (Cmd.spot (Caller.cmd c)) == (0 : Int) && Spot.channel (Cmd.spot (Caller.cmd c)) == (0 : Int) && (Cmd.prio (Caller.cmd c) == (0 : Int) && (Cmd.at_ (Caller.cmd c) == (0 : Int) && Cmd.long (Caller.cmd c) == (0 : Int))))))) := by simp only [isC, h0, h1, h2, h3, h4, h5, h6, h7, cond]
                  rw [e]
                  exact way isCCf (isC_w11 c) (conds_cons h0.symm (conds_cons h1.symm (conds_cons h2.symm (conds_cons h3.symm (conds_cons h4.symm (conds_cons h5.symm (conds_cons h6.symm (conds_cons h7.symm conds_nil)))))))) rfl rfl h n
                · 
                  have e : isC c = false := by simp only [isC, h0, h1, h2, h3, h4, h5, h6, h7, cond]
                  rw [e]
                  exact way isCCf (isC_w12 c) (conds_cons h0.symm (conds_cons h1.symm (conds_cons h2.symm (conds_cons h3.symm (conds_cons h4.symm (conds_cons h5.symm (conds_cons h6.symm (conds_cons h7.symm conds_nil)))))))) rfl rfl h n
def conisC : Con := (25, fun l => match l with
  | [x0] => (match Caller.of x0 with | some s0 => some (.bool (isC s0)) | none => none)
  | _ => none)
theorem conisC_ok : ConOk Try.prog conisC := by
  intro l v e h n
  simp only [conisC] at e
  split at e
  · skip
    split at e
    · rename_i s0 es0
      cases e
      cases Caller.of_eq es0
      exact isC_ok _ h n
    · cases e
  · cases e

def rIsC (c : Caller) : Bool :=
  bif (!r26in (Caller.n c) (1 : Int) (7 : Int)) then false
  else (bif (!r26in (Caller.to c) (0 : Int) (Go.IntKind.wrap Go.IntKind.i64 (Caller.n c - (1 : Int)))) then false
    else (bif (!r26in (Caller.wait c) (1 : Int) (100 : Int)) then false
      else (bif (!r26in (Caller.left c) (0 : Int) (Caller.wait c)) then false
        else (bif (!r26in (Caller.session c) (0 : Int) (1000000000 : Int)) then false
          else (bif (!r26in (Caller.request c) (0 : Int) (1000000000 : Int)) then false
            else (bif (!Caller.busy c) then (bif (Caller.left c == (0 : Int)) then ((Cmd.session (Caller.cmd c) == (0 : Int) && (Cmd.request (Caller.cmd c) == (0 : Int) && (Cmd.kind (Caller.cmd c) == (0 : Int) && (Spot.bed (Cmd.spot (Caller.cmd c)) == (0 : Int) && Spot.channel (Cmd.spot (Caller.cmd c)) == (0 : Int) && (Cmd.prio (Caller.cmd c) == (0 : Int) && (Cmd.at_ (Caller.cmd c) == (0 : Int) && Cmd.long (Caller.cmd c) == (0 : Int))))))))
                else false)
              else (bif (Caller.left c == (0 : Int)) then false
                else (bif (!rMay (Caller.cmd c)) then false
                  else (bif (Cmd.kind (Caller.cmd c) == (1 : Int)) then true
                    else (bif (Cmd.session (Caller.cmd c) == Caller.session c) then ((Cmd.request (Caller.cmd c) == Caller.request c))
                      else false))))))))))
theorem rIsCCf : CfOk Try.prog (runG Try.prog (conΔ [conr26in, conrMay]) 60 12) := runG_ok noNum mixed (conΔ_ok (List.forall_mem_cons.2 ⟨conr26in_ok, List.forall_mem_cons.2 ⟨conrMay_ok, List.forall_mem_nil _⟩⟩)) _
theorem rIsC_w0 (c : Caller) : resOf (runG Try.prog (conΔ [conr26in, conrMay]) 60 12 26 [.agg (Caller.cells c)] [] 0 [.go 0 true]) = some (.ret (.bool false), [(true, (!r26in (Caller.n c) (1 : Int) (7 : Int)))]) := by kernel_rfl
theorem rIsC_w1 (c : Caller) : resOf (runG Try.prog (conΔ [conr26in, conrMay]) 60 12 26 [.agg (Caller.cells c)] [] 0 [.go 0 false, .go 0 true]) = some (.ret (.bool false), [(false, (!r26in (Caller.n c) (1 : Int) (7 : Int))), (true, (!r26in (Caller.to c) (0 : Int) (Go.IntKind.wrap Go.IntKind.i64 (Caller.n c - (1 : Int)))))]) := by kernel_rfl
theorem rIsC_w2 (c : Caller) : resOf (runG Try.prog (conΔ [conr26in, conrMay]) 60 12 26 [.agg (Caller.cells c)] [] 0 [.go 0 false, .go 0 false, .go 0 true]) = some (.ret (.bool false), [(false, (!r26in (Caller.n c) (1 : Int) (7 : Int))), (false, (!r26in (Caller.to c) (0 : Int) (Go.IntKind.wrap Go.IntKind.i64 (Caller.n c - (1 : Int))))), (true, (!r26in (Caller.wait c) (1 : Int) (100 : Int)))]) := by kernel_rfl
theorem rIsC_w3 (c : Caller) : resOf (runG Try.prog (conΔ [conr26in, conrMay]) 60 12 26 [.agg (Caller.cells c)] [] 0 [.go 0 false, .go 0 false, .go 0 false, .go 0 true]) = some (.ret (.bool false), [(false, (!r26in (Caller.n c) (1 : Int) (7 : Int))), (false, (!r26in (Caller.to c) (0 : Int) (Go.IntKind.wrap Go.IntKind.i64 (Caller.n c - (1 : Int))))), (false, (!r26in (Caller.wait c) (1 : Int) (100 : Int))), (true, (!r26in (Caller.left c) (0 : Int) (Caller.wait c)))]) := by kernel_rfl
theorem rIsC_w4 (c : Caller) : resOf (runG Try.prog (conΔ [conr26in, conrMay]) 60 12 26 [.agg (Caller.cells c)] [] 0 [.go 0 false, .go 0 false, .go 0 false, .go 0 false, .go 0 true]) = some (.ret (.bool false), [(false, (!r26in (Caller.n c) (1 : Int) (7 : Int))), (false, (!r26in (Caller.to c) (0 : Int) (Go.IntKind.wrap Go.IntKind.i64 (Caller.n c - (1 : Int))))), (false, (!r26in (Caller.wait c) (1 : Int) (100 : Int))), (false, (!r26in (Caller.left c) (0 : Int) (Caller.wait c))), (true, (!r26in (Caller.session c) (0 : Int) (1000000000 : Int)))]) := by kernel_rfl
theorem rIsC_w5 (c : Caller) : resOf (runG Try.prog (conΔ [conr26in, conrMay]) 60 12 26 [.agg (Caller.cells c)] [] 0 [.go 0 false, .go 0 false, .go 0 false, .go 0 false, .go 0 false, .go 0 true]) = some (.ret (.bool false), [(false, (!r26in (Caller.n c) (1 : Int) (7 : Int))), (false, (!r26in (Caller.to c) (0 : Int) (Go.IntKind.wrap Go.IntKind.i64 (Caller.n c - (1 : Int))))), (false, (!r26in (Caller.wait c) (1 : Int) (100 : Int))), (false, (!r26in (Caller.left c) (0 : Int) (Caller.wait c))), (false, (!r26in (Caller.session c) (0 : Int) (1000000000 : Int))), (true, (!r26in (Caller.request c) (0 : Int) (1000000000 : Int)))]) := by kernel_rfl
theorem rIsC_w6 (c : Caller) : resOf (runG Try.prog (conΔ [conr26in, conrMay]) 60 12 26 [.agg (Caller.cells c)] [] 0 [.go 0 false, .go 0 false, .go 0 false, .go 0 false, .go 0 false, .go 0 false, .go 0 true, .go 0 true]) = some (.ret (.bool (Cmd.session (Caller.cmd c) == (0 : Int) && (Cmd.request (Caller.cmd c) == (0 : Int) && (Cmd.kind (Caller.cmd c) == (0 : Int) && (Spot.bed (Cmd.spot (Caller.cmd c)) == (0 : Int) && Spot.channel (Cmd.spot (Caller.cmd c)) == (0 : Int) && (Cmd.prio (Caller.cmd c) == (0 : Int) && (Cmd.at_ (Caller.cmd c) == (0 : Int) && Cmd.long (Caller.cmd c) == (0 : Int)))))))), [(false, (!r26in (Caller.n c) (1 : Int) (7 : Int))), (false, (!r26in (Caller.to c) (0 : Int) (Go.IntKind.wrap Go.IntKind.i64 (Caller.n c - (1 : Int))))), (false, (!r26in (Caller.wait c) (1 : Int) (100 : Int))), (false, (!r26in (Caller.left c) (0 : Int) (Caller.wait c))), (false, (!r26in (Caller.session c) (0 : Int) (1000000000 : Int))), (false, (!r26in (Caller.request c) (0 : Int) (1000000000 : Int))), (true, (!Caller.busy c)), (true, (Caller.left c == (0 : Int)))]) := by kernel_rfl
theorem rIsC_w7 (c : Caller) : resOf (runG Try.prog (conΔ [conr26in, conrMay]) 60 12 26 [.agg (Caller.cells c)] [] 0 [.go 0 false, .go 0 false, .go 0 false, .go 0 false, .go 0 false, .go 0 false, .go 0 true, .go 0 false]) = some (.ret (.bool false), [(false, (!r26in (Caller.n c) (1 : Int) (7 : Int))), (false, (!r26in (Caller.to c) (0 : Int) (Go.IntKind.wrap Go.IntKind.i64 (Caller.n c - (1 : Int))))), (false, (!r26in (Caller.wait c) (1 : Int) (100 : Int))), (false, (!r26in (Caller.left c) (0 : Int) (Caller.wait c))), (false, (!r26in (Caller.session c) (0 : Int) (1000000000 : Int))), (false, (!r26in (Caller.request c) (0 : Int) (1000000000 : Int))), (true, (!Caller.busy c)), (false, (Caller.left c == (0 : Int)))]) := by kernel_rfl
theorem rIsC_w8 (c : Caller) : resOf (runG Try.prog (conΔ [conr26in, conrMay]) 60 12 26 [.agg (Caller.cells c)] [] 0 [.go 0 false, .go 0 false, .go 0 false, .go 0 false, .go 0 false, .go 0 false, .go 0 false, .go 0 true]) = some (.ret (.bool false), [(false, (!r26in (Caller.n c) (1 : Int) (7 : Int))), (false, (!r26in (Caller.to c) (0 : Int) (Go.IntKind.wrap Go.IntKind.i64 (Caller.n c - (1 : Int))))), (false, (!r26in (Caller.wait c) (1 : Int) (100 : Int))), (false, (!r26in (Caller.left c) (0 : Int) (Caller.wait c))), (false, (!r26in (Caller.session c) (0 : Int) (1000000000 : Int))), (false, (!r26in (Caller.request c) (0 : Int) (1000000000 : Int))), (false, (!Caller.busy c)), (true, (Caller.left c == (0 : Int)))]) := by kernel_rfl
theorem rIsC_w9 (c : Caller) : resOf (runG Try.prog (conΔ [conr26in, conrMay]) 60 12 26 [.agg (Caller.cells c)] [] 0 [.go 0 false, .go 0 false, .go 0 false, .go 0 false, .go 0 false, .go 0 false, .go 0 false, .go 0 false, .go 0 true]) = some (.ret (.bool false), [(false, (!r26in (Caller.n c) (1 : Int) (7 : Int))), (false, (!r26in (Caller.to c) (0 : Int) (Go.IntKind.wrap Go.IntKind.i64 (Caller.n c - (1 : Int))))), (false, (!r26in (Caller.wait c) (1 : Int) (100 : Int))), (false, (!r26in (Caller.left c) (0 : Int) (Caller.wait c))), (false, (!r26in (Caller.session c) (0 : Int) (1000000000 : Int))), (false, (!r26in (Caller.request c) (0 : Int) (1000000000 : Int))), (false, (!Caller.busy c)), (false, (Caller.left c == (0 : Int))), (true, (!rMay (Caller.cmd c)))]) := by kernel_rfl
theorem rIsC_w10 (c : Caller) : resOf (runG Try.prog (conΔ [conr26in, conrMay]) 60 12 26 [.agg (Caller.cells c)] [] 0 [.go 0 false, .go 0 false, .go 0 false, .go 0 false, .go 0 false, .go 0 false, .go 0 false, .go 0 false, .go 0 false, .go 0 true]) = some (.ret (.bool true), [(false, (!r26in (Caller.n c) (1 : Int) (7 : Int))), (false, (!r26in (Caller.to c) (0 : Int) (Go.IntKind.wrap Go.IntKind.i64 (Caller.n c - (1 : Int))))), (false, (!r26in (Caller.wait c) (1 : Int) (100 : Int))), (false, (!r26in (Caller.left c) (0 : Int) (Caller.wait c))), (false, (!r26in (Caller.session c) (0 : Int) (1000000000 : Int))), (false, (!r26in (Caller.request c) (0 : Int) (1000000000 : Int))), (false, (!Caller.busy c)), (false, (Caller.left c == (0 : Int))), (false, (!rMay (Caller.cmd c))), (true, (Cmd.kind (Caller.cmd c) == (1 : Int)))]) := by kernel_rfl
theorem rIsC_w11 (c : Caller) : resOf (runG Try.prog (conΔ [conr26in, conrMay]) 60 12 26 [.agg (Caller.cells c)] [] 0 [.go 0 false, .go 0 false, .go 0 false, .go 0 false, .go 0 false, .go 0 false, .go 0 false, .go 0 false, .go 0 false, .go 0 false, .go 0 true]) = some (.ret (.bool (Cmd.request (Caller.cmd c) == Caller.request c)), [(false, (!r26in (Caller.n c) (1 : Int) (7 : Int))), (false, (!r26in (Caller.to c) (0 : Int) (Go.IntKind.wrap Go.IntKind.i64 (Caller.n c - (1 : Int))))), (false, (!r26in (Caller.wait c) (1 : Int) (100 : Int))), (false, (!r26in (Caller.left c) (0 : Int) (Caller.wait c))), (false, (!r26in (Caller.session c) (0 : Int) (1000000000 : Int))), (false, (!r26in (Caller.request c) (0 : Int) (1000000000 : Int))), (false, (!Caller.busy c)), (false, (Caller.left c == (0 : Int))), (false, (!rMay (Caller.cmd c))), (false, (Cmd.kind (Caller.cmd c) == (1 : Int))), (true, (Cmd.session (Caller.cmd c) == Caller.session c))]) := by kernel_rfl
theorem rIsC_w12 (c : Caller) : resOf (runG Try.prog (conΔ [conr26in, conrMay]) 60 12 26 [.agg (Caller.cells c)] [] 0 [.go 0 false, .go 0 false, .go 0 false, .go 0 false, .go 0 false, .go 0 false, .go 0 false, .go 0 false, .go 0 false, .go 0 false, .go 0 false]) = some (.ret (.bool false), [(false, (!r26in (Caller.n c) (1 : Int) (7 : Int))), (false, (!r26in (Caller.to c) (0 : Int) (Go.IntKind.wrap Go.IntKind.i64 (Caller.n c - (1 : Int))))), (false, (!r26in (Caller.wait c) (1 : Int) (100 : Int))), (false, (!r26in (Caller.left c) (0 : Int) (Caller.wait c))), (false, (!r26in (Caller.session c) (0 : Int) (1000000000 : Int))), (false, (!r26in (Caller.request c) (0 : Int) (1000000000 : Int))), (false, (!Caller.busy c)), (false, (Caller.left c == (0 : Int))), (false, (!rMay (Caller.cmd c))), (false, (Cmd.kind (Caller.cmd c) == (1 : Int))), (false, (Cmd.session (Caller.cmd c) == Caller.session c))]) := by kernel_rfl
theorem rIsC_ok (c : Caller)  (h : Heap) (n : Nat) : CallOk Try.prog 26 [.agg (Caller.cells c)] h n (.ret (.bool (rIsC c))) h n := by
  rcases Bool.eq_false_or_eq_true (!r26in (Caller.n c) (1 : Int) (7 : Int)) with h0 | h0
  · 
    have e : rIsC c = false := by simp only [rIsC, h0, cond]
    rw [e]
    exact way rIsCCf (rIsC_w0 c) (conds_cons h0.symm conds_nil) rfl rfl h n
  · 
    rcases Bool.eq_false_or_eq_true (!r26in (Caller.to c) (0 : Int) (Go.IntKind.wrap Go.IntKind.i64 (Caller.n c - (1 : Int)))) with h1 | h1
    · 
      have e : rIsC c = false := by simp only [rIsC, h0, h1, cond]
      rw [e]
      exact way rIsCCf (rIsC_w1 c) (conds_cons h0.symm (conds_cons h1.symm conds_nil)) rfl rfl h n
    · 
      rcases Bool.eq_false_or_eq_true (!r26in (Caller.wait c) (1 : Int) (100 : Int)) with h2 | h2
      · 
        have e : rIsC c = false := by simp only [rIsC, h0, h1, h2, cond]
        rw [e]
        exact way rIsCCf (rIsC_w2 c) (conds_cons h0.symm (conds_cons h1.symm (conds_cons h2.symm conds_nil))) rfl rfl h n
      · 
        rcases Bool.eq_false_or_eq_true (!r26in (Caller.left c) (0 : Int) (Caller.wait c)) with h3 | h3
        · 
          have e : rIsC c = false := by simp only [rIsC, h0, h1, h2, h3, cond]
          rw [e]
          exact way rIsCCf (rIsC_w3 c) (conds_cons h0.symm (conds_cons h1.symm (conds_cons h2.symm (conds_cons h3.symm conds_nil)))) rfl rfl h n
        · 
          rcases Bool.eq_false_or_eq_true (!r26in (Caller.session c) (0 : Int) (1000000000 : Int)) with h4 | h4
          · 
            have e : rIsC c = false := by simp only [rIsC, h0, h1, h2, h3, h4, cond]
            rw [e]
            exact way rIsCCf (rIsC_w4 c) (conds_cons h0.symm (conds_cons h1.symm (conds_cons h2.symm (conds_cons h3.symm (conds_cons h4.symm conds_nil))))) rfl rfl h n
          · 
            rcases Bool.eq_false_or_eq_true (!r26in (Caller.request c) (0 : Int) (1000000000 : Int)) with h5 | h5
            · 
              have e : rIsC c = false := by simp only [rIsC, h0, h1, h2, h3, h4, h5, cond]
              rw [e]
              exact way rIsCCf (rIsC_w5 c) (conds_cons h0.symm (conds_cons h1.symm (conds_cons h2.symm (conds_cons h3.symm (conds_cons h4.symm (conds_cons h5.symm conds_nil)))))) rfl rfl h n
            · 
              rcases Bool.eq_false_or_eq_true (!Caller.busy c) with h6 | h6
              · 
                rcases Bool.eq_false_or_eq_true (Caller.left c == (0 : Int)) with h7 | h7
                · 
                  have e : rIsC c = (Cmd.session (Caller.cmd c) == (0 : Int) && (Cmd.request (Caller.cmd c) == (0 : Int) && (Cmd.kind (Caller.cmd c) == (0 : Int) && (Spot.bed (Cmd.spot (Caller.cmd c)) == (0 : Int) && Spot.channel (Cmd.spot (Caller.cmd c)) == (0 : Int) && (Cmd.prio (Caller.cmd c) == (0 : Int) && (Cmd.at_ (Caller.cmd c) == (0 : Int) && Cmd.long (Caller.cmd c) == (0 : Int))))))) := by simp only [rIsC, h0, h1, h2, h3, h4, h5, h6, h7, cond]
                  rw [e]
                  exact way rIsCCf (rIsC_w6 c) (conds_cons h0.symm (conds_cons h1.symm (conds_cons h2.symm (conds_cons h3.symm (conds_cons h4.symm (conds_cons h5.symm (conds_cons h6.symm (conds_cons h7.symm conds_nil)))))))) rfl rfl h n
                · 
                  have e : rIsC c = false := by simp only [rIsC, h0, h1, h2, h3, h4, h5, h6, h7, cond]
                  rw [e]
                  exact way rIsCCf (rIsC_w7 c) (conds_cons h0.symm (conds_cons h1.symm (conds_cons h2.symm (conds_cons h3.symm (conds_cons h4.symm (conds_cons h5.symm (conds_cons h6.symm (conds_cons h7.symm conds_nil)))))))) rfl rfl h n
              · 
                rcases Bool.eq_false_or_eq_true (Caller.left c == (0 : Int)) with h7 | h7
                · 
                  have e : rIsC c = false := by simp only [rIsC, h0, h1, h2, h3, h4, h5, h6, h7, cond]
                  rw [e]
                  exact way rIsCCf (rIsC_w8 c) (conds_cons h0.symm (conds_cons h1.symm (conds_cons h2.symm (conds_cons h3.symm (conds_cons h4.symm (conds_cons h5.symm (conds_cons h6.symm (conds_cons h7.symm conds_nil)))))))) rfl rfl h n
                · 
                  rcases Bool.eq_false_or_eq_true (!rMay (Caller.cmd c)) with h8 | h8
                  · 
                    have e : rIsC c = false := by simp only [rIsC, h0, h1, h2, h3, h4, h5, h6, h7, h8, cond]
                    rw [e]
                    exact way rIsCCf (rIsC_w9 c) (conds_cons h0.symm (conds_cons h1.symm (conds_cons h2.symm (conds_cons h3.symm (conds_cons h4.symm (conds_cons h5.symm (conds_cons h6.symm (conds_cons h7.symm (conds_cons h8.symm conds_nil))))))))) rfl rfl h n
                  · 
                    rcases Bool.eq_false_or_eq_true (Cmd.kind (Caller.cmd c) == (1 : Int)) with h9 | h9
                    · 
                      have e : rIsC c = true := by simp only [rIsC, h0, h1, h2, h3, h4, h5, h6, h7, h8, h9, cond]
                      rw [e]
                      exact way rIsCCf (rIsC_w10 c) (conds_cons h0.symm (conds_cons h1.symm (conds_cons h2.symm (conds_cons h3.symm (conds_cons h4.symm (conds_cons h5.symm (conds_cons h6.symm (conds_cons h7.symm (conds_cons h8.symm (conds_cons h9.symm conds_nil)))))))))) rfl rfl h n
                    · 
                      rcases Bool.eq_false_or_eq_true (Cmd.session (Caller.cmd c) == Caller.session c) with h10 | h10
                      · 
                        have e : rIsC c = (Cmd.request (Caller.cmd c) == Caller.request c) := by simp only [rIsC, h0, h1, h2, h3, h4, h5, h6, h7, h8, h9, h10, cond]
                        rw [e]
                        exact way rIsCCf (rIsC_w11 c) (conds_cons h0.symm (conds_cons h1.symm (conds_cons h2.symm (conds_cons h3.symm (conds_cons h4.symm (conds_cons h5.symm (conds_cons h6.symm (conds_cons h7.symm (conds_cons h8.symm (conds_cons h9.symm (conds_cons h10.symm conds_nil))))))))))) rfl rfl h n
                      · 
                        have e : rIsC c = false := by simp only [rIsC, h0, h1, h2, h3, h4, h5, h6, h7, h8, h9, h10, cond]
                        rw [e]
                        exact way rIsCCf (rIsC_w12 c) (conds_cons h0.symm (conds_cons h1.symm (conds_cons h2.symm (conds_cons h3.symm (conds_cons h4.symm (conds_cons h5.symm (conds_cons h6.symm (conds_cons h7.symm (conds_cons h8.symm (conds_cons h9.symm (conds_cons h10.symm conds_nil))))))))))) rfl rfl h n
def conrIsC : Con := (26, fun l => match l with
  | [x0] => (match Caller.of x0 with | some s0 => some (.bool (rIsC s0)) | none => none)
  | _ => none)
theorem conrIsC_ok : ConOk Try.prog conrIsC := by
  intro l v e h n
  simp only [conrIsC] at e
  split at e
  · skip
    split at e
    · rename_i s0 es0
      cases e
      cases Caller.of_eq es0
      exact rIsC_ok _ h n
    · cases e
  · cases e

end Go.Proofs.Ytopeokonlaljlaa
