/- What a caller does. -/
import Derived.Test.YtopeokonlaljlaaC3
set_option linter.unusedVariables false
set_option linter.unusedSimpArgs false
namespace Go.Proofs.Ytopeokonlaljlaa
open Go.Eng Go.Proofs

theorem isC_n {c : Caller} (h : isC c = true) : c.n ≠ 0 := by
  intro e
  simp [isC, cWithin, e] at h
theorem rIsC_n {c : Caller} (h : rIsC c = true) : c.n ≠ 0 := by
  intro e
  simp [rIsC, r26in, e] at h

def ask (c : Caller) (x : Cmd) : Caller × Cmd × Int :=
  bif (Cmd.kind x != (1 : Int)) then (bif (!isC c) then (((⟨0, 0, false, (⟨0, 0, 0, (⟨0, 0⟩ : Spot), 0, 0, 0⟩ : Cmd), 0, 0, 0, 0⟩ : Caller), (⟨0, 0, 0, (⟨0, 0⟩ : Spot), 0, 0, 0⟩ : Cmd), 1))
    else (bif (Caller.busy c) then (((⟨0, 0, false, (⟨0, 0, 0, (⟨0, 0⟩ : Spot), 0, 0, 0⟩ : Cmd), 0, 0, 0, 0⟩ : Caller), (⟨0, 0, 0, (⟨0, 0⟩ : Spot), 0, 0, 0⟩ : Cmd), 81))
      else (bif (Caller.session c == (0 : Int)) then (((⟨0, 0, false, (⟨0, 0, 0, (⟨0, 0⟩ : Spot), 0, 0, 0⟩ : Cmd), 0, 0, 0, 0⟩ : Caller), (⟨0, 0, 0, (⟨0, 0⟩ : Spot), 0, 0, 0⟩ : Cmd), 181))
        else (bif (decide (Go.IntKind.wrap Go.IntKind.i64 (Caller.request c + (1 : Int)) > (1000000000 : Int))) then (((⟨0, 0, false, (⟨0, 0, 0, (⟨0, 0⟩ : Spot), 0, 0, 0⟩ : Cmd), 0, 0, 0, 0⟩ : Caller), (⟨0, 0, 0, (⟨0, 0⟩ : Spot), 0, 0, 0⟩ : Cmd), 2))
          else (bif (!may (Cmd.mk (Caller.session c) (Go.IntKind.wrap Go.IntKind.i64 (Caller.request c + (1 : Int))) (Cmd.kind x) (Cmd.spot x) (Cmd.prio x) (Cmd.at_ x) (Cmd.long x))) then (((⟨0, 0, false, (⟨0, 0, 0, (⟨0, 0⟩ : Spot), 0, 0, 0⟩ : Cmd), 0, 0, 0, 0⟩ : Caller), (⟨0, 0, 0, (⟨0, 0⟩ : Spot), 0, 0, 0⟩ : Cmd), 1))
            else (((⟨(Caller.session c), (Go.IntKind.wrap Go.IntKind.i64 (Caller.request c + (1 : Int))), true, (⟨(Caller.session c), (Go.IntKind.wrap Go.IntKind.i64 (Caller.request c + (1 : Int))), (Cmd.kind x), (Cmd.spot x), (Cmd.prio x), (Cmd.at_ x), (Cmd.long x)⟩ : Cmd), (Caller.to c), (Caller.n c), (Caller.wait c), (Caller.wait c)⟩ : Caller), (⟨(Caller.session c), (Go.IntKind.wrap Go.IntKind.i64 (Caller.request c + (1 : Int))), (Cmd.kind x), (Cmd.spot x), (Cmd.prio x), (Cmd.at_ x), (Cmd.long x)⟩ : Cmd), 0)))))))
  else (bif (!isC c) then (((⟨0, 0, false, (⟨0, 0, 0, (⟨0, 0⟩ : Spot), 0, 0, 0⟩ : Cmd), 0, 0, 0, 0⟩ : Caller), (⟨0, 0, 0, (⟨0, 0⟩ : Spot), 0, 0, 0⟩ : Cmd), 1))
    else (bif (Caller.busy c) then (((⟨0, 0, false, (⟨0, 0, 0, (⟨0, 0⟩ : Spot), 0, 0, 0⟩ : Cmd), 0, 0, 0, 0⟩ : Caller), (⟨0, 0, 0, (⟨0, 0⟩ : Spot), 0, 0, 0⟩ : Cmd), 81))
      else (bif (!may x) then (((⟨0, 0, false, (⟨0, 0, 0, (⟨0, 0⟩ : Spot), 0, 0, 0⟩ : Cmd), 0, 0, 0, 0⟩ : Caller), (⟨0, 0, 0, (⟨0, 0⟩ : Spot), 0, 0, 0⟩ : Cmd), 1))
        else (((⟨(Caller.session c), 0, true, x, (Caller.to c), (Caller.n c), (Caller.wait c), (Caller.wait c)⟩ : Caller), x, 0)))))
theorem askCf : CfOk Try.prog (runG Try.prog (conΔ [conisC, conmay]) 60 12) := runG_ok noNum mixed (conΔ_ok (List.forall_mem_cons.2 ⟨conisC_ok, List.forall_mem_cons.2 ⟨conmay_ok, List.forall_mem_nil _⟩⟩)) _
theorem ask_w0 (c : Caller) (x : Cmd) : resOf (runG Try.prog (conΔ [conisC, conmay]) 60 12 14 [.agg (Caller.cells c), .agg (Cmd.cells x)] [] 0 [.go 0 true, .go 0 true]) = some (.ret (.tup [.agg [.int .i64 0, .int .i64 0, .bool false, .int .i64 0, .int .i64 0, .int .i64 0, .int .i64 0, .int .i64 0, .int .i64 0, .int .i64 0, .int .i64 0, .int .i64 0, .int .i64 0, .int .i64 0, .int .i64 0], .agg [.int .i64 0, .int .i64 0, .int .i64 0, .int .i64 0, .int .i64 0, .int .i64 0, .int .i64 0, .int .i64 0], .int .i64 1]), [(true, (Cmd.kind x != (1 : Int))), (true, (!isC c))]) := by kernel_rfl
theorem ask_w1 (c : Caller) (x : Cmd) : resOf (runG Try.prog (conΔ [conisC, conmay]) 60 12 14 [.agg (Caller.cells c), .agg (Cmd.cells x)] [] 0 [.go 0 true, .go 0 false, .go 0 true]) = some (.ret (.tup [.agg [.int .i64 0, .int .i64 0, .bool false, .int .i64 0, .int .i64 0, .int .i64 0, .int .i64 0, .int .i64 0, .int .i64 0, .int .i64 0, .int .i64 0, .int .i64 0, .int .i64 0, .int .i64 0, .int .i64 0], .agg [.int .i64 0, .int .i64 0, .int .i64 0, .int .i64 0, .int .i64 0, .int .i64 0, .int .i64 0, .int .i64 0], .int .i64 81]), [(true, (Cmd.kind x != (1 : Int))), (false, (!isC c)), (true, (Caller.busy c))]) := by kernel_rfl
theorem ask_w2 (c : Caller) (x : Cmd) : resOf (runG Try.prog (conΔ [conisC, conmay]) 60 12 14 [.agg (Caller.cells c), .agg (Cmd.cells x)] [] 0 [.go 0 true, .go 0 false, .go 0 false, .go 0 true, .go 0 true]) = some (.ret (.tup [.agg [.int .i64 0, .int .i64 0, .bool false, .int .i64 0, .int .i64 0, .int .i64 0, .int .i64 0, .int .i64 0, .int .i64 0, .int .i64 0, .int .i64 0, .int .i64 0, .int .i64 0, .int .i64 0, .int .i64 0], .agg [.int .i64 0, .int .i64 0, .int .i64 0, .int .i64 0, .int .i64 0, .int .i64 0, .int .i64 0, .int .i64 0], .int .i64 181]), [(true, (Cmd.kind x != (1 : Int))), (false, (!isC c)), (false, (Caller.busy c)), (true, (Cmd.kind x != (1 : Int))), (true, (Caller.session c == (0 : Int)))]) := by kernel_rfl
theorem ask_w3 (c : Caller) (x : Cmd) : resOf (runG Try.prog (conΔ [conisC, conmay]) 60 12 14 [.agg (Caller.cells c), .agg (Cmd.cells x)] [] 0 [.go 0 true, .go 0 false, .go 0 false, .go 0 true, .go 0 false, .go 0 true]) = some (.ret (.tup [.agg [.int .i64 0, .int .i64 0, .bool false, .int .i64 0, .int .i64 0, .int .i64 0, .int .i64 0, .int .i64 0, .int .i64 0, .int .i64 0, .int .i64 0, .int .i64 0, .int .i64 0, .int .i64 0, .int .i64 0], .agg [.int .i64 0, .int .i64 0, .int .i64 0, .int .i64 0, .int .i64 0, .int .i64 0, .int .i64 0, .int .i64 0], .int .i64 2]), [(true, (Cmd.kind x != (1 : Int))), (false, (!isC c)), (false, (Caller.busy c)), (true, (Cmd.kind x != (1 : Int))), (false, (Caller.session c == (0 : Int))), (true, (decide (Go.IntKind.wrap Go.IntKind.i64 (Caller.request c + (1 : Int)) > (1000000000 : Int))))]) := by kernel_rfl
theorem ask_w4 (c : Caller) (x : Cmd) : resOf (runG Try.prog (conΔ [conisC, conmay]) 60 12 14 [.agg (Caller.cells c), .agg (Cmd.cells x)] [] 0 [.go 0 true, .go 0 false, .go 0 false, .go 0 true, .go 0 false, .go 0 false, .go 0 true]) = some (.ret (.tup [.agg [.int .i64 0, .int .i64 0, .bool false, .int .i64 0, .int .i64 0, .int .i64 0, .int .i64 0, .int .i64 0, .int .i64 0, .int .i64 0, .int .i64 0, .int .i64 0, .int .i64 0, .int .i64 0, .int .i64 0], .agg [.int .i64 0, .int .i64 0, .int .i64 0, .int .i64 0, .int .i64 0, .int .i64 0, .int .i64 0, .int .i64 0], .int .i64 1]), [(true, (Cmd.kind x != (1 : Int))), (false, (!isC c)), (false, (Caller.busy c)), (true, (Cmd.kind x != (1 : Int))), (false, (Caller.session c == (0 : Int))), (false, (decide (Go.IntKind.wrap Go.IntKind.i64 (Caller.request c + (1 : Int)) > (1000000000 : Int)))), (true, (!may (Cmd.mk (Caller.session c) (Go.IntKind.wrap Go.IntKind.i64 (Caller.request c + (1 : Int))) (Cmd.kind x) (Cmd.spot x) (Cmd.prio x) (Cmd.at_ x) (Cmd.long x))))]) := by kernel_rfl
theorem ask_w5 (c : Caller) (x : Cmd) : resOf (runG Try.prog (conΔ [conisC, conmay]) 60 12 14 [.agg (Caller.cells c), .agg (Cmd.cells x)] [] 0 [.go 0 true, .go 0 false, .go 0 false, .go 0 true, .go 0 false, .go 0 false, .go 0 false]) = some (.ret (.tup [.agg [.int .i64 (Caller.session c), .int .i64 (Go.IntKind.wrap Go.IntKind.i64 (Caller.request c + (1 : Int))), .bool true, .int .i64 (Caller.session c), .int .i64 (Go.IntKind.wrap Go.IntKind.i64 (Caller.request c + (1 : Int))), .int .i64 (Cmd.kind x), .int .i64 (Spot.bed (Cmd.spot x)), .int .i64 (Spot.channel (Cmd.spot x)), .int .i64 (Cmd.prio x), .int .i64 (Cmd.at_ x), .int .i64 (Cmd.long x), .int .i64 (Caller.to c), .int .i64 (Caller.n c), .int .i64 (Caller.wait c), .int .i64 (Caller.wait c)], .agg [.int .i64 (Caller.session c), .int .i64 (Go.IntKind.wrap Go.IntKind.i64 (Caller.request c + (1 : Int))), .int .i64 (Cmd.kind x), .int .i64 (Spot.bed (Cmd.spot x)), .int .i64 (Spot.channel (Cmd.spot x)), .int .i64 (Cmd.prio x), .int .i64 (Cmd.at_ x), .int .i64 (Cmd.long x)], .int .i64 0]), [(true, (Cmd.kind x != (1 : Int))), (false, (!isC c)), (false, (Caller.busy c)), (true, (Cmd.kind x != (1 : Int))), (false, (Caller.session c == (0 : Int))), (false, (decide (Go.IntKind.wrap Go.IntKind.i64 (Caller.request c + (1 : Int)) > (1000000000 : Int)))), (false, (!may (Cmd.mk (Caller.session c) (Go.IntKind.wrap Go.IntKind.i64 (Caller.request c + (1 : Int))) (Cmd.kind x) (Cmd.spot x) (Cmd.prio x) (Cmd.at_ x) (Cmd.long x))))]) := by kernel_rfl
theorem ask_w6 (c : Caller) (x : Cmd) : resOf (runG Try.prog (conΔ [conisC, conmay]) 60 12 14 [.agg (Caller.cells c), .agg (Cmd.cells x)] [] 0 [.go 0 false, .go 0 true]) = some (.ret (.tup [.agg [.int .i64 0, .int .i64 0, .bool false, .int .i64 0, .int .i64 0, .int .i64 0, .int .i64 0, .int .i64 0, .int .i64 0, .int .i64 0, .int .i64 0, .int .i64 0, .int .i64 0, .int .i64 0, .int .i64 0], .agg [.int .i64 0, .int .i64 0, .int .i64 0, .int .i64 0, .int .i64 0, .int .i64 0, .int .i64 0, .int .i64 0], .int .i64 1]), [(false, (Cmd.kind x != (1 : Int))), (true, (!isC c))]) := by kernel_rfl
theorem ask_w7 (c : Caller) (x : Cmd) : resOf (runG Try.prog (conΔ [conisC, conmay]) 60 12 14 [.agg (Caller.cells c), .agg (Cmd.cells x)] [] 0 [.go 0 false, .go 0 false, .go 0 true]) = some (.ret (.tup [.agg [.int .i64 0, .int .i64 0, .bool false, .int .i64 0, .int .i64 0, .int .i64 0, .int .i64 0, .int .i64 0, .int .i64 0, .int .i64 0, .int .i64 0, .int .i64 0, .int .i64 0, .int .i64 0, .int .i64 0], .agg [.int .i64 0, .int .i64 0, .int .i64 0, .int .i64 0, .int .i64 0, .int .i64 0, .int .i64 0, .int .i64 0], .int .i64 81]), [(false, (Cmd.kind x != (1 : Int))), (false, (!isC c)), (true, (Caller.busy c))]) := by kernel_rfl
theorem ask_w8 (c : Caller) (x : Cmd) : resOf (runG Try.prog (conΔ [conisC, conmay]) 60 12 14 [.agg (Caller.cells c), .agg (Cmd.cells x)] [] 0 [.go 0 false, .go 0 false, .go 0 false, .go 0 false, .go 2 true]) = some (.ret (.tup [.agg [.int .i64 0, .int .i64 0, .bool false, .int .i64 0, .int .i64 0, .int .i64 0, .int .i64 0, .int .i64 0, .int .i64 0, .int .i64 0, .int .i64 0, .int .i64 0, .int .i64 0, .int .i64 0, .int .i64 0], .agg [.int .i64 0, .int .i64 0, .int .i64 0, .int .i64 0, .int .i64 0, .int .i64 0, .int .i64 0, .int .i64 0], .int .i64 1]), [(false, (Cmd.kind x != (1 : Int))), (false, (!isC c)), (false, (Caller.busy c)), (false, (Cmd.kind x != (1 : Int))), (true, (!may x))]) := by kernel_rfl
theorem ask_w9 (c : Caller) (x : Cmd) : resOf (runG Try.prog (conΔ [conisC, conmay]) 60 12 14 [.agg (Caller.cells c), .agg (Cmd.cells x)] [] 0 [.go 0 false, .go 0 false, .go 0 false, .go 0 false, .go 2 false]) = some (.ret (.tup [.agg [.int .i64 (Caller.session c), .int .i64 0, .bool true, .int .i64 (Cmd.session x), .int .i64 (Cmd.request x), .int .i64 (Cmd.kind x), .int .i64 (Spot.bed (Cmd.spot x)), .int .i64 (Spot.channel (Cmd.spot x)), .int .i64 (Cmd.prio x), .int .i64 (Cmd.at_ x), .int .i64 (Cmd.long x), .int .i64 (Caller.to c), .int .i64 (Caller.n c), .int .i64 (Caller.wait c), .int .i64 (Caller.wait c)], .agg [.int .i64 (Cmd.session x), .int .i64 (Cmd.request x), .int .i64 (Cmd.kind x), .int .i64 (Spot.bed (Cmd.spot x)), .int .i64 (Spot.channel (Cmd.spot x)), .int .i64 (Cmd.prio x), .int .i64 (Cmd.at_ x), .int .i64 (Cmd.long x)], .int .i64 0]), [(false, (Cmd.kind x != (1 : Int))), (false, (!isC c)), (false, (Caller.busy c)), (false, (Cmd.kind x != (1 : Int))), (false, (!may x))]) := by kernel_rfl
theorem ask_ok (c : Caller) (x : Cmd)  (h : Heap) (n : Nat) : CallOk Try.prog 14 [.agg (Caller.cells c), .agg (Cmd.cells x)] h n (.ret (.tup [.agg (Caller.cells ((ask c x).1)), .agg (Cmd.cells ((ask c x).2.1)), .int .i64 ((ask c x).2.2)])) h n := by
  rcases Bool.eq_false_or_eq_true (Cmd.kind x != (1 : Int)) with h0 | h0
  · 
    rcases Bool.eq_false_or_eq_true (!isC c) with h1 | h1
    · 
      have e : ask c x = ((⟨0, 0, false, (⟨0, 0, 0, (⟨0, 0⟩ : Spot), 0, 0, 0⟩ : Cmd), 0, 0, 0, 0⟩ : Caller), (⟨0, 0, 0, (⟨0, 0⟩ : Spot), 0, 0, 0⟩ : Cmd), 1) := by simp only [ask, h0, h1, cond]
      rw [e]
      exact way askCf (ask_w0 c x) (conds_cons h0.symm (conds_cons h1.symm conds_nil)) rfl rfl h n
    · 
      rcases Bool.eq_false_or_eq_true (Caller.busy c) with h2 | h2
      · 
        have e : ask c x = ((⟨0, 0, false, (⟨0, 0, 0, (⟨0, 0⟩ : Spot), 0, 0, 0⟩ : Cmd), 0, 0, 0, 0⟩ : Caller), (⟨0, 0, 0, (⟨0, 0⟩ : Spot), 0, 0, 0⟩ : Cmd), 81) := by simp only [ask, h0, h1, h2, cond]
        rw [e]
        exact way askCf (ask_w1 c x) (conds_cons h0.symm (conds_cons h1.symm (conds_cons h2.symm conds_nil))) rfl rfl h n
      · 
        rcases Bool.eq_false_or_eq_true (Caller.session c == (0 : Int)) with h4 | h4
        · 
          have e : ask c x = ((⟨0, 0, false, (⟨0, 0, 0, (⟨0, 0⟩ : Spot), 0, 0, 0⟩ : Cmd), 0, 0, 0, 0⟩ : Caller), (⟨0, 0, 0, (⟨0, 0⟩ : Spot), 0, 0, 0⟩ : Cmd), 181) := by simp only [ask, h0, h1, h2, h4, cond]
          rw [e]
          exact way askCf (ask_w2 c x) (conds_cons h0.symm (conds_cons h1.symm (conds_cons h2.symm (conds_cons h0.symm (conds_cons h4.symm conds_nil))))) rfl rfl h n
        · 
          rcases Bool.eq_false_or_eq_true (decide (Go.IntKind.wrap Go.IntKind.i64 (Caller.request c + (1 : Int)) > (1000000000 : Int))) with h5 | h5
          · 
            have e : ask c x = ((⟨0, 0, false, (⟨0, 0, 0, (⟨0, 0⟩ : Spot), 0, 0, 0⟩ : Cmd), 0, 0, 0, 0⟩ : Caller), (⟨0, 0, 0, (⟨0, 0⟩ : Spot), 0, 0, 0⟩ : Cmd), 2) := by simp only [ask, h0, h1, h2, h4, h5, cond]
            rw [e]
            exact way askCf (ask_w3 c x) (conds_cons h0.symm (conds_cons h1.symm (conds_cons h2.symm (conds_cons h0.symm (conds_cons h4.symm (conds_cons h5.symm conds_nil)))))) rfl rfl h n
          · 
            rcases Bool.eq_false_or_eq_true (!may (Cmd.mk (Caller.session c) (Go.IntKind.wrap Go.IntKind.i64 (Caller.request c + (1 : Int))) (Cmd.kind x) (Cmd.spot x) (Cmd.prio x) (Cmd.at_ x) (Cmd.long x))) with h6 | h6
            · 
              have e : ask c x = ((⟨0, 0, false, (⟨0, 0, 0, (⟨0, 0⟩ : Spot), 0, 0, 0⟩ : Cmd), 0, 0, 0, 0⟩ : Caller), (⟨0, 0, 0, (⟨0, 0⟩ : Spot), 0, 0, 0⟩ : Cmd), 1) := by simp only [ask, h0, h1, h2, h4, h5, h6, cond]
              rw [e]
              exact way askCf (ask_w4 c x) (conds_cons h0.symm (conds_cons h1.symm (conds_cons h2.symm (conds_cons h0.symm (conds_cons h4.symm (conds_cons h5.symm (conds_cons h6.symm conds_nil))))))) rfl rfl h n
            · 
              have e : ask c x = ((⟨(Caller.session c), (Go.IntKind.wrap Go.IntKind.i64 (Caller.request c + (1 : Int))), true, (⟨(Caller.session c), (Go.IntKind.wrap Go.IntKind.i64 (Caller.request c + (1 : Int))), (Cmd.kind x), (Cmd.spot x), (Cmd.prio x), (Cmd.at_ x), (Cmd.long x)⟩ : Cmd), (Caller.to c), (Caller.n c), (Caller.wait c), (Caller.wait c)⟩ : Caller), (⟨(Caller.session c), (Go.IntKind.wrap Go.IntKind.i64 (Caller.request c + (1 : Int))), (Cmd.kind x), (Cmd.spot x), (Cmd.prio x), (Cmd.at_ x), (Cmd.long x)⟩ : Cmd), 0) := by simp only [ask, h0, h1, h2, h4, h5, h6, cond]
              rw [e]
              exact way askCf (ask_w5 c x) (conds_cons h0.symm (conds_cons h1.symm (conds_cons h2.symm (conds_cons h0.symm (conds_cons h4.symm (conds_cons h5.symm (conds_cons h6.symm conds_nil))))))) rfl rfl h n
  · 
    rcases Bool.eq_false_or_eq_true (!isC c) with h1 | h1
    · 
      have e : ask c x = ((⟨0, 0, false, (⟨0, 0, 0, (⟨0, 0⟩ : Spot), 0, 0, 0⟩ : Cmd), 0, 0, 0, 0⟩ : Caller), (⟨0, 0, 0, (⟨0, 0⟩ : Spot), 0, 0, 0⟩ : Cmd), 1) := by simp only [ask, h0, h1, cond]
      rw [e]
      exact way askCf (ask_w6 c x) (conds_cons h0.symm (conds_cons h1.symm conds_nil)) rfl rfl h n
    · 
      rcases Bool.eq_false_or_eq_true (Caller.busy c) with h2 | h2
      · 
        have e : ask c x = ((⟨0, 0, false, (⟨0, 0, 0, (⟨0, 0⟩ : Spot), 0, 0, 0⟩ : Cmd), 0, 0, 0, 0⟩ : Caller), (⟨0, 0, 0, (⟨0, 0⟩ : Spot), 0, 0, 0⟩ : Cmd), 81) := by simp only [ask, h0, h1, h2, cond]
        rw [e]
        exact way askCf (ask_w7 c x) (conds_cons h0.symm (conds_cons h1.symm (conds_cons h2.symm conds_nil))) rfl rfl h n
      · 
        rcases Bool.eq_false_or_eq_true (!may x) with h4 | h4
        · 
          have e : ask c x = ((⟨0, 0, false, (⟨0, 0, 0, (⟨0, 0⟩ : Spot), 0, 0, 0⟩ : Cmd), 0, 0, 0, 0⟩ : Caller), (⟨0, 0, 0, (⟨0, 0⟩ : Spot), 0, 0, 0⟩ : Cmd), 1) := by simp only [ask, h0, h1, h2, h4, cond]
          rw [e]
          exact way askCf (ask_w8 c x) (conds_cons h0.symm (conds_cons h1.symm (conds_cons h2.symm (conds_cons h0.symm (conds_cons h4.symm conds_nil))))) rfl rfl h n
        · 
          have e : ask c x = ((⟨(Caller.session c), 0, true, x, (Caller.to c), (Caller.n c), (Caller.wait c), (Caller.wait c)⟩ : Caller), x, 0) := by simp only [ask, h0, h1, h2, h4, cond]
          rw [e]
          exact way askCf (ask_w9 c x) (conds_cons h0.symm (conds_cons h1.symm (conds_cons h2.symm (conds_cons h0.symm (conds_cons h4.symm conds_nil))))) rfl rfl h n
def conask : Con := (14, fun l => match l with
  | [x0, x1] => (match Caller.of x0 with | some s0 => (match Cmd.of x1 with | some s1 => some (.tup [.agg (Caller.cells ((ask s0 s1).1)), .agg (Cmd.cells ((ask s0 s1).2.1)), .int .i64 ((ask s0 s1).2.2)]) | none => none) | none => none)
  | _ => none)
theorem conask_ok : ConOk Try.prog conask := by
  intro l v e h n
  simp only [conask] at e
  split at e
  · skip
    split at e
    · rename_i s0 es0
      split at e
      · rename_i s1 es1
        cases e
        cases Caller.of_eq es0
        cases Cmd.of_eq es1
        exact ask_ok _ _ h n
      · cases e
    · cases e
  · cases e

def rAsk (c : Caller) (x : Cmd) : Caller × Cmd × Int :=
  bif (!rIsC c) then (((⟨0, 0, false, (⟨0, 0, 0, (⟨0, 0⟩ : Spot), 0, 0, 0⟩ : Cmd), 0, 0, 0, 0⟩ : Caller), (⟨0, 0, 0, (⟨0, 0⟩ : Spot), 0, 0, 0⟩ : Cmd), 1))
  else (bif (Caller.busy c) then (((⟨0, 0, false, (⟨0, 0, 0, (⟨0, 0⟩ : Spot), 0, 0, 0⟩ : Cmd), 0, 0, 0, 0⟩ : Caller), (⟨0, 0, 0, (⟨0, 0⟩ : Spot), 0, 0, 0⟩ : Cmd), 81))
    else (bif (Cmd.kind x != (1 : Int)) then (bif (Caller.session c == (0 : Int)) then (((⟨0, 0, false, (⟨0, 0, 0, (⟨0, 0⟩ : Spot), 0, 0, 0⟩ : Cmd), 0, 0, 0, 0⟩ : Caller), (⟨0, 0, 0, (⟨0, 0⟩ : Spot), 0, 0, 0⟩ : Cmd), 181))
        else (bif (decide (Caller.request c ≥ (1000000000 : Int))) then (((⟨0, 0, false, (⟨0, 0, 0, (⟨0, 0⟩ : Spot), 0, 0, 0⟩ : Cmd), 0, 0, 0, 0⟩ : Caller), (⟨0, 0, 0, (⟨0, 0⟩ : Spot), 0, 0, 0⟩ : Cmd), 2))
          else (bif (!rMay (Cmd.mk (Caller.session c) (Go.IntKind.wrap Go.IntKind.i64 (Caller.request c + (1 : Int))) (Cmd.kind x) (Cmd.spot x) (Cmd.prio x) (Cmd.at_ x) (Cmd.long x))) then (((⟨0, 0, false, (⟨0, 0, 0, (⟨0, 0⟩ : Spot), 0, 0, 0⟩ : Cmd), 0, 0, 0, 0⟩ : Caller), (⟨0, 0, 0, (⟨0, 0⟩ : Spot), 0, 0, 0⟩ : Cmd), 1))
            else (((⟨(Caller.session c), (Go.IntKind.wrap Go.IntKind.i64 (Caller.request c + (1 : Int))), true, (⟨(Caller.session c), (Go.IntKind.wrap Go.IntKind.i64 (Caller.request c + (1 : Int))), (Cmd.kind x), (Cmd.spot x), (Cmd.prio x), (Cmd.at_ x), (Cmd.long x)⟩ : Cmd), (Caller.to c), (Caller.n c), (Caller.wait c), (Caller.wait c)⟩ : Caller), (⟨(Caller.session c), (Go.IntKind.wrap Go.IntKind.i64 (Caller.request c + (1 : Int))), (Cmd.kind x), (Cmd.spot x), (Cmd.prio x), (Cmd.at_ x), (Cmd.long x)⟩ : Cmd), 0)))))
      else (bif (!rMay x) then (((⟨0, 0, false, (⟨0, 0, 0, (⟨0, 0⟩ : Spot), 0, 0, 0⟩ : Cmd), 0, 0, 0, 0⟩ : Caller), (⟨0, 0, 0, (⟨0, 0⟩ : Spot), 0, 0, 0⟩ : Cmd), 1))
        else (((⟨(Caller.session c), 0, true, x, (Caller.to c), (Caller.n c), (Caller.wait c), (Caller.wait c)⟩ : Caller), x, 0)))))
theorem rAskCf : CfOk Try.prog (runG Try.prog (conΔ [conrIsC, conrMay]) 60 12) := runG_ok noNum mixed (conΔ_ok (List.forall_mem_cons.2 ⟨conrIsC_ok, List.forall_mem_cons.2 ⟨conrMay_ok, List.forall_mem_nil _⟩⟩)) _
theorem rAsk_w0 (c : Caller) (x : Cmd) : resOf (runG Try.prog (conΔ [conrIsC, conrMay]) 60 12 15 [.agg (Caller.cells c), .agg (Cmd.cells x)] [] 0 [.go 0 true]) = some (.ret (.tup [.agg [.int .i64 0, .int .i64 0, .bool false, .int .i64 0, .int .i64 0, .int .i64 0, .int .i64 0, .int .i64 0, .int .i64 0, .int .i64 0, .int .i64 0, .int .i64 0, .int .i64 0, .int .i64 0, .int .i64 0], .agg [.int .i64 0, .int .i64 0, .int .i64 0, .int .i64 0, .int .i64 0, .int .i64 0, .int .i64 0, .int .i64 0], .int .i64 1]), [(true, (!rIsC c))]) := by kernel_rfl
theorem rAsk_w1 (c : Caller) (x : Cmd) : resOf (runG Try.prog (conΔ [conrIsC, conrMay]) 60 12 15 [.agg (Caller.cells c), .agg (Cmd.cells x)] [] 0 [.go 0 false, .go 0 true]) = some (.ret (.tup [.agg [.int .i64 0, .int .i64 0, .bool false, .int .i64 0, .int .i64 0, .int .i64 0, .int .i64 0, .int .i64 0, .int .i64 0, .int .i64 0, .int .i64 0, .int .i64 0, .int .i64 0, .int .i64 0, .int .i64 0], .agg [.int .i64 0, .int .i64 0, .int .i64 0, .int .i64 0, .int .i64 0, .int .i64 0, .int .i64 0, .int .i64 0], .int .i64 81]), [(false, (!rIsC c)), (true, (Caller.busy c))]) := by kernel_rfl
theorem rAsk_w2 (c : Caller) (x : Cmd) : resOf (runG Try.prog (conΔ [conrIsC, conrMay]) 60 12 15 [.agg (Caller.cells c), .agg (Cmd.cells x)] [] 0 [.go 0 false, .go 0 false, .go 0 true, .go 0 true]) = some (.ret (.tup [.agg [.int .i64 0, .int .i64 0, .bool false, .int .i64 0, .int .i64 0, .int .i64 0, .int .i64 0, .int .i64 0, .int .i64 0, .int .i64 0, .int .i64 0, .int .i64 0, .int .i64 0, .int .i64 0, .int .i64 0], .agg [.int .i64 0, .int .i64 0, .int .i64 0, .int .i64 0, .int .i64 0, .int .i64 0, .int .i64 0, .int .i64 0], .int .i64 181]), [(false, (!rIsC c)), (false, (Caller.busy c)), (true, (Cmd.kind x != (1 : Int))), (true, (Caller.session c == (0 : Int)))]) := by kernel_rfl
theorem rAsk_w3 (c : Caller) (x : Cmd) : resOf (runG Try.prog (conΔ [conrIsC, conrMay]) 60 12 15 [.agg (Caller.cells c), .agg (Cmd.cells x)] [] 0 [.go 0 false, .go 0 false, .go 0 true, .go 0 false, .go 0 true]) = some (.ret (.tup [.agg [.int .i64 0, .int .i64 0, .bool false, .int .i64 0, .int .i64 0, .int .i64 0, .int .i64 0, .int .i64 0, .int .i64 0, .int .i64 0, .int .i64 0, .int .i64 0, .int .i64 0, .int .i64 0, .int .i64 0], .agg [.int .i64 0, .int .i64 0, .int .i64 0, .int .i64 0, .int .i64 0, .int .i64 0, .int .i64 0, .int .i64 0], .int .i64 2]), [(false, (!rIsC c)), (false, (Caller.busy c)), (true, (Cmd.kind x != (1 : Int))), (false, (Caller.session c == (0 : Int))), (true, (decide (Caller.request c ≥ (1000000000 : Int))))]) := by kernel_rfl
theorem rAsk_w4 (c : Caller) (x : Cmd) : resOf (runG Try.prog (conΔ [conrIsC, conrMay]) 60 12 15 [.agg (Caller.cells c), .agg (Cmd.cells x)] [] 0 [.go 0 false, .go 0 false, .go 0 true, .go 0 false, .go 0 false, .go 0 true]) = some (.ret (.tup [.agg [.int .i64 0, .int .i64 0, .bool false, .int .i64 0, .int .i64 0, .int .i64 0, .int .i64 0, .int .i64 0, .int .i64 0, .int .i64 0, .int .i64 0, .int .i64 0, .int .i64 0, .int .i64 0, .int .i64 0], .agg [.int .i64 0, .int .i64 0, .int .i64 0, .int .i64 0, .int .i64 0, .int .i64 0, .int .i64 0, .int .i64 0], .int .i64 1]), [(false, (!rIsC c)), (false, (Caller.busy c)), (true, (Cmd.kind x != (1 : Int))), (false, (Caller.session c == (0 : Int))), (false, (decide (Caller.request c ≥ (1000000000 : Int)))), (true, (!rMay (Cmd.mk (Caller.session c) (Go.IntKind.wrap Go.IntKind.i64 (Caller.request c + (1 : Int))) (Cmd.kind x) (Cmd.spot x) (Cmd.prio x) (Cmd.at_ x) (Cmd.long x))))]) := by kernel_rfl
theorem rAsk_w5 (c : Caller) (x : Cmd) : resOf (runG Try.prog (conΔ [conrIsC, conrMay]) 60 12 15 [.agg (Caller.cells c), .agg (Cmd.cells x)] [] 0 [.go 0 false, .go 0 false, .go 0 true, .go 0 false, .go 0 false, .go 0 false]) = some (.ret (.tup [.agg [.int .i64 (Caller.session c), .int .i64 (Go.IntKind.wrap Go.IntKind.i64 (Caller.request c + (1 : Int))), .bool true, .int .i64 (Caller.session c), .int .i64 (Go.IntKind.wrap Go.IntKind.i64 (Caller.request c + (1 : Int))), .int .i64 (Cmd.kind x), .int .i64 (Spot.bed (Cmd.spot x)), .int .i64 (Spot.channel (Cmd.spot x)), .int .i64 (Cmd.prio x), .int .i64 (Cmd.at_ x), .int .i64 (Cmd.long x), .int .i64 (Caller.to c), .int .i64 (Caller.n c), .int .i64 (Caller.wait c), .int .i64 (Caller.wait c)], .agg [.int .i64 (Caller.session c), .int .i64 (Go.IntKind.wrap Go.IntKind.i64 (Caller.request c + (1 : Int))), .int .i64 (Cmd.kind x), .int .i64 (Spot.bed (Cmd.spot x)), .int .i64 (Spot.channel (Cmd.spot x)), .int .i64 (Cmd.prio x), .int .i64 (Cmd.at_ x), .int .i64 (Cmd.long x)], .int .i64 0]), [(false, (!rIsC c)), (false, (Caller.busy c)), (true, (Cmd.kind x != (1 : Int))), (false, (Caller.session c == (0 : Int))), (false, (decide (Caller.request c ≥ (1000000000 : Int)))), (false, (!rMay (Cmd.mk (Caller.session c) (Go.IntKind.wrap Go.IntKind.i64 (Caller.request c + (1 : Int))) (Cmd.kind x) (Cmd.spot x) (Cmd.prio x) (Cmd.at_ x) (Cmd.long x))))]) := by kernel_rfl
theorem rAsk_w6 (c : Caller) (x : Cmd) : resOf (runG Try.prog (conΔ [conrIsC, conrMay]) 60 12 15 [.agg (Caller.cells c), .agg (Cmd.cells x)] [] 0 [.go 0 false, .go 0 false, .go 0 false, .go 0 true]) = some (.ret (.tup [.agg [.int .i64 0, .int .i64 0, .bool false, .int .i64 0, .int .i64 0, .int .i64 0, .int .i64 0, .int .i64 0, .int .i64 0, .int .i64 0, .int .i64 0, .int .i64 0, .int .i64 0, .int .i64 0, .int .i64 0], .agg [.int .i64 0, .int .i64 0, .int .i64 0, .int .i64 0, .int .i64 0, .int .i64 0, .int .i64 0, .int .i64 0], .int .i64 1]), [(false, (!rIsC c)), (false, (Caller.busy c)), (false, (Cmd.kind x != (1 : Int))), (true, (!rMay x))]) := by kernel_rfl
theorem rAsk_w7 (c : Caller) (x : Cmd) : resOf (runG Try.prog (conΔ [conrIsC, conrMay]) 60 12 15 [.agg (Caller.cells c), .agg (Cmd.cells x)] [] 0 [.go 0 false, .go 0 false, .go 0 false, .go 0 false]) = some (.ret (.tup [.agg [.int .i64 (Caller.session c), .int .i64 0, .bool true, .int .i64 (Cmd.session x), .int .i64 (Cmd.request x), .int .i64 (Cmd.kind x), .int .i64 (Spot.bed (Cmd.spot x)), .int .i64 (Spot.channel (Cmd.spot x)), .int .i64 (Cmd.prio x), .int .i64 (Cmd.at_ x), .int .i64 (Cmd.long x), .int .i64 (Caller.to c), .int .i64 (Caller.n c), .int .i64 (Caller.wait c), .int .i64 (Caller.wait c)], .agg [.int .i64 (Cmd.session x), .int .i64 (Cmd.request x), .int .i64 (Cmd.kind x), .int .i64 (Spot.bed (Cmd.spot x)), .int .i64 (Spot.channel (Cmd.spot x)), .int .i64 (Cmd.prio x), .int .i64 (Cmd.at_ x), .int .i64 (Cmd.long x)], .int .i64 0]), [(false, (!rIsC c)), (false, (Caller.busy c)), (false, (Cmd.kind x != (1 : Int))), (false, (!rMay x))]) := by kernel_rfl
theorem rAsk_ok (c : Caller) (x : Cmd)  (h : Heap) (n : Nat) : CallOk Try.prog 15 [.agg (Caller.cells c), .agg (Cmd.cells x)] h n (.ret (.tup [.agg (Caller.cells ((rAsk c x).1)), .agg (Cmd.cells ((rAsk c x).2.1)), .int .i64 ((rAsk c x).2.2)])) h n := by
  rcases Bool.eq_false_or_eq_true (!rIsC c) with h0 | h0
  · 
    have e : rAsk c x = ((⟨0, 0, false, (⟨0, 0, 0, (⟨0, 0⟩ : Spot), 0, 0, 0⟩ : Cmd), 0, 0, 0, 0⟩ : Caller), (⟨0, 0, 0, (⟨0, 0⟩ : Spot), 0, 0, 0⟩ : Cmd), 1) := by simp only [rAsk, h0, cond]
    rw [e]
    exact way rAskCf (rAsk_w0 c x) (conds_cons h0.symm conds_nil) rfl rfl h n
  · 
    rcases Bool.eq_false_or_eq_true (Caller.busy c) with h1 | h1
    · 
      have e : rAsk c x = ((⟨0, 0, false, (⟨0, 0, 0, (⟨0, 0⟩ : Spot), 0, 0, 0⟩ : Cmd), 0, 0, 0, 0⟩ : Caller), (⟨0, 0, 0, (⟨0, 0⟩ : Spot), 0, 0, 0⟩ : Cmd), 81) := by simp only [rAsk, h0, h1, cond]
      rw [e]
      exact way rAskCf (rAsk_w1 c x) (conds_cons h0.symm (conds_cons h1.symm conds_nil)) rfl rfl h n
    · 
      rcases Bool.eq_false_or_eq_true (Cmd.kind x != (1 : Int)) with h2 | h2
      · 
        rcases Bool.eq_false_or_eq_true (Caller.session c == (0 : Int)) with h3 | h3
        · 
          have e : rAsk c x = ((⟨0, 0, false, (⟨0, 0, 0, (⟨0, 0⟩ : Spot), 0, 0, 0⟩ : Cmd), 0, 0, 0, 0⟩ : Caller), (⟨0, 0, 0, (⟨0, 0⟩ : Spot), 0, 0, 0⟩ : Cmd), 181) := by simp only [rAsk, h0, h1, h2, h3, cond]
          rw [e]
          exact way rAskCf (rAsk_w2 c x) (conds_cons h0.symm (conds_cons h1.symm (conds_cons h2.symm (conds_cons h3.symm conds_nil)))) rfl rfl h n
        · 
          rcases Bool.eq_false_or_eq_true (decide (Caller.request c ≥ (1000000000 : Int))) with h4 | h4
          · 
            have e : rAsk c x = ((⟨0, 0, false, (⟨0, 0, 0, (⟨0, 0⟩ : Spot), 0, 0, 0⟩ : Cmd), 0, 0, 0, 0⟩ : Caller), (⟨0, 0, 0, (⟨0, 0⟩ : Spot), 0, 0, 0⟩ : Cmd), 2) := by simp only [rAsk, h0, h1, h2, h3, h4, cond]
            rw [e]
            exact way rAskCf (rAsk_w3 c x) (conds_cons h0.symm (conds_cons h1.symm (conds_cons h2.symm (conds_cons h3.symm (conds_cons h4.symm conds_nil))))) rfl rfl h n
          · 
            rcases Bool.eq_false_or_eq_true (!rMay (Cmd.mk (Caller.session c) (Go.IntKind.wrap Go.IntKind.i64 (Caller.request c + (1 : Int))) (Cmd.kind x) (Cmd.spot x) (Cmd.prio x) (Cmd.at_ x) (Cmd.long x))) with h5 | h5
            · 
              have e : rAsk c x = ((⟨0, 0, false, (⟨0, 0, 0, (⟨0, 0⟩ : Spot), 0, 0, 0⟩ : Cmd), 0, 0, 0, 0⟩ : Caller), (⟨0, 0, 0, (⟨0, 0⟩ : Spot), 0, 0, 0⟩ : Cmd), 1) := by simp only [rAsk, h0, h1, h2, h3, h4, h5, cond]
              rw [e]
              exact way rAskCf (rAsk_w4 c x) (conds_cons h0.symm (conds_cons h1.symm (conds_cons h2.symm (conds_cons h3.symm (conds_cons h4.symm (conds_cons h5.symm conds_nil)))))) rfl rfl h n
            · 
              have e : rAsk c x = ((⟨(Caller.session c), (Go.IntKind.wrap Go.IntKind.i64 (Caller.request c + (1 : Int))), true, (⟨(Caller.session c), (Go.IntKind.wrap Go.IntKind.i64 (Caller.request c + (1 : Int))), (Cmd.kind x), (Cmd.spot x), (Cmd.prio x), (Cmd.at_ x), (Cmd.long x)⟩ : Cmd), (Caller.to c), (Caller.n c), (Caller.wait c), (Caller.wait c)⟩ : Caller), (⟨(Caller.session c), (Go.IntKind.wrap Go.IntKind.i64 (Caller.request c + (1 : Int))), (Cmd.kind x), (Cmd.spot x), (Cmd.prio x), (Cmd.at_ x), (Cmd.long x)⟩ : Cmd), 0) := by simp only [rAsk, h0, h1, h2, h3, h4, h5, cond]
              rw [e]
              exact way rAskCf (rAsk_w5 c x) (conds_cons h0.symm (conds_cons h1.symm (conds_cons h2.symm (conds_cons h3.symm (conds_cons h4.symm (conds_cons h5.symm conds_nil)))))) rfl rfl h n
      · 
        rcases Bool.eq_false_or_eq_true (!rMay x) with h3 | h3
        · 
          have e : rAsk c x = ((⟨0, 0, false, (⟨0, 0, 0, (⟨0, 0⟩ : Spot), 0, 0, 0⟩ : Cmd), 0, 0, 0, 0⟩ : Caller), (⟨0, 0, 0, (⟨0, 0⟩ : Spot), 0, 0, 0⟩ : Cmd), 1) := by simp only [rAsk, h0, h1, h2, h3, cond]
          rw [e]
          exact way rAskCf (rAsk_w6 c x) (conds_cons h0.symm (conds_cons h1.symm (conds_cons h2.symm (conds_cons h3.symm conds_nil)))) rfl rfl h n
        · 
          have e : rAsk c x = ((⟨(Caller.session c), 0, true, x, (Caller.to c), (Caller.n c), (Caller.wait c), (Caller.wait c)⟩ : Caller), x, 0) := by simp only [rAsk, h0, h1, h2, h3, cond]
          rw [e]
          exact way rAskCf (rAsk_w7 c x) (conds_cons h0.symm (conds_cons h1.symm (conds_cons h2.symm (conds_cons h3.symm conds_nil)))) rfl rfl h n
def conrAsk : Con := (15, fun l => match l with
  | [x0, x1] => (match Caller.of x0 with | some s0 => (match Cmd.of x1 with | some s1 => some (.tup [.agg (Caller.cells ((rAsk s0 s1).1)), .agg (Cmd.cells ((rAsk s0 s1).2.1)), .int .i64 ((rAsk s0 s1).2.2)]) | none => none) | none => none)
  | _ => none)
theorem conrAsk_ok : ConOk Try.prog conrAsk := by
  intro l v e h n
  simp only [conrAsk] at e
  split at e
  · skip
    split at e
    · rename_i s0 es0
      split at e
      · rename_i s1 es1
        cases e
        cases Caller.of_eq es0
        cases Cmd.of_eq es1
        exact rAsk_ok _ _ h n
      · cases e
    · cases e
  · cases e

def hear (c : Caller) (from_ : Int) (x : Cmd) (a : Answer) : Caller × Bool × Int :=
  bif (!isC c) then (((⟨0, 0, false, (⟨0, 0, 0, (⟨0, 0⟩ : Spot), 0, 0, 0⟩ : Cmd), 0, 0, 0, 0⟩ : Caller), false, 1))
  else (bif (!Caller.busy c) then ((c, false, 0))
    else (bif (!(Cmd.session (Caller.cmd c) == Cmd.session x && (Cmd.request (Caller.cmd c) == Cmd.request x && (Cmd.kind (Caller.cmd c) == Cmd.kind x && (Spot.bed (Cmd.spot (Caller.cmd c)) == Spot.bed (Cmd.spot x) && Spot.channel (Cmd.spot (Caller.cmd c)) == Spot.channel (Cmd.spot x) && (Cmd.prio (Caller.cmd c) == Cmd.prio x && (Cmd.at_ (Caller.cmd c) == Cmd.at_ x && Cmd.long (Caller.cmd c) == Cmd.long x))))))) then ((c, false, 0))
      else (bif (!cWithin from_ (0 : Int) (Go.IntKind.wrap Go.IntKind.i64 (Caller.n c - (1 : Int)))) then ((c, false, 0))
        else (bif (Cmd.kind x == (1 : Int)) then (bif (Answer.code a == (0 : Int)) then (bif (cWithin (Answer.num a) (1 : Int) (1000000000 : Int)) then (((⟨(Answer.num a), (Caller.request c), false, (⟨0, 0, 0, (⟨0, 0⟩ : Spot), 0, 0, 0⟩ : Cmd), from_, (Caller.n c), (Caller.wait c), 0⟩ : Caller), true, 0))
              else (bif (Cmd.kind x != (1 : Int)) then (bif (Answer.code a == (181 : Int)) then (((⟨0, (Caller.request c), false, (⟨0, 0, 0, (⟨0, 0⟩ : Spot), 0, 0, 0⟩ : Cmd), from_, (Caller.n c), (Caller.wait c), 0⟩ : Caller), true, 0))
                  else (((⟨(Caller.session c), (Caller.request c), false, (⟨0, 0, 0, (⟨0, 0⟩ : Spot), 0, 0, 0⟩ : Cmd), from_, (Caller.n c), (Caller.wait c), 0⟩ : Caller), true, 0)))
                else (((⟨(Caller.session c), (Caller.request c), false, (⟨0, 0, 0, (⟨0, 0⟩ : Spot), 0, 0, 0⟩ : Cmd), from_, (Caller.n c), (Caller.wait c), 0⟩ : Caller), true, 0))))
            else (bif (Cmd.kind x != (1 : Int)) then (bif (Answer.code a == (181 : Int)) then (((⟨0, (Caller.request c), false, (⟨0, 0, 0, (⟨0, 0⟩ : Spot), 0, 0, 0⟩ : Cmd), from_, (Caller.n c), (Caller.wait c), 0⟩ : Caller), true, 0))
                else (((⟨(Caller.session c), (Caller.request c), false, (⟨0, 0, 0, (⟨0, 0⟩ : Spot), 0, 0, 0⟩ : Cmd), from_, (Caller.n c), (Caller.wait c), 0⟩ : Caller), true, 0)))
              else (((⟨(Caller.session c), (Caller.request c), false, (⟨0, 0, 0, (⟨0, 0⟩ : Spot), 0, 0, 0⟩ : Cmd), from_, (Caller.n c), (Caller.wait c), 0⟩ : Caller), true, 0))))
          else (bif (Cmd.kind x != (1 : Int)) then (bif (Answer.code a == (181 : Int)) then (((⟨0, (Caller.request c), false, (⟨0, 0, 0, (⟨0, 0⟩ : Spot), 0, 0, 0⟩ : Cmd), from_, (Caller.n c), (Caller.wait c), 0⟩ : Caller), true, 0))
              else (((⟨(Caller.session c), (Caller.request c), false, (⟨0, 0, 0, (⟨0, 0⟩ : Spot), 0, 0, 0⟩ : Cmd), from_, (Caller.n c), (Caller.wait c), 0⟩ : Caller), true, 0)))
            else (((⟨(Caller.session c), (Caller.request c), false, (⟨0, 0, 0, (⟨0, 0⟩ : Spot), 0, 0, 0⟩ : Cmd), from_, (Caller.n c), (Caller.wait c), 0⟩ : Caller), true, 0)))))))
theorem hearCf : CfOk Try.prog (runG Try.prog (conΔ [conisC, concWithin]) 60 12) := runG_ok noNum mixed (conΔ_ok (List.forall_mem_cons.2 ⟨conisC_ok, List.forall_mem_cons.2 ⟨concWithin_ok, List.forall_mem_nil _⟩⟩)) _
theorem hear_w0 (c : Caller) (from_ : Int) (x : Cmd) (a : Answer) : resOf (runG Try.prog (conΔ [conisC, concWithin]) 60 12 16 [.agg (Caller.cells c), .int .i64 from_, .agg (Cmd.cells x), .agg (Answer.cells a)] [] 0 [.go 0 true]) = some (.ret (.tup [.agg [.int .i64 0, .int .i64 0, .bool false, .int .i64 0, .int .i64 0, .int .i64 0, .int .i64 0, .int .i64 0, .int .i64 0, .int .i64 0, .int .i64 0, .int .i64 0, .int .i64 0, .int .i64 0, .int .i64 0], .bool false, .int .i64 1]), [(true, (!isC c))]) := by kernel_rfl
theorem hear_w1 (c : Caller) (from_ : Int) (x : Cmd) (a : Answer) : resOf (runG Try.prog (conΔ [conisC, concWithin]) 60 12 16 [.agg (Caller.cells c), .int .i64 from_, .agg (Cmd.cells x), .agg (Answer.cells a)] [] 0 [.go 0 false, .go 1 true]) = some (.ret (.tup [.agg [.int .i64 (Caller.session c), .int .i64 (Caller.request c), .bool (Caller.busy c), .int .i64 (Cmd.session (Caller.cmd c)), .int .i64 (Cmd.request (Caller.cmd c)), .int .i64 (Cmd.kind (Caller.cmd c)), .int .i64 (Spot.bed (Cmd.spot (Caller.cmd c))), .int .i64 (Spot.channel (Cmd.spot (Caller.cmd c))), .int .i64 (Cmd.prio (Caller.cmd c)), .int .i64 (Cmd.at_ (Caller.cmd c)), .int .i64 (Cmd.long (Caller.cmd c)), .int .i64 (Caller.to c), .int .i64 (Caller.n c), .int .i64 (Caller.wait c), .int .i64 (Caller.left c)], .bool false, .int .i64 0]), [(false, (!isC c)), (true, true), (true, true), (true, (!Caller.busy c))]) := by kernel_rfl
theorem hear_w2 (c : Caller) (from_ : Int) (x : Cmd) (a : Answer) : resOf (runG Try.prog (conΔ [conisC, concWithin]) 60 12 16 [.agg (Caller.cells c), .int .i64 from_, .agg (Cmd.cells x), .agg (Answer.cells a)] [] 0 [.go 0 false, .go 1 false, .go 1 true]) = some (.ret (.tup [.agg [.int .i64 (Caller.session c), .int .i64 (Caller.request c), .bool (Caller.busy c), .int .i64 (Cmd.session (Caller.cmd c)), .int .i64 (Cmd.request (Caller.cmd c)), .int .i64 (Cmd.kind (Caller.cmd c)), .int .i64 (Spot.bed (Cmd.spot (Caller.cmd c))), .int .i64 (Spot.channel (Cmd.spot (Caller.cmd c))), .int .i64 (Cmd.prio (Caller.cmd c)), .int .i64 (Cmd.at_ (Caller.cmd c)), .int .i64 (Cmd.long (Caller.cmd c)), .int .i64 (Caller.to c), .int .i64 (Caller.n c), .int .i64 (Caller.wait c), .int .i64 (Caller.left c)], .bool false, .int .i64 0]), [(false, (!isC c)), (true, true), (true, true), (false, (!Caller.busy c)), (true, true), (true, true), (true, (!(Cmd.session (Caller.cmd c) == Cmd.session x && (Cmd.request (Caller.cmd c) == Cmd.request x && (Cmd.kind (Caller.cmd c) == Cmd.kind x && (Spot.bed (Cmd.spot (Caller.cmd c)) == Spot.bed (Cmd.spot x) && Spot.channel (Cmd.spot (Caller.cmd c)) == Spot.channel (Cmd.spot x) && (Cmd.prio (Caller.cmd c) == Cmd.prio x && (Cmd.at_ (Caller.cmd c) == Cmd.at_ x && Cmd.long (Caller.cmd c) == Cmd.long x))))))))]) := by kernel_rfl
theorem hear_w3 (c : Caller) (from_ : Int) (x : Cmd) (a : Answer) : resOf (runG Try.prog (conΔ [conisC, concWithin]) 60 12 16 [.agg (Caller.cells c), .int .i64 from_, .agg (Cmd.cells x), .agg (Answer.cells a)] [] 0 [.go 0 false, .go 1 false, .go 1 false, .go 0 true]) = some (.ret (.tup [.agg [.int .i64 (Caller.session c), .int .i64 (Caller.request c), .bool (Caller.busy c), .int .i64 (Cmd.session (Caller.cmd c)), .int .i64 (Cmd.request (Caller.cmd c)), .int .i64 (Cmd.kind (Caller.cmd c)), .int .i64 (Spot.bed (Cmd.spot (Caller.cmd c))), .int .i64 (Spot.channel (Cmd.spot (Caller.cmd c))), .int .i64 (Cmd.prio (Caller.cmd c)), .int .i64 (Cmd.at_ (Caller.cmd c)), .int .i64 (Cmd.long (Caller.cmd c)), .int .i64 (Caller.to c), .int .i64 (Caller.n c), .int .i64 (Caller.wait c), .int .i64 (Caller.left c)], .bool false, .int .i64 0]), [(false, (!isC c)), (true, true), (true, true), (false, (!Caller.busy c)), (true, true), (true, true), (false, (!(Cmd.session (Caller.cmd c) == Cmd.session x && (Cmd.request (Caller.cmd c) == Cmd.request x && (Cmd.kind (Caller.cmd c) == Cmd.kind x && (Spot.bed (Cmd.spot (Caller.cmd c)) == Spot.bed (Cmd.spot x) && Spot.channel (Cmd.spot (Caller.cmd c)) == Spot.channel (Cmd.spot x) && (Cmd.prio (Caller.cmd c) == Cmd.prio x && (Cmd.at_ (Caller.cmd c) == Cmd.at_ x && Cmd.long (Caller.cmd c) == Cmd.long x)))))))), (true, (!cWithin from_ (0 : Int) (Go.IntKind.wrap Go.IntKind.i64 (Caller.n c - (1 : Int)))))]) := by kernel_rfl
theorem hear_w4 (c : Caller) (from_ : Int) (x : Cmd) (a : Answer) : resOf (runG Try.prog (conΔ [conisC, concWithin]) 60 12 16 [.agg (Caller.cells c), .int .i64 from_, .agg (Cmd.cells x), .agg (Answer.cells a)] [] 0 [.go 0 false, .go 1 false, .go 1 false, .go 0 false, .go 0 true, .go 0 true, .go 0 true]) = some (.ret (.tup [.agg [.int .i64 (Answer.num a), .int .i64 (Caller.request c), .bool false, .int .i64 0, .int .i64 0, .int .i64 0, .int .i64 0, .int .i64 0, .int .i64 0, .int .i64 0, .int .i64 0, .int .i64 from_, .int .i64 (Caller.n c), .int .i64 (Caller.wait c), .int .i64 0], .bool true, .int .i64 0]), [(false, (!isC c)), (true, true), (true, true), (false, (!Caller.busy c)), (true, true), (true, true), (false, (!(Cmd.session (Caller.cmd c) == Cmd.session x && (Cmd.request (Caller.cmd c) == Cmd.request x && (Cmd.kind (Caller.cmd c) == Cmd.kind x && (Spot.bed (Cmd.spot (Caller.cmd c)) == Spot.bed (Cmd.spot x) && Spot.channel (Cmd.spot (Caller.cmd c)) == Spot.channel (Cmd.spot x) && (Cmd.prio (Caller.cmd c) == Cmd.prio x && (Cmd.at_ (Caller.cmd c) == Cmd.at_ x && Cmd.long (Caller.cmd c) == Cmd.long x)))))))), (false, (!cWithin from_ (0 : Int) (Go.IntKind.wrap Go.IntKind.i64 (Caller.n c - (1 : Int))))), (true, (Cmd.kind x == (1 : Int))), (true, (Answer.code a == (0 : Int))), (true, (cWithin (Answer.num a) (1 : Int) (1000000000 : Int))), (true, true), (true, true)]) := by kernel_rfl
theorem hear_w5 (c : Caller) (from_ : Int) (x : Cmd) (a : Answer) : resOf (runG Try.prog (conΔ [conisC, concWithin]) 60 12 16 [.agg (Caller.cells c), .int .i64 from_, .agg (Cmd.cells x), .agg (Answer.cells a)] [] 0 [.go 0 false, .go 1 false, .go 1 false, .go 0 false, .go 0 true, .go 0 true, .go 0 false, .go 0 true, .go 0 true]) = some (.ret (.tup [.agg [.int .i64 0, .int .i64 (Caller.request c), .bool false, .int .i64 0, .int .i64 0, .int .i64 0, .int .i64 0, .int .i64 0, .int .i64 0, .int .i64 0, .int .i64 0, .int .i64 from_, .int .i64 (Caller.n c), .int .i64 (Caller.wait c), .int .i64 0], .bool true, .int .i64 0]), [(false, (!isC c)), (true, true), (true, true), (false, (!Caller.busy c)), (true, true), (true, true), (false, (!(Cmd.session (Caller.cmd c) == Cmd.session x && (Cmd.request (Caller.cmd c) == Cmd.request x && (Cmd.kind (Caller.cmd c) == Cmd.kind x && (Spot.bed (Cmd.spot (Caller.cmd c)) == Spot.bed (Cmd.spot x) && Spot.channel (Cmd.spot (Caller.cmd c)) == Spot.channel (Cmd.spot x) && (Cmd.prio (Caller.cmd c) == Cmd.prio x && (Cmd.at_ (Caller.cmd c) == Cmd.at_ x && Cmd.long (Caller.cmd c) == Cmd.long x)))))))), (false, (!cWithin from_ (0 : Int) (Go.IntKind.wrap Go.IntKind.i64 (Caller.n c - (1 : Int))))), (true, (Cmd.kind x == (1 : Int))), (true, (Answer.code a == (0 : Int))), (false, (cWithin (Answer.num a) (1 : Int) (1000000000 : Int))), (true, (Cmd.kind x != (1 : Int))), (true, (Answer.code a == (181 : Int))), (true, true), (true, true)]) := by kernel_rfl
theorem hear_w6 (c : Caller) (from_ : Int) (x : Cmd) (a : Answer) : resOf (runG Try.prog (conΔ [conisC, concWithin]) 60 12 16 [.agg (Caller.cells c), .int .i64 from_, .agg (Cmd.cells x), .agg (Answer.cells a)] [] 0 [.go 0 false, .go 1 false, .go 1 false, .go 0 false, .go 0 true, .go 0 true, .go 0 false, .go 0 true, .go 0 false]) = some (.ret (.tup [.agg [.int .i64 (Caller.session c), .int .i64 (Caller.request c), .bool false, .int .i64 0, .int .i64 0, .int .i64 0, .int .i64 0, .int .i64 0, .int .i64 0, .int .i64 0, .int .i64 0, .int .i64 from_, .int .i64 (Caller.n c), .int .i64 (Caller.wait c), .int .i64 0], .bool true, .int .i64 0]), [(false, (!isC c)), (true, true), (true, true), (false, (!Caller.busy c)), (true, true), (true, true), (false, (!(Cmd.session (Caller.cmd c) == Cmd.session x && (Cmd.request (Caller.cmd c) == Cmd.request x && (Cmd.kind (Caller.cmd c) == Cmd.kind x && (Spot.bed (Cmd.spot (Caller.cmd c)) == Spot.bed (Cmd.spot x) && Spot.channel (Cmd.spot (Caller.cmd c)) == Spot.channel (Cmd.spot x) && (Cmd.prio (Caller.cmd c) == Cmd.prio x && (Cmd.at_ (Caller.cmd c) == Cmd.at_ x && Cmd.long (Caller.cmd c) == Cmd.long x)))))))), (false, (!cWithin from_ (0 : Int) (Go.IntKind.wrap Go.IntKind.i64 (Caller.n c - (1 : Int))))), (true, (Cmd.kind x == (1 : Int))), (true, (Answer.code a == (0 : Int))), (false, (cWithin (Answer.num a) (1 : Int) (1000000000 : Int))), (true, (Cmd.kind x != (1 : Int))), (false, (Answer.code a == (181 : Int))), (true, true), (true, true)]) := by kernel_rfl
theorem hear_w7 (c : Caller) (from_ : Int) (x : Cmd) (a : Answer) : resOf (runG Try.prog (conΔ [conisC, concWithin]) 60 12 16 [.agg (Caller.cells c), .int .i64 from_, .agg (Cmd.cells x), .agg (Answer.cells a)] [] 0 [.go 0 false, .go 1 false, .go 1 false, .go 0 false, .go 0 true, .go 0 true, .go 0 false, .go 0 false]) = some (.ret (.tup [.agg [.int .i64 (Caller.session c), .int .i64 (Caller.request c), .bool false, .int .i64 0, .int .i64 0, .int .i64 0, .int .i64 0, .int .i64 0, .int .i64 0, .int .i64 0, .int .i64 0, .int .i64 from_, .int .i64 (Caller.n c), .int .i64 (Caller.wait c), .int .i64 0], .bool true, .int .i64 0]), [(false, (!isC c)), (true, true), (true, true), (false, (!Caller.busy c)), (true, true), (true, true), (false, (!(Cmd.session (Caller.cmd c) == Cmd.session x && (Cmd.request (Caller.cmd c) == Cmd.request x && (Cmd.kind (Caller.cmd c) == Cmd.kind x && (Spot.bed (Cmd.spot (Caller.cmd c)) == Spot.bed (Cmd.spot x) && Spot.channel (Cmd.spot (Caller.cmd c)) == Spot.channel (Cmd.spot x) && (Cmd.prio (Caller.cmd c) == Cmd.prio x && (Cmd.at_ (Caller.cmd c) == Cmd.at_ x && Cmd.long (Caller.cmd c) == Cmd.long x)))))))), (false, (!cWithin from_ (0 : Int) (Go.IntKind.wrap Go.IntKind.i64 (Caller.n c - (1 : Int))))), (true, (Cmd.kind x == (1 : Int))), (true, (Answer.code a == (0 : Int))), (false, (cWithin (Answer.num a) (1 : Int) (1000000000 : Int))), (false, (Cmd.kind x != (1 : Int))), (true, true), (true, true)]) := by kernel_rfl
theorem hear_w8 (c : Caller) (from_ : Int) (x : Cmd) (a : Answer) : resOf (runG Try.prog (conΔ [conisC, concWithin]) 60 12 16 [.agg (Caller.cells c), .int .i64 from_, .agg (Cmd.cells x), .agg (Answer.cells a)] [] 0 [.go 0 false, .go 1 false, .go 1 false, .go 0 false, .go 0 true, .go 0 false, .go 1 true, .go 0 true]) = some (.ret (.tup [.agg [.int .i64 0, .int .i64 (Caller.request c), .bool false, .int .i64 0, .int .i64 0, .int .i64 0, .int .i64 0, .int .i64 0, .int .i64 0, .int .i64 0, .int .i64 0, .int .i64 from_, .int .i64 (Caller.n c), .int .i64 (Caller.wait c), .int .i64 0], .bool true, .int .i64 0]), [(false, (!isC c)), (true, true), (true, true), (false, (!Caller.busy c)), (true, true), (true, true), (false, (!(Cmd.session (Caller.cmd c) == Cmd.session x && (Cmd.request (Caller.cmd c) == Cmd.request x && (Cmd.kind (Caller.cmd c) == Cmd.kind x && (Spot.bed (Cmd.spot (Caller.cmd c)) == Spot.bed (Cmd.spot x) && Spot.channel (Cmd.spot (Caller.cmd c)) == Spot.channel (Cmd.spot x) && (Cmd.prio (Caller.cmd c) == Cmd.prio x && (Cmd.at_ (Caller.cmd c) == Cmd.at_ x && Cmd.long (Caller.cmd c) == Cmd.long x)))))))), (false, (!cWithin from_ (0 : Int) (Go.IntKind.wrap Go.IntKind.i64 (Caller.n c - (1 : Int))))), (true, (Cmd.kind x == (1 : Int))), (false, (Answer.code a == (0 : Int))), (true, (Cmd.kind x != (1 : Int))), (true, (Answer.code a == (181 : Int))), (true, true), (true, true)]) := by kernel_rfl
theorem hear_w9 (c : Caller) (from_ : Int) (x : Cmd) (a : Answer) : resOf (runG Try.prog (conΔ [conisC, concWithin]) 60 12 16 [.agg (Caller.cells c), .int .i64 from_, .agg (Cmd.cells x), .agg (Answer.cells a)] [] 0 [.go 0 false, .go 1 false, .go 1 false, .go 0 false, .go 0 true, .go 0 false, .go 1 true, .go 0 false]) = some (.ret (.tup [.agg [.int .i64 (Caller.session c), .int .i64 (Caller.request c), .bool false, .int .i64 0, .int .i64 0, .int .i64 0, .int .i64 0, .int .i64 0, .int .i64 0, .int .i64 0, .int .i64 0, .int .i64 from_, .int .i64 (Caller.n c), .int .i64 (Caller.wait c), .int .i64 0], .bool true, .int .i64 0]), [(false, (!isC c)), (true, true), (true, true), (false, (!Caller.busy c)), (true, true), (true, true), (false, (!(Cmd.session (Caller.cmd c) == Cmd.session x && (Cmd.request (Caller.cmd c) == Cmd.request x && (Cmd.kind (Caller.cmd c) == Cmd.kind x && (Spot.bed (Cmd.spot (Caller.cmd c)) == Spot.bed (Cmd.spot x) && Spot.channel (Cmd.spot (Caller.cmd c)) == Spot.channel (Cmd.spot x) && (Cmd.prio (Caller.cmd c) == Cmd.prio x && (Cmd.at_ (Caller.cmd c) == Cmd.at_ x && Cmd.long (Caller.cmd c) == Cmd.long x)))))))), (false, (!cWithin from_ (0 : Int) (Go.IntKind.wrap Go.IntKind.i64 (Caller.n c - (1 : Int))))), (true, (Cmd.kind x == (1 : Int))), (false, (Answer.code a == (0 : Int))), (true, (Cmd.kind x != (1 : Int))), (false, (Answer.code a == (181 : Int))), (true, true), (true, true)]) := by kernel_rfl
theorem hear_w10 (c : Caller) (from_ : Int) (x : Cmd) (a : Answer) : resOf (runG Try.prog (conΔ [conisC, concWithin]) 60 12 16 [.agg (Caller.cells c), .int .i64 from_, .agg (Cmd.cells x), .agg (Answer.cells a)] [] 0 [.go 0 false, .go 1 false, .go 1 false, .go 0 false, .go 0 true, .go 0 false, .go 1 false]) = some (.ret (.tup [.agg [.int .i64 (Caller.session c), .int .i64 (Caller.request c), .bool false, .int .i64 0, .int .i64 0, .int .i64 0, .int .i64 0, .int .i64 0, .int .i64 0, .int .i64 0, .int .i64 0, .int .i64 from_, .int .i64 (Caller.n c), .int .i64 (Caller.wait c), .int .i64 0], .bool true, .int .i64 0]), [(false, (!isC c)), (true, true), (true, true), (false, (!Caller.busy c)), (true, true), (true, true), (false, (!(Cmd.session (Caller.cmd c) == Cmd.session x && (Cmd.request (Caller.cmd c) == Cmd.request x && (Cmd.kind (Caller.cmd c) == Cmd.kind x && (Spot.bed (Cmd.spot (Caller.cmd c)) == Spot.bed (Cmd.spot x) && Spot.channel (Cmd.spot (Caller.cmd c)) == Spot.channel (Cmd.spot x) && (Cmd.prio (Caller.cmd c) == Cmd.prio x && (Cmd.at_ (Caller.cmd c) == Cmd.at_ x && Cmd.long (Caller.cmd c) == Cmd.long x)))))))), (false, (!cWithin from_ (0 : Int) (Go.IntKind.wrap Go.IntKind.i64 (Caller.n c - (1 : Int))))), (true, (Cmd.kind x == (1 : Int))), (false, (Answer.code a == (0 : Int))), (false, (Cmd.kind x != (1 : Int))), (true, true), (true, true)]) := by kernel_rfl
theorem hear_w11 (c : Caller) (from_ : Int) (x : Cmd) (a : Answer) : resOf (runG Try.prog (conΔ [conisC, concWithin]) 60 12 16 [.agg (Caller.cells c), .int .i64 from_, .agg (Cmd.cells x), .agg (Answer.cells a)] [] 0 [.go 0 false, .go 1 false, .go 1 false, .go 0 false, .go 0 false, .go 2 true, .go 0 true]) = some (.ret (.tup [.agg [.int .i64 0, .int .i64 (Caller.request c), .bool false, .int .i64 0, .int .i64 0, .int .i64 0, .int .i64 0, .int .i64 0, .int .i64 0, .int .i64 0, .int .i64 0, .int .i64 from_, .int .i64 (Caller.n c), .int .i64 (Caller.wait c), .int .i64 0], .bool true, .int .i64 0]), [(false, (!isC c)), (true, true), (true, true), (false, (!Caller.busy c)), (true, true), (true, true), (false, (!(Cmd.session (Caller.cmd c) == Cmd.session x && (Cmd.request (Caller.cmd c) == Cmd.request x && (Cmd.kind (Caller.cmd c) == Cmd.kind x && (Spot.bed (Cmd.spot (Caller.cmd c)) == Spot.bed (Cmd.spot x) && Spot.channel (Cmd.spot (Caller.cmd c)) == Spot.channel (Cmd.spot x) && (Cmd.prio (Caller.cmd c) == Cmd.prio x && (Cmd.at_ (Caller.cmd c) == Cmd.at_ x && Cmd.long (Caller.cmd c) == Cmd.long x)))))))), (false, (!cWithin from_ (0 : Int) (Go.IntKind.wrap Go.IntKind.i64 (Caller.n c - (1 : Int))))), (false, (Cmd.kind x == (1 : Int))), (true, (Cmd.kind x != (1 : Int))), (true, (Answer.code a == (181 : Int))), (true, true), (true, true)]) := by kernel_rfl
theorem hear_w12 (c : Caller) (from_ : Int) (x : Cmd) (a : Answer) : resOf (runG Try.prog (conΔ [conisC, concWithin]) 60 12 16 [.agg (Caller.cells c), .int .i64 from_, .agg (Cmd.cells x), .agg (Answer.cells a)] [] 0 [.go 0 false, .go 1 false, .go 1 false, .go 0 false, .go 0 false, .go 2 true, .go 0 false]) = some (.ret (.tup [.agg [.int .i64 (Caller.session c), .int .i64 (Caller.request c), .bool false, .int .i64 0, .int .i64 0, .int .i64 0, .int .i64 0, .int .i64 0, .int .i64 0, .int .i64 0, .int .i64 0, .int .i64 from_, .int .i64 (Caller.n c), .int .i64 (Caller.wait c), .int .i64 0], .bool true, .int .i64 0]), [(false, (!isC c)), (true, true), (true, true), (false, (!Caller.busy c)), (true, true), (true, true), (false, (!(Cmd.session (Caller.cmd c) == Cmd.session x && (Cmd.request (Caller.cmd c) == Cmd.request x && (Cmd.kind (Caller.cmd c) == Cmd.kind x && (Spot.bed (Cmd.spot (Caller.cmd c)) == Spot.bed (Cmd.spot x) && Spot.channel (Cmd.spot (Caller.cmd c)) == Spot.channel (Cmd.spot x) && (Cmd.prio (Caller.cmd c) == Cmd.prio x && (Cmd.at_ (Caller.cmd c) == Cmd.at_ x && Cmd.long (Caller.cmd c) == Cmd.long x)))))))), (false, (!cWithin from_ (0 : Int) (Go.IntKind.wrap Go.IntKind.i64 (Caller.n c - (1 : Int))))), (false, (Cmd.kind x == (1 : Int))), (true, (Cmd.kind x != (1 : Int))), (false, (Answer.code a == (181 : Int))), (true, true), (true, true)]) := by kernel_rfl
theorem hear_w13 (c : Caller) (from_ : Int) (x : Cmd) (a : Answer) : resOf (runG Try.prog (conΔ [conisC, concWithin]) 60 12 16 [.agg (Caller.cells c), .int .i64 from_, .agg (Cmd.cells x), .agg (Answer.cells a)] [] 0 [.go 0 false, .go 1 false, .go 1 false, .go 0 false, .go 0 false, .go 2 false]) = some (.ret (.tup [.agg [.int .i64 (Caller.session c), .int .i64 (Caller.request c), .bool false, .int .i64 0, .int .i64 0, .int .i64 0, .int .i64 0, .int .i64 0, .int .i64 0, .int .i64 0, .int .i64 0, .int .i64 from_, .int .i64 (Caller.n c), .int .i64 (Caller.wait c), .int .i64 0], .bool true, .int .i64 0]), [(false, (!isC c)), (true, true), (true, true), (false, (!Caller.busy c)), (true, true), (true, true), (false, (!(Cmd.session (Caller.cmd c) == Cmd.session x && (Cmd.request (Caller.cmd c) == Cmd.request x && (Cmd.kind (Caller.cmd c) == Cmd.kind x && (Spot.bed (Cmd.spot (Caller.cmd c)) == Spot.bed (Cmd.spot x) && Spot.channel (Cmd.spot (Caller.cmd c)) == Spot.channel (Cmd.spot x) && (Cmd.prio (Caller.cmd c) == Cmd.prio x && (Cmd.at_ (Caller.cmd c) == Cmd.at_ x && Cmd.long (Caller.cmd c) == Cmd.long x)))))))), (false, (!cWithin from_ (0 : Int) (Go.IntKind.wrap Go.IntKind.i64 (Caller.n c - (1 : Int))))), (false, (Cmd.kind x == (1 : Int))), (false, (Cmd.kind x != (1 : Int))), (true, true), (true, true)]) := by kernel_rfl
theorem hear_ok (c : Caller) (from_ : Int) (x : Cmd) (a : Answer) (ha_lines : flatCell a.lines = true) (h : Heap) (n : Nat) : CallOk Try.prog 16 [.agg (Caller.cells c), .int .i64 from_, .agg (Cmd.cells x), .agg (Answer.cells a)] h n (.ret (.tup [.agg (Caller.cells ((hear c from_ x a).1)), .bool ((hear c from_ x a).2.1), .int .i64 ((hear c from_ x a).2.2)])) h n := by
  rcases Bool.eq_false_or_eq_true (!isC c) with h0 | h0
  · 
    have e : hear c from_ x a = ((⟨0, 0, false, (⟨0, 0, 0, (⟨0, 0⟩ : Spot), 0, 0, 0⟩ : Cmd), 0, 0, 0, 0⟩ : Caller), false, 1) := by simp only [hear, h0, cond]
    rw [e]
    exact way hearCf (hear_w0 c from_ x a) (conds_cons h0.symm conds_nil) (by simp only [all_c, all_n, fv_agg, fv_bool, fv_int, fv_str, fv_dsl, fc_bool, fc_int, fc_str, fc_dsl, fc_dptr, Bool.and_true, Bool.true_and, ha_lines]) rfl h n
  · 
    rcases Bool.eq_false_or_eq_true (!Caller.busy c) with h1 | h1
    · 
      have e : hear c from_ x a = (c, false, 0) := by simp only [hear, h0, h1, cond]
      rw [e]
      exact way hearCf (hear_w1 c from_ x a) (conds_cons h0.symm (conds_cons rfl (conds_cons rfl (conds_cons h1.symm conds_nil)))) (by simp only [all_c, all_n, fv_agg, fv_bool, fv_int, fv_str, fv_dsl, fc_bool, fc_int, fc_str, fc_dsl, fc_dptr, Bool.and_true, Bool.true_and, ha_lines]) rfl h n
    · 
      rcases Bool.eq_false_or_eq_true (!(Cmd.session (Caller.cmd c) == Cmd.session x && (Cmd.request (Caller.cmd c) == Cmd.request x && (Cmd.kind (Caller.cmd c) == Cmd.kind x && (Spot.bed (Cmd.spot (Caller.cmd c)) == Spot.bed (Cmd.spot x) && Spot.channel (Cmd.spot (Caller.cmd c)) == Spot.channel (Cmd.spot x) && (Cmd.prio (Caller.cmd c) == Cmd.prio x && (Cmd.at_ (Caller.cmd c) == Cmd.at_ x && Cmd.long (Caller.cmd c) == Cmd.long x))))))) with h2 | h2
      · 
        have e : hear c from_ x a = (c, false, 0) := by simp only [hear, h0, h1, h2, cond]
        rw [e]
        exact way hearCf (hear_w2 c from_ x a) (conds_cons h0.symm (conds_cons rfl (conds_cons rfl (conds_cons h1.symm (conds_cons rfl (conds_cons rfl (conds_cons h2.symm conds_nil))))))) (by simp only [all_c, all_n, fv_agg, fv_bool, fv_int, fv_str, fv_dsl, fc_bool, fc_int, fc_str, fc_dsl, fc_dptr, Bool.and_true, Bool.true_and, ha_lines]) rfl h n
      · 
        rcases Bool.eq_false_or_eq_true (!cWithin from_ (0 : Int) (Go.IntKind.wrap Go.IntKind.i64 (Caller.n c - (1 : Int)))) with h3 | h3
        · 
          have e : hear c from_ x a = (c, false, 0) := by simp only [hear, h0, h1, h2, h3, cond]
          rw [e]
          exact way hearCf (hear_w3 c from_ x a) (conds_cons h0.symm (conds_cons rfl (conds_cons rfl (conds_cons h1.symm (conds_cons rfl (conds_cons rfl (conds_cons h2.symm (conds_cons h3.symm conds_nil)))))))) (by simp only [all_c, all_n, fv_agg, fv_bool, fv_int, fv_str, fv_dsl, fc_bool, fc_int, fc_str, fc_dsl, fc_dptr, Bool.and_true, Bool.true_and, ha_lines]) rfl h n
        · 
          rcases Bool.eq_false_or_eq_true (Cmd.kind x == (1 : Int)) with h4 | h4
          · 
            rcases Bool.eq_false_or_eq_true (Answer.code a == (0 : Int)) with h5 | h5
            · 
              rcases Bool.eq_false_or_eq_true (cWithin (Answer.num a) (1 : Int) (1000000000 : Int)) with h6 | h6
              · 
                have e : hear c from_ x a = ((⟨(Answer.num a), (Caller.request c), false, (⟨0, 0, 0, (⟨0, 0⟩ : Spot), 0, 0, 0⟩ : Cmd), from_, (Caller.n c), (Caller.wait c), 0⟩ : Caller), true, 0) := by simp only [hear, h0, h1, h2, h3, h4, h5, h6, cond]
                rw [e]
                exact way hearCf (hear_w4 c from_ x a) (conds_cons h0.symm (conds_cons rfl (conds_cons rfl (conds_cons h1.symm (conds_cons rfl (conds_cons rfl (conds_cons h2.symm (conds_cons h3.symm (conds_cons h4.symm (conds_cons h5.symm (conds_cons h6.symm (conds_cons rfl (conds_cons rfl conds_nil))))))))))))) (by simp only [all_c, all_n, fv_agg, fv_bool, fv_int, fv_str, fv_dsl, fc_bool, fc_int, fc_str, fc_dsl, fc_dptr, Bool.and_true, Bool.true_and, ha_lines]) rfl h n
              · 
                rcases Bool.eq_false_or_eq_true (Cmd.kind x != (1 : Int)) with h7 | h7
                · 
                  rcases Bool.eq_false_or_eq_true (Answer.code a == (181 : Int)) with h8 | h8
                  · 
                    have e : hear c from_ x a = ((⟨0, (Caller.request c), false, (⟨0, 0, 0, (⟨0, 0⟩ : Spot), 0, 0, 0⟩ : Cmd), from_, (Caller.n c), (Caller.wait c), 0⟩ : Caller), true, 0) := by simp only [hear, h0, h1, h2, h3, h4, h5, h6, h7, h8, cond]
                    rw [e]
                    exact way hearCf (hear_w5 c from_ x a) (conds_cons h0.symm (conds_cons rfl (conds_cons rfl (conds_cons h1.symm (conds_cons rfl (conds_cons rfl (conds_cons h2.symm (conds_cons h3.symm (conds_cons h4.symm (conds_cons h5.symm (conds_cons h6.symm (conds_cons h7.symm (conds_cons h8.symm (conds_cons rfl (conds_cons rfl conds_nil))))))))))))))) (by simp only [all_c, all_n, fv_agg, fv_bool, fv_int, fv_str, fv_dsl, fc_bool, fc_int, fc_str, fc_dsl, fc_dptr, Bool.and_true, Bool.true_and, ha_lines]) rfl h n
                  · 
                    have e : hear c from_ x a = ((⟨(Caller.session c), (Caller.request c), false, (⟨0, 0, 0, (⟨0, 0⟩ : Spot), 0, 0, 0⟩ : Cmd), from_, (Caller.n c), (Caller.wait c), 0⟩ : Caller), true, 0) := by simp only [hear, h0, h1, h2, h3, h4, h5, h6, h7, h8, cond]
                    rw [e]
                    exact way hearCf (hear_w6 c from_ x a) (conds_cons h0.symm (conds_cons rfl (conds_cons rfl (conds_cons h1.symm (conds_cons rfl (conds_cons rfl (conds_cons h2.symm (conds_cons h3.symm (conds_cons h4.symm (conds_cons h5.symm (conds_cons h6.symm (conds_cons h7.symm (conds_cons h8.symm (conds_cons rfl (conds_cons rfl conds_nil))))))))))))))) (by simp only [all_c, all_n, fv_agg, fv_bool, fv_int, fv_str, fv_dsl, fc_bool, fc_int, fc_str, fc_dsl, fc_dptr, Bool.and_true, Bool.true_and, ha_lines]) rfl h n
                · 
                  have e : hear c from_ x a = ((⟨(Caller.session c), (Caller.request c), false, (⟨0, 0, 0, (⟨0, 0⟩ : Spot), 0, 0, 0⟩ : Cmd), from_, (Caller.n c), (Caller.wait c), 0⟩ : Caller), true, 0) := by simp only [hear, h0, h1, h2, h3, h4, h5, h6, h7, cond]
                  rw [e]
                  exact way hearCf (hear_w7 c from_ x a) (conds_cons h0.symm (conds_cons rfl (conds_cons rfl (conds_cons h1.symm (conds_cons rfl (conds_cons rfl (conds_cons h2.symm (conds_cons h3.symm (conds_cons h4.symm (conds_cons h5.symm (conds_cons h6.symm (conds_cons h7.symm (conds_cons rfl (conds_cons rfl conds_nil)))))))))))))) (by simp only [all_c, all_n, fv_agg, fv_bool, fv_int, fv_str, fv_dsl, fc_bool, fc_int, fc_str, fc_dsl, fc_dptr, Bool.and_true, Bool.true_and, ha_lines]) rfl h n
            · 
              rcases Bool.eq_false_or_eq_true (Cmd.kind x != (1 : Int)) with h6 | h6
              · 
                rcases Bool.eq_false_or_eq_true (Answer.code a == (181 : Int)) with h7 | h7
                · 
                  have e : hear c from_ x a = ((⟨0, (Caller.request c), false, (⟨0, 0, 0, (⟨0, 0⟩ : Spot), 0, 0, 0⟩ : Cmd), from_, (Caller.n c), (Caller.wait c), 0⟩ : Caller), true, 0) := by simp only [hear, h0, h1, h2, h3, h4, h5, h6, h7, cond]
                  rw [e]
                  exact way hearCf (hear_w8 c from_ x a) (conds_cons h0.symm (conds_cons rfl (conds_cons rfl (conds_cons h1.symm (conds_cons rfl (conds_cons rfl (conds_cons h2.symm (conds_cons h3.symm (conds_cons h4.symm (conds_cons h5.symm (conds_cons h6.symm (conds_cons h7.symm (conds_cons rfl (conds_cons rfl conds_nil)))))))))))))) (by simp only [all_c, all_n, fv_agg, fv_bool, fv_int, fv_str, fv_dsl, fc_bool, fc_int, fc_str, fc_dsl, fc_dptr, Bool.and_true, Bool.true_and, ha_lines]) rfl h n
                · 
                  have e : hear c from_ x a = ((⟨(Caller.session c), (Caller.request c), false, (⟨0, 0, 0, (⟨0, 0⟩ : Spot), 0, 0, 0⟩ : Cmd), from_, (Caller.n c), (Caller.wait c), 0⟩ : Caller), true, 0) := by simp only [hear, h0, h1, h2, h3, h4, h5, h6, h7, cond]
                  rw [e]
                  exact way hearCf (hear_w9 c from_ x a) (conds_cons h0.symm (conds_cons rfl (conds_cons rfl (conds_cons h1.symm (conds_cons rfl (conds_cons rfl (conds_cons h2.symm (conds_cons h3.symm (conds_cons h4.symm (conds_cons h5.symm (conds_cons h6.symm (conds_cons h7.symm (conds_cons rfl (conds_cons rfl conds_nil)))))))))))))) (by simp only [all_c, all_n, fv_agg, fv_bool, fv_int, fv_str, fv_dsl, fc_bool, fc_int, fc_str, fc_dsl, fc_dptr, Bool.and_true, Bool.true_and, ha_lines]) rfl h n
              · 
                have e : hear c from_ x a = ((⟨(Caller.session c), (Caller.request c), false, (⟨0, 0, 0, (⟨0, 0⟩ : Spot), 0, 0, 0⟩ : Cmd), from_, (Caller.n c), (Caller.wait c), 0⟩ : Caller), true, 0) := by simp only [hear, h0, h1, h2, h3, h4, h5, h6, cond]
                rw [e]
                exact way hearCf (hear_w10 c from_ x a) (conds_cons h0.symm (conds_cons rfl (conds_cons rfl (conds_cons h1.symm (conds_cons rfl (conds_cons rfl (conds_cons h2.symm (conds_cons h3.symm (conds_cons h4.symm (conds_cons h5.symm (conds_cons h6.symm (conds_cons rfl (conds_cons rfl conds_nil))))))))))))) (by simp only [all_c, all_n, fv_agg, fv_bool, fv_int, fv_str, fv_dsl, fc_bool, fc_int, fc_str, fc_dsl, fc_dptr, Bool.and_true, Bool.true_and, ha_lines]) rfl h n
          · 
            rcases Bool.eq_false_or_eq_true (Cmd.kind x != (1 : Int)) with h5 | h5
            · 
              rcases Bool.eq_false_or_eq_true (Answer.code a == (181 : Int)) with h6 | h6
              · 
                have e : hear c from_ x a = ((⟨0, (Caller.request c), false, (⟨0, 0, 0, (⟨0, 0⟩ : Spot), 0, 0, 0⟩ : Cmd), from_, (Caller.n c), (Caller.wait c), 0⟩ : Caller), true, 0) := by simp only [hear, h0, h1, h2, h3, h4, h5, h6, cond]
                rw [e]
                exact way hearCf (hear_w11 c from_ x a) (conds_cons h0.symm (conds_cons rfl (conds_cons rfl (conds_cons h1.symm (conds_cons rfl (conds_cons rfl (conds_cons h2.symm (conds_cons h3.symm (conds_cons h4.symm (conds_cons h5.symm (conds_cons h6.symm (conds_cons rfl (conds_cons rfl conds_nil))))))))))))) (by simp only [all_c, all_n, fv_agg, fv_bool, fv_int, fv_str, fv_dsl, fc_bool, fc_int, fc_str, fc_dsl, fc_dptr, Bool.and_true, Bool.true_and, ha_lines]) rfl h n
              · 
                have e : hear c from_ x a = ((⟨(Caller.session c), (Caller.request c), false, (⟨0, 0, 0, (⟨0, 0⟩ : Spot), 0, 0, 0⟩ : Cmd), from_, (Caller.n c), (Caller.wait c), 0⟩ : Caller), true, 0) := by simp only [hear, h0, h1, h2, h3, h4, h5, h6, cond]
                rw [e]
                exact way hearCf (hear_w12 c from_ x a) (conds_cons h0.symm (conds_cons rfl (conds_cons rfl (conds_cons h1.symm (conds_cons rfl (conds_cons rfl (conds_cons h2.symm (conds_cons h3.symm (conds_cons h4.symm (conds_cons h5.symm (conds_cons h6.symm (conds_cons rfl (conds_cons rfl conds_nil))))))))))))) (by simp only [all_c, all_n, fv_agg, fv_bool, fv_int, fv_str, fv_dsl, fc_bool, fc_int, fc_str, fc_dsl, fc_dptr, Bool.and_true, Bool.true_and, ha_lines]) rfl h n
            · 
              have e : hear c from_ x a = ((⟨(Caller.session c), (Caller.request c), false, (⟨0, 0, 0, (⟨0, 0⟩ : Spot), 0, 0, 0⟩ : Cmd), from_, (Caller.n c), (Caller.wait c), 0⟩ : Caller), true, 0) := by simp only [hear, h0, h1, h2, h3, h4, h5, cond]
              rw [e]
              exact way hearCf (hear_w13 c from_ x a) (conds_cons h0.symm (conds_cons rfl (conds_cons rfl (conds_cons h1.symm (conds_cons rfl (conds_cons rfl (conds_cons h2.symm (conds_cons h3.symm (conds_cons h4.symm (conds_cons h5.symm (conds_cons rfl (conds_cons rfl conds_nil)))))))))))) (by simp only [all_c, all_n, fv_agg, fv_bool, fv_int, fv_str, fv_dsl, fc_bool, fc_int, fc_str, fc_dsl, fc_dptr, Bool.and_true, Bool.true_and, ha_lines]) rfl h n
def conhear : Con := (16, fun l => match l with
  | [x0, .int .i64 s1, x2, x3] => (match Caller.of x0 with | some s0 => (match Cmd.of x2 with | some s2 => (match Answer.of x3 with | some s3 => (match flatCell s3.lines with | true => some (.tup [.agg (Caller.cells ((hear s0 s1 s2 s3).1)), .bool ((hear s0 s1 s2 s3).2.1), .int .i64 ((hear s0 s1 s2 s3).2.2)]) | false => none) | none => none) | none => none) | none => none)
  | _ => none)
theorem conhear_ok : ConOk Try.prog conhear := by
  intro l v e h n
  simp only [conhear] at e
  split at e
  · skip
    split at e
    · rename_i s0 es0
      split at e
      · rename_i s2 es2
        split at e
        · rename_i s3 es3
          split at e
          · rename_i f0
            cases e
            cases Caller.of_eq es0
            cases Cmd.of_eq es2
            cases Answer.of_eq es3
            exact hear_ok _ _ _ _ (by assumption) h n
          · cases e
        · cases e
      · cases e
    · cases e
  · cases e

def rHear (c : Caller) (from_ : Int) (x : Cmd) (a : Answer) : Caller × Bool × Int :=
  bif (!rIsC c) then (((⟨0, 0, false, (⟨0, 0, 0, (⟨0, 0⟩ : Spot), 0, 0, 0⟩ : Cmd), 0, 0, 0, 0⟩ : Caller), false, 1))
  else (bif (!Caller.busy c) then ((c, false, 0))
    else (bif (!(Cmd.session x == Cmd.session (Caller.cmd c) && (Cmd.request x == Cmd.request (Caller.cmd c) && (Cmd.kind x == Cmd.kind (Caller.cmd c) && (Spot.bed (Cmd.spot x) == Spot.bed (Cmd.spot (Caller.cmd c)) && Spot.channel (Cmd.spot x) == Spot.channel (Cmd.spot (Caller.cmd c)) && (Cmd.prio x == Cmd.prio (Caller.cmd c) && (Cmd.at_ x == Cmd.at_ (Caller.cmd c) && Cmd.long x == Cmd.long (Caller.cmd c)))))))) then ((c, false, 0))
      else (bif (!r26in from_ (0 : Int) (Go.IntKind.wrap Go.IntKind.i64 (Caller.n c - (1 : Int)))) then ((c, false, 0))
        else (bif (Cmd.kind x == (1 : Int)) then (bif (Answer.code a == (0 : Int)) then (bif (r26in (Answer.num a) (1 : Int) (1000000000 : Int)) then (bif (Cmd.kind x != (1 : Int)) then (bif (Answer.code a == (181 : Int)) then (((⟨0, (Caller.request c), false, (⟨0, 0, 0, (⟨0, 0⟩ : Spot), 0, 0, 0⟩ : Cmd), from_, (Caller.n c), (Caller.wait c), 0⟩ : Caller), true, 0))
                  else (((⟨(Answer.num a), (Caller.request c), false, (⟨0, 0, 0, (⟨0, 0⟩ : Spot), 0, 0, 0⟩ : Cmd), from_, (Caller.n c), (Caller.wait c), 0⟩ : Caller), true, 0)))
                else (((⟨(Answer.num a), (Caller.request c), false, (⟨0, 0, 0, (⟨0, 0⟩ : Spot), 0, 0, 0⟩ : Cmd), from_, (Caller.n c), (Caller.wait c), 0⟩ : Caller), true, 0)))
              else (bif (Cmd.kind x != (1 : Int)) then (bif (Answer.code a == (181 : Int)) then (((⟨0, (Caller.request c), false, (⟨0, 0, 0, (⟨0, 0⟩ : Spot), 0, 0, 0⟩ : Cmd), from_, (Caller.n c), (Caller.wait c), 0⟩ : Caller), true, 0))
                  else (((⟨(Caller.session c), (Caller.request c), false, (⟨0, 0, 0, (⟨0, 0⟩ : Spot), 0, 0, 0⟩ : Cmd), from_, (Caller.n c), (Caller.wait c), 0⟩ : Caller), true, 0)))
                else (((⟨(Caller.session c), (Caller.request c), false, (⟨0, 0, 0, (⟨0, 0⟩ : Spot), 0, 0, 0⟩ : Cmd), from_, (Caller.n c), (Caller.wait c), 0⟩ : Caller), true, 0))))
            else (bif (Cmd.kind x != (1 : Int)) then (bif (Answer.code a == (181 : Int)) then (((⟨0, (Caller.request c), false, (⟨0, 0, 0, (⟨0, 0⟩ : Spot), 0, 0, 0⟩ : Cmd), from_, (Caller.n c), (Caller.wait c), 0⟩ : Caller), true, 0))
                else (((⟨(Caller.session c), (Caller.request c), false, (⟨0, 0, 0, (⟨0, 0⟩ : Spot), 0, 0, 0⟩ : Cmd), from_, (Caller.n c), (Caller.wait c), 0⟩ : Caller), true, 0)))
              else (((⟨(Caller.session c), (Caller.request c), false, (⟨0, 0, 0, (⟨0, 0⟩ : Spot), 0, 0, 0⟩ : Cmd), from_, (Caller.n c), (Caller.wait c), 0⟩ : Caller), true, 0))))
          else (bif (Cmd.kind x != (1 : Int)) then (bif (Answer.code a == (181 : Int)) then (((⟨0, (Caller.request c), false, (⟨0, 0, 0, (⟨0, 0⟩ : Spot), 0, 0, 0⟩ : Cmd), from_, (Caller.n c), (Caller.wait c), 0⟩ : Caller), true, 0))
              else (((⟨(Caller.session c), (Caller.request c), false, (⟨0, 0, 0, (⟨0, 0⟩ : Spot), 0, 0, 0⟩ : Cmd), from_, (Caller.n c), (Caller.wait c), 0⟩ : Caller), true, 0)))
            else (((⟨(Caller.session c), (Caller.request c), false, (⟨0, 0, 0, (⟨0, 0⟩ : Spot), 0, 0, 0⟩ : Cmd), from_, (Caller.n c), (Caller.wait c), 0⟩ : Caller), true, 0)))))))
theorem rHearCf : CfOk Try.prog (runG Try.prog (conΔ [conrIsC, conr26in]) 60 12) := runG_ok noNum mixed (conΔ_ok (List.forall_mem_cons.2 ⟨conrIsC_ok, List.forall_mem_cons.2 ⟨conr26in_ok, List.forall_mem_nil _⟩⟩)) _
theorem rHear_w0 (c : Caller) (from_ : Int) (x : Cmd) (a : Answer) : resOf (runG Try.prog (conΔ [conrIsC, conr26in]) 60 12 17 [.agg (Caller.cells c), .int .i64 from_, .agg (Cmd.cells x), .agg (Answer.cells a)] [] 0 [.go 0 true]) = some (.ret (.tup [.agg [.int .i64 0, .int .i64 0, .bool false, .int .i64 0, .int .i64 0, .int .i64 0, .int .i64 0, .int .i64 0, .int .i64 0, .int .i64 0, .int .i64 0, .int .i64 0, .int .i64 0, .int .i64 0, .int .i64 0], .bool false, .int .i64 1]), [(true, (!rIsC c))]) := by kernel_rfl
theorem rHear_w1 (c : Caller) (from_ : Int) (x : Cmd) (a : Answer) : resOf (runG Try.prog (conΔ [conrIsC, conr26in]) 60 12 17 [.agg (Caller.cells c), .int .i64 from_, .agg (Cmd.cells x), .agg (Answer.cells a)] [] 0 [.go 0 false, .go 0 true]) = some (.ret (.tup [.agg [.int .i64 (Caller.session c), .int .i64 (Caller.request c), .bool (Caller.busy c), .int .i64 (Cmd.session (Caller.cmd c)), .int .i64 (Cmd.request (Caller.cmd c)), .int .i64 (Cmd.kind (Caller.cmd c)), .int .i64 (Spot.bed (Cmd.spot (Caller.cmd c))), .int .i64 (Spot.channel (Cmd.spot (Caller.cmd c))), .int .i64 (Cmd.prio (Caller.cmd c)), .int .i64 (Cmd.at_ (Caller.cmd c)), .int .i64 (Cmd.long (Caller.cmd c)), .int .i64 (Caller.to c), .int .i64 (Caller.n c), .int .i64 (Caller.wait c), .int .i64 (Caller.left c)], .bool false, .int .i64 0]), [(false, (!rIsC c)), (true, (!Caller.busy c))]) := by kernel_rfl
theorem rHear_w2 (c : Caller) (from_ : Int) (x : Cmd) (a : Answer) : resOf (runG Try.prog (conΔ [conrIsC, conr26in]) 60 12 17 [.agg (Caller.cells c), .int .i64 from_, .agg (Cmd.cells x), .agg (Answer.cells a)] [] 0 [.go 0 false, .go 0 false, .go 0 true]) = some (.ret (.tup [.agg [.int .i64 (Caller.session c), .int .i64 (Caller.request c), .bool (Caller.busy c), .int .i64 (Cmd.session (Caller.cmd c)), .int .i64 (Cmd.request (Caller.cmd c)), .int .i64 (Cmd.kind (Caller.cmd c)), .int .i64 (Spot.bed (Cmd.spot (Caller.cmd c))), .int .i64 (Spot.channel (Cmd.spot (Caller.cmd c))), .int .i64 (Cmd.prio (Caller.cmd c)), .int .i64 (Cmd.at_ (Caller.cmd c)), .int .i64 (Cmd.long (Caller.cmd c)), .int .i64 (Caller.to c), .int .i64 (Caller.n c), .int .i64 (Caller.wait c), .int .i64 (Caller.left c)], .bool false, .int .i64 0]), [(false, (!rIsC c)), (false, (!Caller.busy c)), (true, (!(Cmd.session x == Cmd.session (Caller.cmd c) && (Cmd.request x == Cmd.request (Caller.cmd c) && (Cmd.kind x == Cmd.kind (Caller.cmd c) && (Spot.bed (Cmd.spot x) == Spot.bed (Cmd.spot (Caller.cmd c)) && Spot.channel (Cmd.spot x) == Spot.channel (Cmd.spot (Caller.cmd c)) && (Cmd.prio x == Cmd.prio (Caller.cmd c) && (Cmd.at_ x == Cmd.at_ (Caller.cmd c) && Cmd.long x == Cmd.long (Caller.cmd c)))))))))]) := by kernel_rfl
theorem rHear_w3 (c : Caller) (from_ : Int) (x : Cmd) (a : Answer) : resOf (runG Try.prog (conΔ [conrIsC, conr26in]) 60 12 17 [.agg (Caller.cells c), .int .i64 from_, .agg (Cmd.cells x), .agg (Answer.cells a)] [] 0 [.go 0 false, .go 0 false, .go 0 false, .go 0 true]) = some (.ret (.tup [.agg [.int .i64 (Caller.session c), .int .i64 (Caller.request c), .bool (Caller.busy c), .int .i64 (Cmd.session (Caller.cmd c)), .int .i64 (Cmd.request (Caller.cmd c)), .int .i64 (Cmd.kind (Caller.cmd c)), .int .i64 (Spot.bed (Cmd.spot (Caller.cmd c))), .int .i64 (Spot.channel (Cmd.spot (Caller.cmd c))), .int .i64 (Cmd.prio (Caller.cmd c)), .int .i64 (Cmd.at_ (Caller.cmd c)), .int .i64 (Cmd.long (Caller.cmd c)), .int .i64 (Caller.to c), .int .i64 (Caller.n c), .int .i64 (Caller.wait c), .int .i64 (Caller.left c)], .bool false, .int .i64 0]), [(false, (!rIsC c)), (false, (!Caller.busy c)), (false, (!(Cmd.session x == Cmd.session (Caller.cmd c) && (Cmd.request x == Cmd.request (Caller.cmd c) && (Cmd.kind x == Cmd.kind (Caller.cmd c) && (Spot.bed (Cmd.spot x) == Spot.bed (Cmd.spot (Caller.cmd c)) && Spot.channel (Cmd.spot x) == Spot.channel (Cmd.spot (Caller.cmd c)) && (Cmd.prio x == Cmd.prio (Caller.cmd c) && (Cmd.at_ x == Cmd.at_ (Caller.cmd c) && Cmd.long x == Cmd.long (Caller.cmd c))))))))), (true, (!r26in from_ (0 : Int) (Go.IntKind.wrap Go.IntKind.i64 (Caller.n c - (1 : Int)))))]) := by kernel_rfl
theorem rHear_w4 (c : Caller) (from_ : Int) (x : Cmd) (a : Answer) : resOf (runG Try.prog (conΔ [conrIsC, conr26in]) 60 12 17 [.agg (Caller.cells c), .int .i64 from_, .agg (Cmd.cells x), .agg (Answer.cells a)] [] 0 [.go 0 false, .go 0 false, .go 0 false, .go 0 false, .go 0 true, .go 0 true, .go 0 true, .go 0 true, .go 0 true]) = some (.ret (.tup [.agg [.int .i64 0, .int .i64 (Caller.request c), .bool false, .int .i64 0, .int .i64 0, .int .i64 0, .int .i64 0, .int .i64 0, .int .i64 0, .int .i64 0, .int .i64 0, .int .i64 from_, .int .i64 (Caller.n c), .int .i64 (Caller.wait c), .int .i64 0], .bool true, .int .i64 0]), [(false, (!rIsC c)), (false, (!Caller.busy c)), (false, (!(Cmd.session x == Cmd.session (Caller.cmd c) && (Cmd.request x == Cmd.request (Caller.cmd c) && (Cmd.kind x == Cmd.kind (Caller.cmd c) && (Spot.bed (Cmd.spot x) == Spot.bed (Cmd.spot (Caller.cmd c)) && Spot.channel (Cmd.spot x) == Spot.channel (Cmd.spot (Caller.cmd c)) && (Cmd.prio x == Cmd.prio (Caller.cmd c) && (Cmd.at_ x == Cmd.at_ (Caller.cmd c) && Cmd.long x == Cmd.long (Caller.cmd c))))))))), (false, (!r26in from_ (0 : Int) (Go.IntKind.wrap Go.IntKind.i64 (Caller.n c - (1 : Int))))), (true, (Cmd.kind x == (1 : Int))), (true, (Answer.code a == (0 : Int))), (true, (r26in (Answer.num a) (1 : Int) (1000000000 : Int))), (true, (Cmd.kind x != (1 : Int))), (true, (Answer.code a == (181 : Int)))]) := by kernel_rfl
theorem rHear_w5 (c : Caller) (from_ : Int) (x : Cmd) (a : Answer) : resOf (runG Try.prog (conΔ [conrIsC, conr26in]) 60 12 17 [.agg (Caller.cells c), .int .i64 from_, .agg (Cmd.cells x), .agg (Answer.cells a)] [] 0 [.go 0 false, .go 0 false, .go 0 false, .go 0 false, .go 0 true, .go 0 true, .go 0 true, .go 0 true, .go 0 false]) = some (.ret (.tup [.agg [.int .i64 (Answer.num a), .int .i64 (Caller.request c), .bool false, .int .i64 0, .int .i64 0, .int .i64 0, .int .i64 0, .int .i64 0, .int .i64 0, .int .i64 0, .int .i64 0, .int .i64 from_, .int .i64 (Caller.n c), .int .i64 (Caller.wait c), .int .i64 0], .bool true, .int .i64 0]), [(false, (!rIsC c)), (false, (!Caller.busy c)), (false, (!(Cmd.session x == Cmd.session (Caller.cmd c) && (Cmd.request x == Cmd.request (Caller.cmd c) && (Cmd.kind x == Cmd.kind (Caller.cmd c) && (Spot.bed (Cmd.spot x) == Spot.bed (Cmd.spot (Caller.cmd c)) && Spot.channel (Cmd.spot x) == Spot.channel (Cmd.spot (Caller.cmd c)) && (Cmd.prio x == Cmd.prio (Caller.cmd c) && (Cmd.at_ x == Cmd.at_ (Caller.cmd c) && Cmd.long x == Cmd.long (Caller.cmd c))))))))), (false, (!r26in from_ (0 : Int) (Go.IntKind.wrap Go.IntKind.i64 (Caller.n c - (1 : Int))))), (true, (Cmd.kind x == (1 : Int))), (true, (Answer.code a == (0 : Int))), (true, (r26in (Answer.num a) (1 : Int) (1000000000 : Int))), (true, (Cmd.kind x != (1 : Int))), (false, (Answer.code a == (181 : Int)))]) := by kernel_rfl
theorem rHear_w6 (c : Caller) (from_ : Int) (x : Cmd) (a : Answer) : resOf (runG Try.prog (conΔ [conrIsC, conr26in]) 60 12 17 [.agg (Caller.cells c), .int .i64 from_, .agg (Cmd.cells x), .agg (Answer.cells a)] [] 0 [.go 0 false, .go 0 false, .go 0 false, .go 0 false, .go 0 true, .go 0 true, .go 0 true, .go 0 false]) = some (.ret (.tup [.agg [.int .i64 (Answer.num a), .int .i64 (Caller.request c), .bool false, .int .i64 0, .int .i64 0, .int .i64 0, .int .i64 0, .int .i64 0, .int .i64 0, .int .i64 0, .int .i64 0, .int .i64 from_, .int .i64 (Caller.n c), .int .i64 (Caller.wait c), .int .i64 0], .bool true, .int .i64 0]), [(false, (!rIsC c)), (false, (!Caller.busy c)), (false, (!(Cmd.session x == Cmd.session (Caller.cmd c) && (Cmd.request x == Cmd.request (Caller.cmd c) && (Cmd.kind x == Cmd.kind (Caller.cmd c) && (Spot.bed (Cmd.spot x) == Spot.bed (Cmd.spot (Caller.cmd c)) && Spot.channel (Cmd.spot x) == Spot.channel (Cmd.spot (Caller.cmd c)) && (Cmd.prio x == Cmd.prio (Caller.cmd c) && (Cmd.at_ x == Cmd.at_ (Caller.cmd c) && Cmd.long x == Cmd.long (Caller.cmd c))))))))), (false, (!r26in from_ (0 : Int) (Go.IntKind.wrap Go.IntKind.i64 (Caller.n c - (1 : Int))))), (true, (Cmd.kind x == (1 : Int))), (true, (Answer.code a == (0 : Int))), (true, (r26in (Answer.num a) (1 : Int) (1000000000 : Int))), (false, (Cmd.kind x != (1 : Int)))]) := by kernel_rfl
theorem rHear_w7 (c : Caller) (from_ : Int) (x : Cmd) (a : Answer) : resOf (runG Try.prog (conΔ [conrIsC, conr26in]) 60 12 17 [.agg (Caller.cells c), .int .i64 from_, .agg (Cmd.cells x), .agg (Answer.cells a)] [] 0 [.go 0 false, .go 0 false, .go 0 false, .go 0 false, .go 0 true, .go 0 true, .go 0 false, .go 0 true, .go 0 true]) = some (.ret (.tup [.agg [.int .i64 0, .int .i64 (Caller.request c), .bool false, .int .i64 0, .int .i64 0, .int .i64 0, .int .i64 0, .int .i64 0, .int .i64 0, .int .i64 0, .int .i64 0, .int .i64 from_, .int .i64 (Caller.n c), .int .i64 (Caller.wait c), .int .i64 0], .bool true, .int .i64 0]), [(false, (!rIsC c)), (false, (!Caller.busy c)), (false, (!(Cmd.session x == Cmd.session (Caller.cmd c) && (Cmd.request x == Cmd.request (Caller.cmd c) && (Cmd.kind x == Cmd.kind (Caller.cmd c) && (Spot.bed (Cmd.spot x) == Spot.bed (Cmd.spot (Caller.cmd c)) && Spot.channel (Cmd.spot x) == Spot.channel (Cmd.spot (Caller.cmd c)) && (Cmd.prio x == Cmd.prio (Caller.cmd c) && (Cmd.at_ x == Cmd.at_ (Caller.cmd c) && Cmd.long x == Cmd.long (Caller.cmd c))))))))), (false, (!r26in from_ (0 : Int) (Go.IntKind.wrap Go.IntKind.i64 (Caller.n c - (1 : Int))))), (true, (Cmd.kind x == (1 : Int))), (true, (Answer.code a == (0 : Int))), (false, (r26in (Answer.num a) (1 : Int) (1000000000 : Int))), (true, (Cmd.kind x != (1 : Int))), (true, (Answer.code a == (181 : Int)))]) := by kernel_rfl
theorem rHear_w8 (c : Caller) (from_ : Int) (x : Cmd) (a : Answer) : resOf (runG Try.prog (conΔ [conrIsC, conr26in]) 60 12 17 [.agg (Caller.cells c), .int .i64 from_, .agg (Cmd.cells x), .agg (Answer.cells a)] [] 0 [.go 0 false, .go 0 false, .go 0 false, .go 0 false, .go 0 true, .go 0 true, .go 0 false, .go 0 true, .go 0 false]) = some (.ret (.tup [.agg [.int .i64 (Caller.session c), .int .i64 (Caller.request c), .bool false, .int .i64 0, .int .i64 0, .int .i64 0, .int .i64 0, .int .i64 0, .int .i64 0, .int .i64 0, .int .i64 0, .int .i64 from_, .int .i64 (Caller.n c), .int .i64 (Caller.wait c), .int .i64 0], .bool true, .int .i64 0]), [(false, (!rIsC c)), (false, (!Caller.busy c)), (false, (!(Cmd.session x == Cmd.session (Caller.cmd c) && (Cmd.request x == Cmd.request (Caller.cmd c) && (Cmd.kind x == Cmd.kind (Caller.cmd c) && (Spot.bed (Cmd.spot x) == Spot.bed (Cmd.spot (Caller.cmd c)) && Spot.channel (Cmd.spot x) == Spot.channel (Cmd.spot (Caller.cmd c)) && (Cmd.prio x == Cmd.prio (Caller.cmd c) && (Cmd.at_ x == Cmd.at_ (Caller.cmd c) && Cmd.long x == Cmd.long (Caller.cmd c))))))))), (false, (!r26in from_ (0 : Int) (Go.IntKind.wrap Go.IntKind.i64 (Caller.n c - (1 : Int))))), (true, (Cmd.kind x == (1 : Int))), (true, (Answer.code a == (0 : Int))), (false, (r26in (Answer.num a) (1 : Int) (1000000000 : Int))), (true, (Cmd.kind x != (1 : Int))), (false, (Answer.code a == (181 : Int)))]) := by kernel_rfl
theorem rHear_w9 (c : Caller) (from_ : Int) (x : Cmd) (a : Answer) : resOf (runG Try.prog (conΔ [conrIsC, conr26in]) 60 12 17 [.agg (Caller.cells c), .int .i64 from_, .agg (Cmd.cells x), .agg (Answer.cells a)] [] 0 [.go 0 false, .go 0 false, .go 0 false, .go 0 false, .go 0 true, .go 0 true, .go 0 false, .go 0 false]) = some (.ret (.tup [.agg [.int .i64 (Caller.session c), .int .i64 (Caller.request c), .bool false, .int .i64 0, .int .i64 0, .int .i64 0, .int .i64 0, .int .i64 0, .int .i64 0, .int .i64 0, .int .i64 0, .int .i64 from_, .int .i64 (Caller.n c), .int .i64 (Caller.wait c), .int .i64 0], .bool true, .int .i64 0]), [(false, (!rIsC c)), (false, (!Caller.busy c)), (false, (!(Cmd.session x == Cmd.session (Caller.cmd c) && (Cmd.request x == Cmd.request (Caller.cmd c) && (Cmd.kind x == Cmd.kind (Caller.cmd c) && (Spot.bed (Cmd.spot x) == Spot.bed (Cmd.spot (Caller.cmd c)) && Spot.channel (Cmd.spot x) == Spot.channel (Cmd.spot (Caller.cmd c)) && (Cmd.prio x == Cmd.prio (Caller.cmd c) && (Cmd.at_ x == Cmd.at_ (Caller.cmd c) && Cmd.long x == Cmd.long (Caller.cmd c))))))))), (false, (!r26in from_ (0 : Int) (Go.IntKind.wrap Go.IntKind.i64 (Caller.n c - (1 : Int))))), (true, (Cmd.kind x == (1 : Int))), (true, (Answer.code a == (0 : Int))), (false, (r26in (Answer.num a) (1 : Int) (1000000000 : Int))), (false, (Cmd.kind x != (1 : Int)))]) := by kernel_rfl
theorem rHear_w10 (c : Caller) (from_ : Int) (x : Cmd) (a : Answer) : resOf (runG Try.prog (conΔ [conrIsC, conr26in]) 60 12 17 [.agg (Caller.cells c), .int .i64 from_, .agg (Cmd.cells x), .agg (Answer.cells a)] [] 0 [.go 0 false, .go 0 false, .go 0 false, .go 0 false, .go 0 true, .go 0 false, .go 1 true, .go 0 true]) = some (.ret (.tup [.agg [.int .i64 0, .int .i64 (Caller.request c), .bool false, .int .i64 0, .int .i64 0, .int .i64 0, .int .i64 0, .int .i64 0, .int .i64 0, .int .i64 0, .int .i64 0, .int .i64 from_, .int .i64 (Caller.n c), .int .i64 (Caller.wait c), .int .i64 0], .bool true, .int .i64 0]), [(false, (!rIsC c)), (false, (!Caller.busy c)), (false, (!(Cmd.session x == Cmd.session (Caller.cmd c) && (Cmd.request x == Cmd.request (Caller.cmd c) && (Cmd.kind x == Cmd.kind (Caller.cmd c) && (Spot.bed (Cmd.spot x) == Spot.bed (Cmd.spot (Caller.cmd c)) && Spot.channel (Cmd.spot x) == Spot.channel (Cmd.spot (Caller.cmd c)) && (Cmd.prio x == Cmd.prio (Caller.cmd c) && (Cmd.at_ x == Cmd.at_ (Caller.cmd c) && Cmd.long x == Cmd.long (Caller.cmd c))))))))), (false, (!r26in from_ (0 : Int) (Go.IntKind.wrap Go.IntKind.i64 (Caller.n c - (1 : Int))))), (true, (Cmd.kind x == (1 : Int))), (false, (Answer.code a == (0 : Int))), (true, (Cmd.kind x != (1 : Int))), (true, (Answer.code a == (181 : Int)))]) := by kernel_rfl
theorem rHear_w11 (c : Caller) (from_ : Int) (x : Cmd) (a : Answer) : resOf (runG Try.prog (conΔ [conrIsC, conr26in]) 60 12 17 [.agg (Caller.cells c), .int .i64 from_, .agg (Cmd.cells x), .agg (Answer.cells a)] [] 0 [.go 0 false, .go 0 false, .go 0 false, .go 0 false, .go 0 true, .go 0 false, .go 1 true, .go 0 false]) = some (.ret (.tup [.agg [.int .i64 (Caller.session c), .int .i64 (Caller.request c), .bool false, .int .i64 0, .int .i64 0, .int .i64 0, .int .i64 0, .int .i64 0, .int .i64 0, .int .i64 0, .int .i64 0, .int .i64 from_, .int .i64 (Caller.n c), .int .i64 (Caller.wait c), .int .i64 0], .bool true, .int .i64 0]), [(false, (!rIsC c)), (false, (!Caller.busy c)), (false, (!(Cmd.session x == Cmd.session (Caller.cmd c) && (Cmd.request x == Cmd.request (Caller.cmd c) && (Cmd.kind x == Cmd.kind (Caller.cmd c) && (Spot.bed (Cmd.spot x) == Spot.bed (Cmd.spot (Caller.cmd c)) && Spot.channel (Cmd.spot x) == Spot.channel (Cmd.spot (Caller.cmd c)) && (Cmd.prio x == Cmd.prio (Caller.cmd c) && (Cmd.at_ x == Cmd.at_ (Caller.cmd c) && Cmd.long x == Cmd.long (Caller.cmd c))))))))), (false, (!r26in from_ (0 : Int) (Go.IntKind.wrap Go.IntKind.i64 (Caller.n c - (1 : Int))))), (true, (Cmd.kind x == (1 : Int))), (false, (Answer.code a == (0 : Int))), (true, (Cmd.kind x != (1 : Int))), (false, (Answer.code a == (181 : Int)))]) := by kernel_rfl
theorem rHear_w12 (c : Caller) (from_ : Int) (x : Cmd) (a : Answer) : resOf (runG Try.prog (conΔ [conrIsC, conr26in]) 60 12 17 [.agg (Caller.cells c), .int .i64 from_, .agg (Cmd.cells x), .agg (Answer.cells a)] [] 0 [.go 0 false, .go 0 false, .go 0 false, .go 0 false, .go 0 true, .go 0 false, .go 1 false]) = some (.ret (.tup [.agg [.int .i64 (Caller.session c), .int .i64 (Caller.request c), .bool false, .int .i64 0, .int .i64 0, .int .i64 0, .int .i64 0, .int .i64 0, .int .i64 0, .int .i64 0, .int .i64 0, .int .i64 from_, .int .i64 (Caller.n c), .int .i64 (Caller.wait c), .int .i64 0], .bool true, .int .i64 0]), [(false, (!rIsC c)), (false, (!Caller.busy c)), (false, (!(Cmd.session x == Cmd.session (Caller.cmd c) && (Cmd.request x == Cmd.request (Caller.cmd c) && (Cmd.kind x == Cmd.kind (Caller.cmd c) && (Spot.bed (Cmd.spot x) == Spot.bed (Cmd.spot (Caller.cmd c)) && Spot.channel (Cmd.spot x) == Spot.channel (Cmd.spot (Caller.cmd c)) && (Cmd.prio x == Cmd.prio (Caller.cmd c) && (Cmd.at_ x == Cmd.at_ (Caller.cmd c) && Cmd.long x == Cmd.long (Caller.cmd c))))))))), (false, (!r26in from_ (0 : Int) (Go.IntKind.wrap Go.IntKind.i64 (Caller.n c - (1 : Int))))), (true, (Cmd.kind x == (1 : Int))), (false, (Answer.code a == (0 : Int))), (false, (Cmd.kind x != (1 : Int)))]) := by kernel_rfl
theorem rHear_w13 (c : Caller) (from_ : Int) (x : Cmd) (a : Answer) : resOf (runG Try.prog (conΔ [conrIsC, conr26in]) 60 12 17 [.agg (Caller.cells c), .int .i64 from_, .agg (Cmd.cells x), .agg (Answer.cells a)] [] 0 [.go 0 false, .go 0 false, .go 0 false, .go 0 false, .go 0 false, .go 2 true, .go 0 true]) = some (.ret (.tup [.agg [.int .i64 0, .int .i64 (Caller.request c), .bool false, .int .i64 0, .int .i64 0, .int .i64 0, .int .i64 0, .int .i64 0, .int .i64 0, .int .i64 0, .int .i64 0, .int .i64 from_, .int .i64 (Caller.n c), .int .i64 (Caller.wait c), .int .i64 0], .bool true, .int .i64 0]), [(false, (!rIsC c)), (false, (!Caller.busy c)), (false, (!(Cmd.session x == Cmd.session (Caller.cmd c) && (Cmd.request x == Cmd.request (Caller.cmd c) && (Cmd.kind x == Cmd.kind (Caller.cmd c) && (Spot.bed (Cmd.spot x) == Spot.bed (Cmd.spot (Caller.cmd c)) && Spot.channel (Cmd.spot x) == Spot.channel (Cmd.spot (Caller.cmd c)) && (Cmd.prio x == Cmd.prio (Caller.cmd c) && (Cmd.at_ x == Cmd.at_ (Caller.cmd c) && Cmd.long x == Cmd.long (Caller.cmd c))))))))), (false, (!r26in from_ (0 : Int) (Go.IntKind.wrap Go.IntKind.i64 (Caller.n c - (1 : Int))))), (false, (Cmd.kind x == (1 : Int))), (true, (Cmd.kind x != (1 : Int))), (true, (Answer.code a == (181 : Int)))]) := by kernel_rfl
theorem rHear_w14 (c : Caller) (from_ : Int) (x : Cmd) (a : Answer) : resOf (runG Try.prog (conΔ [conrIsC, conr26in]) 60 12 17 [.agg (Caller.cells c), .int .i64 from_, .agg (Cmd.cells x), .agg (Answer.cells a)] [] 0 [.go 0 false, .go 0 false, .go 0 false, .go 0 false, .go 0 false, .go 2 true, .go 0 false]) = some (.ret (.tup [.agg [.int .i64 (Caller.session c), .int .i64 (Caller.request c), .bool false, .int .i64 0, .int .i64 0, .int .i64 0, .int .i64 0, .int .i64 0, .int .i64 0, .int .i64 0, .int .i64 0, .int .i64 from_, .int .i64 (Caller.n c), .int .i64 (Caller.wait c), .int .i64 0], .bool true, .int .i64 0]), [(false, (!rIsC c)), (false, (!Caller.busy c)), (false, (!(Cmd.session x == Cmd.session (Caller.cmd c) && (Cmd.request x == Cmd.request (Caller.cmd c) && (Cmd.kind x == Cmd.kind (Caller.cmd c) && (Spot.bed (Cmd.spot x) == Spot.bed (Cmd.spot (Caller.cmd c)) && Spot.channel (Cmd.spot x) == Spot.channel (Cmd.spot (Caller.cmd c)) && (Cmd.prio x == Cmd.prio (Caller.cmd c) && (Cmd.at_ x == Cmd.at_ (Caller.cmd c) && Cmd.long x == Cmd.long (Caller.cmd c))))))))), (false, (!r26in from_ (0 : Int) (Go.IntKind.wrap Go.IntKind.i64 (Caller.n c - (1 : Int))))), (false, (Cmd.kind x == (1 : Int))), (true, (Cmd.kind x != (1 : Int))), (false, (Answer.code a == (181 : Int)))]) := by kernel_rfl
theorem rHear_w15 (c : Caller) (from_ : Int) (x : Cmd) (a : Answer) : resOf (runG Try.prog (conΔ [conrIsC, conr26in]) 60 12 17 [.agg (Caller.cells c), .int .i64 from_, .agg (Cmd.cells x), .agg (Answer.cells a)] [] 0 [.go 0 false, .go 0 false, .go 0 false, .go 0 false, .go 0 false, .go 2 false]) = some (.ret (.tup [.agg [.int .i64 (Caller.session c), .int .i64 (Caller.request c), .bool false, .int .i64 0, .int .i64 0, .int .i64 0, .int .i64 0, .int .i64 0, .int .i64 0, .int .i64 0, .int .i64 0, .int .i64 from_, .int .i64 (Caller.n c), .int .i64 (Caller.wait c), .int .i64 0], .bool true, .int .i64 0]), [(false, (!rIsC c)), (false, (!Caller.busy c)), (false, (!(Cmd.session x == Cmd.session (Caller.cmd c) && (Cmd.request x == Cmd.request (Caller.cmd c) && (Cmd.kind x == Cmd.kind (Caller.cmd c) && (Spot.bed (Cmd.spot x) == Spot.bed (Cmd.spot (Caller.cmd c)) && Spot.channel (Cmd.spot x) == Spot.channel (Cmd.spot (Caller.cmd c)) && (Cmd.prio x == Cmd.prio (Caller.cmd c) && (Cmd.at_ x == Cmd.at_ (Caller.cmd c) && Cmd.long x == Cmd.long (Caller.cmd c))))))))), (false, (!r26in from_ (0 : Int) (Go.IntKind.wrap Go.IntKind.i64 (Caller.n c - (1 : Int))))), (false, (Cmd.kind x == (1 : Int))), (false, (Cmd.kind x != (1 : Int)))]) := by kernel_rfl
theorem rHear_ok (c : Caller) (from_ : Int) (x : Cmd) (a : Answer) (ha_lines : flatCell a.lines = true) (h : Heap) (n : Nat) : CallOk Try.prog 17 [.agg (Caller.cells c), .int .i64 from_, .agg (Cmd.cells x), .agg (Answer.cells a)] h n (.ret (.tup [.agg (Caller.cells ((rHear c from_ x a).1)), .bool ((rHear c from_ x a).2.1), .int .i64 ((rHear c from_ x a).2.2)])) h n := by
  rcases Bool.eq_false_or_eq_true (!rIsC c) with h0 | h0
  · 
    have e : rHear c from_ x a = ((⟨0, 0, false, (⟨0, 0, 0, (⟨0, 0⟩ : Spot), 0, 0, 0⟩ : Cmd), 0, 0, 0, 0⟩ : Caller), false, 1) := by simp only [rHear, h0, cond]
    rw [e]
    exact way rHearCf (rHear_w0 c from_ x a) (conds_cons h0.symm conds_nil) (by simp only [all_c, all_n, fv_agg, fv_bool, fv_int, fv_str, fv_dsl, fc_bool, fc_int, fc_str, fc_dsl, fc_dptr, Bool.and_true, Bool.true_and, ha_lines]) rfl h n
  · 
    rcases Bool.eq_false_or_eq_true (!Caller.busy c) with h1 | h1
    · 
      have e : rHear c from_ x a = (c, false, 0) := by simp only [rHear, h0, h1, cond]
      rw [e]
      exact way rHearCf (rHear_w1 c from_ x a) (conds_cons h0.symm (conds_cons h1.symm conds_nil)) (by simp only [all_c, all_n, fv_agg, fv_bool, fv_int, fv_str, fv_dsl, fc_bool, fc_int, fc_str, fc_dsl, fc_dptr, Bool.and_true, Bool.true_and, ha_lines]) rfl h n
    · 
      rcases Bool.eq_false_or_eq_true (!(Cmd.session x == Cmd.session (Caller.cmd c) && (Cmd.request x == Cmd.request (Caller.cmd c) && (Cmd.kind x == Cmd.kind (Caller.cmd c) && (Spot.bed (Cmd.spot x) == Spot.bed (Cmd.spot (Caller.cmd c)) && Spot.channel (Cmd.spot x) == Spot.channel (Cmd.spot (Caller.cmd c)) && (Cmd.prio x == Cmd.prio (Caller.cmd c) && (Cmd.at_ x == Cmd.at_ (Caller.cmd c) && Cmd.long x == Cmd.long (Caller.cmd c)))))))) with h2 | h2
      · 
        have e : rHear c from_ x a = (c, false, 0) := by simp only [rHear, h0, h1, h2, cond]
        rw [e]
        exact way rHearCf (rHear_w2 c from_ x a) (conds_cons h0.symm (conds_cons h1.symm (conds_cons h2.symm conds_nil))) (by simp only [all_c, all_n, fv_agg, fv_bool, fv_int, fv_str, fv_dsl, fc_bool, fc_int, fc_str, fc_dsl, fc_dptr, Bool.and_true, Bool.true_and, ha_lines]) rfl h n
      · 
        rcases Bool.eq_false_or_eq_true (!r26in from_ (0 : Int) (Go.IntKind.wrap Go.IntKind.i64 (Caller.n c - (1 : Int)))) with h3 | h3
        · 
          have e : rHear c from_ x a = (c, false, 0) := by simp only [rHear, h0, h1, h2, h3, cond]
          rw [e]
          exact way rHearCf (rHear_w3 c from_ x a) (conds_cons h0.symm (conds_cons h1.symm (conds_cons h2.symm (conds_cons h3.symm conds_nil)))) (by simp only [all_c, all_n, fv_agg, fv_bool, fv_int, fv_str, fv_dsl, fc_bool, fc_int, fc_str, fc_dsl, fc_dptr, Bool.and_true, Bool.true_and, ha_lines]) rfl h n
        · 
          rcases Bool.eq_false_or_eq_true (Cmd.kind x == (1 : Int)) with h4 | h4
          · 
            rcases Bool.eq_false_or_eq_true (Answer.code a == (0 : Int)) with h5 | h5
            · 
              rcases Bool.eq_false_or_eq_true (r26in (Answer.num a) (1 : Int) (1000000000 : Int)) with h6 | h6
              · 
                rcases Bool.eq_false_or_eq_true (Cmd.kind x != (1 : Int)) with h7 | h7
                · 
                  rcases Bool.eq_false_or_eq_true (Answer.code a == (181 : Int)) with h8 | h8
                  · 
                    have e : rHear c from_ x a = ((⟨0, (Caller.request c), false, (⟨0, 0, 0, (⟨0, 0⟩ : Spot), 0, 0, 0⟩ : Cmd), from_, (Caller.n c), (Caller.wait c), 0⟩ : Caller), true, 0) := by simp only [rHear, h0, h1, h2, h3, h4, h5, h6, h7, h8, cond]
                    rw [e]
                    exact way rHearCf (rHear_w4 c from_ x a) (conds_cons h0.symm (conds_cons h1.symm (conds_cons h2.symm (conds_cons h3.symm (conds_cons h4.symm (conds_cons h5.symm (conds_cons h6.symm (conds_cons h7.symm (conds_cons h8.symm conds_nil))))))))) (by simp only [all_c, all_n, fv_agg, fv_bool, fv_int, fv_str, fv_dsl, fc_bool, fc_int, fc_str, fc_dsl, fc_dptr, Bool.and_true, Bool.true_and, ha_lines]) rfl h n
                  · 
                    have e : rHear c from_ x a = ((⟨(Answer.num a), (Caller.request c), false, (⟨0, 0, 0, (⟨0, 0⟩ : Spot), 0, 0, 0⟩ : Cmd), from_, (Caller.n c), (Caller.wait c), 0⟩ : Caller), true, 0) := by simp only [rHear, h0, h1, h2, h3, h4, h5, h6, h7, h8, cond]
                    rw [e]
                    exact way rHearCf (rHear_w5 c from_ x a) (conds_cons h0.symm (conds_cons h1.symm (conds_cons h2.symm (conds_cons h3.symm (conds_cons h4.symm (conds_cons h5.symm (conds_cons h6.symm (conds_cons h7.symm (conds_cons h8.symm conds_nil))))))))) (by simp only [all_c, all_n, fv_agg, fv_bool, fv_int, fv_str, fv_dsl, fc_bool, fc_int, fc_str, fc_dsl, fc_dptr, Bool.and_true, Bool.true_and, ha_lines]) rfl h n
                · 
                  have e : rHear c from_ x a = ((⟨(Answer.num a), (Caller.request c), false, (⟨0, 0, 0, (⟨0, 0⟩ : Spot), 0, 0, 0⟩ : Cmd), from_, (Caller.n c), (Caller.wait c), 0⟩ : Caller), true, 0) := by simp only [rHear, h0, h1, h2, h3, h4, h5, h6, h7, cond]
                  rw [e]
                  exact way rHearCf (rHear_w6 c from_ x a) (conds_cons h0.symm (conds_cons h1.symm (conds_cons h2.symm (conds_cons h3.symm (conds_cons h4.symm (conds_cons h5.symm (conds_cons h6.symm (conds_cons h7.symm conds_nil)))))))) (by simp only [all_c, all_n, fv_agg, fv_bool, fv_int, fv_str, fv_dsl, fc_bool, fc_int, fc_str, fc_dsl, fc_dptr, Bool.and_true, Bool.true_and, ha_lines]) rfl h n
              · 
                rcases Bool.eq_false_or_eq_true (Cmd.kind x != (1 : Int)) with h7 | h7
                · 
                  rcases Bool.eq_false_or_eq_true (Answer.code a == (181 : Int)) with h8 | h8
                  · 
                    have e : rHear c from_ x a = ((⟨0, (Caller.request c), false, (⟨0, 0, 0, (⟨0, 0⟩ : Spot), 0, 0, 0⟩ : Cmd), from_, (Caller.n c), (Caller.wait c), 0⟩ : Caller), true, 0) := by simp only [rHear, h0, h1, h2, h3, h4, h5, h6, h7, h8, cond]
                    rw [e]
                    exact way rHearCf (rHear_w7 c from_ x a) (conds_cons h0.symm (conds_cons h1.symm (conds_cons h2.symm (conds_cons h3.symm (conds_cons h4.symm (conds_cons h5.symm (conds_cons h6.symm (conds_cons h7.symm (conds_cons h8.symm conds_nil))))))))) (by simp only [all_c, all_n, fv_agg, fv_bool, fv_int, fv_str, fv_dsl, fc_bool, fc_int, fc_str, fc_dsl, fc_dptr, Bool.and_true, Bool.true_and, ha_lines]) rfl h n
                  · 
                    have e : rHear c from_ x a = ((⟨(Caller.session c), (Caller.request c), false, (⟨0, 0, 0, (⟨0, 0⟩ : Spot), 0, 0, 0⟩ : Cmd), from_, (Caller.n c), (Caller.wait c), 0⟩ : Caller), true, 0) := by simp only [rHear, h0, h1, h2, h3, h4, h5, h6, h7, h8, cond]
                    rw [e]
                    exact way rHearCf (rHear_w8 c from_ x a) (conds_cons h0.symm (conds_cons h1.symm (conds_cons h2.symm (conds_cons h3.symm (conds_cons h4.symm (conds_cons h5.symm (conds_cons h6.symm (conds_cons h7.symm (conds_cons h8.symm conds_nil))))))))) (by simp only [all_c, all_n, fv_agg, fv_bool, fv_int, fv_str, fv_dsl, fc_bool, fc_int, fc_str, fc_dsl, fc_dptr, Bool.and_true, Bool.true_and, ha_lines]) rfl h n
                · 
                  have e : rHear c from_ x a = ((⟨(Caller.session c), (Caller.request c), false, (⟨0, 0, 0, (⟨0, 0⟩ : Spot), 0, 0, 0⟩ : Cmd), from_, (Caller.n c), (Caller.wait c), 0⟩ : Caller), true, 0) := by simp only [rHear, h0, h1, h2, h3, h4, h5, h6, h7, cond]
                  rw [e]
                  exact way rHearCf (rHear_w9 c from_ x a) (conds_cons h0.symm (conds_cons h1.symm (conds_cons h2.symm (conds_cons h3.symm (conds_cons h4.symm (conds_cons h5.symm (conds_cons h6.symm (conds_cons h7.symm conds_nil)))))))) (by simp only [all_c, all_n, fv_agg, fv_bool, fv_int, fv_str, fv_dsl, fc_bool, fc_int, fc_str, fc_dsl, fc_dptr, Bool.and_true, Bool.true_and, ha_lines]) rfl h n
            · 
              rcases Bool.eq_false_or_eq_true (Cmd.kind x != (1 : Int)) with h6 | h6
              · 
                rcases Bool.eq_false_or_eq_true (Answer.code a == (181 : Int)) with h7 | h7
                · 
                  have e : rHear c from_ x a = ((⟨0, (Caller.request c), false, (⟨0, 0, 0, (⟨0, 0⟩ : Spot), 0, 0, 0⟩ : Cmd), from_, (Caller.n c), (Caller.wait c), 0⟩ : Caller), true, 0) := by simp only [rHear, h0, h1, h2, h3, h4, h5, h6, h7, cond]
                  rw [e]
                  exact way rHearCf (rHear_w10 c from_ x a) (conds_cons h0.symm (conds_cons h1.symm (conds_cons h2.symm (conds_cons h3.symm (conds_cons h4.symm (conds_cons h5.symm (conds_cons h6.symm (conds_cons h7.symm conds_nil)))))))) (by simp only [all_c, all_n, fv_agg, fv_bool, fv_int, fv_str, fv_dsl, fc_bool, fc_int, fc_str, fc_dsl, fc_dptr, Bool.and_true, Bool.true_and, ha_lines]) rfl h n
                · 
                  have e : rHear c from_ x a = ((⟨(Caller.session c), (Caller.request c), false, (⟨0, 0, 0, (⟨0, 0⟩ : Spot), 0, 0, 0⟩ : Cmd), from_, (Caller.n c), (Caller.wait c), 0⟩ : Caller), true, 0) := by simp only [rHear, h0, h1, h2, h3, h4, h5, h6, h7, cond]
                  rw [e]
                  exact way rHearCf (rHear_w11 c from_ x a) (conds_cons h0.symm (conds_cons h1.symm (conds_cons h2.symm (conds_cons h3.symm (conds_cons h4.symm (conds_cons h5.symm (conds_cons h6.symm (conds_cons h7.symm conds_nil)))))))) (by simp only [all_c, all_n, fv_agg, fv_bool, fv_int, fv_str, fv_dsl, fc_bool, fc_int, fc_str, fc_dsl, fc_dptr, Bool.and_true, Bool.true_and, ha_lines]) rfl h n
              · 
                have e : rHear c from_ x a = ((⟨(Caller.session c), (Caller.request c), false, (⟨0, 0, 0, (⟨0, 0⟩ : Spot), 0, 0, 0⟩ : Cmd), from_, (Caller.n c), (Caller.wait c), 0⟩ : Caller), true, 0) := by simp only [rHear, h0, h1, h2, h3, h4, h5, h6, cond]
                rw [e]
                exact way rHearCf (rHear_w12 c from_ x a) (conds_cons h0.symm (conds_cons h1.symm (conds_cons h2.symm (conds_cons h3.symm (conds_cons h4.symm (conds_cons h5.symm (conds_cons h6.symm conds_nil))))))) (by simp only [all_c, all_n, fv_agg, fv_bool, fv_int, fv_str, fv_dsl, fc_bool, fc_int, fc_str, fc_dsl, fc_dptr, Bool.and_true, Bool.true_and, ha_lines]) rfl h n
          · 
            rcases Bool.eq_false_or_eq_true (Cmd.kind x != (1 : Int)) with h5 | h5
            · 
              rcases Bool.eq_false_or_eq_true (Answer.code a == (181 : Int)) with h6 | h6
              · 
                have e : rHear c from_ x a = ((⟨0, (Caller.request c), false, (⟨0, 0, 0, (⟨0, 0⟩ : Spot), 0, 0, 0⟩ : Cmd), from_, (Caller.n c), (Caller.wait c), 0⟩ : Caller), true, 0) := by simp only [rHear, h0, h1, h2, h3, h4, h5, h6, cond]
                rw [e]
                exact way rHearCf (rHear_w13 c from_ x a) (conds_cons h0.symm (conds_cons h1.symm (conds_cons h2.symm (conds_cons h3.symm (conds_cons h4.symm (conds_cons h5.symm (conds_cons h6.symm conds_nil))))))) (by simp only [all_c, all_n, fv_agg, fv_bool, fv_int, fv_str, fv_dsl, fc_bool, fc_int, fc_str, fc_dsl, fc_dptr, Bool.and_true, Bool.true_and, ha_lines]) rfl h n
              · 
                have e : rHear c from_ x a = ((⟨(Caller.session c), (Caller.request c), false, (⟨0, 0, 0, (⟨0, 0⟩ : Spot), 0, 0, 0⟩ : Cmd), from_, (Caller.n c), (Caller.wait c), 0⟩ : Caller), true, 0) := by simp only [rHear, h0, h1, h2, h3, h4, h5, h6, cond]
                rw [e]
                exact way rHearCf (rHear_w14 c from_ x a) (conds_cons h0.symm (conds_cons h1.symm (conds_cons h2.symm (conds_cons h3.symm (conds_cons h4.symm (conds_cons h5.symm (conds_cons h6.symm conds_nil))))))) (by simp only [all_c, all_n, fv_agg, fv_bool, fv_int, fv_str, fv_dsl, fc_bool, fc_int, fc_str, fc_dsl, fc_dptr, Bool.and_true, Bool.true_and, ha_lines]) rfl h n
            · 
              have e : rHear c from_ x a = ((⟨(Caller.session c), (Caller.request c), false, (⟨0, 0, 0, (⟨0, 0⟩ : Spot), 0, 0, 0⟩ : Cmd), from_, (Caller.n c), (Caller.wait c), 0⟩ : Caller), true, 0) := by simp only [rHear, h0, h1, h2, h3, h4, h5, cond]
              rw [e]
              exact way rHearCf (rHear_w15 c from_ x a) (conds_cons h0.symm (conds_cons h1.symm (conds_cons h2.symm (conds_cons h3.symm (conds_cons h4.symm (conds_cons h5.symm conds_nil)))))) (by simp only [all_c, all_n, fv_agg, fv_bool, fv_int, fv_str, fv_dsl, fc_bool, fc_int, fc_str, fc_dsl, fc_dptr, Bool.and_true, Bool.true_and, ha_lines]) rfl h n
def conrHear : Con := (17, fun l => match l with
  | [x0, .int .i64 s1, x2, x3] => (match Caller.of x0 with | some s0 => (match Cmd.of x2 with | some s2 => (match Answer.of x3 with | some s3 => (match flatCell s3.lines with | true => some (.tup [.agg (Caller.cells ((rHear s0 s1 s2 s3).1)), .bool ((rHear s0 s1 s2 s3).2.1), .int .i64 ((rHear s0 s1 s2 s3).2.2)]) | false => none) | none => none) | none => none) | none => none)
  | _ => none)
theorem conrHear_ok : ConOk Try.prog conrHear := by
  intro l v e h n
  simp only [conrHear] at e
  split at e
  · skip
    split at e
    · rename_i s0 es0
      split at e
      · rename_i s2 es2
        split at e
        · rename_i s3 es3
          split at e
          · rename_i f0
            cases e
            cases Caller.of_eq es0
            cases Cmd.of_eq es2
            cases Answer.of_eq es3
            exact rHear_ok _ _ _ _ (by assumption) h n
          · cases e
        · cases e
      · cases e
    · cases e
  · cases e

def deny (c : Caller) (from_ : Int) : Caller × Bool × Int :=
  bif (!isC c) then (((⟨0, 0, false, (⟨0, 0, 0, (⟨0, 0⟩ : Spot), 0, 0, 0⟩ : Cmd), 0, 0, 0, 0⟩ : Caller), false, 1))
  else (bif (!Caller.busy c) then ((c, false, 0))
    else (bif (!Caller.to c == from_) then ((c, false, 0))
      else (((⟨(Caller.session c), (Caller.request c), (Caller.busy c), (Caller.cmd c), (Int.tmod (Go.IntKind.wrap Go.IntKind.i64 (Caller.to c + (1 : Int))) (Caller.n c)), (Caller.n c), (Caller.wait c), (Caller.wait c)⟩ : Caller), true, 0))))
theorem denyCf : CfOk Try.prog (runG Try.prog (conΔ [conisC]) 60 12) := runG_ok noNum mixed (conΔ_ok (List.forall_mem_cons.2 ⟨conisC_ok, List.forall_mem_nil _⟩)) _
theorem deny_w0 (c : Caller) (from_ : Int) : resOf (runG Try.prog (conΔ [conisC]) 60 12 18 [.agg (Caller.cells c), .int .i64 from_] [] 0 [.go 0 true]) = some (.ret (.tup [.agg [.int .i64 0, .int .i64 0, .bool false, .int .i64 0, .int .i64 0, .int .i64 0, .int .i64 0, .int .i64 0, .int .i64 0, .int .i64 0, .int .i64 0, .int .i64 0, .int .i64 0, .int .i64 0, .int .i64 0], .bool false, .int .i64 1]), [(true, (!isC c))]) := by kernel_rfl
theorem deny_w1 (c : Caller) (from_ : Int) : resOf (runG Try.prog (conΔ [conisC]) 60 12 18 [.agg (Caller.cells c), .int .i64 from_] [] 0 [.go 0 false, .go 1 true]) = some (.ret (.tup [.agg [.int .i64 (Caller.session c), .int .i64 (Caller.request c), .bool (Caller.busy c), .int .i64 (Cmd.session (Caller.cmd c)), .int .i64 (Cmd.request (Caller.cmd c)), .int .i64 (Cmd.kind (Caller.cmd c)), .int .i64 (Spot.bed (Cmd.spot (Caller.cmd c))), .int .i64 (Spot.channel (Cmd.spot (Caller.cmd c))), .int .i64 (Cmd.prio (Caller.cmd c)), .int .i64 (Cmd.at_ (Caller.cmd c)), .int .i64 (Cmd.long (Caller.cmd c)), .int .i64 (Caller.to c), .int .i64 (Caller.n c), .int .i64 (Caller.wait c), .int .i64 (Caller.left c)], .bool false, .int .i64 0]), [(false, (!isC c)), (true, true), (true, true), (true, (!Caller.busy c))]) := by kernel_rfl
theorem deny_w2 (c : Caller) (from_ : Int) : resOf (runG Try.prog (conΔ [conisC]) 60 12 18 [.agg (Caller.cells c), .int .i64 from_] [] 0 [.go 0 false, .go 1 false, .go 1 true]) = some (.ret (.tup [.agg [.int .i64 (Caller.session c), .int .i64 (Caller.request c), .bool (Caller.busy c), .int .i64 (Cmd.session (Caller.cmd c)), .int .i64 (Cmd.request (Caller.cmd c)), .int .i64 (Cmd.kind (Caller.cmd c)), .int .i64 (Spot.bed (Cmd.spot (Caller.cmd c))), .int .i64 (Spot.channel (Cmd.spot (Caller.cmd c))), .int .i64 (Cmd.prio (Caller.cmd c)), .int .i64 (Cmd.at_ (Caller.cmd c)), .int .i64 (Cmd.long (Caller.cmd c)), .int .i64 (Caller.to c), .int .i64 (Caller.n c), .int .i64 (Caller.wait c), .int .i64 (Caller.left c)], .bool false, .int .i64 0]), [(false, (!isC c)), (true, true), (true, true), (false, (!Caller.busy c)), (true, true), (true, true), (true, (!Caller.to c == from_))]) := by kernel_rfl
theorem deny_w3 (c : Caller) (from_ : Int) : resOf (runG Try.prog (conΔ [conisC]) 60 12 18 [.agg (Caller.cells c), .int .i64 from_] [] 0 [.go 0 false, .go 1 false, .go 1 false]) = some (.ret (.tup [.agg [.int .i64 (Caller.session c), .int .i64 (Caller.request c), .bool (Caller.busy c), .int .i64 (Cmd.session (Caller.cmd c)), .int .i64 (Cmd.request (Caller.cmd c)), .int .i64 (Cmd.kind (Caller.cmd c)), .int .i64 (Spot.bed (Cmd.spot (Caller.cmd c))), .int .i64 (Spot.channel (Cmd.spot (Caller.cmd c))), .int .i64 (Cmd.prio (Caller.cmd c)), .int .i64 (Cmd.at_ (Caller.cmd c)), .int .i64 (Cmd.long (Caller.cmd c)), .int .i64 (Int.tmod (Go.IntKind.wrap Go.IntKind.i64 (Caller.to c + (1 : Int))) (Caller.n c)), .int .i64 (Caller.n c), .int .i64 (Caller.wait c), .int .i64 (Caller.wait c)], .bool true, .int .i64 0]), [(false, (!isC c)), (true, true), (true, true), (false, (!Caller.busy c)), (true, true), (true, true), (false, (!Caller.to c == from_)), (true, true), (true, true), ((Caller.n c == (0 : Int)), false)]) := by kernel_rfl
theorem deny_ok (c : Caller) (from_ : Int)  (h : Heap) (n : Nat) : CallOk Try.prog 18 [.agg (Caller.cells c), .int .i64 from_] h n (.ret (.tup [.agg (Caller.cells ((deny c from_).1)), .bool ((deny c from_).2.1), .int .i64 ((deny c from_).2.2)])) h n := by
  rcases Bool.eq_false_or_eq_true (!isC c) with h0 | h0
  · 
    have e : deny c from_ = ((⟨0, 0, false, (⟨0, 0, 0, (⟨0, 0⟩ : Spot), 0, 0, 0⟩ : Cmd), 0, 0, 0, 0⟩ : Caller), false, 1) := by simp only [deny, h0, cond]
    rw [e]
    exact way denyCf (deny_w0 c from_) (conds_cons h0.symm conds_nil) rfl rfl h n
  · 
    rcases Bool.eq_false_or_eq_true (!Caller.busy c) with h1 | h1
    · 
      have e : deny c from_ = (c, false, 0) := by simp only [deny, h0, h1, cond]
      rw [e]
      exact way denyCf (deny_w1 c from_) (conds_cons h0.symm (conds_cons rfl (conds_cons rfl (conds_cons h1.symm conds_nil)))) rfl rfl h n
    · 
      rcases Bool.eq_false_or_eq_true (!Caller.to c == from_) with h2 | h2
      · 
        have e : deny c from_ = (c, false, 0) := by simp only [deny, h0, h1, h2, cond]
        rw [e]
        exact way denyCf (deny_w2 c from_) (conds_cons h0.symm (conds_cons rfl (conds_cons rfl (conds_cons h1.symm (conds_cons rfl (conds_cons rfl (conds_cons h2.symm conds_nil))))))) rfl rfl h n
      · 
        have e : deny c from_ = ((⟨(Caller.session c), (Caller.request c), (Caller.busy c), (Caller.cmd c), (Int.tmod (Go.IntKind.wrap Go.IntKind.i64 (Caller.to c + (1 : Int))) (Caller.n c)), (Caller.n c), (Caller.wait c), (Caller.wait c)⟩ : Caller), true, 0) := by simp only [deny, h0, h1, h2, cond]
        rw [e]
        exact way denyCf (deny_w3 c from_) (conds_cons h0.symm (conds_cons rfl (conds_cons rfl (conds_cons h1.symm (conds_cons rfl (conds_cons rfl (conds_cons h2.symm (conds_cons rfl (conds_cons rfl (conds_cons (by have hn : c.n ≠ 0 := isC_n (by simp_all); simp_all) conds_nil)))))))))) rfl rfl h n
def condeny : Con := (18, fun l => match l with
  | [x0, .int .i64 s1] => (match Caller.of x0 with | some s0 => some (.tup [.agg (Caller.cells ((deny s0 s1).1)), .bool ((deny s0 s1).2.1), .int .i64 ((deny s0 s1).2.2)]) | none => none)
  | _ => none)
theorem condeny_ok : ConOk Try.prog condeny := by
  intro l v e h n
  simp only [condeny] at e
  split at e
  · skip
    split at e
    · rename_i s0 es0
      cases e
      cases Caller.of_eq es0
      exact deny_ok _ _ h n
    · cases e
  · cases e

def rDeny (c : Caller) (from_ : Int) : Caller × Bool × Int :=
  bif (!rIsC c) then (((⟨0, 0, false, (⟨0, 0, 0, (⟨0, 0⟩ : Spot), 0, 0, 0⟩ : Cmd), 0, 0, 0, 0⟩ : Caller), false, 1))
  else (bif (!Caller.busy c) then ((c, false, 0))
    else (bif (from_ != Caller.to c) then ((c, false, 0))
      else (((⟨(Caller.session c), (Caller.request c), (Caller.busy c), (Caller.cmd c), (Int.tmod (Go.IntKind.wrap Go.IntKind.i64 (Caller.to c + (1 : Int))) (Caller.n c)), (Caller.n c), (Caller.wait c), (Caller.wait c)⟩ : Caller), true, 0))))
theorem rDenyCf : CfOk Try.prog (runG Try.prog (conΔ [conrIsC]) 60 12) := runG_ok noNum mixed (conΔ_ok (List.forall_mem_cons.2 ⟨conrIsC_ok, List.forall_mem_nil _⟩)) _
theorem rDeny_w0 (c : Caller) (from_ : Int) : resOf (runG Try.prog (conΔ [conrIsC]) 60 12 19 [.agg (Caller.cells c), .int .i64 from_] [] 0 [.go 0 true]) = some (.ret (.tup [.agg [.int .i64 0, .int .i64 0, .bool false, .int .i64 0, .int .i64 0, .int .i64 0, .int .i64 0, .int .i64 0, .int .i64 0, .int .i64 0, .int .i64 0, .int .i64 0, .int .i64 0, .int .i64 0, .int .i64 0], .bool false, .int .i64 1]), [(true, (!rIsC c))]) := by kernel_rfl
theorem rDeny_w1 (c : Caller) (from_ : Int) : resOf (runG Try.prog (conΔ [conrIsC]) 60 12 19 [.agg (Caller.cells c), .int .i64 from_] [] 0 [.go 0 false, .go 0 true]) = some (.ret (.tup [.agg [.int .i64 (Caller.session c), .int .i64 (Caller.request c), .bool (Caller.busy c), .int .i64 (Cmd.session (Caller.cmd c)), .int .i64 (Cmd.request (Caller.cmd c)), .int .i64 (Cmd.kind (Caller.cmd c)), .int .i64 (Spot.bed (Cmd.spot (Caller.cmd c))), .int .i64 (Spot.channel (Cmd.spot (Caller.cmd c))), .int .i64 (Cmd.prio (Caller.cmd c)), .int .i64 (Cmd.at_ (Caller.cmd c)), .int .i64 (Cmd.long (Caller.cmd c)), .int .i64 (Caller.to c), .int .i64 (Caller.n c), .int .i64 (Caller.wait c), .int .i64 (Caller.left c)], .bool false, .int .i64 0]), [(false, (!rIsC c)), (true, (!Caller.busy c))]) := by kernel_rfl
theorem rDeny_w2 (c : Caller) (from_ : Int) : resOf (runG Try.prog (conΔ [conrIsC]) 60 12 19 [.agg (Caller.cells c), .int .i64 from_] [] 0 [.go 0 false, .go 0 false, .go 0 true]) = some (.ret (.tup [.agg [.int .i64 (Caller.session c), .int .i64 (Caller.request c), .bool (Caller.busy c), .int .i64 (Cmd.session (Caller.cmd c)), .int .i64 (Cmd.request (Caller.cmd c)), .int .i64 (Cmd.kind (Caller.cmd c)), .int .i64 (Spot.bed (Cmd.spot (Caller.cmd c))), .int .i64 (Spot.channel (Cmd.spot (Caller.cmd c))), .int .i64 (Cmd.prio (Caller.cmd c)), .int .i64 (Cmd.at_ (Caller.cmd c)), .int .i64 (Cmd.long (Caller.cmd c)), .int .i64 (Caller.to c), .int .i64 (Caller.n c), .int .i64 (Caller.wait c), .int .i64 (Caller.left c)], .bool false, .int .i64 0]), [(false, (!rIsC c)), (false, (!Caller.busy c)), (true, (from_ != Caller.to c))]) := by kernel_rfl
theorem rDeny_w3 (c : Caller) (from_ : Int) : resOf (runG Try.prog (conΔ [conrIsC]) 60 12 19 [.agg (Caller.cells c), .int .i64 from_] [] 0 [.go 0 false, .go 0 false, .go 0 false]) = some (.ret (.tup [.agg [.int .i64 (Caller.session c), .int .i64 (Caller.request c), .bool (Caller.busy c), .int .i64 (Cmd.session (Caller.cmd c)), .int .i64 (Cmd.request (Caller.cmd c)), .int .i64 (Cmd.kind (Caller.cmd c)), .int .i64 (Spot.bed (Cmd.spot (Caller.cmd c))), .int .i64 (Spot.channel (Cmd.spot (Caller.cmd c))), .int .i64 (Cmd.prio (Caller.cmd c)), .int .i64 (Cmd.at_ (Caller.cmd c)), .int .i64 (Cmd.long (Caller.cmd c)), .int .i64 (Int.tmod (Go.IntKind.wrap Go.IntKind.i64 (Caller.to c + (1 : Int))) (Caller.n c)), .int .i64 (Caller.n c), .int .i64 (Caller.wait c), .int .i64 (Caller.wait c)], .bool true, .int .i64 0]), [(false, (!rIsC c)), (false, (!Caller.busy c)), (false, (from_ != Caller.to c)), ((Caller.n c == (0 : Int)), false)]) := by kernel_rfl
theorem rDeny_ok (c : Caller) (from_ : Int)  (h : Heap) (n : Nat) : CallOk Try.prog 19 [.agg (Caller.cells c), .int .i64 from_] h n (.ret (.tup [.agg (Caller.cells ((rDeny c from_).1)), .bool ((rDeny c from_).2.1), .int .i64 ((rDeny c from_).2.2)])) h n := by
  rcases Bool.eq_false_or_eq_true (!rIsC c) with h0 | h0
  · 
    have e : rDeny c from_ = ((⟨0, 0, false, (⟨0, 0, 0, (⟨0, 0⟩ : Spot), 0, 0, 0⟩ : Cmd), 0, 0, 0, 0⟩ : Caller), false, 1) := by simp only [rDeny, h0, cond]
    rw [e]
    exact way rDenyCf (rDeny_w0 c from_) (conds_cons h0.symm conds_nil) rfl rfl h n
  · 
    rcases Bool.eq_false_or_eq_true (!Caller.busy c) with h1 | h1
    · 
      have e : rDeny c from_ = (c, false, 0) := by simp only [rDeny, h0, h1, cond]
      rw [e]
      exact way rDenyCf (rDeny_w1 c from_) (conds_cons h0.symm (conds_cons h1.symm conds_nil)) rfl rfl h n
    · 
      rcases Bool.eq_false_or_eq_true (from_ != Caller.to c) with h2 | h2
      · 
        have e : rDeny c from_ = (c, false, 0) := by simp only [rDeny, h0, h1, h2, cond]
        rw [e]
        exact way rDenyCf (rDeny_w2 c from_) (conds_cons h0.symm (conds_cons h1.symm (conds_cons h2.symm conds_nil))) rfl rfl h n
      · 
        have e : rDeny c from_ = ((⟨(Caller.session c), (Caller.request c), (Caller.busy c), (Caller.cmd c), (Int.tmod (Go.IntKind.wrap Go.IntKind.i64 (Caller.to c + (1 : Int))) (Caller.n c)), (Caller.n c), (Caller.wait c), (Caller.wait c)⟩ : Caller), true, 0) := by simp only [rDeny, h0, h1, h2, cond]
        rw [e]
        exact way rDenyCf (rDeny_w3 c from_) (conds_cons h0.symm (conds_cons h1.symm (conds_cons h2.symm (conds_cons (by have hn : c.n ≠ 0 := rIsC_n (by simp_all); simp_all) conds_nil)))) rfl rfl h n
def conrDeny : Con := (19, fun l => match l with
  | [x0, .int .i64 s1] => (match Caller.of x0 with | some s0 => some (.tup [.agg (Caller.cells ((rDeny s0 s1).1)), .bool ((rDeny s0 s1).2.1), .int .i64 ((rDeny s0 s1).2.2)]) | none => none)
  | _ => none)
theorem conrDeny_ok : ConOk Try.prog conrDeny := by
  intro l v e h n
  simp only [conrDeny] at e
  split at e
  · skip
    split at e
    · rename_i s0 es0
      cases e
      cases Caller.of_eq es0
      exact rDeny_ok _ _ h n
    · cases e
  · cases e

def tick (c : Caller) : Caller × Bool × Int :=
  bif (!isC c) then (((⟨0, 0, false, (⟨0, 0, 0, (⟨0, 0⟩ : Spot), 0, 0, 0⟩ : Cmd), 0, 0, 0, 0⟩ : Caller), false, 1))
  else (bif (!Caller.busy c) then ((c, false, 0))
    else (bif (!Go.IntKind.wrap Go.IntKind.i64 (Caller.left c - (1 : Int)) == (0 : Int)) then (((⟨(Caller.session c), (Caller.request c), (Caller.busy c), (Caller.cmd c), (Caller.to c), (Caller.n c), (Caller.wait c), (Go.IntKind.wrap Go.IntKind.i64 (Caller.left c - (1 : Int)))⟩ : Caller), false, 0))
      else (((⟨(Caller.session c), (Caller.request c), (Caller.busy c), (Caller.cmd c), (Int.tmod (Go.IntKind.wrap Go.IntKind.i64 (Caller.to c + (1 : Int))) (Caller.n c)), (Caller.n c), (Caller.wait c), (Caller.wait c)⟩ : Caller), true, 0))))
theorem tickCf : CfOk Try.prog (runG Try.prog (conΔ [conisC]) 60 12) := runG_ok noNum mixed (conΔ_ok (List.forall_mem_cons.2 ⟨conisC_ok, List.forall_mem_nil _⟩)) _
theorem tick_w0 (c : Caller) : resOf (runG Try.prog (conΔ [conisC]) 60 12 20 [.agg (Caller.cells c)] [] 0 [.go 0 true]) = some (.ret (.tup [.agg [.int .i64 0, .int .i64 0, .bool false, .int .i64 0, .int .i64 0, .int .i64 0, .int .i64 0, .int .i64 0, .int .i64 0, .int .i64 0, .int .i64 0, .int .i64 0, .int .i64 0, .int .i64 0, .int .i64 0], .bool false, .int .i64 1]), [(true, (!isC c))]) := by kernel_rfl
theorem tick_w1 (c : Caller) : resOf (runG Try.prog (conΔ [conisC]) 60 12 20 [.agg (Caller.cells c)] [] 0 [.go 0 false, .go 1 true]) = some (.ret (.tup [.agg [.int .i64 (Caller.session c), .int .i64 (Caller.request c), .bool (Caller.busy c), .int .i64 (Cmd.session (Caller.cmd c)), .int .i64 (Cmd.request (Caller.cmd c)), .int .i64 (Cmd.kind (Caller.cmd c)), .int .i64 (Spot.bed (Cmd.spot (Caller.cmd c))), .int .i64 (Spot.channel (Cmd.spot (Caller.cmd c))), .int .i64 (Cmd.prio (Caller.cmd c)), .int .i64 (Cmd.at_ (Caller.cmd c)), .int .i64 (Cmd.long (Caller.cmd c)), .int .i64 (Caller.to c), .int .i64 (Caller.n c), .int .i64 (Caller.wait c), .int .i64 (Caller.left c)], .bool false, .int .i64 0]), [(false, (!isC c)), (true, true), (true, true), (true, (!Caller.busy c))]) := by kernel_rfl
theorem tick_w2 (c : Caller) : resOf (runG Try.prog (conΔ [conisC]) 60 12 20 [.agg (Caller.cells c)] [] 0 [.go 0 false, .go 1 false, .go 1 true]) = some (.ret (.tup [.agg [.int .i64 (Caller.session c), .int .i64 (Caller.request c), .bool (Caller.busy c), .int .i64 (Cmd.session (Caller.cmd c)), .int .i64 (Cmd.request (Caller.cmd c)), .int .i64 (Cmd.kind (Caller.cmd c)), .int .i64 (Spot.bed (Cmd.spot (Caller.cmd c))), .int .i64 (Spot.channel (Cmd.spot (Caller.cmd c))), .int .i64 (Cmd.prio (Caller.cmd c)), .int .i64 (Cmd.at_ (Caller.cmd c)), .int .i64 (Cmd.long (Caller.cmd c)), .int .i64 (Caller.to c), .int .i64 (Caller.n c), .int .i64 (Caller.wait c), .int .i64 (Go.IntKind.wrap Go.IntKind.i64 (Caller.left c - (1 : Int)))], .bool false, .int .i64 0]), [(false, (!isC c)), (true, true), (true, true), (false, (!Caller.busy c)), (true, true), (true, true), (true, (!Go.IntKind.wrap Go.IntKind.i64 (Caller.left c - (1 : Int)) == (0 : Int)))]) := by kernel_rfl
theorem tick_w3 (c : Caller) : resOf (runG Try.prog (conΔ [conisC]) 60 12 20 [.agg (Caller.cells c)] [] 0 [.go 0 false, .go 1 false, .go 1 false]) = some (.ret (.tup [.agg [.int .i64 (Caller.session c), .int .i64 (Caller.request c), .bool (Caller.busy c), .int .i64 (Cmd.session (Caller.cmd c)), .int .i64 (Cmd.request (Caller.cmd c)), .int .i64 (Cmd.kind (Caller.cmd c)), .int .i64 (Spot.bed (Cmd.spot (Caller.cmd c))), .int .i64 (Spot.channel (Cmd.spot (Caller.cmd c))), .int .i64 (Cmd.prio (Caller.cmd c)), .int .i64 (Cmd.at_ (Caller.cmd c)), .int .i64 (Cmd.long (Caller.cmd c)), .int .i64 (Int.tmod (Go.IntKind.wrap Go.IntKind.i64 (Caller.to c + (1 : Int))) (Caller.n c)), .int .i64 (Caller.n c), .int .i64 (Caller.wait c), .int .i64 (Caller.wait c)], .bool true, .int .i64 0]), [(false, (!isC c)), (true, true), (true, true), (false, (!Caller.busy c)), (true, true), (true, true), (false, (!Go.IntKind.wrap Go.IntKind.i64 (Caller.left c - (1 : Int)) == (0 : Int))), (true, true), (true, true), ((Caller.n c == (0 : Int)), false)]) := by kernel_rfl
theorem tick_ok (c : Caller)  (h : Heap) (n : Nat) : CallOk Try.prog 20 [.agg (Caller.cells c)] h n (.ret (.tup [.agg (Caller.cells ((tick c).1)), .bool ((tick c).2.1), .int .i64 ((tick c).2.2)])) h n := by
  rcases Bool.eq_false_or_eq_true (!isC c) with h0 | h0
  · 
    have e : tick c = ((⟨0, 0, false, (⟨0, 0, 0, (⟨0, 0⟩ : Spot), 0, 0, 0⟩ : Cmd), 0, 0, 0, 0⟩ : Caller), false, 1) := by simp only [tick, h0, cond]
    rw [e]
    exact way tickCf (tick_w0 c) (conds_cons h0.symm conds_nil) rfl rfl h n
  · 
    rcases Bool.eq_false_or_eq_true (!Caller.busy c) with h1 | h1
    · 
      have e : tick c = (c, false, 0) := by simp only [tick, h0, h1, cond]
      rw [e]
      exact way tickCf (tick_w1 c) (conds_cons h0.symm (conds_cons rfl (conds_cons rfl (conds_cons h1.symm conds_nil)))) rfl rfl h n
    · 
      rcases Bool.eq_false_or_eq_true (!Go.IntKind.wrap Go.IntKind.i64 (Caller.left c - (1 : Int)) == (0 : Int)) with h2 | h2
      · 
        have e : tick c = ((⟨(Caller.session c), (Caller.request c), (Caller.busy c), (Caller.cmd c), (Caller.to c), (Caller.n c), (Caller.wait c), (Go.IntKind.wrap Go.IntKind.i64 (Caller.left c - (1 : Int)))⟩ : Caller), false, 0) := by simp only [tick, h0, h1, h2, cond]
        rw [e]
        exact way tickCf (tick_w2 c) (conds_cons h0.symm (conds_cons rfl (conds_cons rfl (conds_cons h1.symm (conds_cons rfl (conds_cons rfl (conds_cons h2.symm conds_nil))))))) rfl rfl h n
      · 
        have e : tick c = ((⟨(Caller.session c), (Caller.request c), (Caller.busy c), (Caller.cmd c), (Int.tmod (Go.IntKind.wrap Go.IntKind.i64 (Caller.to c + (1 : Int))) (Caller.n c)), (Caller.n c), (Caller.wait c), (Caller.wait c)⟩ : Caller), true, 0) := by simp only [tick, h0, h1, h2, cond]
        rw [e]
        exact way tickCf (tick_w3 c) (conds_cons h0.symm (conds_cons rfl (conds_cons rfl (conds_cons h1.symm (conds_cons rfl (conds_cons rfl (conds_cons h2.symm (conds_cons rfl (conds_cons rfl (conds_cons (by have hn : c.n ≠ 0 := isC_n (by simp_all); simp_all) conds_nil)))))))))) rfl rfl h n
def contick : Con := (20, fun l => match l with
  | [x0] => (match Caller.of x0 with | some s0 => some (.tup [.agg (Caller.cells ((tick s0).1)), .bool ((tick s0).2.1), .int .i64 ((tick s0).2.2)]) | none => none)
  | _ => none)
theorem contick_ok : ConOk Try.prog contick := by
  intro l v e h n
  simp only [contick] at e
  split at e
  · skip
    split at e
    · rename_i s0 es0
      cases e
      cases Caller.of_eq es0
      exact tick_ok _ h n
    · cases e
  · cases e

def rTick (c : Caller) : Caller × Bool × Int :=
  bif (!rIsC c) then (((⟨0, 0, false, (⟨0, 0, 0, (⟨0, 0⟩ : Spot), 0, 0, 0⟩ : Cmd), 0, 0, 0, 0⟩ : Caller), false, 1))
  else (bif (!Caller.busy c) then ((c, false, 0))
    else (bif (Go.IntKind.wrap Go.IntKind.i64 (Caller.left c - (1 : Int)) == (0 : Int)) then (((⟨(Caller.session c), (Caller.request c), (Caller.busy c), (Caller.cmd c), (Int.tmod (Go.IntKind.wrap Go.IntKind.i64 (Caller.to c + (1 : Int))) (Caller.n c)), (Caller.n c), (Caller.wait c), (Caller.wait c)⟩ : Caller), true, 0))
      else (((⟨(Caller.session c), (Caller.request c), (Caller.busy c), (Caller.cmd c), (Caller.to c), (Caller.n c), (Caller.wait c), (Go.IntKind.wrap Go.IntKind.i64 (Caller.left c - (1 : Int)))⟩ : Caller), false, 0))))
theorem rTickCf : CfOk Try.prog (runG Try.prog (conΔ [conrIsC]) 60 12) := runG_ok noNum mixed (conΔ_ok (List.forall_mem_cons.2 ⟨conrIsC_ok, List.forall_mem_nil _⟩)) _
theorem rTick_w0 (c : Caller) : resOf (runG Try.prog (conΔ [conrIsC]) 60 12 21 [.agg (Caller.cells c)] [] 0 [.go 0 true]) = some (.ret (.tup [.agg [.int .i64 0, .int .i64 0, .bool false, .int .i64 0, .int .i64 0, .int .i64 0, .int .i64 0, .int .i64 0, .int .i64 0, .int .i64 0, .int .i64 0, .int .i64 0, .int .i64 0, .int .i64 0, .int .i64 0], .bool false, .int .i64 1]), [(true, (!rIsC c))]) := by kernel_rfl
theorem rTick_w1 (c : Caller) : resOf (runG Try.prog (conΔ [conrIsC]) 60 12 21 [.agg (Caller.cells c)] [] 0 [.go 0 false, .go 0 true]) = some (.ret (.tup [.agg [.int .i64 (Caller.session c), .int .i64 (Caller.request c), .bool (Caller.busy c), .int .i64 (Cmd.session (Caller.cmd c)), .int .i64 (Cmd.request (Caller.cmd c)), .int .i64 (Cmd.kind (Caller.cmd c)), .int .i64 (Spot.bed (Cmd.spot (Caller.cmd c))), .int .i64 (Spot.channel (Cmd.spot (Caller.cmd c))), .int .i64 (Cmd.prio (Caller.cmd c)), .int .i64 (Cmd.at_ (Caller.cmd c)), .int .i64 (Cmd.long (Caller.cmd c)), .int .i64 (Caller.to c), .int .i64 (Caller.n c), .int .i64 (Caller.wait c), .int .i64 (Caller.left c)], .bool false, .int .i64 0]), [(false, (!rIsC c)), (true, (!Caller.busy c))]) := by kernel_rfl
theorem rTick_w2 (c : Caller) : resOf (runG Try.prog (conΔ [conrIsC]) 60 12 21 [.agg (Caller.cells c)] [] 0 [.go 0 false, .go 0 false, .go 0 true]) = some (.ret (.tup [.agg [.int .i64 (Caller.session c), .int .i64 (Caller.request c), .bool (Caller.busy c), .int .i64 (Cmd.session (Caller.cmd c)), .int .i64 (Cmd.request (Caller.cmd c)), .int .i64 (Cmd.kind (Caller.cmd c)), .int .i64 (Spot.bed (Cmd.spot (Caller.cmd c))), .int .i64 (Spot.channel (Cmd.spot (Caller.cmd c))), .int .i64 (Cmd.prio (Caller.cmd c)), .int .i64 (Cmd.at_ (Caller.cmd c)), .int .i64 (Cmd.long (Caller.cmd c)), .int .i64 (Int.tmod (Go.IntKind.wrap Go.IntKind.i64 (Caller.to c + (1 : Int))) (Caller.n c)), .int .i64 (Caller.n c), .int .i64 (Caller.wait c), .int .i64 (Caller.wait c)], .bool true, .int .i64 0]), [(false, (!rIsC c)), (false, (!Caller.busy c)), (true, (Go.IntKind.wrap Go.IntKind.i64 (Caller.left c - (1 : Int)) == (0 : Int))), ((Caller.n c == (0 : Int)), false)]) := by kernel_rfl
theorem rTick_w3 (c : Caller) : resOf (runG Try.prog (conΔ [conrIsC]) 60 12 21 [.agg (Caller.cells c)] [] 0 [.go 0 false, .go 0 false, .go 0 false]) = some (.ret (.tup [.agg [.int .i64 (Caller.session c), .int .i64 (Caller.request c), .bool (Caller.busy c), .int .i64 (Cmd.session (Caller.cmd c)), .int .i64 (Cmd.request (Caller.cmd c)), .int .i64 (Cmd.kind (Caller.cmd c)), .int .i64 (Spot.bed (Cmd.spot (Caller.cmd c))), .int .i64 (Spot.channel (Cmd.spot (Caller.cmd c))), .int .i64 (Cmd.prio (Caller.cmd c)), .int .i64 (Cmd.at_ (Caller.cmd c)), .int .i64 (Cmd.long (Caller.cmd c)), .int .i64 (Caller.to c), .int .i64 (Caller.n c), .int .i64 (Caller.wait c), .int .i64 (Go.IntKind.wrap Go.IntKind.i64 (Caller.left c - (1 : Int)))], .bool false, .int .i64 0]), [(false, (!rIsC c)), (false, (!Caller.busy c)), (false, (Go.IntKind.wrap Go.IntKind.i64 (Caller.left c - (1 : Int)) == (0 : Int)))]) := by kernel_rfl
theorem rTick_ok (c : Caller)  (h : Heap) (n : Nat) : CallOk Try.prog 21 [.agg (Caller.cells c)] h n (.ret (.tup [.agg (Caller.cells ((rTick c).1)), .bool ((rTick c).2.1), .int .i64 ((rTick c).2.2)])) h n := by
  rcases Bool.eq_false_or_eq_true (!rIsC c) with h0 | h0
  · 
    have e : rTick c = ((⟨0, 0, false, (⟨0, 0, 0, (⟨0, 0⟩ : Spot), 0, 0, 0⟩ : Cmd), 0, 0, 0, 0⟩ : Caller), false, 1) := by simp only [rTick, h0, cond]
    rw [e]
    exact way rTickCf (rTick_w0 c) (conds_cons h0.symm conds_nil) rfl rfl h n
  · 
    rcases Bool.eq_false_or_eq_true (!Caller.busy c) with h1 | h1
    · 
      have e : rTick c = (c, false, 0) := by simp only [rTick, h0, h1, cond]
      rw [e]
      exact way rTickCf (rTick_w1 c) (conds_cons h0.symm (conds_cons h1.symm conds_nil)) rfl rfl h n
    · 
      rcases Bool.eq_false_or_eq_true (Go.IntKind.wrap Go.IntKind.i64 (Caller.left c - (1 : Int)) == (0 : Int)) with h2 | h2
      · 
        have e : rTick c = ((⟨(Caller.session c), (Caller.request c), (Caller.busy c), (Caller.cmd c), (Int.tmod (Go.IntKind.wrap Go.IntKind.i64 (Caller.to c + (1 : Int))) (Caller.n c)), (Caller.n c), (Caller.wait c), (Caller.wait c)⟩ : Caller), true, 0) := by simp only [rTick, h0, h1, h2, cond]
        rw [e]
        exact way rTickCf (rTick_w2 c) (conds_cons h0.symm (conds_cons h1.symm (conds_cons h2.symm (conds_cons (by have hn : c.n ≠ 0 := rIsC_n (by simp_all); simp_all) conds_nil)))) rfl rfl h n
      · 
        have e : rTick c = ((⟨(Caller.session c), (Caller.request c), (Caller.busy c), (Caller.cmd c), (Caller.to c), (Caller.n c), (Caller.wait c), (Go.IntKind.wrap Go.IntKind.i64 (Caller.left c - (1 : Int)))⟩ : Caller), false, 0) := by simp only [rTick, h0, h1, h2, cond]
        rw [e]
        exact way rTickCf (rTick_w3 c) (conds_cons h0.symm (conds_cons h1.symm (conds_cons h2.symm conds_nil))) rfl rfl h n
def conrTick : Con := (21, fun l => match l with
  | [x0] => (match Caller.of x0 with | some s0 => some (.tup [.agg (Caller.cells ((rTick s0).1)), .bool ((rTick s0).2.1), .int .i64 ((rTick s0).2.2)]) | none => none)
  | _ => none)
theorem conrTick_ok : ConOk Try.prog conrTick := by
  intro l v e h n
  simp only [conrTick] at e
  split at e
  · skip
    split at e
    · rename_i s0 es0
      cases e
      cases Caller.of_eq es0
      exact rTick_ok _ h n
    · cases e
  · cases e

def newC (k : Int) (wt : Int) : Caller × Int :=
  bif (!isC (Caller.mk (0 : Int) (0 : Int) Bool.false (Cmd.mk (0 : Int) (0 : Int) (0 : Int) (Spot.mk (0 : Int) (0 : Int)) (0 : Int) (0 : Int) (0 : Int)) (0 : Int) k wt (0 : Int))) then (((⟨0, 0, false, (⟨0, 0, 0, (⟨0, 0⟩ : Spot), 0, 0, 0⟩ : Cmd), 0, 0, 0, 0⟩ : Caller), 1))
  else (((⟨0, 0, false, (⟨0, 0, 0, (⟨0, 0⟩ : Spot), 0, 0, 0⟩ : Cmd), 0, k, wt, 0⟩ : Caller), 0))
theorem newCCf : CfOk Try.prog (runG Try.prog (conΔ [conisC]) 60 12) := runG_ok noNum mixed (conΔ_ok (List.forall_mem_cons.2 ⟨conisC_ok, List.forall_mem_nil _⟩)) _
theorem newC_w0 (k : Int) (wt : Int) : resOf (runG Try.prog (conΔ [conisC]) 60 12 22 [.int .i64 k, .int .i64 wt] [] 0 [.go 0 true]) = some (.ret (.tup [.agg [.int .i64 0, .int .i64 0, .bool false, .int .i64 0, .int .i64 0, .int .i64 0, .int .i64 0, .int .i64 0, .int .i64 0, .int .i64 0, .int .i64 0, .int .i64 0, .int .i64 0, .int .i64 0, .int .i64 0], .int .i64 1]), [(true, (!isC (Caller.mk (0 : Int) (0 : Int) Bool.false (Cmd.mk (0 : Int) (0 : Int) (0 : Int) (Spot.mk (0 : Int) (0 : Int)) (0 : Int) (0 : Int) (0 : Int)) (0 : Int) k wt (0 : Int))))]) := by kernel_rfl
theorem newC_w1 (k : Int) (wt : Int) : resOf (runG Try.prog (conΔ [conisC]) 60 12 22 [.int .i64 k, .int .i64 wt] [] 0 [.go 0 false]) = some (.ret (.tup [.agg [.int .i64 0, .int .i64 0, .bool false, .int .i64 0, .int .i64 0, .int .i64 0, .int .i64 0, .int .i64 0, .int .i64 0, .int .i64 0, .int .i64 0, .int .i64 0, .int .i64 k, .int .i64 wt, .int .i64 0], .int .i64 0]), [(false, (!isC (Caller.mk (0 : Int) (0 : Int) Bool.false (Cmd.mk (0 : Int) (0 : Int) (0 : Int) (Spot.mk (0 : Int) (0 : Int)) (0 : Int) (0 : Int) (0 : Int)) (0 : Int) k wt (0 : Int))))]) := by kernel_rfl
theorem newC_ok (k : Int) (wt : Int)  (h : Heap) (n : Nat) : CallOk Try.prog 22 [.int .i64 k, .int .i64 wt] h n (.ret (.tup [.agg (Caller.cells ((newC k wt).1)), .int .i64 ((newC k wt).2)])) h n := by
  rcases Bool.eq_false_or_eq_true (!isC (Caller.mk (0 : Int) (0 : Int) Bool.false (Cmd.mk (0 : Int) (0 : Int) (0 : Int) (Spot.mk (0 : Int) (0 : Int)) (0 : Int) (0 : Int) (0 : Int)) (0 : Int) k wt (0 : Int))) with h0 | h0
  · 
    have e : newC k wt = ((⟨0, 0, false, (⟨0, 0, 0, (⟨0, 0⟩ : Spot), 0, 0, 0⟩ : Cmd), 0, 0, 0, 0⟩ : Caller), 1) := by simp only [newC, h0, cond]
    rw [e]
    exact way newCCf (newC_w0 k wt) (conds_cons h0.symm conds_nil) rfl rfl h n
  · 
    have e : newC k wt = ((⟨0, 0, false, (⟨0, 0, 0, (⟨0, 0⟩ : Spot), 0, 0, 0⟩ : Cmd), 0, k, wt, 0⟩ : Caller), 0) := by simp only [newC, h0, cond]
    rw [e]
    exact way newCCf (newC_w1 k wt) (conds_cons h0.symm conds_nil) rfl rfl h n
def connewC : Con := (22, fun l => match l with
  | [.int .i64 s0, .int .i64 s1] => some (.tup [.agg (Caller.cells ((newC s0 s1).1)), .int .i64 ((newC s0 s1).2)])
  | _ => none)
theorem connewC_ok : ConOk Try.prog connewC := by
  intro l v e h n
  simp only [connewC] at e
  split at e
  · skip
    cases e
    exact newC_ok _ _ h n
  · cases e

def rNewC (k : Int) (wt : Int) : Caller × Int :=
  bif (!r26in k (1 : Int) (7 : Int)) then (((⟨0, 0, false, (⟨0, 0, 0, (⟨0, 0⟩ : Spot), 0, 0, 0⟩ : Cmd), 0, 0, 0, 0⟩ : Caller), 1))
  else (bif (!r26in wt (1 : Int) (100 : Int)) then (((⟨0, 0, false, (⟨0, 0, 0, (⟨0, 0⟩ : Spot), 0, 0, 0⟩ : Cmd), 0, 0, 0, 0⟩ : Caller), 1))
    else (((⟨0, 0, false, (⟨0, 0, 0, (⟨0, 0⟩ : Spot), 0, 0, 0⟩ : Cmd), 0, k, wt, 0⟩ : Caller), 0)))
theorem rNewCCf : CfOk Try.prog (runG Try.prog (conΔ [conr26in]) 60 12) := runG_ok noNum mixed (conΔ_ok (List.forall_mem_cons.2 ⟨conr26in_ok, List.forall_mem_nil _⟩)) _
theorem rNewC_w0 (k : Int) (wt : Int) : resOf (runG Try.prog (conΔ [conr26in]) 60 12 23 [.int .i64 k, .int .i64 wt] [] 0 [.go 0 true]) = some (.ret (.tup [.agg [.int .i64 0, .int .i64 0, .bool false, .int .i64 0, .int .i64 0, .int .i64 0, .int .i64 0, .int .i64 0, .int .i64 0, .int .i64 0, .int .i64 0, .int .i64 0, .int .i64 0, .int .i64 0, .int .i64 0], .int .i64 1]), [(true, (!r26in k (1 : Int) (7 : Int)))]) := by kernel_rfl
theorem rNewC_w1 (k : Int) (wt : Int) : resOf (runG Try.prog (conΔ [conr26in]) 60 12 23 [.int .i64 k, .int .i64 wt] [] 0 [.go 0 false, .go 0 true]) = some (.ret (.tup [.agg [.int .i64 0, .int .i64 0, .bool false, .int .i64 0, .int .i64 0, .int .i64 0, .int .i64 0, .int .i64 0, .int .i64 0, .int .i64 0, .int .i64 0, .int .i64 0, .int .i64 0, .int .i64 0, .int .i64 0], .int .i64 1]), [(false, (!r26in k (1 : Int) (7 : Int))), (true, (!r26in wt (1 : Int) (100 : Int)))]) := by kernel_rfl
theorem rNewC_w2 (k : Int) (wt : Int) : resOf (runG Try.prog (conΔ [conr26in]) 60 12 23 [.int .i64 k, .int .i64 wt] [] 0 [.go 0 false, .go 0 false]) = some (.ret (.tup [.agg [.int .i64 0, .int .i64 0, .bool false, .int .i64 0, .int .i64 0, .int .i64 0, .int .i64 0, .int .i64 0, .int .i64 0, .int .i64 0, .int .i64 0, .int .i64 0, .int .i64 k, .int .i64 wt, .int .i64 0], .int .i64 0]), [(false, (!r26in k (1 : Int) (7 : Int))), (false, (!r26in wt (1 : Int) (100 : Int)))]) := by kernel_rfl
theorem rNewC_ok (k : Int) (wt : Int)  (h : Heap) (n : Nat) : CallOk Try.prog 23 [.int .i64 k, .int .i64 wt] h n (.ret (.tup [.agg (Caller.cells ((rNewC k wt).1)), .int .i64 ((rNewC k wt).2)])) h n := by
  rcases Bool.eq_false_or_eq_true (!r26in k (1 : Int) (7 : Int)) with h0 | h0
  · 
    have e : rNewC k wt = ((⟨0, 0, false, (⟨0, 0, 0, (⟨0, 0⟩ : Spot), 0, 0, 0⟩ : Cmd), 0, 0, 0, 0⟩ : Caller), 1) := by simp only [rNewC, h0, cond]
    rw [e]
    exact way rNewCCf (rNewC_w0 k wt) (conds_cons h0.symm conds_nil) rfl rfl h n
  · 
    rcases Bool.eq_false_or_eq_true (!r26in wt (1 : Int) (100 : Int)) with h1 | h1
    · 
      have e : rNewC k wt = ((⟨0, 0, false, (⟨0, 0, 0, (⟨0, 0⟩ : Spot), 0, 0, 0⟩ : Cmd), 0, 0, 0, 0⟩ : Caller), 1) := by simp only [rNewC, h0, h1, cond]
      rw [e]
      exact way rNewCCf (rNewC_w1 k wt) (conds_cons h0.symm (conds_cons h1.symm conds_nil)) rfl rfl h n
    · 
      have e : rNewC k wt = ((⟨0, 0, false, (⟨0, 0, 0, (⟨0, 0⟩ : Spot), 0, 0, 0⟩ : Cmd), 0, k, wt, 0⟩ : Caller), 0) := by simp only [rNewC, h0, h1, cond]
      rw [e]
      exact way rNewCCf (rNewC_w2 k wt) (conds_cons h0.symm (conds_cons h1.symm conds_nil)) rfl rfl h n
def conrNewC : Con := (23, fun l => match l with
  | [.int .i64 s0, .int .i64 s1] => some (.tup [.agg (Caller.cells ((rNewC s0 s1).1)), .int .i64 ((rNewC s0 s1).2)])
  | _ => none)
theorem conrNewC_ok : ConOk Try.prog conrNewC := by
  intro l v e h n
  simp only [conrNewC] at e
  split at e
  · skip
    cases e
    exact rNewC_ok _ _ h n
  · cases e

end Go.Proofs.Ytopeokonlaljlaa
