/- CallerRight: its call returns true. -/
import Derived.Test.YtopeokonlaljlaaD5
import Derived.Test.YtopeokonlaljlaaF3
set_option linter.unusedVariables false
namespace Go.Proofs.Ytopeokonlaljlaa
open Go.Eng Go.Proofs

theorem seg4 : seqs (codeAt Try.prog 4) = sg4 0 7 ++ (sg4 7 2 ++ (sg4 9 2 ++ (sg4 11 2 ++ sg4 13 2))) := by kernel_rfl
theorem seg4z : seqs (codeAt Try.prog 4) = sg4 0 3 ++ (seqs (codeAt Try.prog 4)).drop 3 := (List.take_append_drop 3 _).symm
theorem flat4 {c b d g v : Caller} {y : Cmd} : FlatHeap (hp4 c b y d g v) := ⟨True.intro, True.intro, True.intro, True.intro, True.intro, True.intro, True.intro⟩

abbrev args4 (c : Caller) (x : Cmd) (i j : Int) (l : List ByteArray) (f : Int) : List AV := [.agg c.cells, .agg x.cells, .agg (ansA i j l).cells, .int .i64 f]
theorem close4 (c : Caller) (x : Cmd) (i j : Int) (l : List ByteArray) (f : Int) (o : WLOk Try.prog (tmpsAt Try.prog 4) (seqs (codeAt Try.prog 4)) (params (args4 c x i j l f) 0) [] 0 .ret [(8, some (.bool true))] [] 0) (h : Heap) (n : Nat) :
    CallOk Try.prog 4 (args4 c x i j l f) h n (.ret (.bool true)) h n := by
  obtain ⟨cd, hb⟩ : ∃ cd, Try.f4.body = some cd := ⟨_, rfl⟩
  obtain ⟨h1, h2⟩ := codeAt_eq Try.func4 hb
  rw [← h1, ← h2] at o
  have hle : (args4 c x i j l f).length ≤ Try.f4.ntmps := Nat.le_of_ble_eq_true (by kernel_rfl)
  have key := call_of_pieces (l := [.bool true]) Try.func4 hb hle o (by kernel_rfl)
  exact pure_call key rfl rfl h n

noncomputable def rz4 (i j : Int) (l : List ByteArray) : Run := runL (fun c => runC2 Try.prog (tmpsAt Try.prog 4) (runG Try.prog (fixΔ [fx13 i j l] cons26) 60 4) 60 c) (sg4 0 3)
theorem rz4_ok (i j : Int) (l : List ByteArray) : RunWL Try.prog (tmpsAt Try.prog 4) (sg4 0 3) (rz4 i j l) := runL_ok _ fun c _ => (runC2_ok noNum mixed (cfLaw i j l) c).toW
theorem p4Y (c : Caller) (x : Cmd) (i j : Int) (l : List ByteArray) (f : Int) : cutR [] [8] (rz4 i j l (params (args4 c x i j l f) 0) [] 0 [.go 0 false, .go 0 true]) = some (.ret, [(8, some (.bool called))], [], [((argsB [.agg (ansA i j l).cells] [.agg (ansA i j l).cells]), true), (true, true), (false, bigS l), (true, !isC c)]) := by kernel_rfl

theorem right_ok (c : Caller) (x : Cmd) (i j : Int) (l : List ByteArray) (f : Int) (h : Heap) (n : Nat) : CallOk Try.prog 4 (args4 c x i j l f) h n (.ret (.bool true)) h n := by
  have ha : argsB [.agg (ansA i j l).cells] [.agg (ansA i j l).cells] = true := argsB_true rfl
  refine close4 c x i j l f ?_ h n
  rcases Bool.eq_false_or_eq_true (bigS l) with hs | hs
  · rw [seg4z]
    exact (pieceL (T := []) (n' := 0) (rn4_ok 0 3 i j l) (p4Z c x i j l f) rfl rfl True.intro (conds_cons ha (conds_cons rfl (conds_cons hs.symm conds_nil)))).stop (by simp)
  rcases (Bool.eq_false_or_eq_true (isC c)).symm with hc | hc
  · rw [seg4z]
    have e := p4Y c x i j l f
    rw [called_true] at e
    exact (pieceL (T := []) (n' := 0) (rz4_ok i j l) e rfl rfl True.intro (conds_cons ha (conds_cons rfl (conds_cons hs.symm (conds_cons (by rw [hc]; rfl) conds_nil))))).stop (by simp)
  have R := (isC_iff c).1 hc
  rw [seg4]
  -- what the calls make
  obtain ⟨A, hA⟩ : ∃ A, ansA i j l = A := ⟨_, rfl⟩
  have e1 : (hear c f x (ansA i j l)).2.2 = 0 := by rw [hear_right R]; split <;> rfl
  have e2 : (deny c f).2.2 = 0 := by rw [deny_right R]; split <;> rfl
  have e3 : (tick c).2.2 = 0 := by rw [tick_right R]; split; rfl; split <;> rfl
  have hd := (isC_iff _).2 (right_hear R f x (ansA i j l))
  have hg := (isC_iff _).2 (right_deny R f)
  have hv := (isC_iff _).2 (right_tick R)
  have stA := pieceL (T := T4) (n' := 6) (rn4_ok 0 7 i j l) (p4A c x i j l f) rfl rfl flat4 (conds_cons ha (conds_cons rfl (conds_cons hs.symm (conds_cons hc (conds_cons (by rw [e1]; rfl) (conds_cons (by rw [e2]; rfl) (conds_cons (by rw [e3]; rfl) conds_nil)))))))
  refine stA.append ?_
  have fh : (hear c f x (ansA i j l)).2.1 = true → c.busy = true ∧ (hear c f x (ansA i j l)).1.busy = false ∧ (hear c f x (ansA i j l)).1.to = f := by
    rw [hear_right R]; split
    · rename_i q; exact fun _ => ⟨q.1, rfl, rfl⟩
    · exact fun q => by cases q
  have fh2 : (hear c f x (ansA i j l)).2.1 = false → (hear c f x (ansA i j l)).1 = c := by
    rw [hear_right R]; split
    · exact fun q => by cases q
    · exact fun _ => rfl
  have fd : (deny c f).2.1 = false → (deny c f).1 = c := by
    rw [deny_right R]; split
    · exact fun q => by cases q
    · exact fun _ => rfl
  have fd2 : (deny c f).2.1 = true → (deny c f).1.to = c.to → ¬ c.n > 1 := by
    have h1 := R.to
    rw [deny_right R]; split
    · intro _ q
      simp only at q
      split at q <;> omega
    · exact fun q => by cases q
  have gb : (deny c f).1.busy = c.busy := by rw [deny_right R]; split <;> rfl
  have gc : (deny c f).1.cmd = c.cmd := by rw [deny_right R]; split <;> rfl
  have vb : (tick c).1.busy = c.busy := by rw [tick_right R]; split; rfl; split <;> rfl
  have vc : (tick c).1.cmd = c.cmd := by rw [tick_right R]; split; rfl; split <;> rfl
  have vt : (tick c).2.1 = false → (tick c).1.to = c.to := by
    rw [tick_right R]; split
    · exact fun _ => rfl
    · split
      · exact fun q => by cases q
      · exact fun _ => rfl
  have fa : (ask c x).2.2 = 0 → Right (ask c x).1 ∧ (ask c x).1.busy = true ∧ (ask c x).1.cmd = (ask c x).2.1 ∧ (ask c x).1.to = c.to ∧ ((ask c x).2.1.kind ≠ 1 → (ask c x).2.1.request = IntKind.i64.wrap (c.request + 1) ∧ (ask c x).2.1.session = c.session) := by
    intro q
    have hq := R.request
    have he : askE c x = 0 := by
      rw [ask_right R] at q
      split at q
      · assumption
      · exact q
    rw [ask_right R, if_pos he]
    refine ⟨right_asked R he, rfl, rfl, rfl, fun hk => ?_⟩
    show (askedC c x).request = _ ∧ (askedC c x).session = _
    rw [wrap_sub (by omega)]
    unfold askedC at hk ⊢
    split at hk
    · rename_i q1; exact absurd q1 hk
    · rename_i q1; rw [if_neg q1]; exact ⟨rfl, rfl⟩
  generalize hB : (ask c x).1 = b at *
  generalize hY : (ask c x).2.1 = y at *
  generalize hE : (ask c x).2.2 = e at *
  generalize hD : (hear c f x (ansA i j l)).1 = d at *
  generalize hH : (hear c f x (ansA i j l)).2.1 = hh at *
  generalize hG : (deny c f).1 = g at *
  generalize hN : (deny c f).2.1 = dn at *
  generalize hV : (tick c).1 = v at *
  generalize hL : (tick c).2.1 = lt at *
  clear stA hB hY hE hD hH hG hN hV hL
  have cB : ∀ p q : Cmd, p = q → (p.session == q.session && (p.request == q.request && (p.kind == q.kind && (p.spot.bed == q.spot.bed && p.spot.channel == q.spot.channel && (p.prio == q.prio && (p.at_ == q.at_ && p.long == q.long)))))) = true := fun p q e => by rw [Cmd.eqB]; exact decide_eq_true e
  -- the first test
  refine WLOk.append (env1 := ev4 f e hh dn lt) (h1 := hp4 c b y d g v) (n1 := 6) ?_ ?_
  · by_cases q : e = 0
    · obtain ⟨r1, r2, r3, r4, r5⟩ := fa q
      have r1 := (isC_iff _).2 r1
      by_cases k : y.kind = 1
      · exact pieceL (T := T6) (n' := 6) (rn4_ok 7 2 i j l) (p4B6 c b y d g v i j l f e hh dn lt) rfl rfl flat4 (conds_cons (by simp [q]) (conds_cons r1 (conds_cons (by simp [r2]) (conds_cons (by rw [cB _ _ r3]; rfl) (conds_cons (by simp [r4]) (conds_cons (by simp [k]) conds_nil))))))
      · obtain ⟨r6, r7⟩ := r5 k
        exact pieceL (T := T6) (n' := 6) (rn4_ok 7 2 i j l) (p4B5 c b y d g v i j l f e hh dn lt) rfl rfl flat4 (conds_cons (by simp [q]) (conds_cons r1 (conds_cons (by simp [r2]) (conds_cons (by rw [cB _ _ r3]; rfl) (conds_cons (by simp [r4]) (conds_cons (by simp [k]) (conds_cons (by simp [r6]) (conds_cons (by simp [r7]) conds_nil))))))))
    · exact pieceL (T := T6) (n' := 6) (rn4_ok 7 2 i j l) (p4B7 c b y d g v i j l f e hh dn lt) rfl rfl flat4 (conds_cons (by simp [q]) conds_nil)
  refine WLOk.append (env1 := ev4 f e hh dn lt) (h1 := hp4 c b y d g v) (n1 := 6) ?_ ?_
  · exact pieceL (T := T6) (n' := 6) (rn4_ok 9 2 i j l) (p4C0 c b y d g v i j l f e hh dn lt) rfl rfl flat4 (conds_cons hd (conds_cons hg (conds_cons hv conds_nil)))
  refine WLOk.append (env1 := ev4 f e hh dn lt) (h1 := hp4 c b y d g v) (n1 := 6) ?_ ?_
  · rcases Bool.eq_false_or_eq_true hh with q | q
    · obtain ⟨r1, r2, r3⟩ := fh q
      rcases Bool.eq_false_or_eq_true dn with k | k
      · by_cases t : g.to = c.to
        · have e := p4Dtt4 c b y d g v i j l f e hh dn lt
          rw [q, k]
          exact pieceL (T := T6) (n' := 6) (rn4_ok 11 2 i j l) e rfl rfl flat4 (conds_cons (by simp [r1]) (conds_cons (by simp [r2]) (conds_cons (by simp [r3]) (conds_cons (by simp [t]) (conds_cons (decide_eq_false (fd2 k t)).symm conds_nil)))))
        · have e := p4Dtt5 c b y d g v i j l f e hh dn lt
          rw [q, k]
          exact pieceL (T := T6) (n' := 6) (rn4_ok 11 2 i j l) e rfl rfl flat4 (conds_cons (by simp [r1]) (conds_cons (by simp [r2]) (conds_cons (by simp [r3]) (conds_cons (by simp [t]) conds_nil))))
      · have e := p4Dtf4 c b y d g v i j l f e hh dn lt
        have t := fd k
        rw [q, k]
        exact pieceL (T := T6) (n' := 6) (rn4_ok 11 2 i j l) e rfl rfl flat4 (conds_cons (by simp [r1]) (conds_cons (by simp [r2]) (conds_cons (by simp [r3]) (conds_cons (by rw [t]; simp) conds_nil))))
    · have r := fh2 q
      rcases Bool.eq_false_or_eq_true dn with k | k
      · by_cases t : g.to = c.to
        · have e := p4Dft2 c b y d g v i j l f e hh dn lt
          rw [q, k]
          exact pieceL (T := T6) (n' := 6) (rn4_ok 11 2 i j l) e rfl rfl flat4 (conds_cons (by rw [r]; simp) (conds_cons (by simp [t]) (conds_cons (decide_eq_false (fd2 k t)).symm conds_nil)))
        · have e := p4Dft3 c b y d g v i j l f e hh dn lt
          rw [q, k]
          exact pieceL (T := T6) (n' := 6) (rn4_ok 11 2 i j l) e rfl rfl flat4 (conds_cons (by rw [r]; simp) (conds_cons (by simp [t]) conds_nil))
      · have e := p4Dff2 c b y d g v i j l f e hh dn lt
        have t := fd k
        rw [q, k]
        exact pieceL (T := T6) (n' := 6) (rn4_ok 11 2 i j l) e rfl rfl flat4 (conds_cons (by rw [r]; simp) (conds_cons (by rw [t]; simp) conds_nil))
  · rcases Bool.eq_false_or_eq_true lt with q | q
    · exact pieceL (T := []) (n' := 0) (rn4_ok 13 2 i j l) (p4E0 c b y d g v i j l f e hh dn lt) rfl rfl True.intro (conds_cons (by simp [gb]) (conds_cons (cB _ _ gc).symm (conds_cons (by simp [vb]) (conds_cons (cB _ _ vc).symm (conds_cons q.symm conds_nil)))))
    · have e := p4E1 c b y d g v i j l f e hh dn lt
      rw [show (v.to == c.to) = true by simp [vt q]] at e
      exact pieceL (T := []) (n' := 0) (rn4_ok 13 2 i j l) e rfl rfl True.intro (conds_cons (by simp [gb]) (conds_cons (cB _ _ gc).symm (conds_cons (by simp [vb]) (conds_cons (cB _ _ vc).symm (conds_cons q.symm conds_nil)))))
end Go.Proofs.Ytopeokonlaljlaa
