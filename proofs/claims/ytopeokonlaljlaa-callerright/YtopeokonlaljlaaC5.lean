/- What the caller does is what the document says. -/
import Derived.Test.YtopeokonlaljlaaC4
namespace Go.Proofs.Ytopeokonlaljlaa
open Go.Eng Go.Proofs
theorem within_eq (a b c : Int) : mWithin a b c = (decide (b ≤ a) && decide (a ≤ c)) := by
  unfold mWithin; by_cases h : b ≤ a <;> simp [h]
theorem cWithin_eq (a b c : Int) : cWithin a b c = (decide (b ≤ a) && decide (a ≤ c)) := by
  unfold cWithin; by_cases h : b ≤ a <;> simp [h]
theorem r19in_eq (a b c : Int) : r19in a b c = (decide (b ≤ a) && decide (a ≤ c)) := by
  unfold r19in; by_cases h : b ≤ a <;> simp [h]
theorem r26in_eq (a b c : Int) : r26in a b c = (decide (b ≤ a) && decide (a ≤ c)) := by
  unfold r26in; by_cases h : b ≤ a <;> simp [h]
theorem spotIs_eq (s : Spot) : spotIs s = (decide (1 ≤ s.bed) && decide (s.bed ≤ 99) && decide (0 ≤ s.channel) && decide (s.channel ≤ 7)) := by
  unfold spotIs; grind
theorem r04Is_eq (s : Spot) : r04Is s = (decide (1 ≤ s.bed) && decide (s.bed ≤ 99) && decide (0 ≤ s.channel) && decide (s.channel ≤ 7)) := by
  unfold r04Is; grind
theorem may_eq (c : Cmd) : may c = rMay c := by
  unfold may rMay
  simp only [within_eq, r19in_eq, spotIs_eq, r04Is_eq, Bool.cond_eq_ite]
  by_cases h1 : c.kind = 1
  · simp [h1]
  by_cases h6 : c.kind = 6
  · simp [h6]; grind
  by_cases h7 : c.kind = 7
  · simp [h7]; grind
  simp [h1, h6, h7]
theorem wrap_sub {x : Int} (h : -9223372036854775808 ≤ x ∧ x ≤ 9223372036854775807) : IntKind.i64.wrap x = x := by
  simp [IntKind.wrap, IntKind.bits, IntKind.signed]; omega
theorem isC_eq (c : Caller) : isC c = rIsC c := by
  unfold isC rIsC
  simp only [cWithin_eq, r26in_eq, may_eq, Bool.cond_eq_ite]
  grind

/-- What is right of a right caller. -/
structure Right (c : Caller) : Prop where
  n : 1 ≤ c.n ∧ c.n ≤ 7
  to : 0 ≤ c.to ∧ c.to ≤ c.n - 1
  wait : 1 ≤ c.wait ∧ c.wait ≤ 100
  left : 0 ≤ c.left ∧ c.left ≤ c.wait
  session : 0 ≤ c.session ∧ c.session ≤ 1000000000
  request : 0 ≤ c.request ∧ c.request ≤ 1000000000
  busy : c.busy = true → 1 ≤ c.left ∧ may c.cmd = true ∧ (c.cmd.kind = 1 ∨ c.cmd.session = c.session ∧ c.cmd.request = c.request)
  free : c.busy = false → c.left = 0 ∧ c.cmd = ⟨0, 0, 0, ⟨0, 0⟩, 0, 0, 0⟩

theorem cmd_ext (x : Cmd) : x = ⟨0, 0, 0, ⟨0, 0⟩, 0, 0, 0⟩ ↔ (x.session = 0 ∧ x.request = 0 ∧ x.kind = 0 ∧ x.spot.bed = 0 ∧ x.spot.channel = 0 ∧ x.prio = 0 ∧ x.at_ = 0 ∧ x.long = 0) := by
  rcases x with ⟨a, b, c, ⟨d, e⟩, f, g, h⟩
  simp only [Cmd.mk.injEq, Spot.mk.injEq]
  grind

theorem isC_iff (c : Caller) : isC c = true ↔ Right c := by
  constructor
  · intro h
    unfold isC at h
    simp only [cWithin_eq, Bool.cond_eq_ite] at h
    have hw : 1 ≤ c.n → c.n ≤ 7 → IntKind.i64.wrap (c.n - 1) = c.n - 1 := fun h1 h2 => wrap_sub (by omega)
    constructor <;> grind [cmd_ext]
  · intro r
    have h1 := r.n; have h2 := r.to; have h3 := r.wait; have h4 := r.left; have h5 := r.session; have h6 := r.request
    have hw : IntKind.i64.wrap (c.n - 1) = c.n - 1 := wrap_sub (by omega)
    unfold isC
    simp only [cWithin_eq, Bool.cond_eq_ite, hw]
    cases hb : c.busy with
    | true => have h7 := r.busy hb; simp [*]; grind
    | false => have h7 := r.free hb; simp [*]; omega

theorem deny_eq (c : Caller) (f : Int) : deny c f = rDeny c f := by
  unfold deny rDeny; rw [isC_eq]; grind
theorem tick_eq (c : Caller) : tick c = rTick c := by
  unfold tick rTick; rw [isC_eq]; grind
theorem newC_eq (k w : Int) : newC k w = rNewC k w := by
  unfold newC rNewC isC
  simp only [cWithin_eq, r26in_eq, Bool.cond_eq_ite]
  have hw : 1 ≤ k → k ≤ 7 → IntKind.i64.wrap (k - 1) = k - 1 := fun h1 h2 => wrap_sub (by omega)
  grind
theorem ask_eq (c : Caller) (x : Cmd) : ask c x = rAsk c x := by
  unfold ask rAsk; rw [← isC_eq]
  simp only [may_eq]
  cases hc : isC c with
  | false => cases hk : (x.kind != 1) <;> simp
  | true =>
    have r := (isC_iff c).1 hc
    have h1 := r.request
    have hw : IntKind.i64.wrap (c.request + 1) = c.request + 1 := wrap_sub (by omega)
    rw [hw]
    grind
theorem hear_eq (c : Caller) (f : Int) (x : Cmd) (a : Answer) : hear c f x a = rHear c f x a := by
  unfold hear rHear; rw [← isC_eq]
  simp only [cWithin_eq, r26in_eq]
  grind
end Go.Proofs.Ytopeokonlaljlaa
