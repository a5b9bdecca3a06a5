/- Part 2 of the proof of NodeAgain. -/
import Derived.Test.YtaooefnmdlajcaaA1
import Derived.Shelf.Sort.Plain
import Derived.Shelf.Slices.In.SortNone
set_option linter.unusedVariables false
set_option linter.unusedSimpArgs false
set_option linter.unusedSectionVars false
section
set_option linter.unusedVariables false
set_option linter.unusedSectionVars false
namespace Go.Proofs.Ytaooefnmdlajcaa
open Go Go.Eng Go.Proofs Go.Sort
def ins (a : Int) : List Int → List Int
  | [] => [a]
  | b :: r => match decide (a ≤ b) with | true => a :: b :: r | false => b :: ins a r
def sortLe : List Int → List Int
  | [] => []
  | a :: r => ins a (sortLe r)
theorem ins_perm (a : Int) : ∀ l : List Int, (ins a l).Perm (a :: l)
  | [] => .refl _
  | b :: r => by
    unfold ins
    split
    · exact .refl _
    · exact ((ins_perm a r).cons b).trans (List.Perm.swap a b r)
theorem sortLe_perm : ∀ l : List Int, (sortLe l).Perm l
  | [] => .refl _
  | a :: r => (ins_perm a _).trans ((sortLe_perm r).cons a)
theorem ins_sorted (a : Int) : ∀ {l : List Int}, l.Pairwise (· ≤ ·) → (ins a l).Pairwise (· ≤ ·)
  | [], _ => by simp [ins]
  | b :: r, h => by
    unfold ins
    rw [List.pairwise_cons] at h
    split
    · rename_i hb
      have hb := of_decide_eq_true hb
      refine List.pairwise_cons.2 ⟨fun x hx => ?_, List.pairwise_cons.2 h⟩
      rcases List.mem_cons.1 hx with rfl | hx
      · exact hb
      · exact Int.le_trans hb (h.1 x hx)
    · rename_i hb
      have hb : ¬ a ≤ b := of_decide_eq_false hb
      refine List.pairwise_cons.2 ⟨fun x hx => ?_, ins_sorted a h.2⟩
      rcases List.mem_cons.1 ((ins_perm a r).mem_iff.1 hx) with rfl | hx
      · omega
      · exact h.1 x hx
theorem sortLe_sorted : ∀ l : List Int, (sortLe l).Pairwise (· ≤ ·)
  | [] => .nil
  | a :: r => ins_sorted a (sortLe_sorted r)
theorem sorted_eq : ∀ {l m : List Int}, l.Perm m → l.Pairwise (· ≤ ·) → m.Pairwise (· ≤ ·) → l = m
  | [], m, h, _, _ => h.nil_eq
  | a :: l, [], h, _, _ => absurd h.symm.nil_eq (by simp)
  | a :: l, b :: m, h, h1, h2 => by
    rw [List.pairwise_cons] at h1 h2
    have ha : a ∈ b :: m := h.mem_iff.1 (by simp)
    have hb : b ∈ a :: l := h.mem_iff.2 (by simp)
    have hab : a = b := by
      rcases List.mem_cons.1 ha with q | q
      · exact q
      · rcases List.mem_cons.1 hb with p | p
        · exact p.symm
        · exact Int.le_antisymm (h1.1 b p) (h2.1 a q)
    subst hab
    rw [sorted_eq (List.Perm.cons_inv h) h1.2 h2.2]
theorem merge_eq (l : List Int) : (l.mergeSort fun x y => decide (x ≤ y)) = sortLe l := by
  refine sorted_eq ((List.mergeSort_perm l _).trans (sortLe_perm l).symm) ?_ (sortLe_sorted l)
  have := List.pairwise_mergeSort (le := fun (x y : Int) => decide (x ≤ y)) (fun a b c h1 h2 => by simp at *; omega) (fun a b => by simp; omega) l
  exact this.imp (fun h => by simpa using h)
def fSort (l : List Int) : Option (List Int) := br (decide (l.length < 4611686018427387904)) (some (sortLe l)) none
def dSort (a : List AV) (H : Heap) : Option (List (Den.den 3)) := match a, H with
  | [.slf 0], [(0, b)] => rowD 3 b
  | _, _ => none
def gSort : CallS := entT dSort (fun l => fSort l) (elAll _) (fun _ _ => .ret (.tup [])) (fun _ r => [(0, some (.row 3 r))]) (fun _ _ => 1)
theorem sort_contract {P : Program} {k : FuncId} (hb : ∃ fn, P.funcs[k]? = some fn ∧ fn.body.isSome = true)
    (h1 : ∀ (blk off cap : Nat) (zs : List Int) (w : World), Holds (Value.int .i64) w blk off zs.toArray → blk < w.heap.size → zs.length < 4611686018427387904 →
      Calls P k #[.slice (some ⟨blk, off, none⟩) zs.length cap] w fun e w' => e = .returned (.tuple #[]) ∧ ∃ n os, w' = grow (putRow (Value.int .i64) (Sort.ahead w n) blk off (zs.mergeSort fun x y => decide (x ≤ y)).toArray) os)
    (h0 : ∀ (p : Option Addr) (cap : Nat) (w : World), Calls P k #[.slice p 0 cap] w fun e w' => e = .returned (.tuple #[]) ∧ w' = w) : CallSOk P k gSort := by
  intro R ac Hc m K r hm hlen e
  unfold gSort entT at e
  split at e
  · rename_i l hd
    unfold dSort at hd
    split at hd
    · have := rowD_ok hd
      subst this
      obtain ⟨l, rfl⟩ : ∃ l' : List Int, l' = l := ⟨l, rfl⟩
      replace e : bindO (fSort l) (fun z => K (.ret (.tup [])) [(0, some (.row 3 z))] 1) = some r := e
      cases hf : fSort l with
      | none => rw [hf] at e; cases e
      | some z =>
        rw [hf] at e
        replace e : K (.ret (.tup [])) [(0, some (.row 3 z))] 1 = some r := e
        unfold fSort at hf
        obtain ⟨hl, hz⟩ := (br_some hf).resolve_right (fun q => by cases q.2)
        have hl := of_decide_eq_true hl
        cases hz
        have hm1 : m = 1 := by rw [← hlen]; rfl
        subst hm1
        refine ⟨_, _, _, ⟨hb, fun w0 F ρ RO w vs H hvs => ?_⟩, e⟩
        obtain ⟨v, t, rfl, hv, ht⟩ := hvs.inv_cons
        rw [ht.inv_nil]
        have hlk : lookH ([(0, some (AObj.row 3 l))] : Heap) 0 = some (.row 3 l) := rfl
        have tup : ∀ {ρ' RO' w'}, EndRel ρ' RO' w' (.ret (.tup [])) (.returned (.tuple #[])) := fun {ρ' RO' w'} => ⟨_, rfl, .tup (vs := []) rfl (fun i a v h => by simp at h)⟩
        cases hv with
        | @slf _ c L A hL hc hA hz0 hs hmm =>
        obtain ⟨⟨r1, r2⟩, r3⟩ := H.row hlk hL
        by_cases hl0 : l = []
        · subst hl0
          have hn0 : L.n = 0 := r2
          have hs0 : sortLe [] = [] := rfl
          rw [hs0]
          rw [hn0]
          refine (h0 A c w).mono fun e w' he => ?_
          obtain ⟨rfl, rfl⟩ := he
          refine ⟨ρ, RO, .refl _ _ _, H.forget (fun i o hi => ?_) (fun i o hi => ?_), tup⟩
          · rw [List.cons_append, lookH_cons] at hi
            split at hi
            · rename_i q; subst q; exact hi
            · exact hi
          · rw [List.cons_append, lookF_cons] at hi
            split at hi
            · cases hi
            · exact hi
        · have hpos : 0 < l.length := List.length_pos_iff.2 hl0
          obtain ⟨_, cs, g1, g2, g3⟩ := r3 hpos
          have hng : ¬ Ghost L (.row 3 l) := not_ghost_row hpos
          have hlt : L.blk < w.heap.size := (Array.getElem?_eq_some_iff.1 g1).1
          have hn1 : 0 < L.n := by rw [r2]; exact hpos
          have hA' := hA (by omega)
          subst hA'
          rw [r2]
          have hcell : ∀ i, i < l.length → cs[L.base + i]? = some (.int .i64 (l.getD i 0)) := by
            intro i hi
            obtain ⟨u, u1, u2, u3⟩ := g3 i 0 hi (Univ.sz_pos 3)
            have hz : Univ.sz 3 = 1 := rfl
            have : elT 3 l i 0 = .int .i64 (l.getD i 0) := rfl
            rw [this] at u3
            cases u3
            rw [hz] at u1
            simpa using u1
          have hH : Holds (Value.int .i64) w L.blk L.base l.toArray := by
            intro j hj
            have hj : j < l.length := by simpa using hj
            refine ⟨?_, by simp [World.frozen?, g1]⟩
            simp only [World.cell?, g1]
            simp only [Option.isSome_none, Bool.false_eq_true, if_false]
            rw [hcell j hj]
            simp [List.getD_eq_getElem?_getD, hj]
          refine (h1 L.blk L.base c l w hH hlt hl).mono fun e w' he => ?_
          obtain ⟨rfl, n, os, hw⟩ := he
          rw [merge_eq] at hw
          subst hw
          have hsl : (sortLe l).length = l.length := (sortLe_perm l).length_eq
          let w1 : World := putRow (Value.int .i64) (Sort.ahead w n) L.blk L.base (sortLe l).toArray
          have hsame : ∀ k, k ≠ L.blk → w1.heap[k]? = w.heap[k]? := by
            intro k hk
            have : L.blk ≠ k := fun q => hk q.symm
            simp [w1, putRow, mapBlock, Sort.ahead, Array.getElem?_modify, this]
          obtain ⟨ext, fin⟩ := H.turn (w' := w1) hlk hL hng rfl rfl rfl (by simp [w1, putRow, mapBlock, Sort.ahead]) hsame
          have hb1 : w1.heap[L.blk]? = some (.cells (putCells (Value.int .i64) L.base (sortLe l).toArray cs) 3 (0, 0)) := by
            simp [w1, putRow, mapBlock, Sort.ahead, Array.getElem?_modify, g1, onCells]
          have H1 := fin (.row 3 (sortLe l)) rfl ⟨⟨r1, by rw [r2]; exact hsl.symm⟩, _, hb1, by simp [putCells, g2], fun i k hi hk => by
            have hz : Univ.sz 3 = 1 := rfl
            rw [hz] at hk ⊢
            have hk0 : k = 0 := by omega
            subst hk0
            have hi : i < List.length (α := Int) (sortLe l) := hi
            have hi2 : i < List.length (α := Int) l := by omega
            obtain ⟨hin, _⟩ := Array.getElem?_eq_some_iff.1 (hcell i hi2)
            refine ⟨.int .i64 ((sortLe l).getD i 0), ?_, rfl, .int _ _⟩
            have hi' : i < (sortLe l).toArray.size := by simpa using hi
            simp only [Nat.mul_one, Nat.add_zero, putCells, Array.getElem?_mapIdx, Array.getElem?_eq_getElem hin, Option.map_some]
            rw [if_pos ⟨by omega, by omega⟩]
            simp [List.getD_eq_getElem?_getD, hi]⟩
          obtain ⟨ext2, H2⟩ := H1.grown (w' := grow w1 os) ⟨rfl, rfl, rfl, by simp [grow], fun k hk _ => heap_grow_old _ _ hk⟩
          exact ⟨ρ, RO, ext.trans ext2, H2, tup⟩
    · cases hd
  · cases e
section
open Go.Shelf
def sortI_ren : Go.Shelf.Ren := ⟨fun | 189 => 122 | 125 => 126 | 257 => 130 | 128 => 140 | 129 => 141 | 294 => 144 | 295 => 145 | 296 => 146 | 297 => 147 | 298 => 148 | 299 => 149 | 216 => 150 | 300 => 151 | 301 => 152 | 328 => 158 | 329 => 154 | 330 => 155 | 331 => 159 | 332 => 160 | 215 => 114 | 343 => 162 | n => n, fun | 28 => 40 | 3 => 3 | 46 => 143 | 0 => 0 | 51 => 156 | 53 => 158 | 4 => 4 | 183 => 150 | 182 => 149 | 131 => 28 | 5 => 5 | 9 => 9 | 218 => 164 | 222 => 168 | 228 => 172 | 229 => 173 | n => n, fun | n => n⟩
theorem sortI : Go.Proofs.Lays.n189 Try.prog sortI_ren := {
  mixed := by kernel_rfl,
  f125 := Try.func126.trans (congrArg some (by kernel_rfl)),
  f128 := Try.func140.trans (congrArg some (by kernel_rfl)),
  f129 := Try.func141.trans (congrArg some (by kernel_rfl)),
  f189 := Try.func122.trans (congrArg some (by kernel_rfl)),
  f215 := Try.func114.trans (congrArg some (by kernel_rfl)),
  f216 := Try.func150.trans (congrArg some (by kernel_rfl)),
  f257 := Try.func130.trans (congrArg some (by kernel_rfl)),
  f294 := Try.func144.trans (congrArg some (by kernel_rfl)),
  f295 := Try.func145.trans (congrArg some (by kernel_rfl)),
  f296 := Try.func146.trans (congrArg some (by kernel_rfl)),
  f297 := Try.func147.trans (congrArg some (by kernel_rfl)),
  f298 := Try.func148.trans (congrArg some (by kernel_rfl)),
  f299 := Try.func149.trans (congrArg some (by kernel_rfl)),
  f300 := Try.func151.trans (congrArg some (by kernel_rfl)),
  f301 := Try.func152.trans (congrArg some (by kernel_rfl)),
  f328 := Try.func158.trans (congrArg some (by kernel_rfl)),
  f329 := Try.func154.trans (congrArg some (by kernel_rfl)),
  f330 := Try.func155.trans (congrArg some (by kernel_rfl)),
  f331 := Try.func159.trans (congrArg some (by kernel_rfl)),
  f332 := Try.func160.trans (congrArg some (by kernel_rfl)),
  f343 := Try.func162.trans (congrArg some (by kernel_rfl)),
  t0 := Try.underlying0,
  a0 := Try.isAgg0,
  z0 := Try.sizeOf0,
  v0 := Try.zeroValue0,
  t3 := Try.underlying3,
  a3 := Try.isAgg3,
  z3 := Try.sizeOf3,
  v3 := Try.zeroValue3,
  t4 := Try.underlying4,
  a4 := Try.isAgg4,
  z4 := Try.sizeOf4,
  v4 := Try.zeroValue4,
  t5 := Try.underlying5,
  a5 := Try.isAgg5,
  z5 := Try.sizeOf5,
  v5 := Try.zeroValue5,
  t9 := Try.underlying9,
  a9 := Try.isAgg9,
  z9 := Try.sizeOf9,
  v9 := Try.zeroValue9,
  t28 := Try.underlying40,
  a28 := Try.isAgg40,
  z28 := Try.sizeOf40,
  v28 := Try.zeroValue40,
  t46 := Try.underlying143,
  a46 := Try.isAgg143,
  z46 := Try.sizeOf143,
  v46 := Try.zeroValue143,
  t51 := Try.underlying156,
  a51 := Try.isAgg156,
  z51 := Try.sizeOf156,
  v51 := Try.zeroValue156,
  t53 := Try.underlying158,
  a53 := Try.isAgg158,
  z53 := Try.sizeOf158,
  v53 := Try.zeroValue158,
  t131 := Try.underlying28,
  a131 := Try.isAgg28,
  z131 := Try.sizeOf28,
  v131 := Try.zeroValue28,
  t182 := Try.underlying149,
  a182 := Try.isAgg149,
  z182 := Try.sizeOf149,
  v182 := Try.zeroValue149,
  t183 := Try.underlying150,
  a183 := Try.isAgg150,
  z183 := Try.sizeOf150,
  v183 := Try.zeroValue150,
  t218 := Try.underlying164,
  a218 := Try.isAgg164,
  z218 := Try.sizeOf164,
  v218 := Try.zeroValue164,
  t222 := Try.underlying168,
  a222 := Try.isAgg168,
  z222 := Try.sizeOf168,
  v222 := Try.zeroValue168,
  t228 := Try.underlying172,
  a228 := Try.isAgg172,
  z228 := Try.sizeOf172,
  v228 := Try.zeroValue172,
  t229 := Try.underlying173,
  a229 := Try.isAgg173,
  z229 := Try.sizeOf173,
  v229 := Try.zeroValue173 }
end
theorem g122_ok (k : Nat) : CallSOk Try.prog 122 gSort := sort_contract ⟨_, Try.func122, rfl⟩ (fun blk off cap zs w a b c => Any.slices_Sort_int sortI blk off cap zs w a b c) (fun p cap w => Any.slices_Sort_int_none sortI p cap w)
end Go.Proofs.Ytaooefnmdlajcaa

end
section
set_option linter.unusedVariables false
open Go Go.Eng Go.Proofs
namespace Go.Proofs.Ytaooefnmdlajcaa
set_option maxHeartbeats 0
set_option maxRecDepth 100000
noncomputable section
def plan : Plan := fun t => match t with
  | 42 => some [.any, .any, .any, .any, .any, .any, .rd 9, .rd 3, .any, .rd 89]
  | 43 => some [.any, .any, .any, .any, .any, .any, .rd 9, .rd 3, .any, .rd 89]
  | 44 => some [.any, .any, .any, .any, .any, .any, .any, .rd 9]
  | 45 => some [.any, .any, .any, .any, .any, .any, .any, .rd 9]
  | 77 => some [.any, .any, .any, .any, .any, .any, .rd 9, .rd 3, .any, .rd 89]
  | 78 => some [.any, .any, .any, .any, .any, .any, .rd 9, .rd 3, .any, .rd 89]
  | 79 => some [.any, .any, .any, .any, .any, .any, .rd 9, .rd 3, .any, .rd 89, .rd 45]
  | 80 => some [.any, .any, .any, .any, .any, .any, .ro 9, .own 3, .any, .ro 89, .own 45]
  | 88 => some [.any, .any, .any, .rd 9]
  | 89 => some [.any, .any, .any, .rd 9]
  | 129 => some [.any, .any, .any, .rd 9]
  | 130 => some [.any, .any, .any, .rd 9]
  | 137 => some [.any, .any, .any, .rd 9, .any]
  | 138 => some [.any, .any, .any, .rd 9, .any]
  | _ => none
def planR : Plan := fun t => match t with
  | 42 => some [.any, .any, .any, .any, .any, .any, .ro 9, .ro 3, .any, .ro 89]
  | 43 => some [.any, .any, .any, .any, .any, .any, .ro 9, .ro 3, .any, .ro 89]
  | 44 => some [.any, .any, .any, .any, .any, .any, .any, .ro 9]
  | 45 => some [.any, .any, .any, .any, .any, .any, .any, .ro 9]
  | 77 => some [.any, .any, .any, .any, .any, .any, .ro 9, .ro 3, .any, .ro 89]
  | 78 => some [.any, .any, .any, .any, .any, .any, .ro 9, .ro 3, .any, .ro 89]
  | 79 => some [.any, .any, .any, .any, .any, .any, .ro 9, .ro 3, .any, .ro 89, .ro 45]
  | 80 => some [.any, .any, .any, .any, .any, .any, .ro 9, .fresh 3, .any, .ro 89, .fresh 45]
  | 88 => some [.any, .any, .any, .ro 9]
  | 89 => some [.any, .any, .any, .ro 9]
  | 129 => some [.any, .any, .any, .ro 9]
  | 130 => some [.any, .any, .any, .ro 9]
  | 137 => some [.any, .any, .any, .ro 9, .any]
  | 138 => some [.any, .any, .any, .ro 9, .any]
  | _ => none
def Dl0 (k : Nat) : Delta := noΔ
def Lm0 (k : Nat) : FuncId → Nat → Option LamF := noΛ
theorem Dl0_ok (k : Nat) : DeltaOk Try.prog (Dl0 k) := noΔ_ok
theorem Lm0_ok (k : Nat) : LamsOk Try.prog (Lm0 k) := noΛ_ok
def Dl1 (k : Nat) : Delta := dCons 122 (callAt plan [.own 3] (gSort)) (Dl0 k)
def Lm1 (k : Nat) : FuncId → Nat → Option LamF := Lm0 k
theorem Dl1_ok (k : Nat) : DeltaOk Try.prog (Dl1 k) := dCons_ok (Dl0_ok k) (g122_ok k)
theorem Lm1_ok (k : Nat) : LamsOk Try.prog (Lm1 k) := Lm0_ok k
abbrev cf1 (k : Nat) : CallF := evF Try.prog (Dl1 k) (Lm1 k) 200 12
theorem cf1_ok (k : Nat) : CfOk Try.prog (cf1 k) := evF_ok noNum mixed (Dl1_ok k) (Lm1_ok k) 12
abbrev R88 := List ByteArray
def o88 (_ : R88) : AEnd := .ret (.slf 0)
def u88 (r : R88) : Heap := [(0, some (.row 9 r))]
def n88 (_ : R88) : Nat := 1
def r88 (o : AEnd) (u : Heap) (n : Nat) : Option R88 := match o, u, n with
  | .ret (.slf 0), [(0, ba0)], 1 => (match (rowD 9 ba0 : Option (List ByteArray)) with | some a0 => some a0 | none => none)
  | _, _, _ => none
theorem r88_ok (o : AEnd) (u : Heap) (n : Nat) (r : R88) (h : r88 o u n = some r) : o = o88 r ∧ u = u88 r ∧ n = n88 r := by
  unfold r88 at h
  split at h
  · skip
    split at h
    · rename_i q
      have q := rowD_ok q
      subst q
      cases h; exact ⟨rfl, rfl, rfl⟩
    · cases h
  · cases h
def f88 (k : Nat) (x0 : List ByteArray) : Option R88 :=
  br (true && decide (((0 : Nat) + List.length x0) * (16 : Nat) ≤ (140737488355328 : Nat)))
   (some ([] ++ x0))
   (none)
theorem f88_run (k : Nat) (x0 : List ByteArray) : cf1 k R88 88 [.dsn 9 x0] [] 0 (endR planR (.fresh 9) [] 0 r88) = f88 k x0 := by kernel_rfl
theorem f88_nil (k : Nat) : cf1 k R88 88 [.nils] [] 0 (endR planR (.fresh 9) [] 0 r88) = f88 k [] := by kernel_rfl
def g88 (k : Nat) : CallS := entT (rowA 9) (fun x => f88 k x) (elAll _) (fun _ => o88) (fun _ => u88) (fun _ => n88)
theorem g88_ok (k : Nat) : CallSOk Try.prog 88 (g88 k) := entry_nil (cf1_ok k) (oR := o88) (uR := u88) (nR := n88) r88_ok (hel := elAll_ok) (f88_nil k) (f88_run k)
def Dl2 (k : Nat) : Delta := dCons 88 (callAt plan [.rd 9] (g88 k)) (Dl1 k)
def Lm2 (k : Nat) : FuncId → Nat → Option LamF := Lm1 k
theorem Dl2_ok (k : Nat) : DeltaOk Try.prog (Dl2 k) := dCons_ok (Dl1_ok k) (g88_ok k)
theorem Lm2_ok (k : Nat) : LamsOk Try.prog (Lm2 k) := Lm1_ok k
abbrev cf2 (k : Nat) : CallF := evF Try.prog (Dl2 k) (Lm2 k) 200 12
theorem cf2_ok (k : Nat) : CfOk Try.prog (cf2 k) := evF_ok noNum mixed (Dl2_ok k) (Lm2_ok k) 12
abbrev R89 := List Int
def o89 (_ : R89) : AEnd := .ret (.slf 0)
def u89 (r : R89) : Heap := [(0, some (.row 3 r))]
def n89 (_ : R89) : Nat := 1
def r89 (o : AEnd) (u : Heap) (n : Nat) : Option R89 := match o, u, n with
  | .ret (.slf 0), [(0, ba0)], 1 => (match (rowD 3 ba0 : Option (List Int)) with | some a0 => some a0 | none => none)
  | _, _, _ => none
theorem r89_ok (o : AEnd) (u : Heap) (n : Nat) (r : R89) (h : r89 o u n = some r) : o = o89 r ∧ u = u89 r ∧ n = n89 r := by
  unfold r89 at h
  split at h
  · skip
    split at h
    · rename_i q
      have q := rowD_ok q
      subst q
      cases h; exact ⟨rfl, rfl, rfl⟩
    · cases h
  · cases h
def f89 (k : Nat) (x0 : List Int) : Option R89 :=
  br (true && decide (((0 : Nat) + List.length x0) * (8 : Nat) ≤ (140737488355328 : Nat)))
   (some ([] ++ x0))
   (none)
theorem f89_run (k : Nat) (x0 : List Int) : cf2 k R89 89 [.dsn 3 x0] [] 0 (endR planR (.fresh 3) [] 0 r89) = f89 k x0 := by kernel_rfl
theorem f89_nil (k : Nat) : cf2 k R89 89 [.nils] [] 0 (endR planR (.fresh 3) [] 0 r89) = f89 k [] := by kernel_rfl
def g89 (k : Nat) : CallS := entT (rowA 3) (fun x => f89 k x) (elAll _) (fun _ => o89) (fun _ => u89) (fun _ => n89)
theorem g89_ok (k : Nat) : CallSOk Try.prog 89 (g89 k) := entry_nil (cf2_ok k) (oR := o89) (uR := u89) (nR := n89) r89_ok (hel := elAll_ok) (f89_nil k) (f89_run k)
def Dl3 (k : Nat) : Delta := dCons 89 (callAt plan [.rd 3] (g89 k)) (Dl2 k)
def Lm3 (k : Nat) : FuncId → Nat → Option LamF := Lm2 k
theorem Dl3_ok (k : Nat) : DeltaOk Try.prog (Dl3 k) := dCons_ok (Dl2_ok k) (g89_ok k)
theorem Lm3_ok (k : Nat) : LamsOk Try.prog (Lm3 k) := Lm2_ok k
abbrev cf3 (k : Nat) : CallF := evF Try.prog (Dl3 k) (Lm3 k) 200 12
theorem cf3_ok (k : Nat) : CfOk Try.prog (cf3 k) := evF_ok noNum mixed (Dl3_ok k) (Lm3_ok k) 12
abbrev P119 := Int
def A119 (p : P119) : List AV := [.int .i64 p]
def d119 (a : List AV) (H : Heap) : Option P119 := match a, H with
  | [.int .i64 a0], [] => some (a0)
  | _, _ => none
theorem d119_ok (a : List AV) (H : Heap) (p : P119) (h : d119 a H = some p) : a = A119 p ∧ H = [] := by
  unfold d119 at h
  split at h
  · skip
    cases h; exact ⟨rfl, rfl⟩
  · cases h
abbrev R119 := Int × Bool
def o119 (r : R119) : AEnd := .ret (.tup [.int .i64 r.1, .bool r.2])
def u119 (r : R119) : Heap := []
def n119 (_ : R119) : Nat := 0
def r119 (o : AEnd) (u : Heap) (n : Nat) : Option R119 := match o, u, n with
  | .ret (.tup [.int .i64 a0, .bool a1]), [], 0 => some (a0, a1)
  | _, _, _ => none
theorem r119_ok (p : P119) (o : AEnd) (u : Heap) (n : Nat) (r : R119) (h : r119 o u n = some r) : o = o119 r ∧ u = u119 r ∧ n = n119 r := by
  unfold r119 at h
  split at h
  · skip
    cases h; exact ⟨rfl, rfl, rfl⟩
  · cases h
def f119 (k : Nat) (x0 : Int) : Option R119 :=
  br (decide (x0 ≥ (1 : Int)))
   (some (IntKind.wrap IntKind.i64 (IntKind.wrap IntKind.i64 (Int.tdiv x0 (2 : Int)) + (1 : Int)), decide (x0 ≤ (7 : Int))))
   (some (IntKind.wrap IntKind.i64 (IntKind.wrap IntKind.i64 (Int.tdiv x0 (2 : Int)) + (1 : Int)), false))
theorem f119_run (k : Nat) (x0 : Int) : cf3 k R119 119 (A119 (x0)) [] 0 (endR planR (.any) [] 0 r119) = f119 k x0 := by kernel_rfl
def g119 (k : Nat) : CallS := entT d119 (fun p => f119 k p) (elAll _) (fun _ => o119) (fun _ => u119) (fun _ => n119)
theorem g119_ok (k : Nat) : CallSOk Try.prog 119 (g119 k) := entry_ok (Hp := fun _ => []) (oR := fun _ => o119) (uR := fun _ => u119) (nR := fun _ => n119) (cf3_ok k) d119_ok r119_ok (hel := elAll_ok) (fun p => f119_run k p)
def Dl4 (k : Nat) : Delta := dCons 119 (callAt plan [.any] (g119 k)) (Dl3 k)
def Lm4 (k : Nat) : FuncId → Nat → Option LamF := Lm3 k
theorem Dl4_ok (k : Nat) : DeltaOk Try.prog (Dl4 k) := dCons_ok (Dl3_ok k) (g119_ok k)
theorem Lm4_ok (k : Nat) : LamsOk Try.prog (Lm4 k) := Lm3_ok k
abbrev cf4 (k : Nat) : CallF := evF Try.prog (Dl4 k) (Lm4 k) 200 12
theorem cf4_ok (k : Nat) : CfOk Try.prog (cf4 k) := evF_ok noNum mixed (Dl4_ok k) (Lm4_ok k) 12
abbrev P105 := Int
def A105 (p : P105) : List AV := [.int .i64 p]
def d105 (a : List AV) (H : Heap) : Option P105 := match a, H with
  | [.int .i64 a0], [] => some (a0)
  | _, _ => none
theorem d105_ok (a : List AV) (H : Heap) (p : P105) (h : d105 a H = some p) : a = A105 p ∧ H = [] := by
  unfold d105 at h
  split at h
  · skip
    cases h; exact ⟨rfl, rfl⟩
  · cases h
abbrev R105 := Int
def o105 (r : R105) : AEnd := .ret (.int .i64 r)
def u105 (r : R105) : Heap := []
def n105 (_ : R105) : Nat := 0
def r105 (o : AEnd) (u : Heap) (n : Nat) : Option R105 := match o, u, n with
  | .ret (.int .i64 a0), [], 0 => some (a0)
  | _, _, _ => none
theorem r105_ok (p : P105) (o : AEnd) (u : Heap) (n : Nat) (r : R105) (h : r105 o u n = some r) : o = o105 r ∧ u = u105 r ∧ n = n105 r := by
  unfold r105 at h
  split at h
  · skip
    cases h; exact ⟨rfl, rfl, rfl⟩
  · cases h
def f105 (k : Nat) (x0 : Int) : Option R105 :=
  br (decide (x0 < (0 : Int)))
   (some (0 : Int))
   (br (decide (x0 > (127 : Int)))
    (some (0 : Int))
    (some x0))
theorem f105_run (k : Nat) (x0 : Int) : cf4 k R105 105 (A105 (x0)) [] 0 (endR planR (.any) [] 0 r105) = f105 k x0 := by kernel_rfl
def g105 (k : Nat) : CallS := entT d105 (fun p => f105 k p) (elAll _) (fun _ => o105) (fun _ => u105) (fun _ => n105)
theorem g105_ok (k : Nat) : CallSOk Try.prog 105 (g105 k) := entry_ok (Hp := fun _ => []) (oR := fun _ => o105) (uR := fun _ => u105) (nR := fun _ => n105) (cf4_ok k) d105_ok r105_ok (hel := elAll_ok) (fun p => f105_run k p)
def Dl5 (k : Nat) : Delta := dCons 105 (callAt plan [.any] (g105 k)) (Dl4 k)
def Lm5 (k : Nat) : FuncId → Nat → Option LamF := Lm4 k
theorem Dl5_ok (k : Nat) : DeltaOk Try.prog (Dl5 k) := dCons_ok (Dl4_ok k) (g105_ok k)
theorem Lm5_ok (k : Nat) : LamsOk Try.prog (Lm5 k) := Lm4_ok k
abbrev cf5 (k : Nat) : CallF := evF Try.prog (Dl5 k) (Lm5 k) 200 12
theorem cf5_ok (k : Nat) : CfOk Try.prog (cf5 k) := evF_ok noNum mixed (Dl5_ok k) (Lm5_ok k) 12
abbrev P142 := Int
def A142 (p : P142) : List AV := [.int .u32 p]
def d142 (a : List AV) (H : Heap) : Option P142 := match a, H with
  | [.int .u32 a0], [] => some (a0)
  | _, _ => none
theorem d142_ok (a : List AV) (H : Heap) (p : P142) (h : d142 a H = some p) : a = A142 p ∧ H = [] := by
  unfold d142 at h
  split at h
  · skip
    cases h; exact ⟨rfl, rfl⟩
  · cases h
abbrev R142 := Int
def o142 (r : R142) : AEnd := .ret (.int .i64 r)
def u142 (r : R142) : Heap := []
def n142 (_ : R142) : Nat := 0
def r142 (o : AEnd) (u : Heap) (n : Nat) : Option R142 := match o, u, n with
  | .ret (.int .i64 a0), [], 0 => some (a0)
  | _, _, _ => none
theorem r142_ok (p : P142) (o : AEnd) (u : Heap) (n : Nat) (r : R142) (h : r142 o u n = some r) : o = o142 r ∧ u = u142 r ∧ n = n142 r := by
  unfold r142 at h
  split at h
  · skip
    cases h; exact ⟨rfl, rfl, rfl⟩
  · cases h
def f142 (k : Nat) (x0 : Int) : Option R142 :=
  br (decide ((0 : Int) ≤ Int.fdiv x0 (16777216 : Int) ∧ Int.fdiv x0 (16777216 : Int) < (256 : Int)))
   (br (decide ((0 : Int) ≤ IntKind.wrap IntKind.u32 (↑(BitVec.toNat (BitVec.ofInt (32 : Nat) (Int.fdiv x0 (65536 : Int)) &&& BitVec.ofInt (32 : Nat) (255 : Int))) : Int) ∧ IntKind.wrap IntKind.u32 (↑(BitVec.toNat (BitVec.ofInt (32 : Nat) (Int.fdiv x0 (65536 : Int)) &&& BitVec.ofInt (32 : Nat) (255 : Int))) : Int) < (256 : Int)))
    (br (decide ((0 : Int) ≤ IntKind.wrap IntKind.u32 (↑(BitVec.toNat (BitVec.ofInt (32 : Nat) (Int.fdiv x0 (256 : Int)) &&& BitVec.ofInt (32 : Nat) (255 : Int))) : Int) ∧ IntKind.wrap IntKind.u32 (↑(BitVec.toNat (BitVec.ofInt (32 : Nat) (Int.fdiv x0 (256 : Int)) &&& BitVec.ofInt (32 : Nat) (255 : Int))) : Int) < (256 : Int)))
     (br (decide ((0 : Int) ≤ IntKind.wrap IntKind.u32 (↑(BitVec.toNat (BitVec.ofInt (32 : Nat) x0 &&& BitVec.ofInt (32 : Nat) (255 : Int))) : Int) ∧ IntKind.wrap IntKind.u32 (↑(BitVec.toNat (BitVec.ofInt (32 : Nat) x0 &&& BitVec.ofInt (32 : Nat) (255 : Int))) : Int) < (256 : Int)))
      (some (IntKind.wrap IntKind.i64 (IntKind.wrap IntKind.u8 (IntKind.wrap IntKind.u8 (IntKind.wrap IntKind.u8 ((↑(UInt8.toNat (Array.getD (ByteArray.data (ByteArray.mk (List.toArray (List.append (List.append [(0 : UInt8), (1 : UInt8), (1 : UInt8), (2 : UInt8), (1 : UInt8), (2 : UInt8), (2 : UInt8), (3 : UInt8), (1 : UInt8), (2 : UInt8), (2 : UInt8), (3 : UInt8), (2 : UInt8), (3 : UInt8), (3 : UInt8), (4 : UInt8), (1 : UInt8), (2 : UInt8), (2 : UInt8), (3 : UInt8), (2 : UInt8), (3 : UInt8), (3 : UInt8), (4 : UInt8), (2 : UInt8), (3 : UInt8), (3 : UInt8), (4 : UInt8), (3 : UInt8), (4 : UInt8), (4 : UInt8), (5 : UInt8), (1 : UInt8), (2 : UInt8), (2 : UInt8), (3 : UInt8), (2 : UInt8), (3 : UInt8), (3 : UInt8), (4 : UInt8), (2 : UInt8), (3 : UInt8), (3 : UInt8), (4 : UInt8), (3 : UInt8), (4 : UInt8), (4 : UInt8), (5 : UInt8), (2 : UInt8), (3 : UInt8), (3 : UInt8), (4 : UInt8), (3 : UInt8), (4 : UInt8), (4 : UInt8), (5 : UInt8), (3 : UInt8), (4 : UInt8), (4 : UInt8), (5 : UInt8), (4 : UInt8), (5 : UInt8), (5 : UInt8), (6 : UInt8)] [(1 : UInt8), (2 : UInt8), (2 : UInt8), (3 : UInt8), (2 : UInt8), (3 : UInt8), (3 : UInt8), (4 : UInt8), (2 : UInt8), (3 : UInt8), (3 : UInt8), (4 : UInt8), (3 : UInt8), (4 : UInt8), (4 : UInt8), (5 : UInt8), (2 : UInt8), (3 : UInt8), (3 : UInt8), (4 : UInt8), (3 : UInt8), (4 : UInt8), (4 : UInt8), (5 : UInt8), (3 : UInt8), (4 : UInt8), (4 : UInt8), (5 : UInt8), (4 : UInt8), (5 : UInt8), (5 : UInt8), (6 : UInt8), (2 : UInt8), (3 : UInt8), (3 : UInt8), (4 : UInt8), (3 : UInt8), (4 : UInt8), (4 : UInt8), (5 : UInt8), (3 : UInt8), (4 : UInt8), (4 : UInt8), (5 : UInt8), (4 : UInt8), (5 : UInt8), (5 : UInt8), (6 : UInt8), (3 : UInt8), (4 : UInt8), (4 : UInt8), (5 : UInt8), (4 : UInt8), (5 : UInt8), (5 : UInt8), (6 : UInt8), (4 : UInt8), (5 : UInt8), (5 : UInt8), (6 : UInt8), (5 : UInt8), (6 : UInt8), (6 : UInt8), (7 : UInt8)]) (List.append [(1 : UInt8), (2 : UInt8), (2 : UInt8), (3 : UInt8), (2 : UInt8), (3 : UInt8), (3 : UInt8), (4 : UInt8), (2 : UInt8), (3 : UInt8), (3 : UInt8), (4 : UInt8), (3 : UInt8), (4 : UInt8), (4 : UInt8), (5 : UInt8), (2 : UInt8), (3 : UInt8), (3 : UInt8), (4 : UInt8), (3 : UInt8), (4 : UInt8), (4 : UInt8), (5 : UInt8), (3 : UInt8), (4 : UInt8), (4 : UInt8), (5 : UInt8), (4 : UInt8), (5 : UInt8), (5 : UInt8), (6 : UInt8), (2 : UInt8), (3 : UInt8), (3 : UInt8), (4 : UInt8), (3 : UInt8), (4 : UInt8), (4 : UInt8), (5 : UInt8), (3 : UInt8), (4 : UInt8), (4 : UInt8), (5 : UInt8), (4 : UInt8), (5 : UInt8), (5 : UInt8), (6 : UInt8), (3 : UInt8), (4 : UInt8), (4 : UInt8), (5 : UInt8), (4 : UInt8), (5 : UInt8), (5 : UInt8), (6 : UInt8), (4 : UInt8), (5 : UInt8), (5 : UInt8), (6 : UInt8), (5 : UInt8), (6 : UInt8), (6 : UInt8), (7 : UInt8)] [(2 : UInt8), (3 : UInt8), (3 : UInt8), (4 : UInt8), (3 : UInt8), (4 : UInt8), (4 : UInt8), (5 : UInt8), (3 : UInt8), (4 : UInt8), (4 : UInt8), (5 : UInt8), (4 : UInt8), (5 : UInt8), (5 : UInt8), (6 : UInt8), (3 : UInt8), (4 : UInt8), (4 : UInt8), (5 : UInt8), (4 : UInt8), (5 : UInt8), (5 : UInt8), (6 : UInt8), (4 : UInt8), (5 : UInt8), (5 : UInt8), (6 : UInt8), (5 : UInt8), (6 : UInt8), (6 : UInt8), (7 : UInt8), (3 : UInt8), (4 : UInt8), (4 : UInt8), (5 : UInt8), (4 : UInt8), (5 : UInt8), (5 : UInt8), (6 : UInt8), (4 : UInt8), (5 : UInt8), (5 : UInt8), (6 : UInt8), (5 : UInt8), (6 : UInt8), (6 : UInt8), (7 : UInt8), (4 : UInt8), (5 : UInt8), (5 : UInt8), (6 : UInt8), (5 : UInt8), (6 : UInt8), (6 : UInt8), (7 : UInt8), (5 : UInt8), (6 : UInt8), (6 : UInt8), (7 : UInt8), (6 : UInt8), (7 : UInt8), (7 : UInt8), (8 : UInt8)]))))) (Int.toNat (Int.fdiv x0 (16777216 : Int))) (0 : UInt8))) : Int) + (↑(UInt8.toNat (Array.getD (ByteArray.data (ByteArray.mk (List.toArray (List.append (List.append [(0 : UInt8), (1 : UInt8), (1 : UInt8), (2 : UInt8), (1 : UInt8), (2 : UInt8), (2 : UInt8), (3 : UInt8), (1 : UInt8), (2 : UInt8), (2 : UInt8), (3 : UInt8), (2 : UInt8), (3 : UInt8), (3 : UInt8), (4 : UInt8), (1 : UInt8), (2 : UInt8), (2 : UInt8), (3 : UInt8), (2 : UInt8), (3 : UInt8), (3 : UInt8), (4 : UInt8), (2 : UInt8), (3 : UInt8), (3 : UInt8), (4 : UInt8), (3 : UInt8), (4 : UInt8), (4 : UInt8), (5 : UInt8), (1 : UInt8), (2 : UInt8), (2 : UInt8), (3 : UInt8), (2 : UInt8), (3 : UInt8), (3 : UInt8), (4 : UInt8), (2 : UInt8), (3 : UInt8), (3 : UInt8), (4 : UInt8), (3 : UInt8), (4 : UInt8), (4 : UInt8), (5 : UInt8), (2 : UInt8), (3 : UInt8), (3 : UInt8), (4 : UInt8), (3 : UInt8), (4 : UInt8), (4 : UInt8), (5 : UInt8), (3 : UInt8), (4 : UInt8), (4 : UInt8), (5 : UInt8), (4 : UInt8), (5 : UInt8), (5 : UInt8), (6 : UInt8)] [(1 : UInt8), (2 : UInt8), (2 : UInt8), (3 : UInt8), (2 : UInt8), (3 : UInt8), (3 : UInt8), (4 : UInt8), (2 : UInt8), (3 : UInt8), (3 : UInt8), (4 : UInt8), (3 : UInt8), (4 : UInt8), (4 : UInt8), (5 : UInt8), (2 : UInt8), (3 : UInt8), (3 : UInt8), (4 : UInt8), (3 : UInt8), (4 : UInt8), (4 : UInt8), (5 : UInt8), (3 : UInt8), (4 : UInt8), (4 : UInt8), (5 : UInt8), (4 : UInt8), (5 : UInt8), (5 : UInt8), (6 : UInt8), (2 : UInt8), (3 : UInt8), (3 : UInt8), (4 : UInt8), (3 : UInt8), (4 : UInt8), (4 : UInt8), (5 : UInt8), (3 : UInt8), (4 : UInt8), (4 : UInt8), (5 : UInt8), (4 : UInt8), (5 : UInt8), (5 : UInt8), (6 : UInt8), (3 : UInt8), (4 : UInt8), (4 : UInt8), (5 : UInt8), (4 : UInt8), (5 : UInt8), (5 : UInt8), (6 : UInt8), (4 : UInt8), (5 : UInt8), (5 : UInt8), (6 : UInt8), (5 : UInt8), (6 : UInt8), (6 : UInt8), (7 : UInt8)]) (List.append [(1 : UInt8), (2 : UInt8), (2 : UInt8), (3 : UInt8), (2 : UInt8), (3 : UInt8), (3 : UInt8), (4 : UInt8), (2 : UInt8), (3 : UInt8), (3 : UInt8), (4 : UInt8), (3 : UInt8), (4 : UInt8), (4 : UInt8), (5 : UInt8), (2 : UInt8), (3 : UInt8), (3 : UInt8), (4 : UInt8), (3 : UInt8), (4 : UInt8), (4 : UInt8), (5 : UInt8), (3 : UInt8), (4 : UInt8), (4 : UInt8), (5 : UInt8), (4 : UInt8), (5 : UInt8), (5 : UInt8), (6 : UInt8), (2 : UInt8), (3 : UInt8), (3 : UInt8), (4 : UInt8), (3 : UInt8), (4 : UInt8), (4 : UInt8), (5 : UInt8), (3 : UInt8), (4 : UInt8), (4 : UInt8), (5 : UInt8), (4 : UInt8), (5 : UInt8), (5 : UInt8), (6 : UInt8), (3 : UInt8), (4 : UInt8), (4 : UInt8), (5 : UInt8), (4 : UInt8), (5 : UInt8), (5 : UInt8), (6 : UInt8), (4 : UInt8), (5 : UInt8), (5 : UInt8), (6 : UInt8), (5 : UInt8), (6 : UInt8), (6 : UInt8), (7 : UInt8)] [(2 : UInt8), (3 : UInt8), (3 : UInt8), (4 : UInt8), (3 : UInt8), (4 : UInt8), (4 : UInt8), (5 : UInt8), (3 : UInt8), (4 : UInt8), (4 : UInt8), (5 : UInt8), (4 : UInt8), (5 : UInt8), (5 : UInt8), (6 : UInt8), (3 : UInt8), (4 : UInt8), (4 : UInt8), (5 : UInt8), (4 : UInt8), (5 : UInt8), (5 : UInt8), (6 : UInt8), (4 : UInt8), (5 : UInt8), (5 : UInt8), (6 : UInt8), (5 : UInt8), (6 : UInt8), (6 : UInt8), (7 : UInt8), (3 : UInt8), (4 : UInt8), (4 : UInt8), (5 : UInt8), (4 : UInt8), (5 : UInt8), (5 : UInt8), (6 : UInt8), (4 : UInt8), (5 : UInt8), (5 : UInt8), (6 : UInt8), (5 : UInt8), (6 : UInt8), (6 : UInt8), (7 : UInt8), (4 : UInt8), (5 : UInt8), (5 : UInt8), (6 : UInt8), (5 : UInt8), (6 : UInt8), (6 : UInt8), (7 : UInt8), (5 : UInt8), (6 : UInt8), (6 : UInt8), (7 : UInt8), (6 : UInt8), (7 : UInt8), (7 : UInt8), (8 : UInt8)]))))) (Int.toNat (IntKind.wrap IntKind.u32 (↑(BitVec.toNat (BitVec.ofInt (32 : Nat) (Int.fdiv x0 (65536 : Int)) &&& BitVec.ofInt (32 : Nat) (255 : Int))) : Int))) (0 : UInt8))) : Int)) + (↑(UInt8.toNat (Array.getD (ByteArray.data (ByteArray.mk (List.toArray (List.append (List.append [(0 : UInt8), (1 : UInt8), (1 : UInt8), (2 : UInt8), (1 : UInt8), (2 : UInt8), (2 : UInt8), (3 : UInt8), (1 : UInt8), (2 : UInt8), (2 : UInt8), (3 : UInt8), (2 : UInt8), (3 : UInt8), (3 : UInt8), (4 : UInt8), (1 : UInt8), (2 : UInt8), (2 : UInt8), (3 : UInt8), (2 : UInt8), (3 : UInt8), (3 : UInt8), (4 : UInt8), (2 : UInt8), (3 : UInt8), (3 : UInt8), (4 : UInt8), (3 : UInt8), (4 : UInt8), (4 : UInt8), (5 : UInt8), (1 : UInt8), (2 : UInt8), (2 : UInt8), (3 : UInt8), (2 : UInt8), (3 : UInt8), (3 : UInt8), (4 : UInt8), (2 : UInt8), (3 : UInt8), (3 : UInt8), (4 : UInt8), (3 : UInt8), (4 : UInt8), (4 : UInt8), (5 : UInt8), (2 : UInt8), (3 : UInt8), (3 : UInt8), (4 : UInt8), (3 : UInt8), (4 : UInt8), (4 : UInt8), (5 : UInt8), (3 : UInt8), (4 : UInt8), (4 : UInt8), (5 : UInt8), (4 : UInt8), (5 : UInt8), (5 : UInt8), (6 : UInt8)] [(1 : UInt8), (2 : UInt8), (2 : UInt8), (3 : UInt8), (2 : UInt8), (3 : UInt8), (3 : UInt8), (4 : UInt8), (2 : UInt8), (3 : UInt8), (3 : UInt8), (4 : UInt8), (3 : UInt8), (4 : UInt8), (4 : UInt8), (5 : UInt8), (2 : UInt8), (3 : UInt8), (3 : UInt8), (4 : UInt8), (3 : UInt8), (4 : UInt8), (4 : UInt8), (5 : UInt8), (3 : UInt8), (4 : UInt8), (4 : UInt8), (5 : UInt8), (4 : UInt8), (5 : UInt8), (5 : UInt8), (6 : UInt8), (2 : UInt8), (3 : UInt8), (3 : UInt8), (4 : UInt8), (3 : UInt8), (4 : UInt8), (4 : UInt8), (5 : UInt8), (3 : UInt8), (4 : UInt8), (4 : UInt8), (5 : UInt8), (4 : UInt8), (5 : UInt8), (5 : UInt8), (6 : UInt8), (3 : UInt8), (4 : UInt8), (4 : UInt8), (5 : UInt8), (4 : UInt8), (5 : UInt8), (5 : UInt8), (6 : UInt8), (4 : UInt8), (5 : UInt8), (5 : UInt8), (6 : UInt8), (5 : UInt8), (6 : UInt8), (6 : UInt8), (7 : UInt8)]) (List.append [(1 : UInt8), (2 : UInt8), (2 : UInt8), (3 : UInt8), (2 : UInt8), (3 : UInt8), (3 : UInt8), (4 : UInt8), (2 : UInt8), (3 : UInt8), (3 : UInt8), (4 : UInt8), (3 : UInt8), (4 : UInt8), (4 : UInt8), (5 : UInt8), (2 : UInt8), (3 : UInt8), (3 : UInt8), (4 : UInt8), (3 : UInt8), (4 : UInt8), (4 : UInt8), (5 : UInt8), (3 : UInt8), (4 : UInt8), (4 : UInt8), (5 : UInt8), (4 : UInt8), (5 : UInt8), (5 : UInt8), (6 : UInt8), (2 : UInt8), (3 : UInt8), (3 : UInt8), (4 : UInt8), (3 : UInt8), (4 : UInt8), (4 : UInt8), (5 : UInt8), (3 : UInt8), (4 : UInt8), (4 : UInt8), (5 : UInt8), (4 : UInt8), (5 : UInt8), (5 : UInt8), (6 : UInt8), (3 : UInt8), (4 : UInt8), (4 : UInt8), (5 : UInt8), (4 : UInt8), (5 : UInt8), (5 : UInt8), (6 : UInt8), (4 : UInt8), (5 : UInt8), (5 : UInt8), (6 : UInt8), (5 : UInt8), (6 : UInt8), (6 : UInt8), (7 : UInt8)] [(2 : UInt8), (3 : UInt8), (3 : UInt8), (4 : UInt8), (3 : UInt8), (4 : UInt8), (4 : UInt8), (5 : UInt8), (3 : UInt8), (4 : UInt8), (4 : UInt8), (5 : UInt8), (4 : UInt8), (5 : UInt8), (5 : UInt8), (6 : UInt8), (3 : UInt8), (4 : UInt8), (4 : UInt8), (5 : UInt8), (4 : UInt8), (5 : UInt8), (5 : UInt8), (6 : UInt8), (4 : UInt8), (5 : UInt8), (5 : UInt8), (6 : UInt8), (5 : UInt8), (6 : UInt8), (6 : UInt8), (7 : UInt8), (3 : UInt8), (4 : UInt8), (4 : UInt8), (5 : UInt8), (4 : UInt8), (5 : UInt8), (5 : UInt8), (6 : UInt8), (4 : UInt8), (5 : UInt8), (5 : UInt8), (6 : UInt8), (5 : UInt8), (6 : UInt8), (6 : UInt8), (7 : UInt8), (4 : UInt8), (5 : UInt8), (5 : UInt8), (6 : UInt8), (5 : UInt8), (6 : UInt8), (6 : UInt8), (7 : UInt8), (5 : UInt8), (6 : UInt8), (6 : UInt8), (7 : UInt8), (6 : UInt8), (7 : UInt8), (7 : UInt8), (8 : UInt8)]))))) (Int.toNat (IntKind.wrap IntKind.u32 (↑(BitVec.toNat (BitVec.ofInt (32 : Nat) (Int.fdiv x0 (256 : Int)) &&& BitVec.ofInt (32 : Nat) (255 : Int))) : Int))) (0 : UInt8))) : Int)) + (↑(UInt8.toNat (Array.getD (ByteArray.data (ByteArray.mk (List.toArray (List.append (List.append [(0 : UInt8), (1 : UInt8), (1 : UInt8), (2 : UInt8), (1 : UInt8), (2 : UInt8), (2 : UInt8), (3 : UInt8), (1 : UInt8), (2 : UInt8), (2 : UInt8), (3 : UInt8), (2 : UInt8), (3 : UInt8), (3 : UInt8), (4 : UInt8), (1 : UInt8), (2 : UInt8), (2 : UInt8), (3 : UInt8), (2 : UInt8), (3 : UInt8), (3 : UInt8), (4 : UInt8), (2 : UInt8), (3 : UInt8), (3 : UInt8), (4 : UInt8), (3 : UInt8), (4 : UInt8), (4 : UInt8), (5 : UInt8), (1 : UInt8), (2 : UInt8), (2 : UInt8), (3 : UInt8), (2 : UInt8), (3 : UInt8), (3 : UInt8), (4 : UInt8), (2 : UInt8), (3 : UInt8), (3 : UInt8), (4 : UInt8), (3 : UInt8), (4 : UInt8), (4 : UInt8), (5 : UInt8), (2 : UInt8), (3 : UInt8), (3 : UInt8), (4 : UInt8), (3 : UInt8), (4 : UInt8), (4 : UInt8), (5 : UInt8), (3 : UInt8), (4 : UInt8), (4 : UInt8), (5 : UInt8), (4 : UInt8), (5 : UInt8), (5 : UInt8), (6 : UInt8)] [(1 : UInt8), (2 : UInt8), (2 : UInt8), (3 : UInt8), (2 : UInt8), (3 : UInt8), (3 : UInt8), (4 : UInt8), (2 : UInt8), (3 : UInt8), (3 : UInt8), (4 : UInt8), (3 : UInt8), (4 : UInt8), (4 : UInt8), (5 : UInt8), (2 : UInt8), (3 : UInt8), (3 : UInt8), (4 : UInt8), (3 : UInt8), (4 : UInt8), (4 : UInt8), (5 : UInt8), (3 : UInt8), (4 : UInt8), (4 : UInt8), (5 : UInt8), (4 : UInt8), (5 : UInt8), (5 : UInt8), (6 : UInt8), (2 : UInt8), (3 : UInt8), (3 : UInt8), (4 : UInt8), (3 : UInt8), (4 : UInt8), (4 : UInt8), (5 : UInt8), (3 : UInt8), (4 : UInt8), (4 : UInt8), (5 : UInt8), (4 : UInt8), (5 : UInt8), (5 : UInt8), (6 : UInt8), (3 : UInt8), (4 : UInt8), (4 : UInt8), (5 : UInt8), (4 : UInt8), (5 : UInt8), (5 : UInt8), (6 : UInt8), (4 : UInt8), (5 : UInt8), (5 : UInt8), (6 : UInt8), (5 : UInt8), (6 : UInt8), (6 : UInt8), (7 : UInt8)]) (List.append [(1 : UInt8), (2 : UInt8), (2 : UInt8), (3 : UInt8), (2 : UInt8), (3 : UInt8), (3 : UInt8), (4 : UInt8), (2 : UInt8), (3 : UInt8), (3 : UInt8), (4 : UInt8), (3 : UInt8), (4 : UInt8), (4 : UInt8), (5 : UInt8), (2 : UInt8), (3 : UInt8), (3 : UInt8), (4 : UInt8), (3 : UInt8), (4 : UInt8), (4 : UInt8), (5 : UInt8), (3 : UInt8), (4 : UInt8), (4 : UInt8), (5 : UInt8), (4 : UInt8), (5 : UInt8), (5 : UInt8), (6 : UInt8), (2 : UInt8), (3 : UInt8), (3 : UInt8), (4 : UInt8), (3 : UInt8), (4 : UInt8), (4 : UInt8), (5 : UInt8), (3 : UInt8), (4 : UInt8), (4 : UInt8), (5 : UInt8), (4 : UInt8), (5 : UInt8), (5 : UInt8), (6 : UInt8), (3 : UInt8), (4 : UInt8), (4 : UInt8), (5 : UInt8), (4 : UInt8), (5 : UInt8), (5 : UInt8), (6 : UInt8), (4 : UInt8), (5 : UInt8), (5 : UInt8), (6 : UInt8), (5 : UInt8), (6 : UInt8), (6 : UInt8), (7 : UInt8)] [(2 : UInt8), (3 : UInt8), (3 : UInt8), (4 : UInt8), (3 : UInt8), (4 : UInt8), (4 : UInt8), (5 : UInt8), (3 : UInt8), (4 : UInt8), (4 : UInt8), (5 : UInt8), (4 : UInt8), (5 : UInt8), (5 : UInt8), (6 : UInt8), (3 : UInt8), (4 : UInt8), (4 : UInt8), (5 : UInt8), (4 : UInt8), (5 : UInt8), (5 : UInt8), (6 : UInt8), (4 : UInt8), (5 : UInt8), (5 : UInt8), (6 : UInt8), (5 : UInt8), (6 : UInt8), (6 : UInt8), (7 : UInt8), (3 : UInt8), (4 : UInt8), (4 : UInt8), (5 : UInt8), (4 : UInt8), (5 : UInt8), (5 : UInt8), (6 : UInt8), (4 : UInt8), (5 : UInt8), (5 : UInt8), (6 : UInt8), (5 : UInt8), (6 : UInt8), (6 : UInt8), (7 : UInt8), (4 : UInt8), (5 : UInt8), (5 : UInt8), (6 : UInt8), (5 : UInt8), (6 : UInt8), (6 : UInt8), (7 : UInt8), (5 : UInt8), (6 : UInt8), (6 : UInt8), (7 : UInt8), (6 : UInt8), (7 : UInt8), (7 : UInt8), (8 : UInt8)]))))) (Int.toNat (IntKind.wrap IntKind.u32 (↑(BitVec.toNat (BitVec.ofInt (32 : Nat) x0 &&& BitVec.ofInt (32 : Nat) (255 : Int))) : Int))) (0 : UInt8))) : Int)))))
      (none))
     (none))
    (none))
   (none)
theorem f142_run (k : Nat) (x0 : Int) : cf5 k R142 142 (A142 (x0)) [] 0 (endR planR (.any) [] 0 r142) = f142 k x0 := by kernel_rfl
def g142 (k : Nat) : CallS := entT d142 (fun p => f142 k p) (elAll _) (fun _ => o142) (fun _ => u142) (fun _ => n142)
theorem g142_ok (k : Nat) : CallSOk Try.prog 142 (g142 k) := entry_ok (Hp := fun _ => []) (oR := fun _ => o142) (uR := fun _ => u142) (nR := fun _ => n142) (cf5_ok k) d142_ok r142_ok (hel := elAll_ok) (fun p => f142_run k p)
def Dl6 (k : Nat) : Delta := dCons 142 (callAt plan [.any] (g142 k)) (Dl5 k)
def Lm6 (k : Nat) : FuncId → Nat → Option LamF := Lm5 k
theorem Dl6_ok (k : Nat) : DeltaOk Try.prog (Dl6 k) := dCons_ok (Dl5_ok k) (g142_ok k)
theorem Lm6_ok (k : Nat) : LamsOk Try.prog (Lm6 k) := Lm5_ok k
abbrev cf6 (k : Nat) : CallF := evF Try.prog (Dl6 k) (Lm6 k) 200 12
theorem cf6_ok (k : Nat) : CfOk Try.prog (cf6 k) := evF_ok noNum mixed (Dl6_ok k) (Lm6_ok k) 12
abbrev P143 := Int
def A143 (p : P143) : List AV := [.int .u64 p]
def d143 (a : List AV) (H : Heap) : Option P143 := match a, H with
  | [.int .u64 a0], [] => some (a0)
  | _, _ => none
theorem d143_ok (a : List AV) (H : Heap) (p : P143) (h : d143 a H = some p) : a = A143 p ∧ H = [] := by
  unfold d143 at h
  split at h
  · skip
    cases h; exact ⟨rfl, rfl⟩
  · cases h
abbrev R143 := Int
def o143 (r : R143) : AEnd := .ret (.int .i64 r)
def u143 (r : R143) : Heap := []
def n143 (_ : R143) : Nat := 0
def r143 (o : AEnd) (u : Heap) (n : Nat) : Option R143 := match o, u, n with
  | .ret (.int .i64 a0), [], 0 => some (a0)
  | _, _, _ => none
theorem r143_ok (p : P143) (o : AEnd) (u : Heap) (n : Nat) (r : R143) (h : r143 o u n = some r) : o = o143 r ∧ u = u143 r ∧ n = n143 r := by
  unfold r143 at h
  split at h
  · skip
    cases h; exact ⟨rfl, rfl, rfl⟩
  · cases h
def f143 (k : Nat) (x0 : Int) : Option R143 :=
  some (IntKind.wrap IntKind.i64 (↑(BitVec.toNat (BitVec.ofInt (64 : Nat) (IntKind.wrap IntKind.i64 (IntKind.wrap IntKind.u64 (IntKind.wrap IntKind.u64 (IntKind.wrap IntKind.u64 (IntKind.wrap IntKind.u64 (↑(BitVec.toNat (BitVec.ofInt (64 : Nat) (IntKind.wrap IntKind.u64 (Int.fdiv (IntKind.wrap IntKind.u64 (IntKind.wrap IntKind.u64 (↑(BitVec.toNat (BitVec.ofInt (64 : Nat) (Int.fdiv (IntKind.wrap IntKind.u64 (IntKind.wrap IntKind.u64 (↑(BitVec.toNat (BitVec.ofInt (64 : Nat) (Int.fdiv x0 (2 : Int)) &&& BitVec.ofInt (64 : Nat) (6148914691236517205 : Int))) : Int) + IntKind.wrap IntKind.u64 (↑(BitVec.toNat (BitVec.ofInt (64 : Nat) x0 &&& BitVec.ofInt (64 : Nat) (6148914691236517205 : Int))) : Int))) (4 : Int)) &&& BitVec.ofInt (64 : Nat) (3689348814741910323 : Int))) : Int) + IntKind.wrap IntKind.u64 (↑(BitVec.toNat (BitVec.ofInt (64 : Nat) (IntKind.wrap IntKind.u64 (IntKind.wrap IntKind.u64 (↑(BitVec.toNat (BitVec.ofInt (64 : Nat) (Int.fdiv x0 (2 : Int)) &&& BitVec.ofInt (64 : Nat) (6148914691236517205 : Int))) : Int) + IntKind.wrap IntKind.u64 (↑(BitVec.toNat (BitVec.ofInt (64 : Nat) x0 &&& BitVec.ofInt (64 : Nat) (6148914691236517205 : Int))) : Int))) &&& BitVec.ofInt (64 : Nat) (3689348814741910323 : Int))) : Int))) (16 : Int) + IntKind.wrap IntKind.u64 (IntKind.wrap IntKind.u64 (↑(BitVec.toNat (BitVec.ofInt (64 : Nat) (Int.fdiv (IntKind.wrap IntKind.u64 (IntKind.wrap IntKind.u64 (↑(BitVec.toNat (BitVec.ofInt (64 : Nat) (Int.fdiv x0 (2 : Int)) &&& BitVec.ofInt (64 : Nat) (6148914691236517205 : Int))) : Int) + IntKind.wrap IntKind.u64 (↑(BitVec.toNat (BitVec.ofInt (64 : Nat) x0 &&& BitVec.ofInt (64 : Nat) (6148914691236517205 : Int))) : Int))) (4 : Int)) &&& BitVec.ofInt (64 : Nat) (3689348814741910323 : Int))) : Int) + IntKind.wrap IntKind.u64 (↑(BitVec.toNat (BitVec.ofInt (64 : Nat) (IntKind.wrap IntKind.u64 (IntKind.wrap IntKind.u64 (↑(BitVec.toNat (BitVec.ofInt (64 : Nat) (Int.fdiv x0 (2 : Int)) &&& BitVec.ofInt (64 : Nat) (6148914691236517205 : Int))) : Int) + IntKind.wrap IntKind.u64 (↑(BitVec.toNat (BitVec.ofInt (64 : Nat) x0 &&& BitVec.ofInt (64 : Nat) (6148914691236517205 : Int))) : Int))) &&& BitVec.ofInt (64 : Nat) (3689348814741910323 : Int))) : Int)))) &&& BitVec.ofInt (64 : Nat) (1085102592571150095 : Int))) : Int) + Int.fdiv (IntKind.wrap IntKind.u64 (↑(BitVec.toNat (BitVec.ofInt (64 : Nat) (IntKind.wrap IntKind.u64 (Int.fdiv (IntKind.wrap IntKind.u64 (IntKind.wrap IntKind.u64 (↑(BitVec.toNat (BitVec.ofInt (64 : Nat) (Int.fdiv (IntKind.wrap IntKind.u64 (IntKind.wrap IntKind.u64 (↑(BitVec.toNat (BitVec.ofInt (64 : Nat) (Int.fdiv x0 (2 : Int)) &&& BitVec.ofInt (64 : Nat) (6148914691236517205 : Int))) : Int) + IntKind.wrap IntKind.u64 (↑(BitVec.toNat (BitVec.ofInt (64 : Nat) x0 &&& BitVec.ofInt (64 : Nat) (6148914691236517205 : Int))) : Int))) (4 : Int)) &&& BitVec.ofInt (64 : Nat) (3689348814741910323 : Int))) : Int) + IntKind.wrap IntKind.u64 (↑(BitVec.toNat (BitVec.ofInt (64 : Nat) (IntKind.wrap IntKind.u64 (IntKind.wrap IntKind.u64 (↑(BitVec.toNat (BitVec.ofInt (64 : Nat) (Int.fdiv x0 (2 : Int)) &&& BitVec.ofInt (64 : Nat) (6148914691236517205 : Int))) : Int) + IntKind.wrap IntKind.u64 (↑(BitVec.toNat (BitVec.ofInt (64 : Nat) x0 &&& BitVec.ofInt (64 : Nat) (6148914691236517205 : Int))) : Int))) &&& BitVec.ofInt (64 : Nat) (3689348814741910323 : Int))) : Int))) (16 : Int) + IntKind.wrap IntKind.u64 (IntKind.wrap IntKind.u64 (↑(BitVec.toNat (BitVec.ofInt (64 : Nat) (Int.fdiv (IntKind.wrap IntKind.u64 (IntKind.wrap IntKind.u64 (↑(BitVec.toNat (BitVec.ofInt (64 : Nat) (Int.fdiv x0 (2 : Int)) &&& BitVec.ofInt (64 : Nat) (6148914691236517205 : Int))) : Int) + IntKind.wrap IntKind.u64 (↑(BitVec.toNat (BitVec.ofInt (64 : Nat) x0 &&& BitVec.ofInt (64 : Nat) (6148914691236517205 : Int))) : Int))) (4 : Int)) &&& BitVec.ofInt (64 : Nat) (3689348814741910323 : Int))) : Int) + IntKind.wrap IntKind.u64 (↑(BitVec.toNat (BitVec.ofInt (64 : Nat) (IntKind.wrap IntKind.u64 (IntKind.wrap IntKind.u64 (↑(BitVec.toNat (BitVec.ofInt (64 : Nat) (Int.fdiv x0 (2 : Int)) &&& BitVec.ofInt (64 : Nat) (6148914691236517205 : Int))) : Int) + IntKind.wrap IntKind.u64 (↑(BitVec.toNat (BitVec.ofInt (64 : Nat) x0 &&& BitVec.ofInt (64 : Nat) (6148914691236517205 : Int))) : Int))) &&& BitVec.ofInt (64 : Nat) (3689348814741910323 : Int))) : Int)))) &&& BitVec.ofInt (64 : Nat) (1085102592571150095 : Int))) : Int)) (256 : Int)) + Int.fdiv (IntKind.wrap IntKind.u64 (IntKind.wrap IntKind.u64 (↑(BitVec.toNat (BitVec.ofInt (64 : Nat) (IntKind.wrap IntKind.u64 (Int.fdiv (IntKind.wrap IntKind.u64 (IntKind.wrap IntKind.u64 (↑(BitVec.toNat (BitVec.ofInt (64 : Nat) (Int.fdiv (IntKind.wrap IntKind.u64 (IntKind.wrap IntKind.u64 (↑(BitVec.toNat (BitVec.ofInt (64 : Nat) (Int.fdiv x0 (2 : Int)) &&& BitVec.ofInt (64 : Nat) (6148914691236517205 : Int))) : Int) + IntKind.wrap IntKind.u64 (↑(BitVec.toNat (BitVec.ofInt (64 : Nat) x0 &&& BitVec.ofInt (64 : Nat) (6148914691236517205 : Int))) : Int))) (4 : Int)) &&& BitVec.ofInt (64 : Nat) (3689348814741910323 : Int))) : Int) + IntKind.wrap IntKind.u64 (↑(BitVec.toNat (BitVec.ofInt (64 : Nat) (IntKind.wrap IntKind.u64 (IntKind.wrap IntKind.u64 (↑(BitVec.toNat (BitVec.ofInt (64 : Nat) (Int.fdiv x0 (2 : Int)) &&& BitVec.ofInt (64 : Nat) (6148914691236517205 : Int))) : Int) + IntKind.wrap IntKind.u64 (↑(BitVec.toNat (BitVec.ofInt (64 : Nat) x0 &&& BitVec.ofInt (64 : Nat) (6148914691236517205 : Int))) : Int))) &&& BitVec.ofInt (64 : Nat) (3689348814741910323 : Int))) : Int))) (16 : Int) + IntKind.wrap IntKind.u64 (IntKind.wrap IntKind.u64 (↑(BitVec.toNat (BitVec.ofInt (64 : Nat) (Int.fdiv (IntKind.wrap IntKind.u64 (IntKind.wrap IntKind.u64 (↑(BitVec.toNat (BitVec.ofInt (64 : Nat) (Int.fdiv x0 (2 : Int)) &&& BitVec.ofInt (64 : Nat) (6148914691236517205 : Int))) : Int) + IntKind.wrap IntKind.u64 (↑(BitVec.toNat (BitVec.ofInt (64 : Nat) x0 &&& BitVec.ofInt (64 : Nat) (6148914691236517205 : Int))) : Int))) (4 : Int)) &&& BitVec.ofInt (64 : Nat) (3689348814741910323 : Int))) : Int) + IntKind.wrap IntKind.u64 (↑(BitVec.toNat (BitVec.ofInt (64 : Nat) (IntKind.wrap IntKind.u64 (IntKind.wrap IntKind.u64 (↑(BitVec.toNat (BitVec.ofInt (64 : Nat) (Int.fdiv x0 (2 : Int)) &&& BitVec.ofInt (64 : Nat) (6148914691236517205 : Int))) : Int) + IntKind.wrap IntKind.u64 (↑(BitVec.toNat (BitVec.ofInt (64 : Nat) x0 &&& BitVec.ofInt (64 : Nat) (6148914691236517205 : Int))) : Int))) &&& BitVec.ofInt (64 : Nat) (3689348814741910323 : Int))) : Int)))) &&& BitVec.ofInt (64 : Nat) (1085102592571150095 : Int))) : Int) + Int.fdiv (IntKind.wrap IntKind.u64 (↑(BitVec.toNat (BitVec.ofInt (64 : Nat) (IntKind.wrap IntKind.u64 (Int.fdiv (IntKind.wrap IntKind.u64 (IntKind.wrap IntKind.u64 (↑(BitVec.toNat (BitVec.ofInt (64 : Nat) (Int.fdiv (IntKind.wrap IntKind.u64 (IntKind.wrap IntKind.u64 (↑(BitVec.toNat (BitVec.ofInt (64 : Nat) (Int.fdiv x0 (2 : Int)) &&& BitVec.ofInt (64 : Nat) (6148914691236517205 : Int))) : Int) + IntKind.wrap IntKind.u64 (↑(BitVec.toNat (BitVec.ofInt (64 : Nat) x0 &&& BitVec.ofInt (64 : Nat) (6148914691236517205 : Int))) : Int))) (4 : Int)) &&& BitVec.ofInt (64 : Nat) (3689348814741910323 : Int))) : Int) + IntKind.wrap IntKind.u64 (↑(BitVec.toNat (BitVec.ofInt (64 : Nat) (IntKind.wrap IntKind.u64 (IntKind.wrap IntKind.u64 (↑(BitVec.toNat (BitVec.ofInt (64 : Nat) (Int.fdiv x0 (2 : Int)) &&& BitVec.ofInt (64 : Nat) (6148914691236517205 : Int))) : Int) + IntKind.wrap IntKind.u64 (↑(BitVec.toNat (BitVec.ofInt (64 : Nat) x0 &&& BitVec.ofInt (64 : Nat) (6148914691236517205 : Int))) : Int))) &&& BitVec.ofInt (64 : Nat) (3689348814741910323 : Int))) : Int))) (16 : Int) + IntKind.wrap IntKind.u64 (IntKind.wrap IntKind.u64 (↑(BitVec.toNat (BitVec.ofInt (64 : Nat) (Int.fdiv (IntKind.wrap IntKind.u64 (IntKind.wrap IntKind.u64 (↑(BitVec.toNat (BitVec.ofInt (64 : Nat) (Int.fdiv x0 (2 : Int)) &&& BitVec.ofInt (64 : Nat) (6148914691236517205 : Int))) : Int) + IntKind.wrap IntKind.u64 (↑(BitVec.toNat (BitVec.ofInt (64 : Nat) x0 &&& BitVec.ofInt (64 : Nat) (6148914691236517205 : Int))) : Int))) (4 : Int)) &&& BitVec.ofInt (64 : Nat) (3689348814741910323 : Int))) : Int) + IntKind.wrap IntKind.u64 (↑(BitVec.toNat (BitVec.ofInt (64 : Nat) (IntKind.wrap IntKind.u64 (IntKind.wrap IntKind.u64 (↑(BitVec.toNat (BitVec.ofInt (64 : Nat) (Int.fdiv x0 (2 : Int)) &&& BitVec.ofInt (64 : Nat) (6148914691236517205 : Int))) : Int) + IntKind.wrap IntKind.u64 (↑(BitVec.toNat (BitVec.ofInt (64 : Nat) x0 &&& BitVec.ofInt (64 : Nat) (6148914691236517205 : Int))) : Int))) &&& BitVec.ofInt (64 : Nat) (3689348814741910323 : Int))) : Int)))) &&& BitVec.ofInt (64 : Nat) (1085102592571150095 : Int))) : Int)) (256 : Int))) (65536 : Int)) + Int.fdiv (IntKind.wrap IntKind.u64 (IntKind.wrap IntKind.u64 (IntKind.wrap IntKind.u64 (↑(BitVec.toNat (BitVec.ofInt (64 : Nat) (IntKind.wrap IntKind.u64 (Int.fdiv (IntKind.wrap IntKind.u64 (IntKind.wrap IntKind.u64 (↑(BitVec.toNat (BitVec.ofInt (64 : Nat) (Int.fdiv (IntKind.wrap IntKind.u64 (IntKind.wrap IntKind.u64 (↑(BitVec.toNat (BitVec.ofInt (64 : Nat) (Int.fdiv x0 (2 : Int)) &&& BitVec.ofInt (64 : Nat) (6148914691236517205 : Int))) : Int) + IntKind.wrap IntKind.u64 (↑(BitVec.toNat (BitVec.ofInt (64 : Nat) x0 &&& BitVec.ofInt (64 : Nat) (6148914691236517205 : Int))) : Int))) (4 : Int)) &&& BitVec.ofInt (64 : Nat) (3689348814741910323 : Int))) : Int) + IntKind.wrap IntKind.u64 (↑(BitVec.toNat (BitVec.ofInt (64 : Nat) (IntKind.wrap IntKind.u64 (IntKind.wrap IntKind.u64 (↑(BitVec.toNat (BitVec.ofInt (64 : Nat) (Int.fdiv x0 (2 : Int)) &&& BitVec.ofInt (64 : Nat) (6148914691236517205 : Int))) : Int) + IntKind.wrap IntKind.u64 (↑(BitVec.toNat (BitVec.ofInt (64 : Nat) x0 &&& BitVec.ofInt (64 : Nat) (6148914691236517205 : Int))) : Int))) &&& BitVec.ofInt (64 : Nat) (3689348814741910323 : Int))) : Int))) (16 : Int) + IntKind.wrap IntKind.u64 (IntKind.wrap IntKind.u64 (↑(BitVec.toNat (BitVec.ofInt (64 : Nat) (Int.fdiv (IntKind.wrap IntKind.u64 (IntKind.wrap IntKind.u64 (↑(BitVec.toNat (BitVec.ofInt (64 : Nat) (Int.fdiv x0 (2 : Int)) &&& BitVec.ofInt (64 : Nat) (6148914691236517205 : Int))) : Int) + IntKind.wrap IntKind.u64 (↑(BitVec.toNat (BitVec.ofInt (64 : Nat) x0 &&& BitVec.ofInt (64 : Nat) (6148914691236517205 : Int))) : Int))) (4 : Int)) &&& BitVec.ofInt (64 : Nat) (3689348814741910323 : Int))) : Int) + IntKind.wrap IntKind.u64 (↑(BitVec.toNat (BitVec.ofInt (64 : Nat) (IntKind.wrap IntKind.u64 (IntKind.wrap IntKind.u64 (↑(BitVec.toNat (BitVec.ofInt (64 : Nat) (Int.fdiv x0 (2 : Int)) &&& BitVec.ofInt (64 : Nat) (6148914691236517205 : Int))) : Int) + IntKind.wrap IntKind.u64 (↑(BitVec.toNat (BitVec.ofInt (64 : Nat) x0 &&& BitVec.ofInt (64 : Nat) (6148914691236517205 : Int))) : Int))) &&& BitVec.ofInt (64 : Nat) (3689348814741910323 : Int))) : Int)))) &&& BitVec.ofInt (64 : Nat) (1085102592571150095 : Int))) : Int) + Int.fdiv (IntKind.wrap IntKind.u64 (↑(BitVec.toNat (BitVec.ofInt (64 : Nat) (IntKind.wrap IntKind.u64 (Int.fdiv (IntKind.wrap IntKind.u64 (IntKind.wrap IntKind.u64 (↑(BitVec.toNat (BitVec.ofInt (64 : Nat) (Int.fdiv (IntKind.wrap IntKind.u64 (IntKind.wrap IntKind.u64 (↑(BitVec.toNat (BitVec.ofInt (64 : Nat) (Int.fdiv x0 (2 : Int)) &&& BitVec.ofInt (64 : Nat) (6148914691236517205 : Int))) : Int) + IntKind.wrap IntKind.u64 (↑(BitVec.toNat (BitVec.ofInt (64 : Nat) x0 &&& BitVec.ofInt (64 : Nat) (6148914691236517205 : Int))) : Int))) (4 : Int)) &&& BitVec.ofInt (64 : Nat) (3689348814741910323 : Int))) : Int) + IntKind.wrap IntKind.u64 (↑(BitVec.toNat (BitVec.ofInt (64 : Nat) (IntKind.wrap IntKind.u64 (IntKind.wrap IntKind.u64 (↑(BitVec.toNat (BitVec.ofInt (64 : Nat) (Int.fdiv x0 (2 : Int)) &&& BitVec.ofInt (64 : Nat) (6148914691236517205 : Int))) : Int) + IntKind.wrap IntKind.u64 (↑(BitVec.toNat (BitVec.ofInt (64 : Nat) x0 &&& BitVec.ofInt (64 : Nat) (6148914691236517205 : Int))) : Int))) &&& BitVec.ofInt (64 : Nat) (3689348814741910323 : Int))) : Int))) (16 : Int) + IntKind.wrap IntKind.u64 (IntKind.wrap IntKind.u64 (↑(BitVec.toNat (BitVec.ofInt (64 : Nat) (Int.fdiv (IntKind.wrap IntKind.u64 (IntKind.wrap IntKind.u64 (↑(BitVec.toNat (BitVec.ofInt (64 : Nat) (Int.fdiv x0 (2 : Int)) &&& BitVec.ofInt (64 : Nat) (6148914691236517205 : Int))) : Int) + IntKind.wrap IntKind.u64 (↑(BitVec.toNat (BitVec.ofInt (64 : Nat) x0 &&& BitVec.ofInt (64 : Nat) (6148914691236517205 : Int))) : Int))) (4 : Int)) &&& BitVec.ofInt (64 : Nat) (3689348814741910323 : Int))) : Int) + IntKind.wrap IntKind.u64 (↑(BitVec.toNat (BitVec.ofInt (64 : Nat) (IntKind.wrap IntKind.u64 (IntKind.wrap IntKind.u64 (↑(BitVec.toNat (BitVec.ofInt (64 : Nat) (Int.fdiv x0 (2 : Int)) &&& BitVec.ofInt (64 : Nat) (6148914691236517205 : Int))) : Int) + IntKind.wrap IntKind.u64 (↑(BitVec.toNat (BitVec.ofInt (64 : Nat) x0 &&& BitVec.ofInt (64 : Nat) (6148914691236517205 : Int))) : Int))) &&& BitVec.ofInt (64 : Nat) (3689348814741910323 : Int))) : Int)))) &&& BitVec.ofInt (64 : Nat) (1085102592571150095 : Int))) : Int)) (256 : Int)) + Int.fdiv (IntKind.wrap IntKind.u64 (IntKind.wrap IntKind.u64 (↑(BitVec.toNat (BitVec.ofInt (64 : Nat) (IntKind.wrap IntKind.u64 (Int.fdiv (IntKind.wrap IntKind.u64 (IntKind.wrap IntKind.u64 (↑(BitVec.toNat (BitVec.ofInt (64 : Nat) (Int.fdiv (IntKind.wrap IntKind.u64 (IntKind.wrap IntKind.u64 (↑(BitVec.toNat (BitVec.ofInt (64 : Nat) (Int.fdiv x0 (2 : Int)) &&& BitVec.ofInt (64 : Nat) (6148914691236517205 : Int))) : Int) + IntKind.wrap IntKind.u64 (↑(BitVec.toNat (BitVec.ofInt (64 : Nat) x0 &&& BitVec.ofInt (64 : Nat) (6148914691236517205 : Int))) : Int))) (4 : Int)) &&& BitVec.ofInt (64 : Nat) (3689348814741910323 : Int))) : Int) + IntKind.wrap IntKind.u64 (↑(BitVec.toNat (BitVec.ofInt (64 : Nat) (IntKind.wrap IntKind.u64 (IntKind.wrap IntKind.u64 (↑(BitVec.toNat (BitVec.ofInt (64 : Nat) (Int.fdiv x0 (2 : Int)) &&& BitVec.ofInt (64 : Nat) (6148914691236517205 : Int))) : Int) + IntKind.wrap IntKind.u64 (↑(BitVec.toNat (BitVec.ofInt (64 : Nat) x0 &&& BitVec.ofInt (64 : Nat) (6148914691236517205 : Int))) : Int))) &&& BitVec.ofInt (64 : Nat) (3689348814741910323 : Int))) : Int))) (16 : Int) + IntKind.wrap IntKind.u64 (IntKind.wrap IntKind.u64 (↑(BitVec.toNat (BitVec.ofInt (64 : Nat) (Int.fdiv (IntKind.wrap IntKind.u64 (IntKind.wrap IntKind.u64 (↑(BitVec.toNat (BitVec.ofInt (64 : Nat) (Int.fdiv x0 (2 : Int)) &&& BitVec.ofInt (64 : Nat) (6148914691236517205 : Int))) : Int) + IntKind.wrap IntKind.u64 (↑(BitVec.toNat (BitVec.ofInt (64 : Nat) x0 &&& BitVec.ofInt (64 : Nat) (6148914691236517205 : Int))) : Int))) (4 : Int)) &&& BitVec.ofInt (64 : Nat) (3689348814741910323 : Int))) : Int) + IntKind.wrap IntKind.u64 (↑(BitVec.toNat (BitVec.ofInt (64 : Nat) (IntKind.wrap IntKind.u64 (IntKind.wrap IntKind.u64 (↑(BitVec.toNat (BitVec.ofInt (64 : Nat) (Int.fdiv x0 (2 : Int)) &&& BitVec.ofInt (64 : Nat) (6148914691236517205 : Int))) : Int) + IntKind.wrap IntKind.u64 (↑(BitVec.toNat (BitVec.ofInt (64 : Nat) x0 &&& BitVec.ofInt (64 : Nat) (6148914691236517205 : Int))) : Int))) &&& BitVec.ofInt (64 : Nat) (3689348814741910323 : Int))) : Int)))) &&& BitVec.ofInt (64 : Nat) (1085102592571150095 : Int))) : Int) + Int.fdiv (IntKind.wrap IntKind.u64 (↑(BitVec.toNat (BitVec.ofInt (64 : Nat) (IntKind.wrap IntKind.u64 (Int.fdiv (IntKind.wrap IntKind.u64 (IntKind.wrap IntKind.u64 (↑(BitVec.toNat (BitVec.ofInt (64 : Nat) (Int.fdiv (IntKind.wrap IntKind.u64 (IntKind.wrap IntKind.u64 (↑(BitVec.toNat (BitVec.ofInt (64 : Nat) (Int.fdiv x0 (2 : Int)) &&& BitVec.ofInt (64 : Nat) (6148914691236517205 : Int))) : Int) + IntKind.wrap IntKind.u64 (↑(BitVec.toNat (BitVec.ofInt (64 : Nat) x0 &&& BitVec.ofInt (64 : Nat) (6148914691236517205 : Int))) : Int))) (4 : Int)) &&& BitVec.ofInt (64 : Nat) (3689348814741910323 : Int))) : Int) + IntKind.wrap IntKind.u64 (↑(BitVec.toNat (BitVec.ofInt (64 : Nat) (IntKind.wrap IntKind.u64 (IntKind.wrap IntKind.u64 (↑(BitVec.toNat (BitVec.ofInt (64 : Nat) (Int.fdiv x0 (2 : Int)) &&& BitVec.ofInt (64 : Nat) (6148914691236517205 : Int))) : Int) + IntKind.wrap IntKind.u64 (↑(BitVec.toNat (BitVec.ofInt (64 : Nat) x0 &&& BitVec.ofInt (64 : Nat) (6148914691236517205 : Int))) : Int))) &&& BitVec.ofInt (64 : Nat) (3689348814741910323 : Int))) : Int))) (16 : Int) + IntKind.wrap IntKind.u64 (IntKind.wrap IntKind.u64 (↑(BitVec.toNat (BitVec.ofInt (64 : Nat) (Int.fdiv (IntKind.wrap IntKind.u64 (IntKind.wrap IntKind.u64 (↑(BitVec.toNat (BitVec.ofInt (64 : Nat) (Int.fdiv x0 (2 : Int)) &&& BitVec.ofInt (64 : Nat) (6148914691236517205 : Int))) : Int) + IntKind.wrap IntKind.u64 (↑(BitVec.toNat (BitVec.ofInt (64 : Nat) x0 &&& BitVec.ofInt (64 : Nat) (6148914691236517205 : Int))) : Int))) (4 : Int)) &&& BitVec.ofInt (64 : Nat) (3689348814741910323 : Int))) : Int) + IntKind.wrap IntKind.u64 (↑(BitVec.toNat (BitVec.ofInt (64 : Nat) (IntKind.wrap IntKind.u64 (IntKind.wrap IntKind.u64 (↑(BitVec.toNat (BitVec.ofInt (64 : Nat) (Int.fdiv x0 (2 : Int)) &&& BitVec.ofInt (64 : Nat) (6148914691236517205 : Int))) : Int) + IntKind.wrap IntKind.u64 (↑(BitVec.toNat (BitVec.ofInt (64 : Nat) x0 &&& BitVec.ofInt (64 : Nat) (6148914691236517205 : Int))) : Int))) &&& BitVec.ofInt (64 : Nat) (3689348814741910323 : Int))) : Int)))) &&& BitVec.ofInt (64 : Nat) (1085102592571150095 : Int))) : Int)) (256 : Int))) (65536 : Int))) (4294967296 : Int)))) &&& BitVec.ofInt (64 : Nat) (127 : Int))) : Int))
theorem f143_run (k : Nat) (x0 : Int) : cf6 k R143 143 (A143 (x0)) [] 0 (endR planR (.any) [] 0 r143) = f143 k x0 := by kernel_rfl
def g143 (k : Nat) : CallS := entT d143 (fun p => f143 k p) (elAll _) (fun _ => o143) (fun _ => u143) (fun _ => n143)
theorem g143_ok (k : Nat) : CallSOk Try.prog 143 (g143 k) := entry_ok (Hp := fun _ => []) (oR := fun _ => o143) (uR := fun _ => u143) (nR := fun _ => n143) (cf6_ok k) d143_ok r143_ok (hel := elAll_ok) (fun p => f143_run k p)
def Dl7 (k : Nat) : Delta := dCons 143 (callAt plan [.any] (g143 k)) (Dl6 k)
def Lm7 (k : Nat) : FuncId → Nat → Option LamF := Lm6 k
theorem Dl7_ok (k : Nat) : DeltaOk Try.prog (Dl7 k) := dCons_ok (Dl6_ok k) (g143_ok k)
theorem Lm7_ok (k : Nat) : LamsOk Try.prog (Lm7 k) := Lm6_ok k
abbrev cf7 (k : Nat) : CallF := evF Try.prog (Dl7 k) (Lm7 k) 200 12
theorem cf7_ok (k : Nat) : CfOk Try.prog (cf7 k) := evF_ok noNum mixed (Dl7_ok k) (Lm7_ok k) 12
abbrev P128 := Int
def A128 (p : P128) : List AV := [.int .u64 p]
def d128 (a : List AV) (H : Heap) : Option P128 := match a, H with
  | [.int .u64 a0], [] => some (a0)
  | _, _ => none
theorem d128_ok (a : List AV) (H : Heap) (p : P128) (h : d128 a H = some p) : a = A128 p ∧ H = [] := by
  unfold d128 at h
  split at h
  · skip
    cases h; exact ⟨rfl, rfl⟩
  · cases h
abbrev R128 := Int
def o128 (r : R128) : AEnd := .ret (.int .i64 r)
def u128 (r : R128) : Heap := []
def n128 (_ : R128) : Nat := 0
def r128 (o : AEnd) (u : Heap) (n : Nat) : Option R128 := match o, u, n with
  | .ret (.int .i64 a0), [], 0 => some (a0)
  | _, _, _ => none
theorem r128_ok (p : P128) (o : AEnd) (u : Heap) (n : Nat) (r : R128) (h : r128 o u n = some r) : o = o128 r ∧ u = u128 r ∧ n = n128 r := by
  unfold r128 at h
  split at h
  · skip
    cases h; exact ⟨rfl, rfl, rfl⟩
  · cases h
def f128 (k : Nat) (x0 : Int) : Option R128 :=
  bindO (f143 k x0) fun r3000 =>
   some r3000
theorem f128_run (k : Nat) (x0 : Int) : cf7 k R128 128 (A128 (x0)) [] 0 (endR planR (.any) [] 0 r128) = f128 k x0 := by kernel_rfl
def g128 (k : Nat) : CallS := entT d128 (fun p => f128 k p) (elAll _) (fun _ => o128) (fun _ => u128) (fun _ => n128)
theorem g128_ok (k : Nat) : CallSOk Try.prog 128 (g128 k) := entry_ok (Hp := fun _ => []) (oR := fun _ => o128) (uR := fun _ => u128) (nR := fun _ => n128) (cf7_ok k) d128_ok r128_ok (hel := elAll_ok) (fun p => f128_run k p)
def Dl8 (k : Nat) : Delta := dCons 128 (callAt plan [.any] (g128 k)) (Dl7 k)
def Lm8 (k : Nat) : FuncId → Nat → Option LamF := Lm7 k
theorem Dl8_ok (k : Nat) : DeltaOk Try.prog (Dl8 k) := dCons_ok (Dl7_ok k) (g128_ok k)
theorem Lm8_ok (k : Nat) : LamsOk Try.prog (Lm8 k) := Lm7_ok k
abbrev cf8 (k : Nat) : CallF := evF Try.prog (Dl8 k) (Lm8 k) 200 12
theorem cf8_ok (k : Nat) : CfOk Try.prog (cf8 k) := evF_ok noNum mixed (Dl8_ok k) (Lm8_ok k) 12
abbrev P120 := Int
def A120 (p : P120) : List AV := [.int .i64 p]
def d120 (a : List AV) (H : Heap) : Option P120 := match a, H with
  | [.int .i64 a0], [] => some (a0)
  | _, _ => none
theorem d120_ok (a : List AV) (H : Heap) (p : P120) (h : d120 a H = some p) : a = A120 p ∧ H = [] := by
  unfold d120 at h
  split at h
  · skip
    cases h; exact ⟨rfl, rfl⟩
  · cases h
abbrev R120 := Int
def o120 (r : R120) : AEnd := .ret (.int .i64 r)
def u120 (r : R120) : Heap := []
def n120 (_ : R120) : Nat := 0
def r120 (o : AEnd) (u : Heap) (n : Nat) : Option R120 := match o, u, n with
  | .ret (.int .i64 a0), [], 0 => some (a0)
  | _, _, _ => none
theorem r120_ok (p : P120) (o : AEnd) (u : Heap) (n : Nat) (r : R120) (h : r120 o u n = some r) : o = o120 r ∧ u = u120 r ∧ n = n120 r := by
  unfold r120 at h
  split at h
  · skip
    cases h; exact ⟨rfl, rfl, rfl⟩
  · cases h
def f120 (k : Nat) (x0 : Int) : Option R120 :=
  bindO (f105 k x0) fun r3000 =>
   bindO (f128 k (IntKind.wrap IntKind.u64 r3000)) fun r2999 =>
    some r2999
theorem f120_run (k : Nat) (x0 : Int) : cf8 k R120 120 (A120 (x0)) [] 0 (endR planR (.any) [] 0 r120) = f120 k x0 := by kernel_rfl
def g120 (k : Nat) : CallS := entT d120 (fun p => f120 k p) (elAll _) (fun _ => o120) (fun _ => u120) (fun _ => n120)
theorem g120_ok (k : Nat) : CallSOk Try.prog 120 (g120 k) := entry_ok (Hp := fun _ => []) (oR := fun _ => o120) (uR := fun _ => u120) (nR := fun _ => n120) (cf8_ok k) d120_ok r120_ok (hel := elAll_ok) (fun p => f120_run k p)
def Dl9 (k : Nat) : Delta := dCons 120 (callAt plan [.any] (g120 k)) (Dl8 k)
def Lm9 (k : Nat) : FuncId → Nat → Option LamF := Lm8 k
theorem Dl9_ok (k : Nat) : DeltaOk Try.prog (Dl9 k) := dCons_ok (Dl8_ok k) (g120_ok k)
theorem Lm9_ok (k : Nat) : LamsOk Try.prog (Lm9 k) := Lm8_ok k
abbrev cf9 (k : Nat) : CallF := evF Try.prog (Dl9 k) (Lm9 k) 200 12
theorem cf9_ok (k : Nat) : CfOk Try.prog (cf9 k) := evF_ok noNum mixed (Dl9_ok k) (Lm9_ok k) 12
abbrev P100 := Int × Int
def A100 (p : P100) : List AV := [.int .i64 p.1, .int .i64 p.2]
def d100 (a : List AV) (H : Heap) : Option P100 := match a, H with
  | [.int .i64 a0, .int .i64 a1], [] => some (a0, a1)
  | _, _ => none
theorem d100_ok (a : List AV) (H : Heap) (p : P100) (h : d100 a H = some p) : a = A100 p ∧ H = [] := by
  unfold d100 at h
  split at h
  · skip
    cases h; exact ⟨rfl, rfl⟩
  · cases h
abbrev R100 := Bool
def o100 (r : R100) : AEnd := .ret (.bool r)
def u100 (r : R100) : Heap := []
def n100 (_ : R100) : Nat := 0
def r100 (o : AEnd) (u : Heap) (n : Nat) : Option R100 := match o, u, n with
  | .ret (.bool a0), [], 0 => some (a0)
  | _, _, _ => none
theorem r100_ok (p : P100) (o : AEnd) (u : Heap) (n : Nat) (r : R100) (h : r100 o u n = some r) : o = o100 r ∧ u = u100 r ∧ n = n100 r := by
  unfold r100 at h
  split at h
  · skip
    cases h; exact ⟨rfl, rfl, rfl⟩
  · cases h
def f100 (k : Nat) (x0 : Int) (x1 : Int) : Option R100 :=
  bindO (f119 k x1) fun r3000 =>
   br (Prod.snd r3000)
    (bindO (f105 k x0) fun r2999 =>
     br (!decide (x1 < (0 : Int)))
      (bindO (f120 k (IntKind.wrap IntKind.i64 (↑(BitVec.toNat (BitVec.ofInt (64 : Nat) r2999 &&& BitVec.ofInt (64 : Nat) (IntKind.wrap IntKind.i64 (IntKind.wrap IntKind.i64 ((1 : Int) * (2 : Int) ^ Min.min (Int.toNat x1) (64 : Nat)) - (1 : Int))))) : Int))) fun r2998 =>
       some (decide (r2998 ≥ Prod.fst r3000)))
      (none))
    (some false)
theorem f100_run (k : Nat) (x0 : Int) (x1 : Int) : cf9 k R100 100 (A100 (x0, x1)) [] 0 (endR planR (.any) [] 0 r100) = f100 k x0 x1 := by kernel_rfl
def g100 (k : Nat) : CallS := entT d100 (fun p => f100 k p.1 p.2) (elAll _) (fun _ => o100) (fun _ => u100) (fun _ => n100)
theorem g100_ok (k : Nat) : CallSOk Try.prog 100 (g100 k) := entry_ok (Hp := fun _ => []) (oR := fun _ => o100) (uR := fun _ => u100) (nR := fun _ => n100) (cf9_ok k) d100_ok r100_ok (hel := elAll_ok) (fun p => f100_run k p.1 p.2)
def Dl10 (k : Nat) : Delta := dCons 100 (callAt plan [.any, .any] (g100 k)) (Dl9 k)
def Lm10 (k : Nat) : FuncId → Nat → Option LamF := Lm9 k
theorem Dl10_ok (k : Nat) : DeltaOk Try.prog (Dl10 k) := dCons_ok (Dl9_ok k) (g100_ok k)
theorem Lm10_ok (k : Nat) : LamsOk Try.prog (Lm10 k) := Lm9_ok k
abbrev cf10 (k : Nat) : CallF := evF Try.prog (Dl10 k) (Lm10 k) 200 12
theorem cf10_ok (k : Nat) : CfOk Try.prog (cf10 k) := evF_ok noNum mixed (Dl10_ok k) (Lm10_ok k) 12
abbrev P106 := Int
def A106 (p : P106) : List AV := [.int .i64 p]
def d106 (a : List AV) (H : Heap) : Option P106 := match a, H with
  | [.int .i64 a0], [] => some (a0)
  | _, _ => none
theorem d106_ok (a : List AV) (H : Heap) (p : P106) (h : d106 a H = some p) : a = A106 p ∧ H = [] := by
  unfold d106 at h
  split at h
  · skip
    cases h; exact ⟨rfl, rfl⟩
  · cases h
abbrev R106 := Bool
def o106 (r : R106) : AEnd := .ret (.bool r)
def u106 (r : R106) : Heap := []
def n106 (_ : R106) : Nat := 0
def r106 (o : AEnd) (u : Heap) (n : Nat) : Option R106 := match o, u, n with
  | .ret (.bool a0), [], 0 => some (a0)
  | _, _, _ => none
theorem r106_ok (p : P106) (o : AEnd) (u : Heap) (n : Nat) (r : R106) (h : r106 o u n = some r) : o = o106 r ∧ u = u106 r ∧ n = n106 r := by
  unfold r106 at h
  split at h
  · skip
    cases h; exact ⟨rfl, rfl, rfl⟩
  · cases h
def f106 (k : Nat) (x0 : Int) : Option R106 :=
  br (decide (x0 ≥ (0 : Int)))
   (some (decide (x0 < (7 : Int))))
   (some false)
theorem f106_run (k : Nat) (x0 : Int) : cf10 k R106 106 (A106 (x0)) [] 0 (endR planR (.any) [] 0 r106) = f106 k x0 := by kernel_rfl
def g106 (k : Nat) : CallS := entT d106 (fun p => f106 k p) (elAll _) (fun _ => o106) (fun _ => u106) (fun _ => n106)
theorem g106_ok (k : Nat) : CallSOk Try.prog 106 (g106 k) := entry_ok (Hp := fun _ => []) (oR := fun _ => o106) (uR := fun _ => u106) (nR := fun _ => n106) (cf10_ok k) d106_ok r106_ok (hel := elAll_ok) (fun p => f106_run k p)
def Dl11 (k : Nat) : Delta := dCons 106 (callAt plan [.any] (g106 k)) (Dl10 k)
def Lm11 (k : Nat) : FuncId → Nat → Option LamF := Lm10 k
theorem Dl11_ok (k : Nat) : DeltaOk Try.prog (Dl11 k) := dCons_ok (Dl10_ok k) (g106_ok k)
theorem Lm11_ok (k : Nat) : LamsOk Try.prog (Lm11 k) := Lm10_ok k
abbrev cf11 (k : Nat) : CallF := evF Try.prog (Dl11 k) (Lm11 k) 200 12
theorem cf11_ok (k : Nat) : CfOk Try.prog (cf11 k) := evF_ok noNum mixed (Dl11_ok k) (Lm11_ok k) 12
abbrev P60 := Int × List Int
def A60 (p : P60) : List AV := [.int .i64 p.1, .dsl 3 p.2]
def d60 (a : List AV) (H : Heap) : Option P60 := match a, H with
  | [.int .i64 a0, ba1], [] => (match (dslD 3 ba1 : Option (List Int)) with | some a1 => some (a0, a1) | none => none)
  | _, _ => none
theorem d60_ok (a : List AV) (H : Heap) (p : P60) (h : d60 a H = some p) : a = A60 p ∧ H = [] := by
  unfold d60 at h
  split at h
  · skip
    split at h
    · rename_i q
      have q := dslD_ok q
      subst q
      cases h; exact ⟨rfl, rfl⟩
    · cases h
  · cases h
abbrev R60 := Int
def o60 (r : R60) : AEnd := .ret (.int .i64 r)
def u60 (r : R60) : Heap := []
def n60 (_ : R60) : Nat := 0
def r60 (o : AEnd) (u : Heap) (n : Nat) : Option R60 := match o, u, n with
  | .ret (.int .i64 a0), [], 0 => some (a0)
  | _, _, _ => none
theorem r60_ok (p : P60) (o : AEnd) (u : Heap) (n : Nat) (r : R60) (h : r60 o u n = some r) : o = o60 r ∧ u = u60 r ∧ n = n60 r := by
  unfold r60 at h
  split at h
  · skip
    cases h; exact ⟨rfl, rfl, rfl⟩
  · cases h
structure S60_0 where
  mk ::
  x0 : Int
  x9 : List Int
  x10 : Int
  x11 : Int
def VS60_0 (s : S60_0) : List AV := [.int .i64 s.x0, .dsl 3 s.x9, .int .i64 s.x10, .int .i64 s.x11]
def HS60_0 (s : S60_0) : Heap := []
def dS60_0 (vs : List AV) (H : Heap) : Option S60_0 := match vs, H with
  | [.int .i64 x0, bx9, .int .i64 x10, .int .i64 x11], [] => (match (dslD 3 bx9 : Option (List Int)) with | some x9 => some (⟨x0, x9, x10, x11⟩ : S60_0) | none => none)
  | _, _ => none
theorem dS60_0_ok (vs : List AV) (H : Heap) (s : S60_0) (h : dS60_0 vs H = some s) : vs = VS60_0 s ∧ H = HS60_0 s := by
  unfold dS60_0 at h
  split at h
  · skip
    split at h
    · rename_i q
      have q := dslD_ok q
      subst q
      cases h; exact ⟨rfl, rfl⟩
    · cases h
  · cases h
def tS60_0 : AExit → List (Nat × Kd) := fun x => match x with
  | .normal => [(0, .any), (9, .rd 3), (10, .any), (11, .any)]
  | .exit i => (match i with | 0 => [(0, .any)] | _ => [])
  | .ret => [(4, .any)]
  | _ => []
structure E60_0 where
  mk ::
  x0 : Int
def VE60_0 (s : E60_0) : List AV := [.int .i64 s.x0]
def HE60_0 (s : E60_0) : Heap := []
def dE60_0 (x : AExit) (vs : List AV) (H : Heap) : Option E60_0 := match x, vs, H with
  | .exit 0, [.int .i64 x0], [] => some (⟨x0⟩ : E60_0)
  | _, _, _ => none
theorem dE60_0_ok (x : AExit) (vs : List AV) (H : Heap) (s : E60_0) (h : dE60_0 x vs H = some s) : x = .exit 0 ∧ vs = VE60_0 s ∧ H = HE60_0 s := by
  unfold dE60_0 at h
  split at h
  · skip
    cases h; exact ⟨rfl, rfl, rfl⟩
  · cases h
def xE60_0 (_ : E60_0) : AExit := .exit 0
def pS60_0 (k : Nat) (s : S60_0) : Option (S60_0 ⊕ E60_0) :=
  br (decide (S60_0.x11 s < S60_0.x10 s))
   (br (decide ((0 : Int) ≤ S60_0.x11 s ∧ S60_0.x11 s < (↑(List.length (S60_0.x9 s)) : Int)))
    (bindO (f106 k (List.getD (S60_0.x9 s) (Int.toNat (S60_0.x11 s)) (0 : Int))) fun r1500 =>
     br r1500
      (br (!decide (List.getD (S60_0.x9 s) (Int.toNat (S60_0.x11 s)) (0 : Int) < (0 : Int)))
       (some (Sum.inl (S60_0.mk (IntKind.wrap IntKind.i64 (↑(BitVec.toNat (BitVec.ofInt (64 : Nat) (S60_0.x0 s) ||| BitVec.ofInt (64 : Nat) (IntKind.wrap IntKind.i64 ((1 : Int) * (2 : Int) ^ Min.min (Int.toNat (List.getD (S60_0.x9 s) (Int.toNat (S60_0.x11 s)) (0 : Int))) (64 : Nat))))) : Int)) (S60_0.x9 s) (S60_0.x10 s) (IntKind.wrap IntKind.i64 (S60_0.x11 s + (1 : Int))))))
       (none))
      (some (Sum.inl (S60_0.mk (S60_0.x0 s) (S60_0.x9 s) (S60_0.x10 s) (IntKind.wrap IntKind.i64 (S60_0.x11 s + (1 : Int)))))))
    (none))
   (some (Sum.inr (E60_0.mk (S60_0.x0 s))))
theorem pS60_0_run (k : Nat) (s : S60_0) : evC (S60_0 ⊕ E60_0) Try.prog (ntmpsAt Try.prog 60) (cf11 k) ((Lm11 k) 60) 200 (loopAt Try.prog 60 0) (zipE [(0, .any), (9, .rd 3), (10, .any), (11, .any)] (VS60_0 s)) (HS60_0 s) (List.length (HS60_0 s)) (cutS plan 0 tS60_0 (rndT dS60_0 dE60_0)) = pS60_0 k s := by kernel_rfl
def l60_0 (k : Nat) (s : S60_0) : Option E60_0 := iterT (pS60_0 k) k s
def m60_0 (k : Nat) : LamS := lamT 0 dS60_0 (l60_0 k) (elAll _) tS60_0 xE60_0 VE60_0 HE60_0
theorem loop60_0 : isLoopAt Try.prog 60 0 = true := by kernel_rfl
theorem m60_0_ok (k : Nat) : LamSOk Try.prog (ntmpsAt Try.prog 60) 0 (.block 0 (.loop (loopAt Try.prog 60 0))) [(0, .any), (9, .rd 3), (10, .any), (11, .any)] (m60_0 k) := lamT_ok (plan := plan) (kb := 0) (body_run noNum mixed (cf11_ok k) (Lm11_ok k) loop60_0) rfl dS60_0_ok dE60_0_ok (hel := elAll_ok) (pS60_0_run k) k
def Dl12 (k : Nat) : Delta := Dl11 k
def Lm12 (k : Nat) : FuncId → Nat → Option LamF := lCons 60 0 (lamBy plan [12, 13, 14, 6, 15, 16, 17, 18, 19, 20, 0, 21, 11] [(0, .any), (9, .rd 3), (10, .any), (11, .any)] 0 (m60_0 k)) (Lm11 k)
theorem Dl12_ok (k : Nat) : DeltaOk Try.prog (Dl12 k) := Dl11_ok k
theorem Lm12_ok (k : Nat) : LamsOk Try.prog (Lm12 k) := lCons_ok (Lm11_ok k) loop60_0 (lamBy_ok (m60_0_ok k) (by kernel_rfl))
abbrev cf12 (k : Nat) : CallF := evF Try.prog (Dl12 k) (Lm12 k) 200 12
theorem cf12_ok (k : Nat) : CfOk Try.prog (cf12 k) := evF_ok noNum mixed (Dl12_ok k) (Lm12_ok k) 12
def f60 (k : Nat) (x0 : Int) (x1 : List Int) : Option R60 :=
  bindO (f105 k x0) fun r3000 =>
   bindO (l60_0 k (S60_0.mk r3000 x1 (↑(List.length x1) : Int) (0 : Int))) fun r2999 =>
    some (E60_0.x0 r2999)
theorem f60_run (k : Nat) (x0 : Int) (x1 : List Int) : cf12 k R60 60 (A60 (x0, x1)) [] 0 (endR planR (.any) [] 0 r60) = f60 k x0 x1 := by kernel_rfl
def g60 (k : Nat) : CallS := entT d60 (fun p => f60 k p.1 p.2) (elAll _) (fun _ => o60) (fun _ => u60) (fun _ => n60)
theorem g60_ok (k : Nat) : CallSOk Try.prog 60 (g60 k) := entry_ok (Hp := fun _ => []) (oR := fun _ => o60) (uR := fun _ => u60) (nR := fun _ => n60) (cf12_ok k) d60_ok r60_ok (hel := elAll_ok) (fun p => f60_run k p.1 p.2)
def Dl13 (k : Nat) : Delta := dCons 60 (callAt plan [.any, .rd 3] (g60 k)) (Dl12 k)
def Lm13 (k : Nat) : FuncId → Nat → Option LamF := Lm12 k
theorem Dl13_ok (k : Nat) : DeltaOk Try.prog (Dl13 k) := dCons_ok (Dl12_ok k) (g60_ok k)
theorem Lm13_ok (k : Nat) : LamsOk Try.prog (Lm13 k) := Lm12_ok k
abbrev cf13 (k : Nat) : CallF := evF Try.prog (Dl13 k) (Lm13 k) 200 12
theorem cf13_ok (k : Nat) : CfOk Try.prog (cf13 k) := evF_ok noNum mixed (Dl13_ok k) (Lm13_ok k) 12
abbrev P70 := Int × Int
def A70 (p : P70) : List AV := [.int .i64 p.1, .int .i64 p.2]
def d70 (a : List AV) (H : Heap) : Option P70 := match a, H with
  | [.int .i64 a0, .int .i64 a1], [] => some (a0, a1)
  | _, _ => none
theorem d70_ok (a : List AV) (H : Heap) (p : P70) (h : d70 a H = some p) : a = A70 p ∧ H = [] := by
  unfold d70 at h
  split at h
  · skip
    cases h; exact ⟨rfl, rfl⟩
  · cases h
abbrev R70 := Bool
def o70 (r : R70) : AEnd := .ret (.bool r)
def u70 (r : R70) : Heap := []
def n70 (_ : R70) : Nat := 0
def r70 (o : AEnd) (u : Heap) (n : Nat) : Option R70 := match o, u, n with
  | .ret (.bool a0), [], 0 => some (a0)
  | _, _, _ => none
theorem r70_ok (p : P70) (o : AEnd) (u : Heap) (n : Nat) (r : R70) (h : r70 o u n = some r) : o = o70 r ∧ u = u70 r ∧ n = n70 r := by
  unfold r70 at h
  split at h
  · skip
    cases h; exact ⟨rfl, rfl, rfl⟩
  · cases h
def f70 (k : Nat) (x0 : Int) (x1 : Int) : Option R70 :=
  bindO (f106 k x1) fun r3000 =>
   br r3000
    (bindO (f105 k x0) fun r2999 =>
     br (!decide (x1 < (0 : Int)))
      (some (IntKind.wrap IntKind.i64 (↑(BitVec.toNat (BitVec.ofInt (64 : Nat) (Int.fdiv r2999 ((2 : Int) ^ Min.min (Int.toNat x1) (64 : Nat))) &&& BitVec.ofInt (64 : Nat) (1 : Int))) : Int) == (1 : Int)))
      (none))
    (some false)
theorem f70_run (k : Nat) (x0 : Int) (x1 : Int) : cf13 k R70 70 (A70 (x0, x1)) [] 0 (endR planR (.any) [] 0 r70) = f70 k x0 x1 := by kernel_rfl
def g70 (k : Nat) : CallS := entT d70 (fun p => f70 k p.1 p.2) (elAll _) (fun _ => o70) (fun _ => u70) (fun _ => n70)
theorem g70_ok (k : Nat) : CallSOk Try.prog 70 (g70 k) := entry_ok (Hp := fun _ => []) (oR := fun _ => o70) (uR := fun _ => u70) (nR := fun _ => n70) (cf13_ok k) d70_ok r70_ok (hel := elAll_ok) (fun p => f70_run k p.1 p.2)
def Dl14 (k : Nat) : Delta := dCons 70 (callAt plan [.any, .any] (g70 k)) (Dl13 k)
def Lm14 (k : Nat) : FuncId → Nat → Option LamF := Lm13 k
theorem Dl14_ok (k : Nat) : DeltaOk Try.prog (Dl14 k) := dCons_ok (Dl13_ok k) (g70_ok k)
theorem Lm14_ok (k : Nat) : LamsOk Try.prog (Lm14 k) := Lm13_ok k
abbrev cf14 (k : Nat) : CallF := evF Try.prog (Dl14 k) (Lm14 k) 200 12
theorem cf14_ok (k : Nat) : CfOk Try.prog (cf14 k) := evF_ok noNum mixed (Dl14_ok k) (Lm14_ok k) 12
abbrev P118 := Int × Int
def A118 (p : P118) : List AV := [.int .i64 p.1, .int .i64 p.2]
def d118 (a : List AV) (H : Heap) : Option P118 := match a, H with
  | [.int .i64 a0, .int .i64 a1], [] => some (a0, a1)
  | _, _ => none
theorem d118_ok (a : List AV) (H : Heap) (p : P118) (h : d118 a H = some p) : a = A118 p ∧ H = [] := by
  unfold d118 at h
  split at h
  · skip
    cases h; exact ⟨rfl, rfl⟩
  · cases h
abbrev R118 := Int × Bool
def o118 (r : R118) : AEnd := .ret (.tup [.int .i64 r.1, .bool r.2])
def u118 (r : R118) : Heap := []
def n118 (_ : R118) : Nat := 0
def r118 (o : AEnd) (u : Heap) (n : Nat) : Option R118 := match o, u, n with
  | .ret (.tup [.int .i64 a0, .bool a1]), [], 0 => some (a0, a1)
  | _, _, _ => none
theorem r118_ok (p : P118) (o : AEnd) (u : Heap) (n : Nat) (r : R118) (h : r118 o u n = some r) : o = o118 r ∧ u = u118 r ∧ n = n118 r := by
  unfold r118 at h
  split at h
  · skip
    cases h; exact ⟨rfl, rfl, rfl⟩
  · cases h
def f118 (k : Nat) (x0 : Int) (x1 : Int) : Option R118 :=
  bindO (f119 k x1) fun r3000 =>
   br (!Prod.snd r3000)
    (some ((0 : Int), false))
    (br (decide (x0 < (0 : Int)))
     (some ((0 : Int), false))
     (br (!x1 == (0 : Int))
      (some (Int.tmod x0 x1, true))
      (none)))
theorem f118_run (k : Nat) (x0 : Int) (x1 : Int) : cf14 k R118 118 (A118 (x0, x1)) [] 0 (endR planR (.any) [] 0 r118) = f118 k x0 x1 := by kernel_rfl
def g118 (k : Nat) : CallS := entT d118 (fun p => f118 k p.1 p.2) (elAll _) (fun _ => o118) (fun _ => u118) (fun _ => n118)
theorem g118_ok (k : Nat) : CallSOk Try.prog 118 (g118 k) := entry_ok (Hp := fun _ => []) (oR := fun _ => o118) (uR := fun _ => u118) (nR := fun _ => n118) (cf14_ok k) d118_ok r118_ok (hel := elAll_ok) (fun p => f118_run k p.1 p.2)
def Dl15 (k : Nat) : Delta := dCons 118 (callAt plan [.any, .any] (g118 k)) (Dl14 k)
def Lm15 (k : Nat) : FuncId → Nat → Option LamF := Lm14 k
theorem Dl15_ok (k : Nat) : DeltaOk Try.prog (Dl15 k) := dCons_ok (Dl14_ok k) (g118_ok k)
theorem Lm15_ok (k : Nat) : LamsOk Try.prog (Lm15 k) := Lm14_ok k
abbrev cf15 (k : Nat) : CallF := evF Try.prog (Dl15 k) (Lm15 k) 200 12
theorem cf15_ok (k : Nat) : CfOk Try.prog (cf15 k) := evF_ok noNum mixed (Dl15_ok k) (Lm15_ok k) 12
abbrev P116 := GVote
def A116 (p : P116) : List AV := [.agg [.int .i64 p.src, .int .i64 p.last, .int .i64 p.commit, .dsl 9 p.rows]]
def d116 (a : List AV) (H : Heap) : Option P116 := match a, H with
  | [.agg [.int .i64 a0, .int .i64 a1, .int .i64 a2, ba3]], [] => (match (dslD 9 ba3 : Option (List ByteArray)) with | some a3 => some ((⟨a0, a1, a2, a3⟩ : GVote)) | none => none)
  | _, _ => none
theorem d116_ok (a : List AV) (H : Heap) (p : P116) (h : d116 a H = some p) : a = A116 p ∧ H = [] := by
  unfold d116 at h
  split at h
  · skip
    split at h
    · rename_i q
      have q := dslD_ok q
      subst q
      cases h; exact ⟨rfl, rfl⟩
    · cases h
  · cases h
abbrev R116 := GVote
def o116 (r : R116) : AEnd := .ret (.agg [.int .i64 r.src, .int .i64 r.last, .int .i64 r.commit, .dsl 9 r.rows])
def u116 (r : R116) : Heap := []
def n116 (_ : R116) : Nat := 0
def r116 (o : AEnd) (u : Heap) (n : Nat) : Option R116 := match o, u, n with
  | .ret (.agg [.int .i64 a0, .int .i64 a1, .int .i64 a2, ba3]), [], 0 => (match (dslD 9 ba3 : Option (List ByteArray)) with | some a3 => some ((⟨a0, a1, a2, a3⟩ : GVote)) | none => none)
  | _, _, _ => none
theorem r116_ok (p : P116) (o : AEnd) (u : Heap) (n : Nat) (r : R116) (h : r116 o u n = some r) : o = o116 r ∧ u = u116 r ∧ n = n116 r := by
  unfold r116 at h
  split at h
  · skip
    split at h
    · rename_i q
      have q := dslD_ok q
      subst q
      cases h; exact ⟨rfl, rfl, rfl⟩
    · cases h
  · cases h
def f116 (k : Nat) (x0 : GVote) : Option R116 :=
  bindO (f88 k (GVote.rows x0)) fun r3000 =>
   some (GVote.mk (GVote.src x0) (GVote.last x0) (GVote.commit x0) r3000)
theorem f116_run (k : Nat) (x0 : GVote) : cf15 k R116 116 (A116 (x0)) [] 0 (endR planR (.agg [.any, .any, .any, .ro 9]) [] 0 r116) = f116 k x0 := by kernel_rfl
def g116 (k : Nat) : CallS := entT d116 (fun p => f116 k p) (elAll _) (fun _ => o116) (fun _ => u116) (fun _ => n116)
theorem g116_ok (k : Nat) : CallSOk Try.prog 116 (g116 k) := entry_ok (Hp := fun _ => []) (oR := fun _ => o116) (uR := fun _ => u116) (nR := fun _ => n116) (cf15_ok k) d116_ok r116_ok (hel := elAll_ok) (fun p => f116_run k p)
def Dl16 (k : Nat) : Delta := dCons 116 (callAt plan [.agg [.any, .any, .any, .rd 9]] (g116 k)) (Dl15 k)
def Lm16 (k : Nat) : FuncId → Nat → Option LamF := Lm15 k
theorem Dl16_ok (k : Nat) : DeltaOk Try.prog (Dl16 k) := dCons_ok (Dl15_ok k) (g116_ok k)
theorem Lm16_ok (k : Nat) : LamsOk Try.prog (Lm16 k) := Lm15_ok k
abbrev cf16 (k : Nat) : CallF := evF Try.prog (Dl16 k) (Lm16 k) 200 12
theorem cf16_ok (k : Nat) : CfOk Try.prog (cf16 k) := evF_ok noNum mixed (Dl16_ok k) (Lm16_ok k) 12
abbrev P90 := List GVote × GVote
def A90 (p : P90) : List AV := [.dsl 89 p.1, .agg [.int .i64 p.2.src, .int .i64 p.2.last, .int .i64 p.2.commit, .dsl 9 p.2.rows]]
def d90 (a : List AV) (H : Heap) : Option P90 := match a, H with
  | [ba0, .agg [.int .i64 a1, .int .i64 a2, .int .i64 a3, ba4]], [] => (match (dslD 89 ba0 : Option (List GVote)) with | some a0 => (match (dslD 9 ba4 : Option (List ByteArray)) with | some a4 => some (a0, (⟨a1, a2, a3, a4⟩ : GVote)) | none => none) | none => none)
  | _, _ => none
theorem d90_ok (a : List AV) (H : Heap) (p : P90) (h : d90 a H = some p) : a = A90 p ∧ H = [] := by
  unfold d90 at h
  split at h
  · skip
    split at h
    · rename_i q
      have q := dslD_ok q
      subst q
      split at h
      · rename_i q
        have q := dslD_ok q
        subst q
        cases h; exact ⟨rfl, rfl⟩
      · cases h
    · cases h
  · cases h
abbrev R90 := List GVote
def o90 (r : R90) : AEnd := .ret (.dsl 89 r)
def u90 (r : R90) : Heap := []
def n90 (_ : R90) : Nat := 0
def r90 (o : AEnd) (u : Heap) (n : Nat) : Option R90 := match o, u, n with
  | .ret ba0, [], 0 => (match (dslD 89 ba0 : Option (List GVote)) with | some a0 => some (a0) | none => none)
  | _, _, _ => none
theorem r90_ok (p : P90) (o : AEnd) (u : Heap) (n : Nat) (r : R90) (h : r90 o u n = some r) : o = o90 r ∧ u = u90 r ∧ n = n90 r := by
  unfold r90 at h
  split at h
  · skip
    split at h
    · rename_i q
      have q := dslD_ok q
      subst q
      cases h; exact ⟨rfl, rfl, rfl⟩
    · cases h
  · cases h
structure S90_0 where
  mk ::
  x8 : List GVote
  x9 : Int
  x10 : Int
  h0_0 : Int
  h0_1 : Int
  h0_2 : Int
  h0_3 : List ByteArray
  h1 : List GVote
def VS90_0 (s : S90_0) : List AV := [.ptr 0 0 0, .slf 1, .dsl 89 s.x8, .int .i64 s.x9, .int .i64 s.x10]
def HS90_0 (s : S90_0) : Heap := [(0, some (.box 89 [.int .i64 s.h0_0, .int .i64 s.h0_1, .int .i64 s.h0_2, .dsl 9 s.h0_3])), (1, some (.row 89 s.h1))]
def dS90_0 (vs : List AV) (H : Heap) : Option S90_0 := match vs, H with
  | [.ptr 0 0 0, .slf 1, bx8, .int .i64 x9, .int .i64 x10], [(0, some (.box 89 [.int .i64 h0_0, .int .i64 h0_1, .int .i64 h0_2, bh0_3])), (1, bh1)] => (match (dslD 89 bx8 : Option (List GVote)) with | some x8 => (match (dslD 9 bh0_3 : Option (List ByteArray)) with | some h0_3 => (match (rowD 89 bh1 : Option (List GVote)) with | some h1 => some (⟨x8, x9, x10, h0_0, h0_1, h0_2, h0_3, h1⟩ : S90_0) | none => none) | none => none) | none => none)
  | _, _ => none
theorem dS90_0_ok (vs : List AV) (H : Heap) (s : S90_0) (h : dS90_0 vs H = some s) : vs = VS90_0 s ∧ H = HS90_0 s := by
  unfold dS90_0 at h
  split at h
  · skip
    split at h
    · rename_i q
      have q := dslD_ok q
      subst q
      split at h
      · rename_i q
        have q := dslD_ok q
        subst q
        split at h
        · rename_i q
          have q := rowD_ok q
          subst q
          cases h; exact ⟨rfl, rfl⟩
        · cases h
      · cases h
    · cases h
  · cases h
def tS90_0 : AExit → List (Nat × Kd) := fun x => match x with
  | .normal => [(3, .any), (5, .own 89), (8, .rd 89), (9, .any), (10, .any)]
  | .exit i => (match i with | 0 => [(3, .any), (5, .own 89)] | _ => [])
  | .ret => [(4, .rd 89)]
  | _ => []
structure E90_0 where
  mk ::
  h0_0 : Int
  h0_1 : Int
  h0_2 : Int
  h0_3 : List ByteArray
  h1 : List GVote
def VE90_0 (s : E90_0) : List AV := [.ptr 0 0 0, .slf 1]
def HE90_0 (s : E90_0) : Heap := [(0, some (.box 89 [.int .i64 s.h0_0, .int .i64 s.h0_1, .int .i64 s.h0_2, .dsl 9 s.h0_3])), (1, some (.row 89 s.h1))]
def dE90_0 (x : AExit) (vs : List AV) (H : Heap) : Option E90_0 := match x, vs, H with
  | .exit 0, [.ptr 0 0 0, .slf 1], [(0, some (.box 89 [.int .i64 h0_0, .int .i64 h0_1, .int .i64 h0_2, bh0_3])), (1, bh1)] => (match (dslD 9 bh0_3 : Option (List ByteArray)) with | some h0_3 => (match (rowD 89 bh1 : Option (List GVote)) with | some h1 => some (⟨h0_0, h0_1, h0_2, h0_3, h1⟩ : E90_0) | none => none) | none => none)
  | _, _, _ => none
theorem dE90_0_ok (x : AExit) (vs : List AV) (H : Heap) (s : E90_0) (h : dE90_0 x vs H = some s) : x = .exit 0 ∧ vs = VE90_0 s ∧ H = HE90_0 s := by
  unfold dE90_0 at h
  split at h
  · skip
    split at h
    · rename_i q
      have q := dslD_ok q
      subst q
      split at h
      · rename_i q
        have q := rowD_ok q
        subst q
        cases h; exact ⟨rfl, rfl, rfl⟩
      · cases h
    · cases h
  · cases h
def xE90_0 (_ : E90_0) : AExit := .exit 0
def pS90_0 (k : Nat) (s : S90_0) : Option (S90_0 ⊕ E90_0) :=
  br (decide (S90_0.x10 s < S90_0.x9 s))
   (br (decide ((0 : Int) ≤ S90_0.x10 s ∧ S90_0.x10 s < (↑(List.length (S90_0.x8 s)) : Int)))
    (br (GVote.src (List.getD (S90_0.x8 s) (Int.toNat (S90_0.x10 s)) default) != S90_0.h0_0 s)
     (bindO (f116 k (List.getD (S90_0.x8 s) (Int.toNat (S90_0.x10 s)) default)) fun r1500 =>
      br (true && decide ((List.length (S90_0.h1 s) + List.length [r1500]) * (48 : Nat) ≤ (140737488355328 : Nat)))
       (some (Sum.inl (S90_0.mk (S90_0.x8 s) (S90_0.x9 s) (IntKind.wrap IntKind.i64 (S90_0.x10 s + (1 : Int))) (S90_0.h0_0 s) (S90_0.h0_1 s) (S90_0.h0_2 s) (S90_0.h0_3 s) (S90_0.h1 s ++ [r1500]))))
       (none))
     (some (Sum.inl (S90_0.mk (S90_0.x8 s) (S90_0.x9 s) (IntKind.wrap IntKind.i64 (S90_0.x10 s + (1 : Int))) (S90_0.h0_0 s) (S90_0.h0_1 s) (S90_0.h0_2 s) (S90_0.h0_3 s) (S90_0.h1 s)))))
    (none))
   (some (Sum.inr (E90_0.mk (S90_0.h0_0 s) (S90_0.h0_1 s) (S90_0.h0_2 s) (S90_0.h0_3 s) (S90_0.h1 s))))
theorem pS90_0_run (k : Nat) (s : S90_0) : evC (S90_0 ⊕ E90_0) Try.prog (ntmpsAt Try.prog 90) (cf16 k) ((Lm16 k) 90) 200 (loopAt Try.prog 90 0) (zipE [(3, .any), (5, .own 89), (8, .rd 89), (9, .any), (10, .any)] (VS90_0 s)) (HS90_0 s) (List.length (HS90_0 s)) (cutS plan 1 tS90_0 (rndT dS90_0 dE90_0)) = pS90_0 k s := by kernel_rfl
def l90_0 (k : Nat) (s : S90_0) : Option E90_0 := iterT (pS90_0 k) k s
def m90_0 (k : Nat) : LamS := lamT 0 dS90_0 (l90_0 k) (elAll _) tS90_0 xE90_0 VE90_0 HE90_0
theorem loop90_0 : isLoopAt Try.prog 90 0 = true := by kernel_rfl
theorem m90_0_ok (k : Nat) : LamSOk Try.prog (ntmpsAt Try.prog 90) 1 (.block 0 (.loop (loopAt Try.prog 90 0))) [(3, .any), (5, .own 89), (8, .rd 89), (9, .any), (10, .any)] (m90_0 k) := lamT_ok (plan := plan) (kb := 1) (body_run noNum mixed (cf16_ok k) (Lm16_ok k) loop90_0) rfl dS90_0_ok dE90_0_ok (hel := elAll_ok) (pS90_0_run k) k
def Dl17 (k : Nat) : Delta := Dl16 k
def Lm17 (k : Nat) : FuncId → Nat → Option LamF := lCons 90 0 (lamBy plan [11, 12, 13, 7, 14, 15, 16, 17, 18, 19, 20, 21, 22, 23, 24, 5, 25, 10] [(3, .any), (5, .own 89), (8, .rd 89), (9, .any), (10, .any)] 1 (m90_0 k)) (Lm16 k)
theorem Dl17_ok (k : Nat) : DeltaOk Try.prog (Dl17 k) := Dl16_ok k
theorem Lm17_ok (k : Nat) : LamsOk Try.prog (Lm17 k) := lCons_ok (Lm16_ok k) loop90_0 (lamBy_ok (m90_0_ok k) (by kernel_rfl))
abbrev cf17 (k : Nat) : CallF := evF Try.prog (Dl17 k) (Lm17 k) 200 12
theorem cf17_ok (k : Nat) : CfOk Try.prog (cf17 k) := evF_ok noNum mixed (Dl17_ok k) (Lm17_ok k) 12
def f90 (k : Nat) (x0 : List GVote) (x1 : GVote) : Option R90 :=
  bindO (l90_0 k (S90_0.mk x0 (↑(List.length x0) : Int) (0 : Int) (GVote.src x1) (GVote.last x1) (GVote.commit x1) (GVote.rows x1) [])) fun r3000 =>
   bindO (f116 k (GVote.mk (E90_0.h0_0 r3000) (E90_0.h0_1 r3000) (E90_0.h0_2 r3000) (E90_0.h0_3 r3000))) fun r2999 =>
    br (true && decide ((List.length (E90_0.h1 r3000) + List.length [r2999]) * (48 : Nat) ≤ (140737488355328 : Nat)))
     (some (E90_0.h1 r3000 ++ [r2999]))
     (none)
theorem f90_run (k : Nat) (x0 : List GVote) (x1 : GVote) : cf17 k R90 90 (A90 (x0, x1)) [] 0 (endR planR (.ro 89) [] 0 r90) = f90 k x0 x1 := by kernel_rfl
def g90 (k : Nat) : CallS := entT d90 (fun p => f90 k p.1 p.2) (elAll _) (fun _ => o90) (fun _ => u90) (fun _ => n90)
theorem g90_ok (k : Nat) : CallSOk Try.prog 90 (g90 k) := entry_ok (Hp := fun _ => []) (oR := fun _ => o90) (uR := fun _ => u90) (nR := fun _ => n90) (cf17_ok k) d90_ok r90_ok (hel := elAll_ok) (fun p => f90_run k p.1 p.2)
def Dl18 (k : Nat) : Delta := dCons 90 (callAt plan [.rd 89, .agg [.any, .any, .any, .rd 9]] (g90 k)) (Dl17 k)
def Lm18 (k : Nat) : FuncId → Nat → Option LamF := Lm17 k
theorem Dl18_ok (k : Nat) : DeltaOk Try.prog (Dl18 k) := dCons_ok (Dl17_ok k) (g90_ok k)
theorem Lm18_ok (k : Nat) : LamsOk Try.prog (Lm18 k) := Lm17_ok k
abbrev cf18 (k : Nat) : CallF := evF Try.prog (Dl18 k) (Lm18 k) 200 12
theorem cf18_ok (k : Nat) : CfOk Try.prog (cf18 k) := evF_ok noNum mixed (Dl18_ok k) (Lm18_ok k) 12
abbrev P97 := List ByteArray × Int × ByteArray
def A97 (p : P97) : List AV := [.dsl 9 p.1, .int .i64 p.2.1, .str p.2.2]
def d97 (a : List AV) (H : Heap) : Option P97 := match a, H with
  | [ba0, .int .i64 a1, .str a2], [] => (match (dslD 9 ba0 : Option (List ByteArray)) with | some a0 => some (a0, a1, a2) | none => none)
  | _, _ => none
theorem d97_ok (a : List AV) (H : Heap) (p : P97) (h : d97 a H = some p) : a = A97 p ∧ H = [] := by
  unfold d97 at h
  split at h
  · skip
    split at h
    · rename_i q
      have q := dslD_ok q
      subst q
      cases h; exact ⟨rfl, rfl⟩
    · cases h
  · cases h
abbrev R97 := List ByteArray × Bool
def o97 (r : R97) : AEnd := .ret (.tup [.dsl 9 r.1, .bool r.2])
def u97 (r : R97) : Heap := []
def n97 (_ : R97) : Nat := 0
def r97 (o : AEnd) (u : Heap) (n : Nat) : Option R97 := match o, u, n with
  | .ret (.tup [ba0, .bool a1]), [], 0 => (match (dslD 9 ba0 : Option (List ByteArray)) with | some a0 => some (a0, a1) | none => none)
  | _, _, _ => none
theorem r97_ok (p : P97) (o : AEnd) (u : Heap) (n : Nat) (r : R97) (h : r97 o u n = some r) : o = o97 r ∧ u = u97 r ∧ n = n97 r := by
  unfold r97 at h
  split at h
  · skip
    split at h
    · rename_i q
      have q := dslD_ok q
      subst q
      cases h; exact ⟨rfl, rfl, rfl⟩
    · cases h
  · cases h
def f97 (k : Nat) (x0 : List ByteArray) (x1 : Int) (x2 : ByteArray) : Option R97 :=
  br (x1 != IntKind.wrap IntKind.i64 ((↑(List.length x0) : Int) + (1 : Int)))
   (bindO (f88 k x0) fun r3000 =>
    some (r3000, false))
   (bindO (f88 k x0) fun r2998 =>
    br (true && decide ((List.length r2998 + List.length [x2]) * (16 : Nat) ≤ (140737488355328 : Nat)))
     (some (r2998 ++ [x2], true))
     (none))
theorem f97_run (k : Nat) (x0 : List ByteArray) (x1 : Int) (x2 : ByteArray) : cf18 k R97 97 (A97 (x0, x1, x2)) [] 0 (endR planR (.agg [.ro 9, .any]) [] 0 r97) = f97 k x0 x1 x2 := by kernel_rfl
def g97 (k : Nat) : CallS := entT d97 (fun p => f97 k p.1 p.2.1 p.2.2) (elAll _) (fun _ => o97) (fun _ => u97) (fun _ => n97)
theorem g97_ok (k : Nat) : CallSOk Try.prog 97 (g97 k) := entry_ok (Hp := fun _ => []) (oR := fun _ => o97) (uR := fun _ => u97) (nR := fun _ => n97) (cf18_ok k) d97_ok r97_ok (hel := elAll_ok) (fun p => f97_run k p.1 p.2.1 p.2.2)
def Dl19 (k : Nat) : Delta := dCons 97 (callAt plan [.rd 9, .any, .any] (g97 k)) (Dl18 k)
def Lm19 (k : Nat) : FuncId → Nat → Option LamF := Lm18 k
theorem Dl19_ok (k : Nat) : DeltaOk Try.prog (Dl19 k) := dCons_ok (Dl18_ok k) (g97_ok k)
theorem Lm19_ok (k : Nat) : LamsOk Try.prog (Lm19 k) := Lm18_ok k
abbrev cf19 (k : Nat) : CallF := evF Try.prog (Dl19 k) (Lm19 k) 200 12
theorem cf19_ok (k : Nat) : CfOk Try.prog (cf19 k) := evF_ok noNum mixed (Dl19_ok k) (Lm19_ok k) 12
abbrev P102 := List ByteArray × Int
def A102 (p : P102) : List AV := [.dsl 9 p.1, .int .i64 p.2]
def d102 (a : List AV) (H : Heap) : Option P102 := match a, H with
  | [ba0, .int .i64 a1], [] => (match (dslD 9 ba0 : Option (List ByteArray)) with | some a0 => some (a0, a1) | none => none)
  | _, _ => none
theorem d102_ok (a : List AV) (H : Heap) (p : P102) (h : d102 a H = some p) : a = A102 p ∧ H = [] := by
  unfold d102 at h
  split at h
  · skip
    split at h
    · rename_i q
      have q := dslD_ok q
      subst q
      cases h; exact ⟨rfl, rfl⟩
    · cases h
  · cases h
abbrev R102 := List ByteArray
def o102 (r : R102) : AEnd := .ret (.dsl 9 r)
def u102 (r : R102) : Heap := []
def n102 (_ : R102) : Nat := 0
def r102 (o : AEnd) (u : Heap) (n : Nat) : Option R102 := match o, u, n with
  | .ret ba0, [], 0 => (match (dslD 9 ba0 : Option (List ByteArray)) with | some a0 => some (a0) | none => none)
  | _, _, _ => none
theorem r102_ok (p : P102) (o : AEnd) (u : Heap) (n : Nat) (r : R102) (h : r102 o u n = some r) : o = o102 r ∧ u = u102 r ∧ n = n102 r := by
  unfold r102 at h
  split at h
  · skip
    split at h
    · rename_i q
      have q := dslD_ok q
      subst q
      cases h; exact ⟨rfl, rfl, rfl⟩
    · cases h
  · cases h
def f102 (k : Nat) (x0 : List ByteArray) (x1 : Int) : Option R102 :=
  br (decide (x1 < (0 : Int)))
   (some [])
   (br (decide (x1 ≥ (↑(List.length x0) : Int)))
    (some [])
    (br (decide ((0 : Int) ≤ Option.getD (Option.some x1) (0 : Int) ∧ Option.getD (Option.some x1) (0 : Int) ≤ Option.getD Option.none (↑(List.length x0) : Int) ∧ Option.getD Option.none (↑(List.length x0) : Int) ≤ (↑(List.length x0) : Int)))
     (bindO (f88 k (List.drop (Int.toNat x1) x0)) fun r2998 =>
      some r2998)
     (none)))
theorem f102_run (k : Nat) (x0 : List ByteArray) (x1 : Int) : cf19 k R102 102 (A102 (x0, x1)) [] 0 (endR planR (.ro 9) [] 0 r102) = f102 k x0 x1 := by kernel_rfl
def g102 (k : Nat) : CallS := entT d102 (fun p => f102 k p.1 p.2) (elAll _) (fun _ => o102) (fun _ => u102) (fun _ => n102)
theorem g102_ok (k : Nat) : CallSOk Try.prog 102 (g102 k) := entry_ok (Hp := fun _ => []) (oR := fun _ => o102) (uR := fun _ => u102) (nR := fun _ => n102) (cf19_ok k) d102_ok r102_ok (hel := elAll_ok) (fun p => f102_run k p.1 p.2)
def Dl20 (k : Nat) : Delta := dCons 102 (callAt plan [.rd 9, .any] (g102 k)) (Dl19 k)
def Lm20 (k : Nat) : FuncId → Nat → Option LamF := Lm19 k
theorem Dl20_ok (k : Nat) : DeltaOk Try.prog (Dl20 k) := dCons_ok (Dl19_ok k) (g102_ok k)
theorem Lm20_ok (k : Nat) : LamsOk Try.prog (Lm20 k) := Lm19_ok k
abbrev cf20 (k : Nat) : CallF := evF Try.prog (Dl20 k) (Lm20 k) 200 12
theorem cf20_ok (k : Nat) : CfOk Try.prog (cf20 k) := evF_ok noNum mixed (Dl20_ok k) (Lm20_ok k) 12
abbrev P121 := List (List ByteArray)
def A121 (p : P121) : List AV := [.dsl 39 p]
def d121 (a : List AV) (H : Heap) : Option P121 := match a, H with
  | [ba0], [] => (match (dslD 39 ba0 : Option (List (List ByteArray))) with | some a0 => some (a0) | none => none)
  | _, _ => none
theorem d121_ok (a : List AV) (H : Heap) (p : P121) (h : d121 a H = some p) : a = A121 p ∧ H = [] := by
  unfold d121 at h
  split at h
  · skip
    split at h
    · rename_i q
      have q := dslD_ok q
      subst q
      cases h; exact ⟨rfl, rfl⟩
    · cases h
  · cases h
abbrev R121 := List ByteArray
def o121 (r : R121) : AEnd := .ret (.dsl 9 r)
def u121 (r : R121) : Heap := []
def n121 (_ : R121) : Nat := 0
def r121 (o : AEnd) (u : Heap) (n : Nat) : Option R121 := match o, u, n with
  | .ret ba0, [], 0 => (match (dslD 9 ba0 : Option (List ByteArray)) with | some a0 => some (a0) | none => none)
  | _, _, _ => none
theorem r121_ok (p : P121) (o : AEnd) (u : Heap) (n : Nat) (r : R121) (h : r121 o u n = some r) : o = o121 r ∧ u = u121 r ∧ n = n121 r := by
  unfold r121 at h
  split at h
  · skip
    split at h
    · rename_i q
      have q := dslD_ok q
      subst q
      cases h; exact ⟨rfl, rfl, rfl⟩
    · cases h
  · cases h
structure S121_0 where
  mk ::
  x0 : List (List ByteArray)
  x3 : Int
  x9 : List (List ByteArray)
  x10 : Int
  x11 : Int
def VS121_0 (s : S121_0) : List AV := [.dsl 39 s.x0, .int .i64 s.x3, .dsl 39 s.x9, .int .i64 s.x10, .int .i64 s.x11]
def HS121_0 (s : S121_0) : Heap := []
def dS121_0 (vs : List AV) (H : Heap) : Option S121_0 := match vs, H with
  | [bx0, .int .i64 x3, bx9, .int .i64 x10, .int .i64 x11], [] => (match (dslD 39 bx0 : Option (List (List ByteArray))) with | some x0 => (match (dslD 39 bx9 : Option (List (List ByteArray))) with | some x9 => some (⟨x0, x3, x9, x10, x11⟩ : S121_0) | none => none) | none => none)
  | _, _ => none
theorem dS121_0_ok (vs : List AV) (H : Heap) (s : S121_0) (h : dS121_0 vs H = some s) : vs = VS121_0 s ∧ H = HS121_0 s := by
  unfold dS121_0 at h
  split at h
  · skip
    split at h
    · rename_i q
      have q := dslD_ok q
      subst q
      split at h
      · rename_i q
        have q := dslD_ok q
        subst q
        cases h; exact ⟨rfl, rfl⟩
      · cases h
    · cases h
  · cases h
def tS121_0 : AExit → List (Nat × Kd) := fun x => match x with
  | .normal => [(0, .rd 39), (3, .any), (9, .rd 39), (10, .any), (11, .any)]
  | .exit i => (match i with | 0 => [(0, .rd 39), (3, .any)] | _ => [])
  | .ret => [(2, .rd 9)]
  | _ => []
structure E121_0 where
  mk ::
  x0 : List (List ByteArray)
  x3 : Int
def VE121_0 (s : E121_0) : List AV := [.dsl 39 s.x0, .int .i64 s.x3]
def HE121_0 (s : E121_0) : Heap := []
def dE121_0 (x : AExit) (vs : List AV) (H : Heap) : Option E121_0 := match x, vs, H with
  | .exit 0, [bx0, .int .i64 x3], [] => (match (dslD 39 bx0 : Option (List (List ByteArray))) with | some x0 => some (⟨x0, x3⟩ : E121_0) | none => none)
  | _, _, _ => none
theorem dE121_0_ok (x : AExit) (vs : List AV) (H : Heap) (s : E121_0) (h : dE121_0 x vs H = some s) : x = .exit 0 ∧ vs = VE121_0 s ∧ H = HE121_0 s := by
  unfold dE121_0 at h
  split at h
  · skip
    split at h
    · rename_i q
      have q := dslD_ok q
      subst q
      cases h; exact ⟨rfl, rfl, rfl⟩
    · cases h
  · cases h
def xE121_0 (_ : E121_0) : AExit := .exit 0
def pS121_0 (k : Nat) (s : S121_0) : Option (S121_0 ⊕ E121_0) :=
  br (decide (S121_0.x11 s < S121_0.x10 s))
   (br (decide ((0 : Int) ≤ S121_0.x11 s ∧ S121_0.x11 s < (↑(List.length (S121_0.x9 s)) : Int)))
    (br (decide (IntKind.wrap IntKind.i64 (S121_0.x3 s + (↑(List.length (List.getD (S121_0.x9 s) (Int.toNat (S121_0.x11 s)) default)) : Int)) < (0 : Int)))
     (none)
     (some (Sum.inl (S121_0.mk (S121_0.x0 s) (IntKind.wrap IntKind.i64 (S121_0.x3 s + (↑(List.length (List.getD (S121_0.x9 s) (Int.toNat (S121_0.x11 s)) default)) : Int))) (S121_0.x9 s) (S121_0.x10 s) (IntKind.wrap IntKind.i64 (S121_0.x11 s + (1 : Int)))))))
    (none))
   (some (Sum.inr (E121_0.mk (S121_0.x0 s) (S121_0.x3 s))))
theorem pS121_0_run (k : Nat) (s : S121_0) : evC (S121_0 ⊕ E121_0) Try.prog (ntmpsAt Try.prog 121) (cf20 k) ((Lm20 k) 121) 200 (loopAt Try.prog 121 0) (zipE [(0, .rd 39), (3, .any), (9, .rd 39), (10, .any), (11, .any)] (VS121_0 s)) (HS121_0 s) (List.length (HS121_0 s)) (cutS plan 0 tS121_0 (rndT dS121_0 dE121_0)) = pS121_0 k s := by kernel_rfl
def l121_0 (k : Nat) (s : S121_0) : Option E121_0 := iterT (pS121_0 k) k s
def m121_0 (k : Nat) : LamS := lamT 0 dS121_0 (l121_0 k) (elAll _) tS121_0 xE121_0 VE121_0 HE121_0
theorem loop121_0 : isLoopAt Try.prog 121 0 = true := by kernel_rfl
theorem m121_0_ok (k : Nat) : LamSOk Try.prog (ntmpsAt Try.prog 121) 0 (.block 0 (.loop (loopAt Try.prog 121 0))) [(0, .rd 39), (3, .any), (9, .rd 39), (10, .any), (11, .any)] (m121_0 k) := lamT_ok (plan := plan) (kb := 0) (body_run noNum mixed (cf20_ok k) (Lm20_ok k) loop121_0) rfl dS121_0_ok dE121_0_ok (hel := elAll_ok) (pS121_0_run k) k
def Dl21 (k : Nat) : Delta := Dl20 k
def Lm21 (k : Nat) : FuncId → Nat → Option LamF := lCons 121 0 (lamBy plan [12, 13, 14, 5, 15, 16, 17, 18, 3, 19, 20, 21, 22, 11] [(0, .rd 39), (3, .any), (9, .rd 39), (10, .any), (11, .any)] 0 (m121_0 k)) (Lm20 k)
theorem Dl21_ok (k : Nat) : DeltaOk Try.prog (Dl21 k) := Dl20_ok k
theorem Lm21_ok (k : Nat) : LamsOk Try.prog (Lm21 k) := lCons_ok (Lm20_ok k) loop121_0 (lamBy_ok (m121_0_ok k) (by kernel_rfl))
abbrev cf21 (k : Nat) : CallF := evF Try.prog (Dl21 k) (Lm21 k) 200 12
theorem cf21_ok (k : Nat) : CfOk Try.prog (cf21 k) := evF_ok noNum mixed (Dl21_ok k) (Lm21_ok k) 12
structure S121_2 where
  mk ::
  x25 : List (List ByteArray)
  x26 : Int
  x27 : Int
  h0 : List ByteArray
def VS121_2 (s : S121_2) : List AV := [.slf 0, .dsl 39 s.x25, .int .i64 s.x26, .int .i64 s.x27]
def HS121_2 (s : S121_2) : Heap := [(0, some (.row 9 s.h0))]
def dS121_2 (vs : List AV) (H : Heap) : Option S121_2 := match vs, H with
  | [.slf 0, bx25, .int .i64 x26, .int .i64 x27], [(0, bh0)] => (match (dslD 39 bx25 : Option (List (List ByteArray))) with | some x25 => (match (rowD 9 bh0 : Option (List ByteArray)) with | some h0 => some (⟨x25, x26, x27, h0⟩ : S121_2) | none => none) | none => none)
  | _, _ => none
theorem dS121_2_ok (vs : List AV) (H : Heap) (s : S121_2) (h : dS121_2 vs H = some s) : vs = VS121_2 s ∧ H = HS121_2 s := by
  unfold dS121_2 at h
  split at h
  · skip
    split at h
    · rename_i q
      have q := dslD_ok q
      subst q
      split at h
      · rename_i q
        have q := rowD_ok q
        subst q
        cases h; exact ⟨rfl, rfl⟩
      · cases h
    · cases h
  · cases h
def tS121_2 : AExit → List (Nat × Kd) := fun x => match x with
  | .normal => [(6, .own 9), (25, .rd 39), (26, .any), (27, .any)]
  | .exit i => (match i with | 2 => [(6, .own 9)] | _ => [])
  | .ret => [(2, .rd 9)]
  | _ => []
structure E121_2 where
  mk ::
  h0 : List ByteArray
def VE121_2 (s : E121_2) : List AV := [.slf 0]
def HE121_2 (s : E121_2) : Heap := [(0, some (.row 9 s.h0))]
def dE121_2 (x : AExit) (vs : List AV) (H : Heap) : Option E121_2 := match x, vs, H with
  | .exit 2, [.slf 0], [(0, bh0)] => (match (rowD 9 bh0 : Option (List ByteArray)) with | some h0 => some (⟨h0⟩ : E121_2) | none => none)
  | _, _, _ => none
theorem dE121_2_ok (x : AExit) (vs : List AV) (H : Heap) (s : E121_2) (h : dE121_2 x vs H = some s) : x = .exit 2 ∧ vs = VE121_2 s ∧ H = HE121_2 s := by
  unfold dE121_2 at h
  split at h
  · skip
    split at h
    · rename_i q
      have q := rowD_ok q
      subst q
      cases h; exact ⟨rfl, rfl, rfl⟩
    · cases h
  · cases h
def xE121_2 (_ : E121_2) : AExit := .exit 2
def pS121_2 (k : Nat) (s : S121_2) : Option (S121_2 ⊕ E121_2) :=
  br (decide (S121_2.x27 s < S121_2.x26 s))
   (br (decide ((0 : Int) ≤ S121_2.x27 s ∧ S121_2.x27 s < (↑(List.length (S121_2.x25 s)) : Int)))
    (br (true && decide ((List.length (S121_2.h0 s) + List.length (List.getD (S121_2.x25 s) (Int.toNat (S121_2.x27 s)) default)) * (16 : Nat) ≤ (140737488355328 : Nat)))
     (some (Sum.inl (S121_2.mk (S121_2.x25 s) (S121_2.x26 s) (IntKind.wrap IntKind.i64 (S121_2.x27 s + (1 : Int))) (S121_2.h0 s ++ List.getD (S121_2.x25 s) (Int.toNat (S121_2.x27 s)) default))))
     (none))
    (none))
   (some (Sum.inr (E121_2.mk (S121_2.h0 s))))
theorem pS121_2_run (k : Nat) (s : S121_2) : evC (S121_2 ⊕ E121_2) Try.prog (ntmpsAt Try.prog 121) (cf21 k) ((Lm21 k) 121) 200 (loopAt Try.prog 121 2) (zipE [(6, .own 9), (25, .rd 39), (26, .any), (27, .any)] (VS121_2 s)) (HS121_2 s) (List.length (HS121_2 s)) (cutS plan 0 tS121_2 (rndT dS121_2 dE121_2)) = pS121_2 k s := by kernel_rfl
def l121_2 (k : Nat) (s : S121_2) : Option E121_2 := iterT (pS121_2 k) k s
def m121_2 (k : Nat) : LamS := lamT 2 dS121_2 (l121_2 k) (elAll _) tS121_2 xE121_2 VE121_2 HE121_2
theorem loop121_2 : isLoopAt Try.prog 121 2 = true := by kernel_rfl
theorem m121_2_ok (k : Nat) : LamSOk Try.prog (ntmpsAt Try.prog 121) 0 (.block 2 (.loop (loopAt Try.prog 121 2))) [(6, .own 9), (25, .rd 39), (26, .any), (27, .any)] (m121_2 k) := lamT_ok (plan := plan) (kb := 0) (body_run noNum mixed (cf21_ok k) (Lm21_ok k) loop121_2) rfl dS121_2_ok dE121_2_ok (hel := elAll_ok) (pS121_2_run k) k
def Dl22 (k : Nat) : Delta := Dl21 k
def Lm22 (k : Nat) : FuncId → Nat → Option LamF := lCons 121 2 (lamBy plan [28, 29, 30, 8, 31, 32, 33, 6, 34, 27] [(6, .own 9), (25, .rd 39), (26, .any), (27, .any)] 0 (m121_2 k)) (Lm21 k)
theorem Dl22_ok (k : Nat) : DeltaOk Try.prog (Dl22 k) := Dl21_ok k
theorem Lm22_ok (k : Nat) : LamsOk Try.prog (Lm22 k) := lCons_ok (Lm21_ok k) loop121_2 (lamBy_ok (m121_2_ok k) (by kernel_rfl))
abbrev cf22 (k : Nat) : CallF := evF Try.prog (Dl22 k) (Lm22 k) 200 12
theorem cf22_ok (k : Nat) : CfOk Try.prog (cf22 k) := evF_ok noNum mixed (Dl22_ok k) (Lm22_ok k) 12
def f121 (k : Nat) (x0 : List (List ByteArray)) : Option R121 :=
  bindO (l121_0 k (S121_0.mk x0 (0 : Int) x0 (↑(List.length x0) : Int) (0 : Int))) fun r3000 =>
   br (decide (E121_0.x3 r3000 < (0 : Int)))
    (none)
    (br (decide (IntKind.wrap IntKind.i64 (E121_0.x3 r3000 - (0 : Int)) > (0 : Int)))
     (br (decide ((0 : Int) ≤ IntKind.wrap IntKind.i64 (E121_0.x3 r3000 - (0 : Int)) ∧ IntKind.wrap IntKind.i64 (E121_0.x3 r3000 - (0 : Int)) * (16 : Int) ≤ (140737488355328 : Int) ∧ IntKind.wrap IntKind.i64 (E121_0.x3 r3000 - (0 : Int)) ≤ (140737488355328 : Int)))
      (bindO (l121_2 k (S121_2.mk (E121_0.x0 r3000) (↑(List.length (E121_0.x0 r3000)) : Int) (0 : Int) (List.take (0 : Nat) (List.replicate (Int.toNat (IntKind.wrap IntKind.i64 (E121_0.x3 r3000 - (0 : Int)))) (ByteArray.mk #[]))))) fun r2999 =>
       some (E121_2.h0 r2999))
      (none))
     (bindO (l121_2 k (S121_2.mk (E121_0.x0 r3000) (↑(List.length (E121_0.x0 r3000)) : Int) (0 : Int) [])) fun r2997 =>
      some (E121_2.h0 r2997)))
theorem f121_run (k : Nat) (x0 : List (List ByteArray)) : cf22 k R121 121 (A121 (x0)) [] 0 (endR planR (.ro 9) [] 0 r121) = f121 k x0 := by kernel_rfl
def g121 (k : Nat) : CallS := entT d121 (fun p => f121 k p) (elAll _) (fun _ => o121) (fun _ => u121) (fun _ => n121)
theorem g121_ok (k : Nat) : CallSOk Try.prog 121 (g121 k) := entry_ok (Hp := fun _ => []) (oR := fun _ => o121) (uR := fun _ => u121) (nR := fun _ => n121) (cf22_ok k) d121_ok r121_ok (hel := elAll_ok) (fun p => f121_run k p)
def Dl23 (k : Nat) : Delta := dCons 121 (callAt plan [.rd 39] (g121 k)) (Dl22 k)
def Lm23 (k : Nat) : FuncId → Nat → Option LamF := Lm22 k
theorem Dl23_ok (k : Nat) : DeltaOk Try.prog (Dl23 k) := dCons_ok (Dl22_ok k) (g121_ok k)
theorem Lm23_ok (k : Nat) : LamsOk Try.prog (Lm23 k) := Lm22_ok k
abbrev cf23 (k : Nat) : CallF := evF Try.prog (Dl23 k) (Lm23 k) 200 12
theorem cf23_ok (k : Nat) : CfOk Try.prog (cf23 k) := evF_ok noNum mixed (Dl23_ok k) (Lm23_ok k) 12
abbrev P103 := List ByteArray × Int × List ByteArray
def A103 (p : P103) : List AV := [.dsl 9 p.1, .int .i64 p.2.1, .dsl 9 p.2.2]
def d103 (a : List AV) (H : Heap) : Option P103 := match a, H with
  | [ba0, .int .i64 a1, ba2], [] => (match (dslD 9 ba0 : Option (List ByteArray)) with | some a0 => (match (dslD 9 ba2 : Option (List ByteArray)) with | some a2 => some (a0, a1, a2) | none => none) | none => none)
  | _, _ => none
theorem d103_ok (a : List AV) (H : Heap) (p : P103) (h : d103 a H = some p) : a = A103 p ∧ H = [] := by
  unfold d103 at h
  split at h
  · skip
    split at h
    · rename_i q
      have q := dslD_ok q
      subst q
      split at h
      · rename_i q
        have q := dslD_ok q
        subst q
        cases h; exact ⟨rfl, rfl⟩
      · cases h
    · cases h
  · cases h
abbrev R103 := List ByteArray × Bool
def o103 (r : R103) : AEnd := .ret (.tup [.dsl 9 r.1, .bool r.2])
def u103 (r : R103) : Heap := []
def n103 (_ : R103) : Nat := 0
def r103 (o : AEnd) (u : Heap) (n : Nat) : Option R103 := match o, u, n with
  | .ret (.tup [ba0, .bool a1]), [], 0 => (match (dslD 9 ba0 : Option (List ByteArray)) with | some a0 => some (a0, a1) | none => none)
  | _, _, _ => none
theorem r103_ok (p : P103) (o : AEnd) (u : Heap) (n : Nat) (r : R103) (h : r103 o u n = some r) : o = o103 r ∧ u = u103 r ∧ n = n103 r := by
  unfold r103 at h
  split at h
  · skip
    split at h
    · rename_i q
      have q := dslD_ok q
      subst q
      cases h; exact ⟨rfl, rfl, rfl⟩
    · cases h
  · cases h
def f103 (k : Nat) (x0 : List ByteArray) (x1 : Int) (x2 : List ByteArray) : Option R103 :=
  br (decide (x1 < (0 : Int)))
   (bindO (f88 k x0) fun r3000 =>
    some (r3000, false))
   (br (decide (x1 > (↑(List.length x0) : Int)))
    (bindO (f88 k x0) fun r2998 =>
     some (r2998, false))
    (br (decide ((0 : Int) ≤ (0 : Int) ∧ (0 : Int) ≤ Option.getD (Option.some x1) (↑(List.length x0) : Int) ∧ Option.getD (Option.some x1) (↑(List.length x0) : Int) ≤ (↑(List.length x0) : Int)))
     (bindO (f121 k [List.take (Int.toNat x1) x0, x2]) fun r2996 =>
      some (r2996, true))
     (none)))
theorem f103_run (k : Nat) (x0 : List ByteArray) (x1 : Int) (x2 : List ByteArray) : cf23 k R103 103 (A103 (x0, x1, x2)) [] 0 (endR planR (.agg [.ro 9, .any]) [] 0 r103) = f103 k x0 x1 x2 := by kernel_rfl
def g103 (k : Nat) : CallS := entT d103 (fun p => f103 k p.1 p.2.1 p.2.2) (elAll _) (fun _ => o103) (fun _ => u103) (fun _ => n103)
theorem g103_ok (k : Nat) : CallSOk Try.prog 103 (g103 k) := entry_ok (Hp := fun _ => []) (oR := fun _ => o103) (uR := fun _ => u103) (nR := fun _ => n103) (cf23_ok k) d103_ok r103_ok (hel := elAll_ok) (fun p => f103_run k p.1 p.2.1 p.2.2)
def Dl24 (k : Nat) : Delta := dCons 103 (callAt plan [.rd 9, .any, .rd 9] (g103 k)) (Dl23 k)
def Lm24 (k : Nat) : FuncId → Nat → Option LamF := Lm23 k
theorem Dl24_ok (k : Nat) : DeltaOk Try.prog (Dl24 k) := dCons_ok (Dl23_ok k) (g103_ok k)
theorem Lm24_ok (k : Nat) : LamsOk Try.prog (Lm24 k) := Lm23_ok k
abbrev cf24 (k : Nat) : CallF := evF Try.prog (Dl24 k) (Lm24 k) 200 12
theorem cf24_ok (k : Nat) : CfOk Try.prog (cf24 k) := evF_ok noNum mixed (Dl24_ok k) (Lm24_ok k) 12
abbrev P131 := GVote
def A131 (p : P131) : List AV := [.agg [.int .i64 p.src, .int .i64 p.last, .int .i64 p.commit, .dsl 9 p.rows]]
def d131 (a : List AV) (H : Heap) : Option P131 := match a, H with
  | [.agg [.int .i64 a0, .int .i64 a1, .int .i64 a2, ba3]], [] => (match (dslD 9 ba3 : Option (List ByteArray)) with | some a3 => some ((⟨a0, a1, a2, a3⟩ : GVote)) | none => none)
  | _, _ => none
theorem d131_ok (a : List AV) (H : Heap) (p : P131) (h : d131 a H = some p) : a = A131 p ∧ H = [] := by
  unfold d131 at h
  split at h
  · skip
    split at h
    · rename_i q
      have q := dslD_ok q
      subst q
      cases h; exact ⟨rfl, rfl⟩
    · cases h
  · cases h
abbrev R131 := Int
def o131 (r : R131) : AEnd := .ret (.int .i64 r)
def u131 (r : R131) : Heap := []
def n131 (_ : R131) : Nat := 0
def r131 (o : AEnd) (u : Heap) (n : Nat) : Option R131 := match o, u, n with
  | .ret (.int .i64 a0), [], 0 => some (a0)
  | _, _, _ => none
theorem r131_ok (p : P131) (o : AEnd) (u : Heap) (n : Nat) (r : R131) (h : r131 o u n = some r) : o = o131 r ∧ u = u131 r ∧ n = n131 r := by
  unfold r131 at h
  split at h
  · skip
    cases h; exact ⟨rfl, rfl, rfl⟩
  · cases h
def f131 (k : Nat) (x0 : GVote) : Option R131 :=
  some (↑(List.length (GVote.rows x0)) : Int)
theorem f131_run (k : Nat) (x0 : GVote) : cf24 k R131 131 (A131 (x0)) [] 0 (endR planR (.any) [] 0 r131) = f131 k x0 := by kernel_rfl
def g131 (k : Nat) : CallS := entT d131 (fun p => f131 k p) (elAll _) (fun _ => o131) (fun _ => u131) (fun _ => n131)
theorem g131_ok (k : Nat) : CallSOk Try.prog 131 (g131 k) := entry_ok (Hp := fun _ => []) (oR := fun _ => o131) (uR := fun _ => u131) (nR := fun _ => n131) (cf24_ok k) d131_ok r131_ok (hel := elAll_ok) (fun p => f131_run k p)
def Dl25 (k : Nat) : Delta := dCons 131 (callAt plan [.agg [.any, .any, .any, .rd 9]] (g131 k)) (Dl24 k)
def Lm25 (k : Nat) : FuncId → Nat → Option LamF := Lm24 k
theorem Dl25_ok (k : Nat) : DeltaOk Try.prog (Dl25 k) := dCons_ok (Dl24_ok k) (g131_ok k)
theorem Lm25_ok (k : Nat) : LamsOk Try.prog (Lm25 k) := Lm24_ok k
abbrev cf25 (k : Nat) : CallF := evF Try.prog (Dl25 k) (Lm25 k) 200 12
theorem cf25_ok (k : Nat) : CfOk Try.prog (cf25 k) := evF_ok noNum mixed (Dl25_ok k) (Lm25_ok k) 12
abbrev P123 := GCandidate × GVote
def A123 (p : P123) : List AV := [.agg [.int .i64 p.1.vote.src, .int .i64 p.1.vote.last, .int .i64 p.1.vote.commit, .dsl 9 p.1.vote.rows, .bool p.1.any], .agg [.int .i64 p.2.src, .int .i64 p.2.last, .int .i64 p.2.commit, .dsl 9 p.2.rows]]
def d123 (a : List AV) (H : Heap) : Option P123 := match a, H with
  | [.agg [.int .i64 a0, .int .i64 a1, .int .i64 a2, ba3, .bool a4], .agg [.int .i64 a5, .int .i64 a6, .int .i64 a7, ba8]], [] => (match (dslD 9 ba3 : Option (List ByteArray)) with | some a3 => (match (dslD 9 ba8 : Option (List ByteArray)) with | some a8 => some ((⟨⟨a0, a1, a2, a3⟩, a4⟩ : GCandidate), (⟨a5, a6, a7, a8⟩ : GVote)) | none => none) | none => none)
  | _, _ => none
theorem d123_ok (a : List AV) (H : Heap) (p : P123) (h : d123 a H = some p) : a = A123 p ∧ H = [] := by
  unfold d123 at h
  split at h
  · skip
    split at h
    · rename_i q
      have q := dslD_ok q
      subst q
      split at h
      · rename_i q
        have q := dslD_ok q
        subst q
        cases h; exact ⟨rfl, rfl⟩
      · cases h
    · cases h
  · cases h
abbrev R123 := GCandidate
def o123 (r : R123) : AEnd := .ret (.agg [.int .i64 r.vote.src, .int .i64 r.vote.last, .int .i64 r.vote.commit, .dsl 9 r.vote.rows, .bool r.any])
def u123 (r : R123) : Heap := []
def n123 (_ : R123) : Nat := 0
def r123 (o : AEnd) (u : Heap) (n : Nat) : Option R123 := match o, u, n with
  | .ret (.agg [.int .i64 a0, .int .i64 a1, .int .i64 a2, ba3, .bool a4]), [], 0 => (match (dslD 9 ba3 : Option (List ByteArray)) with | some a3 => some ((⟨⟨a0, a1, a2, a3⟩, a4⟩ : GCandidate)) | none => none)
  | _, _, _ => none
theorem r123_ok (p : P123) (o : AEnd) (u : Heap) (n : Nat) (r : R123) (h : r123 o u n = some r) : o = o123 r ∧ u = u123 r ∧ n = n123 r := by
  unfold r123 at h
  split at h
  · skip
    split at h
    · rename_i q
      have q := dslD_ok q
      subst q
      cases h; exact ⟨rfl, rfl, rfl⟩
    · cases h
  · cases h
def f123 (k : Nat) (x0 : GCandidate) (x1 : GVote) : Option R123 :=
  br (GCandidate.any x0)
   (br (decide (GVote.last x1 < GVote.last (GCandidate.vote x0)))
    (some x0)
    (br (GVote.last x1 == GVote.last (GCandidate.vote x0))
     (bindO (f131 k x1) fun r2999 =>
      bindO (f131 k (GCandidate.vote x0)) fun r2998 =>
       br (decide (r2999 ≤ r2998))
        (some x0)
        (some (GCandidate.mk x1 true)))
     (some (GCandidate.mk x1 true))))
   (some (GCandidate.mk x1 true))
theorem f123_run (k : Nat) (x0 : GCandidate) (x1 : GVote) : cf25 k R123 123 (A123 (x0, x1)) [] 0 (endR planR (.agg [.any, .any, .any, .ro 9, .any]) [] 0 r123) = f123 k x0 x1 := by kernel_rfl
def g123 (k : Nat) : CallS := entT d123 (fun p => f123 k p.1 p.2) (elAll _) (fun _ => o123) (fun _ => u123) (fun _ => n123)
theorem g123_ok (k : Nat) : CallSOk Try.prog 123 (g123 k) := entry_ok (Hp := fun _ => []) (oR := fun _ => o123) (uR := fun _ => u123) (nR := fun _ => n123) (cf25_ok k) d123_ok r123_ok (hel := elAll_ok) (fun p => f123_run k p.1 p.2)
def Dl26 (k : Nat) : Delta := dCons 123 (callAt plan [.agg [.any, .any, .any, .rd 9, .any], .agg [.any, .any, .any, .rd 9]] (g123 k)) (Dl25 k)
def Lm26 (k : Nat) : FuncId → Nat → Option LamF := Lm25 k
theorem Dl26_ok (k : Nat) : DeltaOk Try.prog (Dl26 k) := dCons_ok (Dl25_ok k) (g123_ok k)
theorem Lm26_ok (k : Nat) : LamsOk Try.prog (Lm26 k) := Lm25_ok k
abbrev cf26 (k : Nat) : CallF := evF Try.prog (Dl26 k) (Lm26 k) 200 12
theorem cf26_ok (k : Nat) : CfOk Try.prog (cf26 k) := evF_ok noNum mixed (Dl26_ok k) (Lm26_ok k) 12
abbrev P108 := List GVote
def A108 (p : P108) : List AV := [.dsl 89 p]
def d108 (a : List AV) (H : Heap) : Option P108 := match a, H with
  | [ba0], [] => (match (dslD 89 ba0 : Option (List GVote)) with | some a0 => some (a0) | none => none)
  | _, _ => none
theorem d108_ok (a : List AV) (H : Heap) (p : P108) (h : d108 a H = some p) : a = A108 p ∧ H = [] := by
  unfold d108 at h
  split at h
  · skip
    split at h
    · rename_i q
      have q := dslD_ok q
      subst q
      cases h; exact ⟨rfl, rfl⟩
    · cases h
  · cases h
abbrev R108 := GVote × Bool
def o108 (r : R108) : AEnd := .ret (.tup [.agg [.int .i64 r.1.src, .int .i64 r.1.last, .int .i64 r.1.commit, .dsl 9 r.1.rows], .bool r.2])
def u108 (r : R108) : Heap := []
def n108 (_ : R108) : Nat := 0
def r108 (o : AEnd) (u : Heap) (n : Nat) : Option R108 := match o, u, n with
  | .ret (.tup [.agg [.int .i64 a0, .int .i64 a1, .int .i64 a2, ba3], .bool a4]), [], 0 => (match (dslD 9 ba3 : Option (List ByteArray)) with | some a3 => some ((⟨a0, a1, a2, a3⟩ : GVote), a4) | none => none)
  | _, _, _ => none
theorem r108_ok (p : P108) (o : AEnd) (u : Heap) (n : Nat) (r : R108) (h : r108 o u n = some r) : o = o108 r ∧ u = u108 r ∧ n = n108 r := by
  unfold r108 at h
  split at h
  · skip
    split at h
    · rename_i q
      have q := dslD_ok q
      subst q
      cases h; exact ⟨rfl, rfl, rfl⟩
    · cases h
  · cases h
structure S108_0 where
  mk ::
  x7 : List GVote
  x8 : Int
  x9 : Int
  h0_0 : Int
  h0_1 : Int
  h0_2 : Int
  h0_3 : List ByteArray
  h1_0 : Int
  h1_1 : Int
  h1_2 : Int
  h1_3 : List ByteArray
  h1_4 : Bool
def VS108_0 (s : S108_0) : List AV := [.ptr 0 0 0, .ptr 1 0 0, .dsl 89 s.x7, .int .i64 s.x8, .int .i64 s.x9]
def HS108_0 (s : S108_0) : Heap := [(0, some (.box 89 [.int .i64 s.h0_0, .int .i64 s.h0_1, .int .i64 s.h0_2, .dsl 9 s.h0_3])), (1, some (.box 138 [.int .i64 s.h1_0, .int .i64 s.h1_1, .int .i64 s.h1_2, .dsl 9 s.h1_3, .bool s.h1_4]))]
def dS108_0 (vs : List AV) (H : Heap) : Option S108_0 := match vs, H with
  | [.ptr 0 0 0, .ptr 1 0 0, bx7, .int .i64 x8, .int .i64 x9], [(0, some (.box 89 [.int .i64 h0_0, .int .i64 h0_1, .int .i64 h0_2, bh0_3])), (1, some (.box 138 [.int .i64 h1_0, .int .i64 h1_1, .int .i64 h1_2, bh1_3, .bool h1_4]))] => (match (dslD 89 bx7 : Option (List GVote)) with | some x7 => (match (dslD 9 bh0_3 : Option (List ByteArray)) with | some h0_3 => (match (dslD 9 bh1_3 : Option (List ByteArray)) with | some h1_3 => some (⟨x7, x8, x9, h0_0, h0_1, h0_2, h0_3, h1_0, h1_1, h1_2, h1_3, h1_4⟩ : S108_0) | none => none) | none => none) | none => none)
  | _, _ => none
theorem dS108_0_ok (vs : List AV) (H : Heap) (s : S108_0) (h : dS108_0 vs H = some s) : vs = VS108_0 s ∧ H = HS108_0 s := by
  unfold dS108_0 at h
  split at h
  · skip
    split at h
    · rename_i q
      have q := dslD_ok q
      subst q
      split at h
      · rename_i q
        have q := dslD_ok q
        subst q
        split at h
        · rename_i q
          have q := dslD_ok q
          subst q
          cases h; exact ⟨rfl, rfl⟩
        · cases h
      · cases h
    · cases h
  · cases h
def tS108_0 : AExit → List (Nat × Kd) := fun x => match x with
  | .normal => [(2, .any), (4, .any), (7, .rd 89), (8, .any), (9, .any)]
  | .exit i => (match i with | 0 => [(2, .any), (4, .any)] | _ => [])
  | .ret => [(2, .any), (3, .any)]
  | _ => []
structure E108_0 where
  mk ::
  h0_0 : Int
  h0_1 : Int
  h0_2 : Int
  h0_3 : List ByteArray
  h1_0 : Int
  h1_1 : Int
  h1_2 : Int
  h1_3 : List ByteArray
  h1_4 : Bool
def VE108_0 (s : E108_0) : List AV := [.ptr 0 0 0, .ptr 1 0 0]
def HE108_0 (s : E108_0) : Heap := [(0, some (.box 89 [.int .i64 s.h0_0, .int .i64 s.h0_1, .int .i64 s.h0_2, .dsl 9 s.h0_3])), (1, some (.box 138 [.int .i64 s.h1_0, .int .i64 s.h1_1, .int .i64 s.h1_2, .dsl 9 s.h1_3, .bool s.h1_4]))]
def dE108_0 (x : AExit) (vs : List AV) (H : Heap) : Option E108_0 := match x, vs, H with
  | .exit 0, [.ptr 0 0 0, .ptr 1 0 0], [(0, some (.box 89 [.int .i64 h0_0, .int .i64 h0_1, .int .i64 h0_2, bh0_3])), (1, some (.box 138 [.int .i64 h1_0, .int .i64 h1_1, .int .i64 h1_2, bh1_3, .bool h1_4]))] => (match (dslD 9 bh0_3 : Option (List ByteArray)) with | some h0_3 => (match (dslD 9 bh1_3 : Option (List ByteArray)) with | some h1_3 => some (⟨h0_0, h0_1, h0_2, h0_3, h1_0, h1_1, h1_2, h1_3, h1_4⟩ : E108_0) | none => none) | none => none)
  | _, _, _ => none
theorem dE108_0_ok (x : AExit) (vs : List AV) (H : Heap) (s : E108_0) (h : dE108_0 x vs H = some s) : x = .exit 0 ∧ vs = VE108_0 s ∧ H = HE108_0 s := by
  unfold dE108_0 at h
  split at h
  · skip
    split at h
    · rename_i q
      have q := dslD_ok q
      subst q
      split at h
      · rename_i q
        have q := dslD_ok q
        subst q
        cases h; exact ⟨rfl, rfl, rfl⟩
      · cases h
    · cases h
  · cases h
def xE108_0 (_ : E108_0) : AExit := .exit 0
def pS108_0 (k : Nat) (s : S108_0) : Option (S108_0 ⊕ E108_0) :=
  br (decide (S108_0.x9 s < S108_0.x8 s))
   (br (decide ((0 : Int) ≤ S108_0.x9 s ∧ S108_0.x9 s < (↑(List.length (S108_0.x7 s)) : Int)))
    (bindO (f123 k (GCandidate.mk (GVote.mk (S108_0.h1_0 s) (S108_0.h1_1 s) (S108_0.h1_2 s) (S108_0.h1_3 s)) (S108_0.h1_4 s)) (List.getD (S108_0.x7 s) (Int.toNat (S108_0.x9 s)) default)) fun r1500 =>
     some (Sum.inl (S108_0.mk (S108_0.x7 s) (S108_0.x8 s) (IntKind.wrap IntKind.i64 (S108_0.x9 s + (1 : Int))) (S108_0.h0_0 s) (S108_0.h0_1 s) (S108_0.h0_2 s) (S108_0.h0_3 s) (GVote.src (GCandidate.vote r1500)) (GVote.last (GCandidate.vote r1500)) (GVote.commit (GCandidate.vote r1500)) (GVote.rows (GCandidate.vote r1500)) (GCandidate.any r1500))))
    (none))
   (some (Sum.inr (E108_0.mk (S108_0.h0_0 s) (S108_0.h0_1 s) (S108_0.h0_2 s) (S108_0.h0_3 s) (S108_0.h1_0 s) (S108_0.h1_1 s) (S108_0.h1_2 s) (S108_0.h1_3 s) (S108_0.h1_4 s))))
theorem pS108_0_run (k : Nat) (s : S108_0) : evC (S108_0 ⊕ E108_0) Try.prog (ntmpsAt Try.prog 108) (cf26 k) ((Lm26 k) 108) 200 (loopAt Try.prog 108 0) (zipE [(2, .any), (4, .any), (7, .rd 89), (8, .any), (9, .any)] (VS108_0 s)) (HS108_0 s) (List.length (HS108_0 s)) (cutS plan 2 tS108_0 (rndT dS108_0 dE108_0)) = pS108_0 k s := by kernel_rfl
def l108_0 (k : Nat) (s : S108_0) : Option E108_0 := iterT (pS108_0 k) k s
def m108_0 (k : Nat) : LamS := lamT 0 dS108_0 (l108_0 k) (elAll _) tS108_0 xE108_0 VE108_0 HE108_0
theorem loop108_0 : isLoopAt Try.prog 108 0 = true := by kernel_rfl
theorem m108_0_ok (k : Nat) : LamSOk Try.prog (ntmpsAt Try.prog 108) 2 (.block 0 (.loop (loopAt Try.prog 108 0))) [(2, .any), (4, .any), (7, .rd 89), (8, .any), (9, .any)] (m108_0 k) := lamT_ok (plan := plan) (kb := 2) (body_run noNum mixed (cf26_ok k) (Lm26_ok k) loop108_0) rfl dS108_0_ok dE108_0_ok (hel := elAll_ok) (pS108_0_run k) k
def Dl27 (k : Nat) : Delta := Dl26 k
def Lm27 (k : Nat) : FuncId → Nat → Option LamF := lCons 108 0 (lamBy plan [10, 11, 12, 6, 13, 14, 15, 16, 17, 9] [(2, .any), (4, .any), (7, .rd 89), (8, .any), (9, .any)] 2 (m108_0 k)) (Lm26 k)
theorem Dl27_ok (k : Nat) : DeltaOk Try.prog (Dl27 k) := Dl26_ok k
theorem Lm27_ok (k : Nat) : LamsOk Try.prog (Lm27 k) := lCons_ok (Lm26_ok k) loop108_0 (lamBy_ok (m108_0_ok k) (by kernel_rfl))
abbrev cf27 (k : Nat) : CallF := evF Try.prog (Dl27 k) (Lm27 k) 200 12
theorem cf27_ok (k : Nat) : CfOk Try.prog (cf27 k) := evF_ok noNum mixed (Dl27_ok k) (Lm27_ok k) 12
def f108 (k : Nat) (x0 : List GVote) : Option R108 :=
  bindO (l108_0 k (S108_0.mk x0 (↑(List.length x0) : Int) (0 : Int) (0 : Int) (0 : Int) (0 : Int) [] (0 : Int) (0 : Int) (0 : Int) [] false)) fun r3000 =>
   bindO (f116 k (GVote.mk (E108_0.h1_0 r3000) (E108_0.h1_1 r3000) (E108_0.h1_2 r3000) (E108_0.h1_3 r3000))) fun r2999 =>
    some (r2999, E108_0.h1_4 r3000)
theorem f108_run (k : Nat) (x0 : List GVote) : cf27 k R108 108 (A108 (x0)) [] 0 (endR planR (.agg [.agg [.any, .any, .any, .ro 9], .any]) [] 0 r108) = f108 k x0 := by kernel_rfl
def g108 (k : Nat) : CallS := entT d108 (fun p => f108 k p) (elAll _) (fun _ => o108) (fun _ => u108) (fun _ => n108)
theorem g108_ok (k : Nat) : CallSOk Try.prog 108 (g108 k) := entry_ok (Hp := fun _ => []) (oR := fun _ => o108) (uR := fun _ => u108) (nR := fun _ => n108) (cf27_ok k) d108_ok r108_ok (hel := elAll_ok) (fun p => f108_run k p)
def Dl28 (k : Nat) : Delta := dCons 108 (callAt plan [.rd 89] (g108 k)) (Dl27 k)
def Lm28 (k : Nat) : FuncId → Nat → Option LamF := Lm27 k
theorem Dl28_ok (k : Nat) : DeltaOk Try.prog (Dl28 k) := dCons_ok (Dl27_ok k) (g108_ok k)
theorem Lm28_ok (k : Nat) : LamsOk Try.prog (Lm28 k) := Lm27_ok k
abbrev cf28 (k : Nat) : CallF := evF Try.prog (Dl28 k) (Lm28 k) 200 12
theorem cf28_ok (k : Nat) : CfOk Try.prog (cf28 k) := evF_ok noNum mixed (Dl28_ok k) (Lm28_ok k) 12
abbrev P107 := Int × List Int
def A107 (p : P107) : List AV := [.int .i64 p.1, .dsl 3 p.2]
def d107 (a : List AV) (H : Heap) : Option P107 := match a, H with
  | [.int .i64 a0, ba1], [] => (match (dslD 3 ba1 : Option (List Int)) with | some a1 => some (a0, a1) | none => none)
  | _, _ => none
theorem d107_ok (a : List AV) (H : Heap) (p : P107) (h : d107 a H = some p) : a = A107 p ∧ H = [] := by
  unfold d107 at h
  split at h
  · skip
    split at h
    · rename_i q
      have q := dslD_ok q
      subst q
      cases h; exact ⟨rfl, rfl⟩
    · cases h
  · cases h
abbrev R107 := Int
def o107 (r : R107) : AEnd := .ret (.int .i64 r)
def u107 (r : R107) : Heap := []
def n107 (_ : R107) : Nat := 0
def r107 (o : AEnd) (u : Heap) (n : Nat) : Option R107 := match o, u, n with
  | .ret (.int .i64 a0), [], 0 => some (a0)
  | _, _, _ => none
theorem r107_ok (p : P107) (o : AEnd) (u : Heap) (n : Nat) (r : R107) (h : r107 o u n = some r) : o = o107 r ∧ u = u107 r ∧ n = n107 r := by
  unfold r107 at h
  split at h
  · skip
    cases h; exact ⟨rfl, rfl, rfl⟩
  · cases h
def f107 (k : Nat) (x0 : Int) (x1 : List Int) : Option R107 :=
  bindO (f119 k x0) fun r3000 =>
   br (!Prod.snd r3000)
    (some (0 : Int))
    (br (decide ((↑(List.length x1) : Int) < Prod.fst r3000))
     (some (0 : Int))
     (bindO (f89 k x1) fun r2997 =>
      bindO (fSort r2997) fun r2996 =>
       br (decide ((0 : Int) ≤ IntKind.wrap IntKind.i64 ((↑(List.length r2996) : Int) - Prod.fst r3000) ∧ IntKind.wrap IntKind.i64 ((↑(List.length r2996) : Int) - Prod.fst r3000) < (↑(List.length r2996) : Int)))
        (br (decide (Int.toNat (IntKind.wrap IntKind.i64 ((↑(List.length r2996) : Int) - Prod.fst r3000)) < List.length r2996))
         (some (Go.Eng.max2 (List.getD r2996 (Int.toNat (IntKind.wrap IntKind.i64 ((↑(List.length r2996) : Int) - Prod.fst r3000))) (0 : Int)) (0 : Int)))
         (none))
        (none)))
theorem f107_run (k : Nat) (x0 : Int) (x1 : List Int) : cf28 k R107 107 (A107 (x0, x1)) [] 0 (endR planR (.any) [] 0 r107) = f107 k x0 x1 := by kernel_rfl
def g107 (k : Nat) : CallS := entT d107 (fun p => f107 k p.1 p.2) (elAll _) (fun _ => o107) (fun _ => u107) (fun _ => n107)
theorem g107_ok (k : Nat) : CallSOk Try.prog 107 (g107 k) := entry_ok (Hp := fun _ => []) (oR := fun _ => o107) (uR := fun _ => u107) (nR := fun _ => n107) (cf28_ok k) d107_ok r107_ok (hel := elAll_ok) (fun p => f107_run k p.1 p.2)
def Dl29 (k : Nat) : Delta := dCons 107 (callAt plan [.any, .rd 3] (g107 k)) (Dl28 k)
def Lm29 (k : Nat) : FuncId → Nat → Option LamF := Lm28 k
theorem Dl29_ok (k : Nat) : DeltaOk Try.prog (Dl29 k) := dCons_ok (Dl28_ok k) (g107_ok k)
theorem Lm29_ok (k : Nat) : LamsOk Try.prog (Lm29 k) := Lm28_ok k
abbrev cf29 (k : Nat) : CallF := evF Try.prog (Dl29 k) (Lm29 k) 200 12
theorem cf29_ok (k : Nat) : CfOk Try.prog (cf29 k) := evF_ok noNum mixed (Dl29_ok k) (Lm29_ok k) 12
abbrev P68 := Int × Int
def A68 (p : P68) : List AV := [.int .i64 p.1, .int .i64 p.2]
def d68 (a : List AV) (H : Heap) : Option P68 := match a, H with
  | [.int .i64 a0, .int .i64 a1], [] => some (a0, a1)
  | _, _ => none
theorem d68_ok (a : List AV) (H : Heap) (p : P68) (h : d68 a H = some p) : a = A68 p ∧ H = [] := by
  unfold d68 at h
  split at h
  · skip
    cases h; exact ⟨rfl, rfl⟩
  · cases h
abbrev R68 := Bool
def o68 (r : R68) : AEnd := .ret (.bool r)
def u68 (r : R68) : Heap := []
def n68 (_ : R68) : Nat := 0
def r68 (o : AEnd) (u : Heap) (n : Nat) : Option R68 := match o, u, n with
  | .ret (.bool a0), [], 0 => some (a0)
  | _, _, _ => none
theorem r68_ok (p : P68) (o : AEnd) (u : Heap) (n : Nat) (r : R68) (h : r68 o u n = some r) : o = o68 r ∧ u = u68 r ∧ n = n68 r := by
  unfold r68 at h
  split at h
  · skip
    cases h; exact ⟨rfl, rfl, rfl⟩
  · cases h
def f68 (k : Nat) (x0 : Int) (x1 : Int) : Option R68 :=
  br (decide (x0 ≥ (0 : Int)))
   (some (decide (x0 ≤ x1)))
   (some false)
theorem f68_run (k : Nat) (x0 : Int) (x1 : Int) : cf29 k R68 68 (A68 (x0, x1)) [] 0 (endR planR (.any) [] 0 r68) = f68 k x0 x1 := by kernel_rfl
def g68 (k : Nat) : CallS := entT d68 (fun p => f68 k p.1 p.2) (elAll _) (fun _ => o68) (fun _ => u68) (fun _ => n68)
theorem g68_ok (k : Nat) : CallSOk Try.prog 68 (g68 k) := entry_ok (Hp := fun _ => []) (oR := fun _ => o68) (uR := fun _ => u68) (nR := fun _ => n68) (cf29_ok k) d68_ok r68_ok (hel := elAll_ok) (fun p => f68_run k p.1 p.2)
def Dl30 (k : Nat) : Delta := dCons 68 (callAt plan [.any, .any] (g68 k)) (Dl29 k)
def Lm30 (k : Nat) : FuncId → Nat → Option LamF := Lm29 k
theorem Dl30_ok (k : Nat) : DeltaOk Try.prog (Dl30 k) := dCons_ok (Dl29_ok k) (g68_ok k)
theorem Lm30_ok (k : Nat) : LamsOk Try.prog (Lm30 k) := Lm29_ok k
abbrev cf30 (k : Nat) : CallF := evF Try.prog (Dl30 k) (Lm30 k) 200 12
theorem cf30_ok (k : Nat) : CfOk Try.prog (cf30 k) := evF_ok noNum mixed (Dl30_ok k) (Lm30_ok k) 12
abbrev P62 := Int
def A62 (p : P62) : List AV := [.int .i64 p]
def d62 (a : List AV) (H : Heap) : Option P62 := match a, H with
  | [.int .i64 a0], [] => some (a0)
  | _, _ => none
theorem d62_ok (a : List AV) (H : Heap) (p : P62) (h : d62 a H = some p) : a = A62 p ∧ H = [] := by
  unfold d62 at h
  split at h
  · skip
    cases h; exact ⟨rfl, rfl⟩
  · cases h
abbrev R62 := Bool
def o62 (r : R62) : AEnd := .ret (.bool r)
def u62 (r : R62) : Heap := []
def n62 (_ : R62) : Nat := 0
def r62 (o : AEnd) (u : Heap) (n : Nat) : Option R62 := match o, u, n with
  | .ret (.bool a0), [], 0 => some (a0)
  | _, _, _ => none
theorem r62_ok (p : P62) (o : AEnd) (u : Heap) (n : Nat) (r : R62) (h : r62 o u n = some r) : o = o62 r ∧ u = u62 r ∧ n = n62 r := by
  unfold r62 at h
  split at h
  · skip
    cases h; exact ⟨rfl, rfl, rfl⟩
  · cases h
def f62 (k : Nat) (x0 : Int) : Option R62 :=
  br (x0 == (1 : Int))
   (some true)
   (br (x0 == (3 : Int))
    (some true)
    (br (x0 == (5 : Int))
     (some true)
     (some (x0 == (7 : Int)))))
theorem f62_run (k : Nat) (x0 : Int) : cf30 k R62 62 (A62 (x0)) [] 0 (endR planR (.any) [] 0 r62) = f62 k x0 := by kernel_rfl
def g62 (k : Nat) : CallS := entT d62 (fun p => f62 k p) (elAll _) (fun _ => o62) (fun _ => u62) (fun _ => n62)
theorem g62_ok (k : Nat) : CallSOk Try.prog 62 (g62 k) := entry_ok (Hp := fun _ => []) (oR := fun _ => o62) (uR := fun _ => u62) (nR := fun _ => n62) (cf30_ok k) d62_ok r62_ok (hel := elAll_ok) (fun p => f62_run k p)
def Dl31 (k : Nat) : Delta := dCons 62 (callAt plan [.any] (g62 k)) (Dl30 k)
def Lm31 (k : Nat) : FuncId → Nat → Option LamF := Lm30 k
theorem Dl31_ok (k : Nat) : DeltaOk Try.prog (Dl31 k) := dCons_ok (Dl30_ok k) (g62_ok k)
theorem Lm31_ok (k : Nat) : LamsOk Try.prog (Lm31 k) := Lm30_ok k
abbrev cf31 (k : Nat) : CallF := evF Try.prog (Dl31 k) (Lm31 k) 200 12
theorem cf31_ok (k : Nat) : CfOk Try.prog (cf31 k) := evF_ok noNum mixed (Dl31_ok k) (Lm31_ok k) 12
abbrev P109 := ByteArray
def A109 (p : P109) : List AV := [.str p]
def d109 (a : List AV) (H : Heap) : Option P109 := match a, H with
  | [.str a0], [] => some (a0)
  | _, _ => none
theorem d109_ok (a : List AV) (H : Heap) (p : P109) (h : d109 a H = some p) : a = A109 p ∧ H = [] := by
  unfold d109 at h
  split at h
  · skip
    cases h; exact ⟨rfl, rfl⟩
  · cases h
abbrev R109 := Bool
def o109 (r : R109) : AEnd := .ret (.bool r)
def u109 (r : R109) : Heap := []
def n109 (_ : R109) : Nat := 0
def r109 (o : AEnd) (u : Heap) (n : Nat) : Option R109 := match o, u, n with
  | .ret (.bool a0), [], 0 => some (a0)
  | _, _, _ => none
theorem r109_ok (p : P109) (o : AEnd) (u : Heap) (n : Nat) (r : R109) (h : r109 o u n = some r) : o = o109 r ∧ u = u109 r ∧ n = n109 r := by
  unfold r109 at h
  split at h
  · skip
    cases h; exact ⟨rfl, rfl, rfl⟩
  · cases h
def f109 (k : Nat) (x0 : ByteArray) : Option R109 :=
  some (decide ((↑(ByteArray.size x0) : Int) > (45 : Int)))
theorem f109_run (k : Nat) (x0 : ByteArray) : cf31 k R109 109 (A109 (x0)) [] 0 (endR planR (.any) [] 0 r109) = f109 k x0 := by kernel_rfl
def g109 (k : Nat) : CallS := entT d109 (fun p => f109 k p) (elAll _) (fun _ => o109) (fun _ => u109) (fun _ => n109)
theorem g109_ok (k : Nat) : CallSOk Try.prog 109 (g109 k) := entry_ok (Hp := fun _ => []) (oR := fun _ => o109) (uR := fun _ => u109) (nR := fun _ => n109) (cf31_ok k) d109_ok r109_ok (hel := elAll_ok) (fun p => f109_run k p)
def Dl32 (k : Nat) : Delta := dCons 109 (callAt plan [.any] (g109 k)) (Dl31 k)
def Lm32 (k : Nat) : FuncId → Nat → Option LamF := Lm31 k
theorem Dl32_ok (k : Nat) : DeltaOk Try.prog (Dl32 k) := dCons_ok (Dl31_ok k) (g109_ok k)
theorem Lm32_ok (k : Nat) : LamsOk Try.prog (Lm32 k) := Lm31_ok k
abbrev cf32 (k : Nat) : CallF := evF Try.prog (Dl32 k) (Lm32 k) 200 12
theorem cf32_ok (k : Nat) : CfOk Try.prog (cf32 k) := evF_ok noNum mixed (Dl32_ok k) (Lm32_ok k) 12
abbrev P69 := List ByteArray × Int
def A69 (p : P69) : List AV := [.dsl 9 p.1, .int .i64 p.2]
def d69 (a : List AV) (H : Heap) : Option P69 := match a, H with
  | [ba0, .int .i64 a1], [] => (match (dslD 9 ba0 : Option (List ByteArray)) with | some a0 => some (a0, a1) | none => none)
  | _, _ => none
theorem d69_ok (a : List AV) (H : Heap) (p : P69) (h : d69 a H = some p) : a = A69 p ∧ H = [] := by
  unfold d69 at h
  split at h
  · skip
    split at h
    · rename_i q
      have q := dslD_ok q
      subst q
      cases h; exact ⟨rfl, rfl⟩
    · cases h
  · cases h
abbrev R69 := Bool
def o69 (r : R69) : AEnd := .ret (.bool r)
def u69 (r : R69) : Heap := []
def n69 (_ : R69) : Nat := 0
def r69 (o : AEnd) (u : Heap) (n : Nat) : Option R69 := match o, u, n with
  | .ret (.bool a0), [], 0 => some (a0)
  | _, _, _ => none
theorem r69_ok (p : P69) (o : AEnd) (u : Heap) (n : Nat) (r : R69) (h : r69 o u n = some r) : o = o69 r ∧ u = u69 r ∧ n = n69 r := by
  unfold r69 at h
  split at h
  · skip
    cases h; exact ⟨rfl, rfl, rfl⟩
  · cases h
structure S117_0 where
  mk ::
  x0 : List ByteArray
  x7 : Int
  x8 : Int
def VS117_0 (s : S117_0) : List AV := [.dsl 9 s.x0, .fn (.func 109) [] [], .int .i64 s.x7, .int .i64 s.x8]
def HS117_0 (s : S117_0) : Heap := []
def dS117_0 (vs : List AV) (H : Heap) : Option S117_0 := match vs, H with
  | [bx0, .fn (.func 109) [] [], .int .i64 x7, .int .i64 x8], [] => (match (dslD 9 bx0 : Option (List ByteArray)) with | some x0 => some (⟨x0, x7, x8⟩ : S117_0) | none => none)
  | _, _ => none
theorem dS117_0_ok (vs : List AV) (H : Heap) (s : S117_0) (h : dS117_0 vs H = some s) : vs = VS117_0 s ∧ H = HS117_0 s := by
  unfold dS117_0 at h
  split at h
  · skip
    split at h
    · rename_i q
      have q := dslD_ok q
      subst q
      cases h; exact ⟨rfl, rfl⟩
    · cases h
  · cases h
def tS117_0 : AExit → List (Nat × Kd) := fun x => match x with
  | .normal => [(0, .rd 9), (1, .any), (7, .any), (8, .any)]
  | .exit i => (match i with | 0 => [] | _ => [])
  | .ret => [(4, .any)]
  | _ => []
structure E117_0 where
  mk ::
  x4 : Int
def VE117_0 (s : E117_0) : List AV := [.int .i64 s.x4]
def HE117_0 (s : E117_0) : Heap := []
def dE117_0 (x : AExit) (vs : List AV) (H : Heap) : Option E117_0 := match x, vs, H with
  | .ret, [.int .i64 x4], [] => some (⟨x4⟩ : E117_0)
  | _, _, _ => none
theorem dE117_0_ok (x : AExit) (vs : List AV) (H : Heap) (s : E117_0) (h : dE117_0 x vs H = some s) : x = .ret ∧ vs = VE117_0 s ∧ H = HE117_0 s := by
  unfold dE117_0 at h
  split at h
  · skip
    cases h; exact ⟨rfl, rfl, rfl⟩
  · cases h
structure E117_0b where
  mk ::
def VE117_0b (s : E117_0b) : List AV := []
def HE117_0b (s : E117_0b) : Heap := []
def dE117_0b (x : AExit) (vs : List AV) (H : Heap) : Option E117_0b := match x, vs, H with
  | .exit 0, [], [] => some (⟨⟩ : E117_0b)
  | _, _, _ => none
theorem dE117_0b_ok (x : AExit) (vs : List AV) (H : Heap) (s : E117_0b) (h : dE117_0b x vs H = some s) : x = .exit 0 ∧ vs = VE117_0b s ∧ H = HE117_0b s := by
  unfold dE117_0b at h
  split at h
  · skip
    cases h; exact ⟨rfl, rfl, rfl⟩
  · cases h
abbrev EE117_0 := E117_0 ⊕ E117_0b
def xEE117_0 (e : EE117_0) : AExit := match e with | .inl _ => .ret | .inr _ => .exit 0
def VEE117_0 (e : EE117_0) : List AV := match e with | .inl s => VE117_0 s | .inr s => VE117_0b s
def HEE117_0 (e : EE117_0) : Heap := match e with | .inl s => HE117_0 s | .inr s => HE117_0b s
def dEE117_0 (x : AExit) (vs : List AV) (H : Heap) : Option EE117_0 := match dE117_0 x vs H with | some s => some (.inl s) | none => (match dE117_0b x vs H with | some s => some (.inr s) | none => none)
theorem dEE117_0_ok (x : AExit) (vs : List AV) (H : Heap) (s : EE117_0) (h : dEE117_0 x vs H = some s) : x = xEE117_0 s ∧ vs = VEE117_0 s ∧ H = HEE117_0 s := by
  unfold dEE117_0 at h
  split at h
  · rename_i q; cases h; exact dE117_0_ok _ _ _ _ q
  · split at h
    · rename_i q; cases h; exact dE117_0b_ok _ _ _ _ q
    · cases h
def pS117_0 (k : Nat) (s : S117_0) : Option (S117_0 ⊕ EE117_0) :=
  br (decide (S117_0.x8 s < S117_0.x7 s))
   (br (decide ((0 : Int) ≤ S117_0.x8 s ∧ S117_0.x8 s < (↑(List.length (S117_0.x0 s)) : Int)))
    (bindO (f109 k (List.getD (S117_0.x0 s) (Int.toNat (S117_0.x8 s)) default)) fun r1500 =>
     br r1500
      (some (Sum.inr (Sum.inl (E117_0.mk (S117_0.x8 s)))))
      (some (Sum.inl (S117_0.mk (S117_0.x0 s) (S117_0.x7 s) (IntKind.wrap IntKind.i64 (S117_0.x8 s + (1 : Int)))))))
    (none))
   (some (Sum.inr (Sum.inr E117_0b.mk)))
theorem pS117_0_run (k : Nat) (s : S117_0) : evC (S117_0 ⊕ EE117_0) Try.prog (ntmpsAt Try.prog 117) (cf32 k) ((Lm32 k) 117) 200 (loopAt Try.prog 117 0) (zipE [(0, .rd 9), (1, .any), (7, .any), (8, .any)] (VS117_0 s)) (HS117_0 s) (List.length (HS117_0 s)) (cutS plan 0 tS117_0 (rndT dS117_0 dEE117_0)) = pS117_0 k s := by kernel_rfl
def l117_0 (k : Nat) (s : S117_0) : Option EE117_0 := iterT (pS117_0 k) k s
def m117_0 (k : Nat) : LamS := lamT 0 dS117_0 (l117_0 k) (elSum (elAll _) (elAll _)) tS117_0 xEE117_0 VEE117_0 HEE117_0
theorem loop117_0 : isLoopAt Try.prog 117 0 = true := by kernel_rfl
theorem m117_0_ok (k : Nat) : LamSOk Try.prog (ntmpsAt Try.prog 117) 0 (.block 0 (.loop (loopAt Try.prog 117 0))) [(0, .rd 9), (1, .any), (7, .any), (8, .any)] (m117_0 k) := lamT_ok (plan := plan) (kb := 0) (body_run noNum mixed (cf32_ok k) (Lm32_ok k) loop117_0) rfl dS117_0_ok dEE117_0_ok (hel := (elSum_ok elAll_ok elAll_ok)) (pS117_0_run k) k
def Dl33 (k : Nat) : Delta := Dl32 k
def Lm33 (k : Nat) : FuncId → Nat → Option LamF := lCons 117 0 (lamBy plan [9, 10, 5, 11, 12, 13, 14, 15, 16, 17, 4, 18, 8] [(0, .rd 9), (1, .any), (7, .any), (8, .any)] 0 (m117_0 k)) (Lm32 k)
theorem Dl33_ok (k : Nat) : DeltaOk Try.prog (Dl33 k) := Dl32_ok k
theorem Lm33_ok (k : Nat) : LamsOk Try.prog (Lm33 k) := lCons_ok (Lm32_ok k) loop117_0 (lamBy_ok (m117_0_ok k) (by kernel_rfl))
abbrev cf33 (k : Nat) : CallF := evF Try.prog (Dl33 k) (Lm33 k) 200 12
theorem cf33_ok (k : Nat) : CfOk Try.prog (cf33 k) := evF_ok noNum mixed (Dl33_ok k) (Lm33_ok k) 12
def f69 (k : Nat) (x0 : List ByteArray) (x1 : Int) : Option R69 :=
  br (decide ((↑(List.length x0) : Int) ≤ (40 : Int)))
   (bindO (f68 k x1 (↑(List.length x0) : Int)) fun r3000 =>
    br r3000
     (bindO (l117_0 k (S117_0.mk x0 (↑(List.length x0) : Int) (0 : Int))) fun r2999 =>
      match r2999 with
      | .inl c2998 => some (!decide (E117_0.x4 c2998 ≥ (0 : Int)))
      | .inr c2998 => some true)
     (some false))
   (some false)
theorem f69_run (k : Nat) (x0 : List ByteArray) (x1 : Int) : cf33 k R69 69 (A69 (x0, x1)) [] 0 (endR planR (.any) [] 0 r69) = f69 k x0 x1 := by kernel_rfl
def g69 (k : Nat) : CallS := entT d69 (fun p => f69 k p.1 p.2) (elAll _) (fun _ => o69) (fun _ => u69) (fun _ => n69)
theorem g69_ok (k : Nat) : CallSOk Try.prog 69 (g69 k) := entry_ok (Hp := fun _ => []) (oR := fun _ => o69) (uR := fun _ => u69) (nR := fun _ => n69) (cf33_ok k) d69_ok r69_ok (hel := elAll_ok) (fun p => f69_run k p.1 p.2)
def Dl34 (k : Nat) : Delta := dCons 69 (callAt plan [.rd 9, .any] (g69 k)) (Dl33 k)
def Lm34 (k : Nat) : FuncId → Nat → Option LamF := Lm33 k
theorem Dl34_ok (k : Nat) : DeltaOk Try.prog (Dl34 k) := dCons_ok (Dl33_ok k) (g69_ok k)
theorem Lm34_ok (k : Nat) : LamsOk Try.prog (Lm34 k) := Lm33_ok k
abbrev cf34 (k : Nat) : CallF := evF Try.prog (Dl34 k) (Lm34 k) 200 12
theorem cf34_ok (k : Nat) : CfOk Try.prog (cf34 k) := evF_ok noNum mixed (Dl34_ok k) (Lm34_ok k) 12
abbrev P35 := GNode
def A35 (p : P35) : List AV := [.agg [.int .i64 p.id, .int .i64 p.n, .int .i64 p.view, .int .i64 p.last, .int .i64 p.phase, .int .i64 p.commit, .dsl 9 p.rows, .dsl 3 p.far, .int .i64 p.starts, .dsl 89 p.votes]]
def d35 (a : List AV) (H : Heap) : Option P35 := match a, H with
  | [.agg [.int .i64 a0, .int .i64 a1, .int .i64 a2, .int .i64 a3, .int .i64 a4, .int .i64 a5, ba6, ba7, .int .i64 a8, ba9]], [] => (match (dslD 9 ba6 : Option (List ByteArray)) with | some a6 => (match (dslD 3 ba7 : Option (List Int)) with | some a7 => (match (dslD 89 ba9 : Option (List GVote)) with | some a9 => some ((⟨a0, a1, a2, a3, a4, a5, a6, a7, a8, a9⟩ : GNode)) | none => none) | none => none) | none => none)
  | _, _ => none
theorem d35_ok (a : List AV) (H : Heap) (p : P35) (h : d35 a H = some p) : a = A35 p ∧ H = [] := by
  unfold d35 at h
  split at h
  · skip
    split at h
    · rename_i q
      have q := dslD_ok q
      subst q
      split at h
      · rename_i q
        have q := dslD_ok q
        subst q
        split at h
        · rename_i q
          have q := dslD_ok q
          subst q
          cases h; exact ⟨rfl, rfl⟩
        · cases h
      · cases h
    · cases h
  · cases h
abbrev R35 := Bool
def o35 (r : R35) : AEnd := .ret (.bool r)
def u35 (r : R35) : Heap := []
def n35 (_ : R35) : Nat := 0
def r35 (o : AEnd) (u : Heap) (n : Nat) : Option R35 := match o, u, n with
  | .ret (.bool a0), [], 0 => some (a0)
  | _, _, _ => none
theorem r35_ok (p : P35) (o : AEnd) (u : Heap) (n : Nat) (r : R35) (h : r35 o u n = some r) : o = o35 r ∧ u = u35 r ∧ n = n35 r := by
  unfold r35 at h
  split at h
  · skip
    cases h; exact ⟨rfl, rfl, rfl⟩
  · cases h
structure S35_0 where
  mk ::
  x4 : Int
  x82 : List GVote
  x83 : Int
  x84 : Int
  h0_0 : Int
  h0_1 : Int
  h0_2 : Int
  h0_3 : Int
  h0_4 : Int
  h0_5 : Int
  h0_6 : List ByteArray
  h0_7 : List Int
  h0_8 : Int
  h0_9 : List GVote
def VS35_0 (s : S35_0) : List AV := [.ptr 0 0 0, .int .i64 s.x4, .dsl 89 s.x82, .int .i64 s.x83, .int .i64 s.x84]
def HS35_0 (s : S35_0) : Heap := [(0, some (.box 43 [.int .i64 s.h0_0, .int .i64 s.h0_1, .int .i64 s.h0_2, .int .i64 s.h0_3, .int .i64 s.h0_4, .int .i64 s.h0_5, .dsl 9 s.h0_6, .dsl 3 s.h0_7, .int .i64 s.h0_8, .dsl 89 s.h0_9]))]
def dS35_0 (vs : List AV) (H : Heap) : Option S35_0 := match vs, H with
  | [.ptr 0 0 0, .int .i64 x4, bx82, .int .i64 x83, .int .i64 x84], [(0, some (.box 43 [.int .i64 h0_0, .int .i64 h0_1, .int .i64 h0_2, .int .i64 h0_3, .int .i64 h0_4, .int .i64 h0_5, bh0_6, bh0_7, .int .i64 h0_8, bh0_9]))] => (match (dslD 89 bx82 : Option (List GVote)) with | some x82 => (match (dslD 9 bh0_6 : Option (List ByteArray)) with | some h0_6 => (match (dslD 3 bh0_7 : Option (List Int)) with | some h0_7 => (match (dslD 89 bh0_9 : Option (List GVote)) with | some h0_9 => some (⟨x4, x82, x83, x84, h0_0, h0_1, h0_2, h0_3, h0_4, h0_5, h0_6, h0_7, h0_8, h0_9⟩ : S35_0) | none => none) | none => none) | none => none) | none => none)
  | _, _ => none
theorem dS35_0_ok (vs : List AV) (H : Heap) (s : S35_0) (h : dS35_0 vs H = some s) : vs = VS35_0 s ∧ H = HS35_0 s := by
  unfold dS35_0 at h
  split at h
  · skip
    split at h
    · rename_i q
      have q := dslD_ok q
      subst q
      split at h
      · rename_i q
        have q := dslD_ok q
        subst q
        split at h
        · rename_i q
          have q := dslD_ok q
          subst q
          split at h
          · rename_i q
            have q := dslD_ok q
            subst q
            cases h; exact ⟨rfl, rfl⟩
          · cases h
        · cases h
      · cases h
    · cases h
  · cases h
def tS35_0 : AExit → List (Nat × Kd) := fun x => match x with
  | .normal => [(1, .any), (4, .any), (82, .rd 89), (83, .any), (84, .any)]
  | .exit i => (match i with | 0 => [(1, .any)] | _ => [])
  | .ret => [(2, .any)]
  | _ => []
structure E35_0 where
  mk ::
  x2 : Bool
  h0_0 : Int
  h0_1 : Int
  h0_2 : Int
  h0_3 : Int
  h0_4 : Int
  h0_5 : Int
  h0_6 : List ByteArray
  h0_7 : List Int
  h0_8 : Int
  h0_9 : List GVote
def VE35_0 (s : E35_0) : List AV := [.bool s.x2]
def HE35_0 (s : E35_0) : Heap := [(0, some (.box 43 [.int .i64 s.h0_0, .int .i64 s.h0_1, .int .i64 s.h0_2, .int .i64 s.h0_3, .int .i64 s.h0_4, .int .i64 s.h0_5, .dsl 9 s.h0_6, .dsl 3 s.h0_7, .int .i64 s.h0_8, .dsl 89 s.h0_9]))]
def dE35_0 (x : AExit) (vs : List AV) (H : Heap) : Option E35_0 := match x, vs, H with
  | .ret, [.bool x2], [(0, some (.box 43 [.int .i64 h0_0, .int .i64 h0_1, .int .i64 h0_2, .int .i64 h0_3, .int .i64 h0_4, .int .i64 h0_5, bh0_6, bh0_7, .int .i64 h0_8, bh0_9]))] => (match (dslD 9 bh0_6 : Option (List ByteArray)) with | some h0_6 => (match (dslD 3 bh0_7 : Option (List Int)) with | some h0_7 => (match (dslD 89 bh0_9 : Option (List GVote)) with | some h0_9 => some (⟨x2, h0_0, h0_1, h0_2, h0_3, h0_4, h0_5, h0_6, h0_7, h0_8, h0_9⟩ : E35_0) | none => none) | none => none) | none => none)
  | _, _, _ => none
theorem dE35_0_ok (x : AExit) (vs : List AV) (H : Heap) (s : E35_0) (h : dE35_0 x vs H = some s) : x = .ret ∧ vs = VE35_0 s ∧ H = HE35_0 s := by
  unfold dE35_0 at h
  split at h
  · skip
    split at h
    · rename_i q
      have q := dslD_ok q
      subst q
      split at h
      · rename_i q
        have q := dslD_ok q
        subst q
        split at h
        · rename_i q
          have q := dslD_ok q
          subst q
          cases h; exact ⟨rfl, rfl, rfl⟩
        · cases h
      · cases h
    · cases h
  · cases h
structure E35_0b where
  mk ::
  h0_0 : Int
  h0_1 : Int
  h0_2 : Int
  h0_3 : Int
  h0_4 : Int
  h0_5 : Int
  h0_6 : List ByteArray
  h0_7 : List Int
  h0_8 : Int
  h0_9 : List GVote
def VE35_0b (s : E35_0b) : List AV := [.ptr 0 0 0]
def HE35_0b (s : E35_0b) : Heap := [(0, some (.box 43 [.int .i64 s.h0_0, .int .i64 s.h0_1, .int .i64 s.h0_2, .int .i64 s.h0_3, .int .i64 s.h0_4, .int .i64 s.h0_5, .dsl 9 s.h0_6, .dsl 3 s.h0_7, .int .i64 s.h0_8, .dsl 89 s.h0_9]))]
def dE35_0b (x : AExit) (vs : List AV) (H : Heap) : Option E35_0b := match x, vs, H with
  | .exit 0, [.ptr 0 0 0], [(0, some (.box 43 [.int .i64 h0_0, .int .i64 h0_1, .int .i64 h0_2, .int .i64 h0_3, .int .i64 h0_4, .int .i64 h0_5, bh0_6, bh0_7, .int .i64 h0_8, bh0_9]))] => (match (dslD 9 bh0_6 : Option (List ByteArray)) with | some h0_6 => (match (dslD 3 bh0_7 : Option (List Int)) with | some h0_7 => (match (dslD 89 bh0_9 : Option (List GVote)) with | some h0_9 => some (⟨h0_0, h0_1, h0_2, h0_3, h0_4, h0_5, h0_6, h0_7, h0_8, h0_9⟩ : E35_0b) | none => none) | none => none) | none => none)
  | _, _, _ => none
theorem dE35_0b_ok (x : AExit) (vs : List AV) (H : Heap) (s : E35_0b) (h : dE35_0b x vs H = some s) : x = .exit 0 ∧ vs = VE35_0b s ∧ H = HE35_0b s := by
  unfold dE35_0b at h
  split at h
  · skip
    split at h
    · rename_i q
      have q := dslD_ok q
      subst q
      split at h
      · rename_i q
        have q := dslD_ok q
        subst q
        split at h
        · rename_i q
          have q := dslD_ok q
          subst q
          cases h; exact ⟨rfl, rfl, rfl⟩
        · cases h
      · cases h
    · cases h
  · cases h
abbrev EE35_0 := E35_0 ⊕ E35_0b
def xEE35_0 (e : EE35_0) : AExit := match e with | .inl _ => .ret | .inr _ => .exit 0
def VEE35_0 (e : EE35_0) : List AV := match e with | .inl s => VE35_0 s | .inr s => VE35_0b s
def HEE35_0 (e : EE35_0) : Heap := match e with | .inl s => HE35_0 s | .inr s => HE35_0b s
def dEE35_0 (x : AExit) (vs : List AV) (H : Heap) : Option EE35_0 := match dE35_0 x vs H with | some s => some (.inl s) | none => (match dE35_0b x vs H with | some s => some (.inr s) | none => none)
theorem dEE35_0_ok (x : AExit) (vs : List AV) (H : Heap) (s : EE35_0) (h : dEE35_0 x vs H = some s) : x = xEE35_0 s ∧ vs = VEE35_0 s ∧ H = HEE35_0 s := by
  unfold dEE35_0 at h
  split at h
  · rename_i q; cases h; exact dE35_0_ok _ _ _ _ q
  · split at h
    · rename_i q; cases h; exact dE35_0b_ok _ _ _ _ q
    · cases h
def pS35_0 (k : Nat) (s : S35_0) : Option (S35_0 ⊕ EE35_0) :=
  br (decide (S35_0.x84 s < S35_0.x83 s))
   (br (decide ((0 : Int) ≤ S35_0.x84 s ∧ S35_0.x84 s < (↑(List.length (S35_0.x82 s)) : Int)))
    (bindO (f68 k (GVote.src (List.getD (S35_0.x82 s) (Int.toNat (S35_0.x84 s)) default)) (IntKind.wrap IntKind.i64 (S35_0.h0_1 s - (1 : Int)))) fun r1500 =>
     br (!r1500)
      (some (Sum.inr (Sum.inl (E35_0.mk false (S35_0.h0_0 s) (S35_0.h0_1 s) (S35_0.h0_2 s) (S35_0.h0_3 s) (S35_0.h0_4 s) (S35_0.h0_5 s) (S35_0.h0_6 s) (S35_0.h0_7 s) (S35_0.h0_8 s) (S35_0.h0_9 s)))))
      (bindO (f70 k (S35_0.x4 s) (GVote.src (List.getD (S35_0.x82 s) (Int.toNat (S35_0.x84 s)) default))) fun r1498 =>
       br r1498
        (some (Sum.inr (Sum.inl (E35_0.mk false (S35_0.h0_0 s) (S35_0.h0_1 s) (S35_0.h0_2 s) (S35_0.h0_3 s) (S35_0.h0_4 s) (S35_0.h0_5 s) (S35_0.h0_6 s) (S35_0.h0_7 s) (S35_0.h0_8 s) (S35_0.h0_9 s)))))
        (bindO (f68 k (GVote.last (List.getD (S35_0.x82 s) (Int.toNat (S35_0.x84 s)) default)) (S35_0.h0_2 s)) fun r1496 =>
         br (!r1496)
          (some (Sum.inr (Sum.inl (E35_0.mk false (S35_0.h0_0 s) (S35_0.h0_1 s) (S35_0.h0_2 s) (S35_0.h0_3 s) (S35_0.h0_4 s) (S35_0.h0_5 s) (S35_0.h0_6 s) (S35_0.h0_7 s) (S35_0.h0_8 s) (S35_0.h0_9 s)))))
          (bindO (f69 k (GVote.rows (List.getD (S35_0.x82 s) (Int.toNat (S35_0.x84 s)) default)) (GVote.commit (List.getD (S35_0.x82 s) (Int.toNat (S35_0.x84 s)) default))) fun r1494 =>
           br (!r1494)
            (some (Sum.inr (Sum.inl (E35_0.mk false (S35_0.h0_0 s) (S35_0.h0_1 s) (S35_0.h0_2 s) (S35_0.h0_3 s) (S35_0.h0_4 s) (S35_0.h0_5 s) (S35_0.h0_6 s) (S35_0.h0_7 s) (S35_0.h0_8 s) (S35_0.h0_9 s)))))
            (bindO (f60 k (S35_0.x4 s) [GVote.src (List.getD (S35_0.x82 s) (Int.toNat (S35_0.x84 s)) default)]) fun r1492 =>
             some (Sum.inl (S35_0.mk r1492 (S35_0.x82 s) (S35_0.x83 s) (IntKind.wrap IntKind.i64 (S35_0.x84 s + (1 : Int))) (S35_0.h0_0 s) (S35_0.h0_1 s) (S35_0.h0_2 s) (S35_0.h0_3 s) (S35_0.h0_4 s) (S35_0.h0_5 s) (S35_0.h0_6 s) (S35_0.h0_7 s) (S35_0.h0_8 s) (S35_0.h0_9 s))))))))
    (none))
   (some (Sum.inr (Sum.inr (E35_0b.mk (S35_0.h0_0 s) (S35_0.h0_1 s) (S35_0.h0_2 s) (S35_0.h0_3 s) (S35_0.h0_4 s) (S35_0.h0_5 s) (S35_0.h0_6 s) (S35_0.h0_7 s) (S35_0.h0_8 s) (S35_0.h0_9 s)))))
theorem pS35_0_run (k : Nat) (s : S35_0) : evC (S35_0 ⊕ EE35_0) Try.prog (ntmpsAt Try.prog 35) (cf34 k) ((Lm34 k) 35) 200 (loopAt Try.prog 35 0) (zipE [(1, .any), (4, .any), (82, .rd 89), (83, .any), (84, .any)] (VS35_0 s)) (HS35_0 s) (List.length (HS35_0 s)) (cutS plan 1 tS35_0 (rndT dS35_0 dEE35_0)) = pS35_0 k s := by kernel_rfl
def l35_0 (k : Nat) (s : S35_0) : Option EE35_0 := iterT (pS35_0 k) k s
def m35_0 (k : Nat) : LamS := lamT 0 dS35_0 (l35_0 k) (elSum (elAll _) (elAll _)) tS35_0 xEE35_0 VEE35_0 HEE35_0
theorem loop35_0 : isLoopAt Try.prog 35 0 = true := by kernel_rfl
theorem m35_0_ok (k : Nat) : LamSOk Try.prog (ntmpsAt Try.prog 35) 1 (.block 0 (.loop (loopAt Try.prog 35 0))) [(1, .any), (4, .any), (82, .rd 89), (83, .any), (84, .any)] (m35_0 k) := lamT_ok (plan := plan) (kb := 1) (body_run noNum mixed (cf34_ok k) (Lm34_ok k) loop35_0) rfl dS35_0_ok dEE35_0_ok (hel := (elSum_ok elAll_ok elAll_ok)) (pS35_0_run k) k
def Dl35 (k : Nat) : Delta := Dl34 k
def Lm35 (k : Nat) : FuncId → Nat → Option LamF := lCons 35 0 (lamBy plan [85, 86, 87, 6, 88, 89, 90, 91, 92, 93, 94, 95, 96, 97, 98, 99, 100, 101, 102, 103, 104, 105, 106, 107, 108, 109, 110, 111, 112, 113, 114, 115, 116, 2, 117, 118, 119, 120, 121, 4, 122, 84] [(1, .any), (4, .any), (82, .rd 89), (83, .any), (84, .any)] 1 (m35_0 k)) (Lm34 k)
theorem Dl35_ok (k : Nat) : DeltaOk Try.prog (Dl35 k) := Dl34_ok k
theorem Lm35_ok (k : Nat) : LamsOk Try.prog (Lm35 k) := lCons_ok (Lm34_ok k) loop35_0 (lamBy_ok (m35_0_ok k) (by kernel_rfl))
abbrev cf35 (k : Nat) : CallF := evF Try.prog (Dl35 k) (Lm35 k) 200 12
theorem cf35_ok (k : Nat) : CfOk Try.prog (cf35 k) := evF_ok noNum mixed (Dl35_ok k) (Lm35_ok k) 12
structure S110_0 where
  mk ::
  x0 : List Int
  x7 : Int
  x8 : Int
  h0_0 : Int
  h0_1 : Int
  h0_2 : Int
  h0_3 : Int
  h0_4 : Int
  h0_5 : Int
  h0_6 : List ByteArray
  h0_7 : List Int
  h0_8 : Int
  h0_9 : List GVote
def VS110_0 (s : S110_0) : List AV := [.dsl 3 s.x0, .fn (.func 72) [] [.ptr 0 0 0], .int .i64 s.x7, .int .i64 s.x8]
def HS110_0 (s : S110_0) : Heap := [(0, some (.box 43 [.int .i64 s.h0_0, .int .i64 s.h0_1, .int .i64 s.h0_2, .int .i64 s.h0_3, .int .i64 s.h0_4, .int .i64 s.h0_5, .dsl 9 s.h0_6, .dsl 3 s.h0_7, .int .i64 s.h0_8, .dsl 89 s.h0_9]))]
def dS110_0 (vs : List AV) (H : Heap) : Option S110_0 := match vs, H with
  | [bx0, .fn (.func 72) [] [.ptr 0 0 0], .int .i64 x7, .int .i64 x8], [(0, some (.box 43 [.int .i64 h0_0, .int .i64 h0_1, .int .i64 h0_2, .int .i64 h0_3, .int .i64 h0_4, .int .i64 h0_5, bh0_6, bh0_7, .int .i64 h0_8, bh0_9]))] => (match (dslD 3 bx0 : Option (List Int)) with | some x0 => (match (dslD 9 bh0_6 : Option (List ByteArray)) with | some h0_6 => (match (dslD 3 bh0_7 : Option (List Int)) with | some h0_7 => (match (dslD 89 bh0_9 : Option (List GVote)) with | some h0_9 => some (⟨x0, x7, x8, h0_0, h0_1, h0_2, h0_3, h0_4, h0_5, h0_6, h0_7, h0_8, h0_9⟩ : S110_0) | none => none) | none => none) | none => none) | none => none)
  | _, _ => none
theorem dS110_0_ok (vs : List AV) (H : Heap) (s : S110_0) (h : dS110_0 vs H = some s) : vs = VS110_0 s ∧ H = HS110_0 s := by
  unfold dS110_0 at h
  split at h
  · skip
    split at h
    · rename_i q
      have q := dslD_ok q
      subst q
      split at h
      · rename_i q
        have q := dslD_ok q
        subst q
        split at h
        · rename_i q
          have q := dslD_ok q
          subst q
          split at h
          · rename_i q
            have q := dslD_ok q
            subst q
            cases h; exact ⟨rfl, rfl⟩
          · cases h
        · cases h
      · cases h
    · cases h
  · cases h
def tS110_0 : AExit → List (Nat × Kd) := fun x => match x with
  | .normal => [(0, .rd 3), (1, .any), (7, .any), (8, .any)]
  | .exit i => (match i with | 0 => [] | _ => [])
  | .ret => [(4, .any)]
  | _ => []
structure E110_0 where
  mk ::
  x4 : Int
def VE110_0 (s : E110_0) : List AV := [.int .i64 s.x4]
def HE110_0 (s : E110_0) : Heap := []
def dE110_0 (x : AExit) (vs : List AV) (H : Heap) : Option E110_0 := match x, vs, H with
  | .ret, [.int .i64 x4], [] => some (⟨x4⟩ : E110_0)
  | _, _, _ => none
theorem dE110_0_ok (x : AExit) (vs : List AV) (H : Heap) (s : E110_0) (h : dE110_0 x vs H = some s) : x = .ret ∧ vs = VE110_0 s ∧ H = HE110_0 s := by
  unfold dE110_0 at h
  split at h
  · skip
    cases h; exact ⟨rfl, rfl, rfl⟩
  · cases h
structure E110_0b where
  mk ::
def VE110_0b (s : E110_0b) : List AV := []
def HE110_0b (s : E110_0b) : Heap := []
def dE110_0b (x : AExit) (vs : List AV) (H : Heap) : Option E110_0b := match x, vs, H with
  | .exit 0, [], [] => some (⟨⟩ : E110_0b)
  | _, _, _ => none
theorem dE110_0b_ok (x : AExit) (vs : List AV) (H : Heap) (s : E110_0b) (h : dE110_0b x vs H = some s) : x = .exit 0 ∧ vs = VE110_0b s ∧ H = HE110_0b s := by
  unfold dE110_0b at h
  split at h
  · skip
    cases h; exact ⟨rfl, rfl, rfl⟩
  · cases h
abbrev EE110_0 := E110_0 ⊕ E110_0b
def xEE110_0 (e : EE110_0) : AExit := match e with | .inl _ => .ret | .inr _ => .exit 0
def VEE110_0 (e : EE110_0) : List AV := match e with | .inl s => VE110_0 s | .inr s => VE110_0b s
def HEE110_0 (e : EE110_0) : Heap := match e with | .inl s => HE110_0 s | .inr s => HE110_0b s
def dEE110_0 (x : AExit) (vs : List AV) (H : Heap) : Option EE110_0 := match dE110_0 x vs H with | some s => some (.inl s) | none => (match dE110_0b x vs H with | some s => some (.inr s) | none => none)
theorem dEE110_0_ok (x : AExit) (vs : List AV) (H : Heap) (s : EE110_0) (h : dEE110_0 x vs H = some s) : x = xEE110_0 s ∧ vs = VEE110_0 s ∧ H = HEE110_0 s := by
  unfold dEE110_0 at h
  split at h
  · rename_i q; cases h; exact dE110_0_ok _ _ _ _ q
  · split at h
    · rename_i q; cases h; exact dE110_0b_ok _ _ _ _ q
    · cases h
def pS110_0 (k : Nat) (s : S110_0) : Option (S110_0 ⊕ EE110_0) :=
  br (decide (S110_0.x8 s < S110_0.x7 s))
   (br (decide ((0 : Int) ≤ S110_0.x8 s ∧ S110_0.x8 s < (↑(List.length (S110_0.x0 s)) : Int)))
    (bindO (f68 k (List.getD (S110_0.x0 s) (Int.toNat (S110_0.x8 s)) (0 : Int)) (↑(List.length (S110_0.h0_6 s)) : Int)) fun r1500 =>
     br (!r1500)
      (some (Sum.inr (Sum.inl (E110_0.mk (S110_0.x8 s)))))
      (some (Sum.inl (S110_0.mk (S110_0.x0 s) (S110_0.x7 s) (IntKind.wrap IntKind.i64 (S110_0.x8 s + (1 : Int))) (S110_0.h0_0 s) (S110_0.h0_1 s) (S110_0.h0_2 s) (S110_0.h0_3 s) (S110_0.h0_4 s) (S110_0.h0_5 s) (S110_0.h0_6 s) (S110_0.h0_7 s) (S110_0.h0_8 s) (S110_0.h0_9 s)))))
    (none))
   (some (Sum.inr (Sum.inr E110_0b.mk)))
theorem pS110_0_run (k : Nat) (s : S110_0) : evC (S110_0 ⊕ EE110_0) Try.prog (ntmpsAt Try.prog 110) (cf35 k) ((Lm35 k) 110) 200 (loopAt Try.prog 110 0) (zipE [(0, .rd 3), (1, .any), (7, .any), (8, .any)] (VS110_0 s)) (HS110_0 s) (List.length (HS110_0 s)) (cutS plan 0 tS110_0 (rndT dS110_0 dEE110_0)) = pS110_0 k s := by kernel_rfl
def l110_0 (k : Nat) (s : S110_0) : Option EE110_0 := iterT (pS110_0 k) k s
def m110_0 (k : Nat) : LamS := lamT 0 dS110_0 (l110_0 k) (elSum (elAll _) (elAll _)) tS110_0 xEE110_0 VEE110_0 HEE110_0
theorem loop110_0 : isLoopAt Try.prog 110 0 = true := by kernel_rfl
theorem m110_0_ok (k : Nat) : LamSOk Try.prog (ntmpsAt Try.prog 110) 0 (.block 0 (.loop (loopAt Try.prog 110 0))) [(0, .rd 3), (1, .any), (7, .any), (8, .any)] (m110_0 k) := lamT_ok (plan := plan) (kb := 0) (body_run noNum mixed (cf35_ok k) (Lm35_ok k) loop110_0) rfl dS110_0_ok dEE110_0_ok (hel := (elSum_ok elAll_ok elAll_ok)) (pS110_0_run k) k
def Dl36 (k : Nat) : Delta := Dl35 k
def Lm36 (k : Nat) : FuncId → Nat → Option LamF := lCons 110 0 (lamBy plan [9, 10, 5, 11, 12, 13, 14, 15, 16, 17, 4, 18, 8] [(0, .rd 3), (1, .any), (7, .any), (8, .any)] 0 (m110_0 k)) (Lm35 k)
theorem Dl36_ok (k : Nat) : DeltaOk Try.prog (Dl36 k) := Dl35_ok k
theorem Lm36_ok (k : Nat) : LamsOk Try.prog (Lm36 k) := lCons_ok (Lm35_ok k) loop110_0 (lamBy_ok (m110_0_ok k) (by kernel_rfl))
abbrev cf36 (k : Nat) : CallF := evF Try.prog (Dl36 k) (Lm36 k) 200 12
theorem cf36_ok (k : Nat) : CfOk Try.prog (cf36 k) := evF_ok noNum mixed (Dl36_ok k) (Lm36_ok k) 12
def f35 (k : Nat) (x0 : GNode) : Option R35 :=
  bindO (f68 k (GNode.view x0) (1000000 : Int)) fun r3000 =>
   br r3000
    (bindO (f68 k (GNode.last x0) (GNode.view x0)) fun r2999 =>
     br r2999
      (bindO (f68 k (GNode.phase x0) (2 : Int)) fun r2998 =>
       br r2998
        (br (GNode.phase x0 != (0 : Int))
         (bindO (f62 k (GNode.n x0)) fun r2997 =>
          br (!r2997)
           (some false)
           (bindO (f68 k (GNode.id x0) (IntKind.wrap IntKind.i64 (GNode.n x0 - (1 : Int)))) fun r2995 =>
            br (!r2995)
             (some false)
             (bindO (f69 k (GNode.rows x0) (GNode.commit x0)) fun r2993 =>
              br (!r2993)
               (some false)
               (br ((↑(List.length (GNode.far x0)) : Int) != GNode.n x0)
                (some false)
                (bindO (f68 k (GNode.starts x0) (127 : Int)) fun r2990 =>
                 br (!r2990)
                  (some false)
                  (br (decide ((↑(List.length (GNode.votes x0)) : Int) > GNode.n x0))
                   (some false)
                   (bindO (l35_0 k (S35_0.mk (0 : Int) (GNode.votes x0) (↑(List.length (GNode.votes x0)) : Int) (0 : Int) (GNode.id x0) (GNode.n x0) (GNode.view x0) (GNode.last x0) (GNode.phase x0) (GNode.commit x0) (GNode.rows x0) (GNode.far x0) (GNode.starts x0) (GNode.votes x0))) fun r2987 =>
                    match r2987 with
                    | .inl c2986 => some (E35_0.x2 c2986)
                    | .inr c2986 => bindO (l110_0 k (S110_0.mk (E35_0b.h0_7 c2986) (↑(List.length (E35_0b.h0_7 c2986)) : Int) (0 : Int) (E35_0b.h0_0 c2986) (E35_0b.h0_1 c2986) (E35_0b.h0_2 c2986) (E35_0b.h0_3 c2986) (E35_0b.h0_4 c2986) (E35_0b.h0_5 c2986) (E35_0b.h0_6 c2986) (E35_0b.h0_7 c2986) (E35_0b.h0_8 c2986) (E35_0b.h0_9 c2986))) fun r2984 =>
                      match r2984 with
                      | .inl c2983 => some (!decide (E110_0.x4 c2983 ≥ (0 : Int)))
                      | .inr c2983 => some true)))))))
         (bindO (f62 k (GNode.n x0)) fun r2980 =>
          br (!r2980)
           (some false)
           (bindO (f68 k (GNode.id x0) (IntKind.wrap IntKind.i64 (GNode.n x0 - (1 : Int)))) fun r2978 =>
            br (!r2978)
             (some false)
             (br (!GNode.last x0 == GNode.view x0)
              (some false)
              (bindO (f69 k (GNode.rows x0) (GNode.commit x0)) fun r2975 =>
               br (!r2975)
                (some false)
                (br ((↑(List.length (GNode.far x0)) : Int) != GNode.n x0)
                 (some false)
                 (bindO (f68 k (GNode.starts x0) (127 : Int)) fun r2972 =>
                  br (!r2972)
                   (some false)
                   (br (decide ((↑(List.length (GNode.votes x0)) : Int) > GNode.n x0))
                    (some false)
                    (bindO (l35_0 k (S35_0.mk (0 : Int) (GNode.votes x0) (↑(List.length (GNode.votes x0)) : Int) (0 : Int) (GNode.id x0) (GNode.n x0) (GNode.view x0) (GNode.last x0) (GNode.phase x0) (GNode.commit x0) (GNode.rows x0) (GNode.far x0) (GNode.starts x0) (GNode.votes x0))) fun r2969 =>
                     match r2969 with
                     | .inl c2968 => some (E35_0.x2 c2968)
                     | .inr c2968 => bindO (l110_0 k (S110_0.mk (E35_0b.h0_7 c2968) (↑(List.length (E35_0b.h0_7 c2968)) : Int) (0 : Int) (E35_0b.h0_0 c2968) (E35_0b.h0_1 c2968) (E35_0b.h0_2 c2968) (E35_0b.h0_3 c2968) (E35_0b.h0_4 c2968) (E35_0b.h0_5 c2968) (E35_0b.h0_6 c2968) (E35_0b.h0_7 c2968) (E35_0b.h0_8 c2968) (E35_0b.h0_9 c2968))) fun r2966 =>
                       match r2966 with
                       | .inl c2965 => some (!decide (E110_0.x4 c2965 ≥ (0 : Int)))
                       | .inr c2965 => some true)))))))))
        (bindO (f62 k (GNode.n x0)) fun r2962 =>
         br (!r2962)
          (some false)
          (bindO (f68 k (GNode.id x0) (IntKind.wrap IntKind.i64 (GNode.n x0 - (1 : Int)))) fun r2960 =>
           br (!r2960)
            (some false)
            (some false))))
      (bindO (f62 k (GNode.n x0)) fun r2957 =>
       br (!r2957)
        (some false)
        (bindO (f68 k (GNode.id x0) (IntKind.wrap IntKind.i64 (GNode.n x0 - (1 : Int)))) fun r2955 =>
         br (!r2955)
          (some false)
          (some false))))
    (bindO (f62 k (GNode.n x0)) fun r2952 =>
     br (!r2952)
      (some false)
      (bindO (f68 k (GNode.id x0) (IntKind.wrap IntKind.i64 (GNode.n x0 - (1 : Int)))) fun r2950 =>
       br (!r2950)
        (some false)
        (some false)))
theorem f35_run (k : Nat) (x0 : GNode) : cf36 k R35 35 (A35 (x0)) [] 0 (endR planR (.any) [] 0 r35) = f35 k x0 := by kernel_rfl
def g35 (k : Nat) : CallS := entT d35 (fun p => f35 k p) (elAll _) (fun _ => o35) (fun _ => u35) (fun _ => n35)
theorem g35_ok (k : Nat) : CallSOk Try.prog 35 (g35 k) := entry_ok (Hp := fun _ => []) (oR := fun _ => o35) (uR := fun _ => u35) (nR := fun _ => n35) (cf36_ok k) d35_ok r35_ok (hel := elAll_ok) (fun p => f35_run k p)
def Dl37 (k : Nat) : Delta := dCons 35 (callAt plan [.agg [.any, .any, .any, .any, .any, .any, .rd 9, .rd 3, .any, .rd 89]] (g35 k)) (Dl36 k)
def Lm37 (k : Nat) : FuncId → Nat → Option LamF := Lm36 k
theorem Dl37_ok (k : Nat) : DeltaOk Try.prog (Dl37 k) := dCons_ok (Dl36_ok k) (g35_ok k)
theorem Lm37_ok (k : Nat) : LamsOk Try.prog (Lm37 k) := Lm36_ok k
abbrev cf37 (k : Nat) : CallF := evF Try.prog (Dl37 k) (Lm37 k) 200 12
theorem cf37_ok (k : Nat) : CfOk Try.prog (cf37 k) := evF_ok noNum mixed (Dl37_ok k) (Lm37_ok k) 12
abbrev P91 := ByteArray
def A91 (p : P91) : List AV := [.str p]
def d91 (a : List AV) (H : Heap) : Option P91 := match a, H with
  | [.str a0], [] => some (a0)
  | _, _ => none
theorem d91_ok (a : List AV) (H : Heap) (p : P91) (h : d91 a H = some p) : a = A91 p ∧ H = [] := by
  unfold d91 at h
  split at h
  · skip
    cases h; exact ⟨rfl, rfl⟩
  · cases h
abbrev R91 := Bool
def o91 (r : R91) : AEnd := .ret (.bool r)
def u91 (r : R91) : Heap := []
def n91 (_ : R91) : Nat := 0
def r91 (o : AEnd) (u : Heap) (n : Nat) : Option R91 := match o, u, n with
  | .ret (.bool a0), [], 0 => some (a0)
  | _, _, _ => none
theorem r91_ok (p : P91) (o : AEnd) (u : Heap) (n : Nat) (r : R91) (h : r91 o u n = some r) : o = o91 r ∧ u = u91 r ∧ n = n91 r := by
  unfold r91 at h
  split at h
  · skip
    cases h; exact ⟨rfl, rfl, rfl⟩
  · cases h
def f91 (k : Nat) (x0 : ByteArray) : Option R91 :=
  some (decide ((↑(ByteArray.size x0) : Int) > (45 : Int)))
theorem f91_run (k : Nat) (x0 : ByteArray) : cf37 k R91 91 (A91 (x0)) [] 0 (endR planR (.any) [] 0 r91) = f91 k x0 := by kernel_rfl
def g91 (k : Nat) : CallS := entT d91 (fun p => f91 k p) (elAll _) (fun _ => o91) (fun _ => u91) (fun _ => n91)
theorem g91_ok (k : Nat) : CallSOk Try.prog 91 (g91 k) := entry_ok (Hp := fun _ => []) (oR := fun _ => o91) (uR := fun _ => u91) (nR := fun _ => n91) (cf37_ok k) d91_ok r91_ok (hel := elAll_ok) (fun p => f91_run k p)
def Dl38 (k : Nat) : Delta := dCons 91 (callAt plan [.any] (g91 k)) (Dl37 k)
def Lm38 (k : Nat) : FuncId → Nat → Option LamF := Lm37 k
theorem Dl38_ok (k : Nat) : DeltaOk Try.prog (Dl38 k) := dCons_ok (Dl37_ok k) (g91_ok k)
theorem Lm38_ok (k : Nat) : LamsOk Try.prog (Lm38 k) := Lm37_ok k
abbrev cf38 (k : Nat) : CallF := evF Try.prog (Dl38 k) (Lm38 k) 200 12
theorem cf38_ok (k : Nat) : CfOk Try.prog (cf38 k) := evF_ok noNum mixed (Dl38_ok k) (Lm38_ok k) 12
abbrev P92 := Int × Int × Int
def A92 (p : P92) : List AV := [.int .i64 p.1, .int .i64 p.2.1, .int .i64 p.2.2]
def d92 (a : List AV) (H : Heap) : Option P92 := match a, H with
  | [.int .i64 a0, .int .i64 a1, .int .i64 a2], [] => some (a0, a1, a2)
  | _, _ => none
theorem d92_ok (a : List AV) (H : Heap) (p : P92) (h : d92 a H = some p) : a = A92 p ∧ H = [] := by
  unfold d92 at h
  split at h
  · skip
    cases h; exact ⟨rfl, rfl⟩
  · cases h
abbrev R92 := Bool
def o92 (r : R92) : AEnd := .ret (.bool r)
def u92 (r : R92) : Heap := []
def n92 (_ : R92) : Nat := 0
def r92 (o : AEnd) (u : Heap) (n : Nat) : Option R92 := match o, u, n with
  | .ret (.bool a0), [], 0 => some (a0)
  | _, _, _ => none
theorem r92_ok (p : P92) (o : AEnd) (u : Heap) (n : Nat) (r : R92) (h : r92 o u n = some r) : o = o92 r ∧ u = u92 r ∧ n = n92 r := by
  unfold r92 at h
  split at h
  · skip
    cases h; exact ⟨rfl, rfl, rfl⟩
  · cases h
def f92 (k : Nat) (x0 : Int) (x1 : Int) (x2 : Int) : Option R92 :=
  br (decide (x0 ≥ x1))
   (some (decide (x0 ≤ x2)))
   (some false)
theorem f92_run (k : Nat) (x0 : Int) (x1 : Int) (x2 : Int) : cf38 k R92 92 (A92 (x0, x1, x2)) [] 0 (endR planR (.any) [] 0 r92) = f92 k x0 x1 x2 := by kernel_rfl
def g92 (k : Nat) : CallS := entT d92 (fun p => f92 k p.1 p.2.1 p.2.2) (elAll _) (fun _ => o92) (fun _ => u92) (fun _ => n92)
theorem g92_ok (k : Nat) : CallSOk Try.prog 92 (g92 k) := entry_ok (Hp := fun _ => []) (oR := fun _ => o92) (uR := fun _ => u92) (nR := fun _ => n92) (cf38_ok k) d92_ok r92_ok (hel := elAll_ok) (fun p => f92_run k p.1 p.2.1 p.2.2)
def Dl39 (k : Nat) : Delta := dCons 92 (callAt plan [.any, .any, .any] (g92 k)) (Dl38 k)
def Lm39 (k : Nat) : FuncId → Nat → Option LamF := Lm38 k
theorem Dl39_ok (k : Nat) : DeltaOk Try.prog (Dl39 k) := dCons_ok (Dl38_ok k) (g92_ok k)
theorem Lm39_ok (k : Nat) : LamsOk Try.prog (Lm39 k) := Lm38_ok k
abbrev cf39 (k : Nat) : CallF := evF Try.prog (Dl39 k) (Lm39 k) 200 12
theorem cf39_ok (k : Nat) : CfOk Try.prog (cf39 k) := evF_ok noNum mixed (Dl39_ok k) (Lm39_ok k) 12
abbrev P50 := GMsg
def A50 (p : P50) : List AV := [.agg [.int .i64 p.kind, .int .i64 p.src, .int .i64 p.to, .int .i64 p.view, .int .i64 p.last, .int .i64 p.n, .int .i64 p.commit, .dsl 9 p.rows]]
def d50 (a : List AV) (H : Heap) : Option P50 := match a, H with
  | [.agg [.int .i64 a0, .int .i64 a1, .int .i64 a2, .int .i64 a3, .int .i64 a4, .int .i64 a5, .int .i64 a6, ba7]], [] => (match (dslD 9 ba7 : Option (List ByteArray)) with | some a7 => some ((⟨a0, a1, a2, a3, a4, a5, a6, a7⟩ : GMsg)) | none => none)
  | _, _ => none
theorem d50_ok (a : List AV) (H : Heap) (p : P50) (h : d50 a H = some p) : a = A50 p ∧ H = [] := by
  unfold d50 at h
  split at h
  · skip
    split at h
    · rename_i q
      have q := dslD_ok q
      subst q
      cases h; exact ⟨rfl, rfl⟩
    · cases h
  · cases h
abbrev R50 := Bool
def o50 (r : R50) : AEnd := .ret (.bool r)
def u50 (r : R50) : Heap := []
def n50 (_ : R50) : Nat := 0
def r50 (o : AEnd) (u : Heap) (n : Nat) : Option R50 := match o, u, n with
  | .ret (.bool a0), [], 0 => some (a0)
  | _, _, _ => none
theorem r50_ok (p : P50) (o : AEnd) (u : Heap) (n : Nat) (r : R50) (h : r50 o u n = some r) : o = o50 r ∧ u = u50 r ∧ n = n50 r := by
  unfold r50 at h
  split at h
  · skip
    cases h; exact ⟨rfl, rfl, rfl⟩
  · cases h
structure S117_0B where
  mk ::
  x0 : List ByteArray
  x7 : Int
  x8 : Int
def VS117_0B (s : S117_0B) : List AV := [.dsl 9 s.x0, .fn (.func 91) [] [], .int .i64 s.x7, .int .i64 s.x8]
def HS117_0B (s : S117_0B) : Heap := []
def dS117_0B (vs : List AV) (H : Heap) : Option S117_0B := match vs, H with
  | [bx0, .fn (.func 91) [] [], .int .i64 x7, .int .i64 x8], [] => (match (dslD 9 bx0 : Option (List ByteArray)) with | some x0 => some (⟨x0, x7, x8⟩ : S117_0B) | none => none)
  | _, _ => none
theorem dS117_0B_ok (vs : List AV) (H : Heap) (s : S117_0B) (h : dS117_0B vs H = some s) : vs = VS117_0B s ∧ H = HS117_0B s := by
  unfold dS117_0B at h
  split at h
  · skip
    split at h
    · rename_i q
      have q := dslD_ok q
      subst q
      cases h; exact ⟨rfl, rfl⟩
    · cases h
  · cases h
def tS117_0B : AExit → List (Nat × Kd) := fun x => match x with
  | .normal => [(0, .rd 9), (1, .any), (7, .any), (8, .any)]
  | .exit i => (match i with | 0 => [] | _ => [])
  | .ret => [(4, .any)]
  | _ => []
structure E117_0B where
  mk ::
  x4 : Int
def VE117_0B (s : E117_0B) : List AV := [.int .i64 s.x4]
def HE117_0B (s : E117_0B) : Heap := []
def dE117_0B (x : AExit) (vs : List AV) (H : Heap) : Option E117_0B := match x, vs, H with
  | .ret, [.int .i64 x4], [] => some (⟨x4⟩ : E117_0B)
  | _, _, _ => none
theorem dE117_0B_ok (x : AExit) (vs : List AV) (H : Heap) (s : E117_0B) (h : dE117_0B x vs H = some s) : x = .ret ∧ vs = VE117_0B s ∧ H = HE117_0B s := by
  unfold dE117_0B at h
  split at h
  · skip
    cases h; exact ⟨rfl, rfl, rfl⟩
  · cases h
structure E117_0Bb where
  mk ::
def VE117_0Bb (s : E117_0Bb) : List AV := []
def HE117_0Bb (s : E117_0Bb) : Heap := []
def dE117_0Bb (x : AExit) (vs : List AV) (H : Heap) : Option E117_0Bb := match x, vs, H with
  | .exit 0, [], [] => some (⟨⟩ : E117_0Bb)
  | _, _, _ => none
theorem dE117_0Bb_ok (x : AExit) (vs : List AV) (H : Heap) (s : E117_0Bb) (h : dE117_0Bb x vs H = some s) : x = .exit 0 ∧ vs = VE117_0Bb s ∧ H = HE117_0Bb s := by
  unfold dE117_0Bb at h
  split at h
  · skip
    cases h; exact ⟨rfl, rfl, rfl⟩
  · cases h
abbrev EE117_0B := E117_0B ⊕ E117_0Bb
def xEE117_0B (e : EE117_0B) : AExit := match e with | .inl _ => .ret | .inr _ => .exit 0
def VEE117_0B (e : EE117_0B) : List AV := match e with | .inl s => VE117_0B s | .inr s => VE117_0Bb s
def HEE117_0B (e : EE117_0B) : Heap := match e with | .inl s => HE117_0B s | .inr s => HE117_0Bb s
def dEE117_0B (x : AExit) (vs : List AV) (H : Heap) : Option EE117_0B := match dE117_0B x vs H with | some s => some (.inl s) | none => (match dE117_0Bb x vs H with | some s => some (.inr s) | none => none)
theorem dEE117_0B_ok (x : AExit) (vs : List AV) (H : Heap) (s : EE117_0B) (h : dEE117_0B x vs H = some s) : x = xEE117_0B s ∧ vs = VEE117_0B s ∧ H = HEE117_0B s := by
  unfold dEE117_0B at h
  split at h
  · rename_i q; cases h; exact dE117_0B_ok _ _ _ _ q
  · split at h
    · rename_i q; cases h; exact dE117_0Bb_ok _ _ _ _ q
    · cases h
def pS117_0B (k : Nat) (s : S117_0B) : Option (S117_0B ⊕ EE117_0B) :=
  br (decide (S117_0B.x8 s < S117_0B.x7 s))
   (br (decide ((0 : Int) ≤ S117_0B.x8 s ∧ S117_0B.x8 s < (↑(List.length (S117_0B.x0 s)) : Int)))
    (bindO (f91 k (List.getD (S117_0B.x0 s) (Int.toNat (S117_0B.x8 s)) default)) fun r1500 =>
     br r1500
      (some (Sum.inr (Sum.inl (E117_0B.mk (S117_0B.x8 s)))))
      (some (Sum.inl (S117_0B.mk (S117_0B.x0 s) (S117_0B.x7 s) (IntKind.wrap IntKind.i64 (S117_0B.x8 s + (1 : Int)))))))
    (none))
   (some (Sum.inr (Sum.inr E117_0Bb.mk)))
theorem pS117_0B_run (k : Nat) (s : S117_0B) : evC (S117_0B ⊕ EE117_0B) Try.prog (ntmpsAt Try.prog 117) (cf39 k) ((Lm39 k) 117) 200 (loopAt Try.prog 117 0) (zipE [(0, .rd 9), (1, .any), (7, .any), (8, .any)] (VS117_0B s)) (HS117_0B s) (List.length (HS117_0B s)) (cutS plan 0 tS117_0B (rndT dS117_0B dEE117_0B)) = pS117_0B k s := by kernel_rfl
def l117_0B (k : Nat) (s : S117_0B) : Option EE117_0B := iterT (pS117_0B k) k s
def m117_0B (k : Nat) : LamS := lamT 0 dS117_0B (l117_0B k) (elSum (elAll _) (elAll _)) tS117_0B xEE117_0B VEE117_0B HEE117_0B
theorem loop117_0B : isLoopAt Try.prog 117 0 = true := by kernel_rfl
theorem m117_0B_ok (k : Nat) : LamSOk Try.prog (ntmpsAt Try.prog 117) 0 (.block 0 (.loop (loopAt Try.prog 117 0))) [(0, .rd 9), (1, .any), (7, .any), (8, .any)] (m117_0B k) := lamT_ok (plan := plan) (kb := 0) (body_run noNum mixed (cf39_ok k) (Lm39_ok k) loop117_0B) rfl dS117_0B_ok dEE117_0B_ok (hel := (elSum_ok elAll_ok elAll_ok)) (pS117_0B_run k) k
def Dl40 (k : Nat) : Delta := Dl39 k
def Lm40 (k : Nat) : FuncId → Nat → Option LamF := lCons 117 0 (lamBy plan [9, 10, 5, 11, 12, 13, 14, 15, 16, 17, 4, 18, 8] [(0, .rd 9), (1, .any), (7, .any), (8, .any)] 0 (lamOr (fun vs H => (dS117_0B vs H).isSome) (m117_0B k) (m117_0 k))) (Lm39 k)
theorem Dl40_ok (k : Nat) : DeltaOk Try.prog (Dl40 k) := Dl39_ok k
theorem Lm40_ok (k : Nat) : LamsOk Try.prog (Lm40 k) := lCons_ok (Lm39_ok k) loop117_0B (lamBy_ok (lamOr_ok (m117_0B_ok k) (m117_0_ok k)) (by kernel_rfl))
abbrev cf40 (k : Nat) : CallF := evF Try.prog (Dl40 k) (Lm40 k) 200 12
theorem cf40_ok (k : Nat) : CfOk Try.prog (cf40 k) := evF_ok noNum mixed (Dl40_ok k) (Lm40_ok k) 12
def f50 (k : Nat) (x0 : GMsg) : Option R50 :=
  bindO (f92 k (GMsg.src x0) (0 : Int) (6 : Int)) fun r3000 =>
   br (!r3000)
    (some false)
    (bindO (f92 k (GMsg.to x0) (0 : Int) (6 : Int)) fun r2998 =>
     br (!r2998)
      (some false)
      (br (GMsg.src x0 == GMsg.to x0)
       (some false)
       (bindO (f92 k (GMsg.view x0) (0 : Int) (1000000 : Int)) fun r2995 =>
        br (!r2995)
         (some false)
         (bindO (l117_0B k (S117_0B.mk (GMsg.rows x0) (↑(List.length (GMsg.rows x0)) : Int) (0 : Int))) fun r2993 =>
          match r2993 with
          | .inl c2992 => br (decide (E117_0B.x4 c2992 ≥ (0 : Int)))
            (some false)
            (br (GMsg.kind x0 != (5 : Int))
             (br (GMsg.last x0 != (0 : Int))
              (some false)
              (br (GMsg.kind x0 == (1 : Int))
               (bindO (f92 k (GMsg.commit x0) (0 : Int) (40 : Int)) fun r2989 =>
                br r2989
                 (bindO (f92 k (GMsg.n x0) (1 : Int) (40 : Int)) fun r2988 =>
                  br r2988
                   (some ((↑(List.length (GMsg.rows x0)) : Int) == (1 : Int)))
                   (some false))
                 (some false))
               (br (GMsg.kind x0 == (2 : Int))
                (br (GMsg.kind x0 == (2 : Int))
                 (bindO (f92 k (GMsg.n x0) (0 : Int) (40 : Int)) fun r2984 =>
                  br r2984
                   (br (GMsg.commit x0 == (0 : Int))
                    (some ((↑(List.length (GMsg.rows x0)) : Int) == (0 : Int)))
                    (some false))
                   (some false))
                 (br (GMsg.kind x0 == (3 : Int))
                  (bindO (f92 k (GMsg.commit x0) (0 : Int) (40 : Int)) fun r2980 =>
                   br r2980
                    (br (GMsg.n x0 == (0 : Int))
                     (some ((↑(List.length (GMsg.rows x0)) : Int) == (0 : Int)))
                     (some false))
                    (some false))
                  (br (GMsg.kind x0 == (4 : Int))
                   (br (GMsg.commit x0 == (0 : Int))
                    (br (GMsg.n x0 == (0 : Int))
                     (some ((↑(List.length (GMsg.rows x0)) : Int) == (0 : Int)))
                     (some false))
                    (some false))
                   (br (GMsg.kind x0 == (5 : Int))
                    (br (GMsg.kind x0 == (5 : Int))
                     (br (decide ((↑(List.length (GMsg.rows x0)) : Int) ≤ (40 : Int)))
                      (bindO (f92 k (GMsg.commit x0) (0 : Int) (↑(List.length (GMsg.rows x0)) : Int)) fun r2973 =>
                       br r2973
                        (bindO (f92 k (GMsg.last x0) (0 : Int) (GMsg.view x0)) fun r2972 =>
                         br r2972
                          (some (GMsg.n x0 == (0 : Int)))
                          (some false))
                        (some false))
                      (some false))
                     (br (GMsg.kind x0 == (8 : Int))
                      (bindO (f92 k (GMsg.n x0) (0 : Int) (40 : Int)) fun r2967 =>
                       br r2967
                        (br (decide ((↑(List.length (GMsg.rows x0)) : Int) ≤ IntKind.wrap IntKind.i64 ((40 : Int) - GMsg.n x0)))
                         (bindO (f92 k (GMsg.commit x0) (0 : Int) (40 : Int)) fun r2966 =>
                          some r2966)
                         (some false))
                        (some false))
                      (some false)))
                    (br (GMsg.kind x0 == (6 : Int))
                     (br (decide ((↑(List.length (GMsg.rows x0)) : Int) ≤ (40 : Int)))
                      (bindO (f92 k (GMsg.commit x0) (0 : Int) (↑(List.length (GMsg.rows x0)) : Int)) fun r2961 =>
                       br r2961
                        (bindO (f92 k (GMsg.last x0) (0 : Int) (GMsg.view x0)) fun r2960 =>
                         br r2960
                          (some (GMsg.n x0 == (0 : Int)))
                          (some false))
                        (some false))
                      (some false))
                     (br (GMsg.kind x0 == (8 : Int))
                      (bindO (f92 k (GMsg.n x0) (0 : Int) (40 : Int)) fun r2955 =>
                       br r2955
                        (br (decide ((↑(List.length (GMsg.rows x0)) : Int) ≤ IntKind.wrap IntKind.i64 ((40 : Int) - GMsg.n x0)))
                         (bindO (f92 k (GMsg.commit x0) (0 : Int) (40 : Int)) fun r2954 =>
                          some r2954)
                         (some false))
                        (some false))
                      (some false)))))))
                (br (GMsg.kind x0 == (7 : Int))
                 (bindO (f92 k (GMsg.n x0) (0 : Int) (40 : Int)) fun r2949 =>
                  br r2949
                   (br (GMsg.commit x0 == (0 : Int))
                    (some ((↑(List.length (GMsg.rows x0)) : Int) == (0 : Int)))
                    (some false))
                   (some false))
                 (br (GMsg.kind x0 == (3 : Int))
                  (bindO (f92 k (GMsg.commit x0) (0 : Int) (40 : Int)) fun r2945 =>
                   br r2945
                    (br (GMsg.n x0 == (0 : Int))
                     (some ((↑(List.length (GMsg.rows x0)) : Int) == (0 : Int)))
                     (some false))
                    (some false))
                  (br (GMsg.kind x0 == (4 : Int))
                   (br (GMsg.commit x0 == (0 : Int))
                    (br (GMsg.n x0 == (0 : Int))
                     (some ((↑(List.length (GMsg.rows x0)) : Int) == (0 : Int)))
                     (some false))
                    (some false))
                   (br (GMsg.kind x0 == (5 : Int))
                    (br (GMsg.kind x0 == (5 : Int))
                     (br (decide ((↑(List.length (GMsg.rows x0)) : Int) ≤ (40 : Int)))
                      (bindO (f92 k (GMsg.commit x0) (0 : Int) (↑(List.length (GMsg.rows x0)) : Int)) fun r2938 =>
                       br r2938
                        (bindO (f92 k (GMsg.last x0) (0 : Int) (GMsg.view x0)) fun r2937 =>
                         br r2937
                          (some (GMsg.n x0 == (0 : Int)))
                          (some false))
                        (some false))
                      (some false))
                     (br (GMsg.kind x0 == (8 : Int))
                      (bindO (f92 k (GMsg.n x0) (0 : Int) (40 : Int)) fun r2932 =>
                       br r2932
                        (br (decide ((↑(List.length (GMsg.rows x0)) : Int) ≤ IntKind.wrap IntKind.i64 ((40 : Int) - GMsg.n x0)))
                         (bindO (f92 k (GMsg.commit x0) (0 : Int) (40 : Int)) fun r2931 =>
                          some r2931)
                         (some false))
                        (some false))
                      (some false)))
                    (br (GMsg.kind x0 == (6 : Int))
                     (br (decide ((↑(List.length (GMsg.rows x0)) : Int) ≤ (40 : Int)))
                      (bindO (f92 k (GMsg.commit x0) (0 : Int) (↑(List.length (GMsg.rows x0)) : Int)) fun r2926 =>
                       br r2926
                        (bindO (f92 k (GMsg.last x0) (0 : Int) (GMsg.view x0)) fun r2925 =>
                         br r2925
                          (some (GMsg.n x0 == (0 : Int)))
                          (some false))
                        (some false))
                      (some false))
                     (br (GMsg.kind x0 == (8 : Int))
                      (bindO (f92 k (GMsg.n x0) (0 : Int) (40 : Int)) fun r2920 =>
                       br r2920
                        (br (decide ((↑(List.length (GMsg.rows x0)) : Int) ≤ IntKind.wrap IntKind.i64 ((40 : Int) - GMsg.n x0)))
                         (bindO (f92 k (GMsg.commit x0) (0 : Int) (40 : Int)) fun r2919 =>
                          some r2919)
                         (some false))
                        (some false))
                      (some false))))))))))
             (br (GMsg.kind x0 == (1 : Int))
              (bindO (f92 k (GMsg.commit x0) (0 : Int) (40 : Int)) fun r2914 =>
               br r2914
                (bindO (f92 k (GMsg.n x0) (1 : Int) (40 : Int)) fun r2913 =>
                 br r2913
                  (some ((↑(List.length (GMsg.rows x0)) : Int) == (1 : Int)))
                  (some false))
                (some false))
              (br (GMsg.kind x0 == (2 : Int))
               (br (GMsg.kind x0 == (2 : Int))
                (bindO (f92 k (GMsg.n x0) (0 : Int) (40 : Int)) fun r2909 =>
                 br r2909
                  (br (GMsg.commit x0 == (0 : Int))
                   (some ((↑(List.length (GMsg.rows x0)) : Int) == (0 : Int)))
                   (some false))
                  (some false))
                (br (GMsg.kind x0 == (3 : Int))
                 (bindO (f92 k (GMsg.commit x0) (0 : Int) (40 : Int)) fun r2905 =>
                  br r2905
                   (br (GMsg.n x0 == (0 : Int))
                    (some ((↑(List.length (GMsg.rows x0)) : Int) == (0 : Int)))
                    (some false))
                   (some false))
                 (br (GMsg.kind x0 == (4 : Int))
                  (br (GMsg.commit x0 == (0 : Int))
                   (br (GMsg.n x0 == (0 : Int))
                    (some ((↑(List.length (GMsg.rows x0)) : Int) == (0 : Int)))
                    (some false))
                   (some false))
                  (br (GMsg.kind x0 == (5 : Int))
                   (br (GMsg.kind x0 == (5 : Int))
                    (br (decide ((↑(List.length (GMsg.rows x0)) : Int) ≤ (40 : Int)))
                     (bindO (f92 k (GMsg.commit x0) (0 : Int) (↑(List.length (GMsg.rows x0)) : Int)) fun r2898 =>
                      br r2898
                       (bindO (f92 k (GMsg.last x0) (0 : Int) (GMsg.view x0)) fun r2897 =>
                        br r2897
                         (some (GMsg.n x0 == (0 : Int)))
                         (some false))
                       (some false))
                     (some false))
                    (br (GMsg.kind x0 == (8 : Int))
                     (bindO (f92 k (GMsg.n x0) (0 : Int) (40 : Int)) fun r2892 =>
                      br r2892
                       (br (decide ((↑(List.length (GMsg.rows x0)) : Int) ≤ IntKind.wrap IntKind.i64 ((40 : Int) - GMsg.n x0)))
                        (bindO (f92 k (GMsg.commit x0) (0 : Int) (40 : Int)) fun r2891 =>
                         some r2891)
                        (some false))
                       (some false))
                     (some false)))
                   (br (GMsg.kind x0 == (6 : Int))
                    (br (decide ((↑(List.length (GMsg.rows x0)) : Int) ≤ (40 : Int)))
                     (bindO (f92 k (GMsg.commit x0) (0 : Int) (↑(List.length (GMsg.rows x0)) : Int)) fun r2886 =>
                      br r2886
                       (bindO (f92 k (GMsg.last x0) (0 : Int) (GMsg.view x0)) fun r2885 =>
                        br r2885
                         (some (GMsg.n x0 == (0 : Int)))
                         (some false))
                       (some false))
                     (some false))
                    (br (GMsg.kind x0 == (8 : Int))
                     (bindO (f92 k (GMsg.n x0) (0 : Int) (40 : Int)) fun r2880 =>
                      br r2880
                       (br (decide ((↑(List.length (GMsg.rows x0)) : Int) ≤ IntKind.wrap IntKind.i64 ((40 : Int) - GMsg.n x0)))
                        (bindO (f92 k (GMsg.commit x0) (0 : Int) (40 : Int)) fun r2879 =>
                         some r2879)
                        (some false))
                       (some false))
                     (some false)))))))
               (br (GMsg.kind x0 == (7 : Int))
                (bindO (f92 k (GMsg.n x0) (0 : Int) (40 : Int)) fun r2874 =>
                 br r2874
                  (br (GMsg.commit x0 == (0 : Int))
                   (some ((↑(List.length (GMsg.rows x0)) : Int) == (0 : Int)))
                   (some false))
                  (some false))
                (br (GMsg.kind x0 == (3 : Int))
                 (bindO (f92 k (GMsg.commit x0) (0 : Int) (40 : Int)) fun r2870 =>
                  br r2870
                   (br (GMsg.n x0 == (0 : Int))
                    (some ((↑(List.length (GMsg.rows x0)) : Int) == (0 : Int)))
                    (some false))
                   (some false))
                 (br (GMsg.kind x0 == (4 : Int))
                  (br (GMsg.commit x0 == (0 : Int))
                   (br (GMsg.n x0 == (0 : Int))
                    (some ((↑(List.length (GMsg.rows x0)) : Int) == (0 : Int)))
                    (some false))
                   (some false))
                  (br (GMsg.kind x0 == (5 : Int))
                   (br (GMsg.kind x0 == (5 : Int))
                    (br (decide ((↑(List.length (GMsg.rows x0)) : Int) ≤ (40 : Int)))
                     (bindO (f92 k (GMsg.commit x0) (0 : Int) (↑(List.length (GMsg.rows x0)) : Int)) fun r2863 =>
                      br r2863
                       (bindO (f92 k (GMsg.last x0) (0 : Int) (GMsg.view x0)) fun r2862 =>
                        br r2862
                         (some (GMsg.n x0 == (0 : Int)))
                         (some false))
                       (some false))
                     (some false))
                    (br (GMsg.kind x0 == (8 : Int))
                     (bindO (f92 k (GMsg.n x0) (0 : Int) (40 : Int)) fun r2857 =>
                      br r2857
                       (br (decide ((↑(List.length (GMsg.rows x0)) : Int) ≤ IntKind.wrap IntKind.i64 ((40 : Int) - GMsg.n x0)))
                        (bindO (f92 k (GMsg.commit x0) (0 : Int) (40 : Int)) fun r2856 =>
                         some r2856)
                        (some false))
                       (some false))
                     (some false)))
                   (br (GMsg.kind x0 == (6 : Int))
                    (br (decide ((↑(List.length (GMsg.rows x0)) : Int) ≤ (40 : Int)))
                     (bindO (f92 k (GMsg.commit x0) (0 : Int) (↑(List.length (GMsg.rows x0)) : Int)) fun r2851 =>
                      br r2851
                       (bindO (f92 k (GMsg.last x0) (0 : Int) (GMsg.view x0)) fun r2850 =>
                        br r2850
                         (some (GMsg.n x0 == (0 : Int)))
                         (some false))
                       (some false))
                     (some false))
                    (br (GMsg.kind x0 == (8 : Int))
                     (bindO (f92 k (GMsg.n x0) (0 : Int) (40 : Int)) fun r2845 =>
                      br r2845
                       (br (decide ((↑(List.length (GMsg.rows x0)) : Int) ≤ IntKind.wrap IntKind.i64 ((40 : Int) - GMsg.n x0)))
                        (bindO (f92 k (GMsg.commit x0) (0 : Int) (40 : Int)) fun r2844 =>
                         some r2844)
                        (some false))
                       (some false))
                     (some false))))))))))
          | .inr c2992 => br (GMsg.kind x0 != (5 : Int))
            (br (GMsg.last x0 != (0 : Int))
             (some false)
             (br (GMsg.kind x0 == (1 : Int))
              (bindO (f92 k (GMsg.commit x0) (0 : Int) (40 : Int)) fun r2838 =>
               br r2838
                (bindO (f92 k (GMsg.n x0) (1 : Int) (40 : Int)) fun r2837 =>
                 br r2837
                  (some ((↑(List.length (GMsg.rows x0)) : Int) == (1 : Int)))
                  (some false))
                (some false))
              (br (GMsg.kind x0 == (2 : Int))
               (br (GMsg.kind x0 == (2 : Int))
                (bindO (f92 k (GMsg.n x0) (0 : Int) (40 : Int)) fun r2833 =>
                 br r2833
                  (br (GMsg.commit x0 == (0 : Int))
                   (some ((↑(List.length (GMsg.rows x0)) : Int) == (0 : Int)))
                   (some false))
                  (some false))
                (br (GMsg.kind x0 == (3 : Int))
                 (bindO (f92 k (GMsg.commit x0) (0 : Int) (40 : Int)) fun r2829 =>
                  br r2829
                   (br (GMsg.n x0 == (0 : Int))
                    (some ((↑(List.length (GMsg.rows x0)) : Int) == (0 : Int)))
                    (some false))
                   (some false))
                 (br (GMsg.kind x0 == (4 : Int))
                  (br (GMsg.commit x0 == (0 : Int))
                   (br (GMsg.n x0 == (0 : Int))
                    (some ((↑(List.length (GMsg.rows x0)) : Int) == (0 : Int)))
                    (some false))
                   (some false))
                  (br (GMsg.kind x0 == (5 : Int))
                   (br (GMsg.kind x0 == (5 : Int))
                    (br (decide ((↑(List.length (GMsg.rows x0)) : Int) ≤ (40 : Int)))
                     (bindO (f92 k (GMsg.commit x0) (0 : Int) (↑(List.length (GMsg.rows x0)) : Int)) fun r2822 =>
                      br r2822
                       (bindO (f92 k (GMsg.last x0) (0 : Int) (GMsg.view x0)) fun r2821 =>
                        br r2821
                         (some (GMsg.n x0 == (0 : Int)))
                         (some false))
                       (some false))
                     (some false))
                    (br (GMsg.kind x0 == (8 : Int))
                     (bindO (f92 k (GMsg.n x0) (0 : Int) (40 : Int)) fun r2816 =>
                      br r2816
                       (br (decide ((↑(List.length (GMsg.rows x0)) : Int) ≤ IntKind.wrap IntKind.i64 ((40 : Int) - GMsg.n x0)))
                        (bindO (f92 k (GMsg.commit x0) (0 : Int) (40 : Int)) fun r2815 =>
                         some r2815)
                        (some false))
                       (some false))
                     (some false)))
                   (br (GMsg.kind x0 == (6 : Int))
                    (br (decide ((↑(List.length (GMsg.rows x0)) : Int) ≤ (40 : Int)))
                     (bindO (f92 k (GMsg.commit x0) (0 : Int) (↑(List.length (GMsg.rows x0)) : Int)) fun r2810 =>
                      br r2810
                       (bindO (f92 k (GMsg.last x0) (0 : Int) (GMsg.view x0)) fun r2809 =>
                        br r2809
                         (some (GMsg.n x0 == (0 : Int)))
                         (some false))
                       (some false))
                     (some false))
                    (br (GMsg.kind x0 == (8 : Int))
                     (bindO (f92 k (GMsg.n x0) (0 : Int) (40 : Int)) fun r2804 =>
                      br r2804
                       (br (decide ((↑(List.length (GMsg.rows x0)) : Int) ≤ IntKind.wrap IntKind.i64 ((40 : Int) - GMsg.n x0)))
                        (bindO (f92 k (GMsg.commit x0) (0 : Int) (40 : Int)) fun r2803 =>
                         some r2803)
                        (some false))
                       (some false))
                     (some false)))))))
               (br (GMsg.kind x0 == (7 : Int))
                (bindO (f92 k (GMsg.n x0) (0 : Int) (40 : Int)) fun r2798 =>
                 br r2798
                  (br (GMsg.commit x0 == (0 : Int))
                   (some ((↑(List.length (GMsg.rows x0)) : Int) == (0 : Int)))
                   (some false))
                  (some false))
                (br (GMsg.kind x0 == (3 : Int))
                 (bindO (f92 k (GMsg.commit x0) (0 : Int) (40 : Int)) fun r2794 =>
                  br r2794
                   (br (GMsg.n x0 == (0 : Int))
                    (some ((↑(List.length (GMsg.rows x0)) : Int) == (0 : Int)))
                    (some false))
                   (some false))
                 (br (GMsg.kind x0 == (4 : Int))
                  (br (GMsg.commit x0 == (0 : Int))
                   (br (GMsg.n x0 == (0 : Int))
                    (some ((↑(List.length (GMsg.rows x0)) : Int) == (0 : Int)))
                    (some false))
                   (some false))
                  (br (GMsg.kind x0 == (5 : Int))
                   (br (GMsg.kind x0 == (5 : Int))
                    (br (decide ((↑(List.length (GMsg.rows x0)) : Int) ≤ (40 : Int)))
                     (bindO (f92 k (GMsg.commit x0) (0 : Int) (↑(List.length (GMsg.rows x0)) : Int)) fun r2787 =>
                      br r2787
                       (bindO (f92 k (GMsg.last x0) (0 : Int) (GMsg.view x0)) fun r2786 =>
                        br r2786
                         (some (GMsg.n x0 == (0 : Int)))
                         (some false))
                       (some false))
                     (some false))
                    (br (GMsg.kind x0 == (8 : Int))
                     (bindO (f92 k (GMsg.n x0) (0 : Int) (40 : Int)) fun r2781 =>
                      br r2781
                       (br (decide ((↑(List.length (GMsg.rows x0)) : Int) ≤ IntKind.wrap IntKind.i64 ((40 : Int) - GMsg.n x0)))
                        (bindO (f92 k (GMsg.commit x0) (0 : Int) (40 : Int)) fun r2780 =>
                         some r2780)
                        (some false))
                       (some false))
                     (some false)))
                   (br (GMsg.kind x0 == (6 : Int))
                    (br (decide ((↑(List.length (GMsg.rows x0)) : Int) ≤ (40 : Int)))
                     (bindO (f92 k (GMsg.commit x0) (0 : Int) (↑(List.length (GMsg.rows x0)) : Int)) fun r2775 =>
                      br r2775
                       (bindO (f92 k (GMsg.last x0) (0 : Int) (GMsg.view x0)) fun r2774 =>
                        br r2774
                         (some (GMsg.n x0 == (0 : Int)))
                         (some false))
                       (some false))
                     (some false))
                    (br (GMsg.kind x0 == (8 : Int))
                     (bindO (f92 k (GMsg.n x0) (0 : Int) (40 : Int)) fun r2769 =>
                      br r2769
                       (br (decide ((↑(List.length (GMsg.rows x0)) : Int) ≤ IntKind.wrap IntKind.i64 ((40 : Int) - GMsg.n x0)))
                        (bindO (f92 k (GMsg.commit x0) (0 : Int) (40 : Int)) fun r2768 =>
                         some r2768)
                        (some false))
                       (some false))
                     (some false))))))))))
            (br (GMsg.kind x0 == (1 : Int))
             (bindO (f92 k (GMsg.commit x0) (0 : Int) (40 : Int)) fun r2763 =>
              br r2763
               (bindO (f92 k (GMsg.n x0) (1 : Int) (40 : Int)) fun r2762 =>
                br r2762
                 (some ((↑(List.length (GMsg.rows x0)) : Int) == (1 : Int)))
                 (some false))
               (some false))
             (br (GMsg.kind x0 == (2 : Int))
              (br (GMsg.kind x0 == (2 : Int))
               (bindO (f92 k (GMsg.n x0) (0 : Int) (40 : Int)) fun r2758 =>
                br r2758
                 (br (GMsg.commit x0 == (0 : Int))
                  (some ((↑(List.length (GMsg.rows x0)) : Int) == (0 : Int)))
                  (some false))
                 (some false))
               (br (GMsg.kind x0 == (3 : Int))
                (bindO (f92 k (GMsg.commit x0) (0 : Int) (40 : Int)) fun r2754 =>
                 br r2754
                  (br (GMsg.n x0 == (0 : Int))
                   (some ((↑(List.length (GMsg.rows x0)) : Int) == (0 : Int)))
                   (some false))
                  (some false))
                (br (GMsg.kind x0 == (4 : Int))
                 (br (GMsg.commit x0 == (0 : Int))
                  (br (GMsg.n x0 == (0 : Int))
                   (some ((↑(List.length (GMsg.rows x0)) : Int) == (0 : Int)))
                   (some false))
                  (some false))
                 (br (GMsg.kind x0 == (5 : Int))
                  (br (GMsg.kind x0 == (5 : Int))
                   (br (decide ((↑(List.length (GMsg.rows x0)) : Int) ≤ (40 : Int)))
                    (bindO (f92 k (GMsg.commit x0) (0 : Int) (↑(List.length (GMsg.rows x0)) : Int)) fun r2747 =>
                     br r2747
                      (bindO (f92 k (GMsg.last x0) (0 : Int) (GMsg.view x0)) fun r2746 =>
                       br r2746
                        (some (GMsg.n x0 == (0 : Int)))
                        (some false))
                      (some false))
                    (some false))
                   (br (GMsg.kind x0 == (8 : Int))
                    (bindO (f92 k (GMsg.n x0) (0 : Int) (40 : Int)) fun r2741 =>
                     br r2741
                      (br (decide ((↑(List.length (GMsg.rows x0)) : Int) ≤ IntKind.wrap IntKind.i64 ((40 : Int) - GMsg.n x0)))
                       (bindO (f92 k (GMsg.commit x0) (0 : Int) (40 : Int)) fun r2740 =>
                        some r2740)
                       (some false))
                      (some false))
                    (some false)))
                  (br (GMsg.kind x0 == (6 : Int))
                   (br (decide ((↑(List.length (GMsg.rows x0)) : Int) ≤ (40 : Int)))
                    (bindO (f92 k (GMsg.commit x0) (0 : Int) (↑(List.length (GMsg.rows x0)) : Int)) fun r2735 =>
                     br r2735
                      (bindO (f92 k (GMsg.last x0) (0 : Int) (GMsg.view x0)) fun r2734 =>
                       br r2734
                        (some (GMsg.n x0 == (0 : Int)))
                        (some false))
                      (some false))
                    (some false))
                   (br (GMsg.kind x0 == (8 : Int))
                    (bindO (f92 k (GMsg.n x0) (0 : Int) (40 : Int)) fun r2729 =>
                     br r2729
                      (br (decide ((↑(List.length (GMsg.rows x0)) : Int) ≤ IntKind.wrap IntKind.i64 ((40 : Int) - GMsg.n x0)))
                       (bindO (f92 k (GMsg.commit x0) (0 : Int) (40 : Int)) fun r2728 =>
                        some r2728)
                       (some false))
                      (some false))
                    (some false)))))))
              (br (GMsg.kind x0 == (7 : Int))
               (bindO (f92 k (GMsg.n x0) (0 : Int) (40 : Int)) fun r2723 =>
                br r2723
                 (br (GMsg.commit x0 == (0 : Int))
                  (some ((↑(List.length (GMsg.rows x0)) : Int) == (0 : Int)))
                  (some false))
                 (some false))
               (br (GMsg.kind x0 == (3 : Int))
                (bindO (f92 k (GMsg.commit x0) (0 : Int) (40 : Int)) fun r2719 =>
                 br r2719
                  (br (GMsg.n x0 == (0 : Int))
                   (some ((↑(List.length (GMsg.rows x0)) : Int) == (0 : Int)))
                   (some false))
                  (some false))
                (br (GMsg.kind x0 == (4 : Int))
                 (br (GMsg.commit x0 == (0 : Int))
                  (br (GMsg.n x0 == (0 : Int))
                   (some ((↑(List.length (GMsg.rows x0)) : Int) == (0 : Int)))
                   (some false))
                  (some false))
                 (br (GMsg.kind x0 == (5 : Int))
                  (br (GMsg.kind x0 == (5 : Int))
                   (br (decide ((↑(List.length (GMsg.rows x0)) : Int) ≤ (40 : Int)))
                    (bindO (f92 k (GMsg.commit x0) (0 : Int) (↑(List.length (GMsg.rows x0)) : Int)) fun r2712 =>
                     br r2712
                      (bindO (f92 k (GMsg.last x0) (0 : Int) (GMsg.view x0)) fun r2711 =>
                       br r2711
                        (some (GMsg.n x0 == (0 : Int)))
                        (some false))
                      (some false))
                    (some false))
                   (br (GMsg.kind x0 == (8 : Int))
                    (bindO (f92 k (GMsg.n x0) (0 : Int) (40 : Int)) fun r2706 =>
                     br r2706
                      (br (decide ((↑(List.length (GMsg.rows x0)) : Int) ≤ IntKind.wrap IntKind.i64 ((40 : Int) - GMsg.n x0)))
                       (bindO (f92 k (GMsg.commit x0) (0 : Int) (40 : Int)) fun r2705 =>
                        some r2705)
                       (some false))
                      (some false))
                    (some false)))
                  (br (GMsg.kind x0 == (6 : Int))
                   (br (decide ((↑(List.length (GMsg.rows x0)) : Int) ≤ (40 : Int)))
                    (bindO (f92 k (GMsg.commit x0) (0 : Int) (↑(List.length (GMsg.rows x0)) : Int)) fun r2700 =>
                     br r2700
                      (bindO (f92 k (GMsg.last x0) (0 : Int) (GMsg.view x0)) fun r2699 =>
                       br r2699
                        (some (GMsg.n x0 == (0 : Int)))
                        (some false))
                      (some false))
                    (some false))
                   (br (GMsg.kind x0 == (8 : Int))
                    (bindO (f92 k (GMsg.n x0) (0 : Int) (40 : Int)) fun r2694 =>
                     br r2694
                      (br (decide ((↑(List.length (GMsg.rows x0)) : Int) ≤ IntKind.wrap IntKind.i64 ((40 : Int) - GMsg.n x0)))
                       (bindO (f92 k (GMsg.commit x0) (0 : Int) (40 : Int)) fun r2693 =>
                        some r2693)
                       (some false))
                      (some false))
                    (some false)))))))))))))
theorem f50_run (k : Nat) (x0 : GMsg) : cf40 k R50 50 (A50 (x0)) [] 0 (endR planR (.any) [] 0 r50) = f50 k x0 := by kernel_rfl
def g50 (k : Nat) : CallS := entT d50 (fun p => f50 k p) (elAll _) (fun _ => o50) (fun _ => u50) (fun _ => n50)
theorem g50_ok (k : Nat) : CallSOk Try.prog 50 (g50 k) := entry_ok (Hp := fun _ => []) (oR := fun _ => o50) (uR := fun _ => u50) (nR := fun _ => n50) (cf40_ok k) d50_ok r50_ok (hel := elAll_ok) (fun p => f50_run k p)
def Dl41 (k : Nat) : Delta := dCons 50 (callAt plan [.agg [.any, .any, .any, .any, .any, .any, .any, .rd 9]] (g50 k)) (Dl40 k)
def Lm41 (k : Nat) : FuncId → Nat → Option LamF := Lm40 k
theorem Dl41_ok (k : Nat) : DeltaOk Try.prog (Dl41 k) := dCons_ok (Dl40_ok k) (g50_ok k)
theorem Lm41_ok (k : Nat) : LamsOk Try.prog (Lm41 k) := Lm40_ok k
abbrev cf41 (k : Nat) : CallF := evF Try.prog (Dl41 k) (Lm41 k) 200 12
theorem cf41_ok (k : Nat) : CfOk Try.prog (cf41 k) := evF_ok noNum mixed (Dl41_ok k) (Lm41_ok k) 12
abbrev P49 := GNode
def A49 (p : P49) : List AV := [.agg [.int .i64 p.id, .int .i64 p.n, .int .i64 p.view, .int .i64 p.last, .int .i64 p.phase, .int .i64 p.commit, .dsl 9 p.rows, .dsl 3 p.far, .int .i64 p.starts, .dsl 89 p.votes]]
def d49 (a : List AV) (H : Heap) : Option P49 := match a, H with
  | [.agg [.int .i64 a0, .int .i64 a1, .int .i64 a2, .int .i64 a3, .int .i64 a4, .int .i64 a5, ba6, ba7, .int .i64 a8, ba9]], [] => (match (dslD 9 ba6 : Option (List ByteArray)) with | some a6 => (match (dslD 3 ba7 : Option (List Int)) with | some a7 => (match (dslD 89 ba9 : Option (List GVote)) with | some a9 => some ((⟨a0, a1, a2, a3, a4, a5, a6, a7, a8, a9⟩ : GNode)) | none => none) | none => none) | none => none)
  | _, _ => none
theorem d49_ok (a : List AV) (H : Heap) (p : P49) (h : d49 a H = some p) : a = A49 p ∧ H = [] := by
  unfold d49 at h
  split at h
  · skip
    split at h
    · rename_i q
      have q := dslD_ok q
      subst q
      split at h
      · rename_i q
        have q := dslD_ok q
        subst q
        split at h
        · rename_i q
          have q := dslD_ok q
          subst q
          cases h; exact ⟨rfl, rfl⟩
        · cases h
      · cases h
    · cases h
  · cases h
def planR49 : Plan := fun t => match t with
  | 42 => some [.any, .any, .any, .any, .any, .any, .ro 9, .ro 3, .any, .ro 89]
  | 43 => some [.any, .any, .any, .any, .any, .any, .ro 9, .ro 3, .any, .ro 89]
  | 44 => some [.any, .any, .any, .any, .any, .any, .any, .ro 9]
  | 45 => some [.any, .any, .any, .any, .any, .any, .any, .ro 9]
  | 77 => some [.any, .any, .any, .any, .any, .any, .ro 9, .ro 3, .any, .ro 89]
  | 78 => some [.any, .any, .any, .any, .any, .any, .ro 9, .ro 3, .any, .ro 89]
  | 79 => some [.any, .any, .any, .any, .any, .any, .ro 9, .ro 3, .any, .ro 89, .ro 45]
  | 80 => some [.any, .any, .any, .any, .any, .any, .fresh 9, .fresh 3, .any, .ro 89, .fresh 45]
  | 88 => some [.any, .any, .any, .ro 9]
  | 89 => some [.any, .any, .any, .ro 9]
  | 129 => some [.any, .any, .any, .ro 9]
  | 130 => some [.any, .any, .any, .ro 9]
  | 137 => some [.any, .any, .any, .ro 9, .any]
  | 138 => some [.any, .any, .any, .ro 9, .any]
  | _ => none
abbrev R49 := Except Int GActor
def o49 (r : R49) : AEnd := match r with
  | .ok r => .ret (.ptr 0 0 0)
  | .error e => .pan (.iface 24 (.int .i64 e))
def u49 (r : R49) : Heap := match r with
  | .ok r => [(0, some (.box 80 [.int .i64 r.state.id, .int .i64 r.state.n, .int .i64 r.state.view, .int .i64 r.state.last, .int .i64 r.state.phase, .int .i64 r.state.commit, .slf 1, .slf 2, .int .i64 r.state.starts, .dsl 89 r.state.votes, .slf 3])), (1, some (.row 9 r.state.rows)), (2, some (.row 3 r.state.far)), (3, some (.row 45 r.told))]
  | .error _ => []
def n49 (r : R49) : Nat := match r with
  | .ok _ => 4
  | .error _ => 0
def r49 (o : AEnd) (u : Heap) (n : Nat) : Option R49 := match o, u, n with
  | .ret (.ptr 0 0 0), [(0, some (.box 80 [.int .i64 a0, .int .i64 a1, .int .i64 a2, .int .i64 a3, .int .i64 a4, .int .i64 a5, .slf 1, .slf 2, .int .i64 a6, ba7, .slf 3])), (1, ba8), (2, ba9), (3, ba10)], 4 => (match (dslD 89 ba7 : Option (List GVote)) with | some a7 => (match (rowD 9 ba8 : Option (List ByteArray)) with | some a8 => (match (rowD 3 ba9 : Option (List Int)) with | some a9 => (match (rowD 45 ba10 : Option (List GMsg)) with | some a10 => some (.ok ((⟨⟨a0, a1, a2, a3, a4, a5, a8, a9, a6, a7⟩, a10⟩ : GActor))) | none => none) | none => none) | none => none) | none => none)
  | .pan (.iface 24 (.int .i64 e)), [], 0 => some (.error e)
  | _, _, _ => none
theorem r49_ok (p : P49) (o : AEnd) (u : Heap) (n : Nat) (r : R49) (h : r49 o u n = some r) : o = o49 r ∧ u = u49 r ∧ n = n49 r := by
  unfold r49 at h
  split at h
  · skip
    split at h
    · rename_i q
      have q := dslD_ok q
      subst q
      split at h
      · rename_i q
        have q := rowD_ok q
        subst q
        split at h
        · rename_i q
          have q := rowD_ok q
          subst q
          split at h
          · rename_i q
            have q := rowD_ok q
            subst q
            cases h; exact ⟨rfl, rfl, rfl⟩
          · cases h
        · cases h
      · cases h
    · cases h
  · cases h; exact ⟨rfl, rfl, rfl⟩
  · cases h
structure S49_0 where
  mk ::
  x21 : List GVote
  x22 : Int
  x23 : Int
  h0_0 : Int
  h0_1 : Int
  h0_2 : Int
  h0_3 : Int
  h0_4 : Int
  h0_5 : Int
  h0_8 : Int
  h0_9 : List GVote
  h1 : List ByteArray
  h2 : List Int
def VS49_0 (s : S49_0) : List AV := [.ptr 0 0 0, .dsl 89 s.x21, .int .i64 s.x22, .int .i64 s.x23]
def HS49_0 (s : S49_0) : Heap := [(0, some (.box 43 [.int .i64 s.h0_0, .int .i64 s.h0_1, .int .i64 s.h0_2, .int .i64 s.h0_3, .int .i64 s.h0_4, .int .i64 s.h0_5, .slf 1, .slf 2, .int .i64 s.h0_8, .dsl 89 s.h0_9])), (1, some (.row 9 s.h1)), (2, some (.row 3 s.h2))]
def dS49_0 (vs : List AV) (H : Heap) : Option S49_0 := match vs, H with
  | [.ptr 0 0 0, bx21, .int .i64 x22, .int .i64 x23], [(0, some (.box 43 [.int .i64 h0_0, .int .i64 h0_1, .int .i64 h0_2, .int .i64 h0_3, .int .i64 h0_4, .int .i64 h0_5, .slf 1, .slf 2, .int .i64 h0_8, bh0_9])), (1, bh1), (2, bh2)] => (match (dslD 89 bx21 : Option (List GVote)) with | some x21 => (match (dslD 89 bh0_9 : Option (List GVote)) with | some h0_9 => (match (rowD 9 bh1 : Option (List ByteArray)) with | some h1 => (match (rowD 3 bh2 : Option (List Int)) with | some h2 => some (⟨x21, x22, x23, h0_0, h0_1, h0_2, h0_3, h0_4, h0_5, h0_8, h0_9, h1, h2⟩ : S49_0) | none => none) | none => none) | none => none) | none => none)
  | _, _ => none
theorem dS49_0_ok (vs : List AV) (H : Heap) (s : S49_0) (h : dS49_0 vs H = some s) : vs = VS49_0 s ∧ H = HS49_0 s := by
  unfold dS49_0 at h
  split at h
  · skip
    split at h
    · rename_i q
      have q := dslD_ok q
      subst q
      split at h
      · rename_i q
        have q := dslD_ok q
        subst q
        split at h
        · rename_i q
          have q := rowD_ok q
          subst q
          split at h
          · rename_i q
            have q := rowD_ok q
            subst q
            cases h; exact ⟨rfl, rfl⟩
          · cases h
        · cases h
      · cases h
    · cases h
  · cases h
def tS49_0 : AExit → List (Nat × Kd) := fun x => match x with
  | .normal => [(1, .any), (21, .rd 89), (22, .any), (23, .any)]
  | .exit i => (match i with | 0 => [(1, .any)] | _ => [])
  | .ret => [(2, .any)]
  | _ => []
structure E49_0 where
  mk ::
  h0_0 : Int
  h0_1 : Int
  h0_2 : Int
  h0_3 : Int
  h0_4 : Int
  h0_5 : Int
  h0_8 : Int
  h0_9 : List GVote
  h1 : List ByteArray
  h2 : List Int
def VE49_0 (s : E49_0) : List AV := [.ptr 0 0 0]
def HE49_0 (s : E49_0) : Heap := [(0, some (.box 43 [.int .i64 s.h0_0, .int .i64 s.h0_1, .int .i64 s.h0_2, .int .i64 s.h0_3, .int .i64 s.h0_4, .int .i64 s.h0_5, .slf 1, .slf 2, .int .i64 s.h0_8, .dsl 89 s.h0_9])), (1, some (.row 9 s.h1)), (2, some (.row 3 s.h2))]
def dE49_0 (x : AExit) (vs : List AV) (H : Heap) : Option E49_0 := match x, vs, H with
  | .exit 0, [.ptr 0 0 0], [(0, some (.box 43 [.int .i64 h0_0, .int .i64 h0_1, .int .i64 h0_2, .int .i64 h0_3, .int .i64 h0_4, .int .i64 h0_5, .slf 1, .slf 2, .int .i64 h0_8, bh0_9])), (1, bh1), (2, bh2)] => (match (dslD 89 bh0_9 : Option (List GVote)) with | some h0_9 => (match (rowD 9 bh1 : Option (List ByteArray)) with | some h1 => (match (rowD 3 bh2 : Option (List Int)) with | some h2 => some (⟨h0_0, h0_1, h0_2, h0_3, h0_4, h0_5, h0_8, h0_9, h1, h2⟩ : E49_0) | none => none) | none => none) | none => none)
  | _, _, _ => none
theorem dE49_0_ok (x : AExit) (vs : List AV) (H : Heap) (s : E49_0) (h : dE49_0 x vs H = some s) : x = .exit 0 ∧ vs = VE49_0 s ∧ H = HE49_0 s := by
  unfold dE49_0 at h
  split at h
  · skip
    split at h
    · rename_i q
      have q := dslD_ok q
      subst q
      split at h
      · rename_i q
        have q := rowD_ok q
        subst q
        split at h
        · rename_i q
          have q := rowD_ok q
          subst q
          cases h; exact ⟨rfl, rfl, rfl⟩
        · cases h
      · cases h
    · cases h
  · cases h
def xE49_0 (_ : E49_0) : AExit := .exit 0
def pS49_0 (k : Nat) (s : S49_0) : Option (S49_0 ⊕ E49_0) :=
  br (decide (S49_0.x23 s < S49_0.x22 s))
   (br (decide ((0 : Int) ≤ S49_0.x23 s ∧ S49_0.x23 s < (↑(List.length (S49_0.x21 s)) : Int)))
    (bindO (f90 k (S49_0.h0_9 s) (List.getD (S49_0.x21 s) (Int.toNat (S49_0.x23 s)) default)) fun r1500 =>
     some (Sum.inl (S49_0.mk (S49_0.x21 s) (S49_0.x22 s) (IntKind.wrap IntKind.i64 (S49_0.x23 s + (1 : Int))) (S49_0.h0_0 s) (S49_0.h0_1 s) (S49_0.h0_2 s) (S49_0.h0_3 s) (S49_0.h0_4 s) (S49_0.h0_5 s) (S49_0.h0_8 s) r1500 (S49_0.h1 s) (S49_0.h2 s))))
    (none))
   (some (Sum.inr (E49_0.mk (S49_0.h0_0 s) (S49_0.h0_1 s) (S49_0.h0_2 s) (S49_0.h0_3 s) (S49_0.h0_4 s) (S49_0.h0_5 s) (S49_0.h0_8 s) (S49_0.h0_9 s) (S49_0.h1 s) (S49_0.h2 s))))
theorem pS49_0_run (k : Nat) (s : S49_0) : evC (S49_0 ⊕ E49_0) Try.prog (ntmpsAt Try.prog 49) (cf41 k) ((Lm41 k) 49) 200 (loopAt Try.prog 49 0) (zipE [(1, .any), (21, .rd 89), (22, .any), (23, .any)] (VS49_0 s)) (HS49_0 s) (List.length (HS49_0 s)) (cutS plan 1 tS49_0 (rndT dS49_0 dE49_0)) = pS49_0 k s := by kernel_rfl
def l49_0 (k : Nat) (s : S49_0) : Option E49_0 := iterT (pS49_0 k) k s
def m49_0 (k : Nat) : LamS := lamT 0 dS49_0 (l49_0 k) (elAll _) tS49_0 xE49_0 VE49_0 HE49_0
theorem loop49_0 : isLoopAt Try.prog 49 0 = true := by kernel_rfl
theorem m49_0_ok (k : Nat) : LamSOk Try.prog (ntmpsAt Try.prog 49) 1 (.block 0 (.loop (loopAt Try.prog 49 0))) [(1, .any), (21, .rd 89), (22, .any), (23, .any)] (m49_0 k) := lamT_ok (plan := plan) (kb := 1) (body_run noNum mixed (cf41_ok k) (Lm41_ok k) loop49_0) rfl dS49_0_ok dE49_0_ok (hel := elAll_ok) (pS49_0_run k) k
def Dl42 (k : Nat) : Delta := Dl41 k
def Lm42 (k : Nat) : FuncId → Nat → Option LamF := lCons 49 0 (lamBy plan [24, 25, 26, 5, 27, 28, 29, 30, 31, 32, 23] [(1, .any), (21, .rd 89), (22, .any), (23, .any)] 1 (m49_0 k)) (Lm41 k)
theorem Dl42_ok (k : Nat) : DeltaOk Try.prog (Dl42 k) := Dl41_ok k
theorem Lm42_ok (k : Nat) : LamsOk Try.prog (Lm42 k) := lCons_ok (Lm41_ok k) loop49_0 (lamBy_ok (m49_0_ok k) (by kernel_rfl))
abbrev cf42 (k : Nat) : CallF := evF Try.prog (Dl42 k) (Lm42 k) 200 12
theorem cf42_ok (k : Nat) : CfOk Try.prog (cf42 k) := evF_ok noNum mixed (Dl42_ok k) (Lm42_ok k) 12
def f49 (k : Nat) (x0 : GNode) : Option R49 :=
  bindO (f35 k x0) fun r3000 =>
   br (!r3000)
    (some (Except.error (1 : Int)))
    (bindO (f88 k (GNode.rows x0)) fun r2998 =>
     bindO (f89 k (GNode.far x0)) fun r2997 =>
      bindO (l49_0 k (S49_0.mk (GNode.votes x0) (↑(List.length (GNode.votes x0)) : Int) (0 : Int) (GNode.id x0) (GNode.n x0) (GNode.view x0) (GNode.last x0) (GNode.phase x0) (GNode.commit x0) (GNode.starts x0) [] r2998 r2997)) fun r2996 =>
       some (Except.ok (GActor.mk (GNode.mk (E49_0.h0_0 r2996) (E49_0.h0_1 r2996) (E49_0.h0_2 r2996) (E49_0.h0_3 r2996) (E49_0.h0_4 r2996) (E49_0.h0_5 r2996) (E49_0.h1 r2996) (E49_0.h2 r2996) (E49_0.h0_8 r2996) (E49_0.h0_9 r2996)) [])))
theorem f49_run (k : Nat) (x0 : GNode) : cf42 k R49 49 (A49 (x0)) [] 0 (endR planR49 (.any) [] 0 r49) = f49 k x0 := by kernel_rfl
def g49 (k : Nat) : CallS := entT d49 (fun p => f49 k p) (elExc) (fun _ => o49) (fun _ => u49) (fun _ => n49)
theorem g49_ok (k : Nat) : CallSOk Try.prog 49 (g49 k) := entry_ok (Hp := fun _ => []) (oR := fun _ => o49) (uR := fun _ => u49) (nR := fun _ => n49) (cf42_ok k) d49_ok r49_ok (hel := elExc_ok) (fun p => f49_run k p)
def Dl43 (k : Nat) : Delta := dCons 49 (callAt plan [.agg [.any, .any, .any, .any, .any, .any, .rd 9, .rd 3, .any, .rd 89]] (g49 k)) (Dl42 k)
def Lm43 (k : Nat) : FuncId → Nat → Option LamF := Lm42 k
theorem Dl43_ok (k : Nat) : DeltaOk Try.prog (Dl43 k) := dCons_ok (Dl42_ok k) (g49_ok k)
theorem Lm43_ok (k : Nat) : LamsOk Try.prog (Lm43 k) := Lm42_ok k
abbrev cf43 (k : Nat) : CallF := evF Try.prog (Dl43 k) (Lm43 k) 200 12
theorem cf43_ok (k : Nat) : CfOk Try.prog (cf43 k) := evF_ok noNum mixed (Dl43_ok k) (Lm43_ok k) 12
abbrev P59 := GActor
def A59 (p : P59) : List AV := [.ptr 0 0 0]
def H59 (p : P59) : Heap := [(0, some (.box 80 [.int .i64 p.state.id, .int .i64 p.state.n, .int .i64 p.state.view, .int .i64 p.state.last, .int .i64 p.state.phase, .int .i64 p.state.commit, .dsl 9 p.state.rows, .slf 1, .int .i64 p.state.starts, .dsl 89 p.state.votes, .slf 2])), (1, some (.row 3 p.state.far)), (2, some (.row 45 p.told))]
def d59 (a : List AV) (H : Heap) : Option P59 := match a, H with
  | [.ptr 0 0 0], [(0, some (.box 80 [.int .i64 a0, .int .i64 a1, .int .i64 a2, .int .i64 a3, .int .i64 a4, .int .i64 a5, ba6, .slf 1, .int .i64 a7, ba8, .slf 2])), (1, ba9), (2, ba10)] => (match (dslD 9 ba6 : Option (List ByteArray)) with | some a6 => (match (dslD 89 ba8 : Option (List GVote)) with | some a8 => (match (rowD 3 ba9 : Option (List Int)) with | some a9 => (match (rowD 45 ba10 : Option (List GMsg)) with | some a10 => some ((⟨⟨a0, a1, a2, a3, a4, a5, a6, a9, a7, a8⟩, a10⟩ : GActor)) | none => none) | none => none) | none => none) | none => none)
  | _, _ => none
theorem d59_ok (a : List AV) (H : Heap) (p : P59) (h : d59 a H = some p) : a = A59 p ∧ H = H59 p := by
  unfold d59 at h
  split at h
  · skip
    split at h
    · rename_i q
      have q := dslD_ok q
      subst q
      split at h
      · rename_i q
        have q := dslD_ok q
        subst q
        split at h
        · rename_i q
          have q := rowD_ok q
          subst q
          split at h
          · rename_i q
            have q := rowD_ok q
            subst q
            cases h; exact ⟨rfl, rfl⟩
          · cases h
        · cases h
      · cases h
    · cases h
  · cases h
abbrev R59 := GActor
def o59 (r : R59) : AEnd := .ret (.tup [])
def u59 (r : R59) : Heap := [(0, some (.box 80 [.int .i64 r.state.id, .int .i64 r.state.n, .int .i64 r.state.view, .int .i64 r.state.last, .int .i64 r.state.phase, .int .i64 r.state.commit, .dsl 9 r.state.rows, .slf 3, .int .i64 r.state.starts, .dsl 89 r.state.votes, .slf 4])), (1, none), (2, none), (3, some (.row 3 r.state.far)), (4, some (.row 45 r.told))]
def n59 (_ : R59) : Nat := 5
def r59 (o : AEnd) (u : Heap) (n : Nat) : Option R59 := match o, u, n with
  | .ret (.tup []), [(0, some (.box 80 [.int .i64 a0, .int .i64 a1, .int .i64 a2, .int .i64 a3, .int .i64 a4, .int .i64 a5, ba6, .slf 3, .int .i64 a7, ba8, .slf 4])), (1, none), (2, none), (3, ba9), (4, ba10)], 5 => (match (dslD 9 ba6 : Option (List ByteArray)) with | some a6 => (match (dslD 89 ba8 : Option (List GVote)) with | some a8 => (match (rowD 3 ba9 : Option (List Int)) with | some a9 => (match (rowD 45 ba10 : Option (List GMsg)) with | some a10 => some ((⟨⟨a0, a1, a2, a3, a4, a5, a6, a9, a7, a8⟩, a10⟩ : GActor)) | none => none) | none => none) | none => none) | none => none)
  | _, _, _ => none
theorem r59_ok (p : P59) (o : AEnd) (u : Heap) (n : Nat) (r : R59) (h : r59 o u n = some r) : o = o59 r ∧ u = u59 r ∧ n = n59 r := by
  unfold r59 at h
  split at h
  · skip
    split at h
    · rename_i q
      have q := dslD_ok q
      subst q
      split at h
      · rename_i q
        have q := dslD_ok q
        subst q
        split at h
        · rename_i q
          have q := rowD_ok q
          subst q
          split at h
          · rename_i q
            have q := rowD_ok q
            subst q
            cases h; exact ⟨rfl, rfl, rfl⟩
          · cases h
        · cases h
      · cases h
    · cases h
  · cases h
def f59 (k : Nat) (x0 : GActor) : Option R59 :=
  br (GNode.n (GActor.state x0) == GNode.n (GActor.state x0) && decide ((0 : Int) ≤ GNode.n (GActor.state x0) ∧ GNode.n (GActor.state x0) * (8 : Int) ≤ (140737488355328 : Int) ∧ GNode.n (GActor.state x0) ≤ (140737488355328 : Int)))
   (some (GActor.mk (GNode.mk (GNode.id (GActor.state x0)) (GNode.n (GActor.state x0)) (GNode.view (GActor.state x0)) (GNode.last (GActor.state x0)) (GNode.phase (GActor.state x0)) (GNode.commit (GActor.state x0)) (GNode.rows (GActor.state x0)) (List.replicate (Int.toNat (GNode.n (GActor.state x0))) (0 : Int)) (0 : Int) []) (GActor.told x0)))
   (none)
theorem f59_run (k : Nat) (x0 : GActor) : cf43 k R59 59 (A59 (x0)) (H59 (x0)) (List.length (H59 (x0))) (endR planR (.any) [1, 2] (List.length (H59 (x0))) r59) = f59 k x0 := by kernel_rfl
def g59 (k : Nat) : CallS := entT d59 (fun p => f59 k p) (elAll _) (fun _ => o59) (fun _ => u59) (fun _ => n59)
theorem g59_ok (k : Nat) : CallSOk Try.prog 59 (g59 k) := entry_ok (Hp := H59) (oR := fun _ => o59) (uR := fun _ => u59) (nR := fun _ => n59) (cf43_ok k) d59_ok r59_ok (hel := elAll_ok) (fun p => f59_run k p)
def Dl44 (k : Nat) : Delta := dCons 59 (callAt plan [.any] (g59 k)) (Dl43 k)
def Lm44 (k : Nat) : FuncId → Nat → Option LamF := Lm43 k
theorem Dl44_ok (k : Nat) : DeltaOk Try.prog (Dl44 k) := dCons_ok (Dl43_ok k) (g59_ok k)
theorem Lm44_ok (k : Nat) : LamsOk Try.prog (Lm44 k) := Lm43_ok k
abbrev cf44 (k : Nat) : CallF := evF Try.prog (Dl44 k) (Lm44 k) 200 12
theorem cf44_ok (k : Nat) : CfOk Try.prog (cf44 k) := evF_ok noNum mixed (Dl44_ok k) (Lm44_ok k) 12
abbrev P95 := GActor × Int × GMsg
def A95 (p : P95) : List AV := [.ptr 0 0 0, .int .i64 p.2.1, .agg [.int .i64 p.2.2.kind, .int .i64 p.2.2.src, .int .i64 p.2.2.to, .int .i64 p.2.2.view, .int .i64 p.2.2.last, .int .i64 p.2.2.n, .int .i64 p.2.2.commit, .dsl 9 p.2.2.rows]]
def H95 (p : P95) : Heap := [(0, some (.box 80 [.int .i64 p.1.state.id, .int .i64 p.1.state.n, .int .i64 p.1.state.view, .int .i64 p.1.state.last, .int .i64 p.1.state.phase, .int .i64 p.1.state.commit, .dsl 9 p.1.state.rows, .slf 1, .int .i64 p.1.state.starts, .dsl 89 p.1.state.votes, .slf 2])), (1, some (.row 3 p.1.state.far)), (2, some (.row 45 p.1.told))]
def d95 (a : List AV) (H : Heap) : Option P95 := match a, H with
  | [.ptr 0 0 0, .int .i64 a0, .agg [.int .i64 a1, .int .i64 a2, .int .i64 a3, .int .i64 a4, .int .i64 a5, .int .i64 a6, .int .i64 a7, ba8]], [(0, some (.box 80 [.int .i64 a9, .int .i64 a10, .int .i64 a11, .int .i64 a12, .int .i64 a13, .int .i64 a14, ba15, .slf 1, .int .i64 a16, ba17, .slf 2])), (1, ba18), (2, ba19)] => (match (dslD 9 ba8 : Option (List ByteArray)) with | some a8 => (match (dslD 9 ba15 : Option (List ByteArray)) with | some a15 => (match (dslD 89 ba17 : Option (List GVote)) with | some a17 => (match (rowD 3 ba18 : Option (List Int)) with | some a18 => (match (rowD 45 ba19 : Option (List GMsg)) with | some a19 => some ((⟨⟨a9, a10, a11, a12, a13, a14, a15, a18, a16, a17⟩, a19⟩ : GActor), a0, (⟨a1, a2, a3, a4, a5, a6, a7, a8⟩ : GMsg)) | none => none) | none => none) | none => none) | none => none) | none => none)
  | _, _ => none
theorem d95_ok (a : List AV) (H : Heap) (p : P95) (h : d95 a H = some p) : a = A95 p ∧ H = H95 p := by
  unfold d95 at h
  split at h
  · skip
    split at h
    · rename_i q
      have q := dslD_ok q
      subst q
      split at h
      · rename_i q
        have q := dslD_ok q
        subst q
        split at h
        · rename_i q
          have q := dslD_ok q
          subst q
          split at h
          · rename_i q
            have q := rowD_ok q
            subst q
            split at h
            · rename_i q
              have q := rowD_ok q
              subst q
              cases h; exact ⟨rfl, rfl⟩
            · cases h
          · cases h
        · cases h
      · cases h
    · cases h
  · cases h
abbrev R95 := GActor
def o95 (r : R95) : AEnd := .ret (.tup [])
def u95 (r : R95) : Heap := [(0, some (.box 80 [.int .i64 r.state.id, .int .i64 r.state.n, .int .i64 r.state.view, .int .i64 r.state.last, .int .i64 r.state.phase, .int .i64 r.state.commit, .dsl 9 r.state.rows, .slf 3, .int .i64 r.state.starts, .dsl 89 r.state.votes, .slf 4])), (1, none), (2, none), (3, some (.row 3 r.state.far)), (4, some (.row 45 r.told))]
def n95 (_ : R95) : Nat := 5
def r95 (o : AEnd) (u : Heap) (n : Nat) : Option R95 := match o, u, n with
  | .ret (.tup []), [(0, some (.box 80 [.int .i64 a0, .int .i64 a1, .int .i64 a2, .int .i64 a3, .int .i64 a4, .int .i64 a5, ba6, .slf 3, .int .i64 a7, ba8, .slf 4])), (1, none), (2, none), (3, ba9), (4, ba10)], 5 => (match (dslD 9 ba6 : Option (List ByteArray)) with | some a6 => (match (dslD 89 ba8 : Option (List GVote)) with | some a8 => (match (rowD 3 ba9 : Option (List Int)) with | some a9 => (match (rowD 45 ba10 : Option (List GMsg)) with | some a10 => some ((⟨⟨a0, a1, a2, a3, a4, a5, a6, a9, a7, a8⟩, a10⟩ : GActor)) | none => none) | none => none) | none => none) | none => none)
  | _, _, _ => none
theorem r95_ok (p : P95) (o : AEnd) (u : Heap) (n : Nat) (r : R95) (h : r95 o u n = some r) : o = o95 r ∧ u = u95 r ∧ n = n95 r := by
  unfold r95 at h
  split at h
  · skip
    split at h
    · rename_i q
      have q := dslD_ok q
      subst q
      split at h
      · rename_i q
        have q := dslD_ok q
        subst q
        split at h
        · rename_i q
          have q := rowD_ok q
          subst q
          split at h
          · rename_i q
            have q := rowD_ok q
            subst q
            cases h; exact ⟨rfl, rfl, rfl⟩
          · cases h
        · cases h
      · cases h
    · cases h
  · cases h
def f95 (k : Nat) (x0 : GActor) (x1 : Int) (x2 : GMsg) : Option R95 :=
  bindO (f88 k (GMsg.rows x2)) fun r3000 =>
   br (true && decide ((List.length (GActor.told x0) + List.length [GMsg.mk (GMsg.kind x2) (GNode.id (GActor.state x0)) x1 (GNode.view (GActor.state x0)) (GMsg.last x2) (GMsg.n x2) (GMsg.commit x2) r3000]) * (80 : Nat) ≤ (140737488355328 : Nat)))
    (some (GActor.mk (GActor.state x0) (GActor.told x0 ++ [GMsg.mk (GMsg.kind x2) (GNode.id (GActor.state x0)) x1 (GNode.view (GActor.state x0)) (GMsg.last x2) (GMsg.n x2) (GMsg.commit x2) r3000])))
    (none)
theorem f95_run (k : Nat) (x0 : GActor) (x1 : Int) (x2 : GMsg) : cf44 k R95 95 (A95 (x0, x1, x2)) (H95 (x0, x1, x2)) (List.length (H95 (x0, x1, x2))) (endR planR (.any) [1, 2] (List.length (H95 (x0, x1, x2))) r95) = f95 k x0 x1 x2 := by kernel_rfl
def g95 (k : Nat) : CallS := entT d95 (fun p => f95 k p.1 p.2.1 p.2.2) (elAll _) (fun _ => o95) (fun _ => u95) (fun _ => n95)
theorem g95_ok (k : Nat) : CallSOk Try.prog 95 (g95 k) := entry_ok (Hp := H95) (oR := fun _ => o95) (uR := fun _ => u95) (nR := fun _ => n95) (cf44_ok k) d95_ok r95_ok (hel := elAll_ok) (fun p => f95_run k p.1 p.2.1 p.2.2)
def Dl45 (k : Nat) : Delta := dCons 95 (callAt plan [.any, .any, .agg [.any, .any, .any, .any, .any, .any, .any, .rd 9]] (g95 k)) (Dl44 k)
def Lm45 (k : Nat) : FuncId → Nat → Option LamF := Lm44 k
theorem Dl45_ok (k : Nat) : DeltaOk Try.prog (Dl45 k) := dCons_ok (Dl44_ok k) (g95_ok k)
theorem Lm45_ok (k : Nat) : LamsOk Try.prog (Lm45 k) := Lm44_ok k
abbrev cf45 (k : Nat) : CallF := evF Try.prog (Dl45 k) (Lm45 k) 200 12
theorem cf45_ok (k : Nat) : CfOk Try.prog (cf45 k) := evF_ok noNum mixed (Dl45_ok k) (Lm45_ok k) 12
abbrev P96 := GActor × Int
def A96 (p : P96) : List AV := [.ptr 0 0 0, .int .i64 p.2]
def H96 (p : P96) : Heap := [(0, some (.box 80 [.int .i64 p.1.state.id, .int .i64 p.1.state.n, .int .i64 p.1.state.view, .int .i64 p.1.state.last, .int .i64 p.1.state.phase, .int .i64 p.1.state.commit, .dsl 9 p.1.state.rows, .slf 1, .int .i64 p.1.state.starts, .dsl 89 p.1.state.votes, .slf 2])), (1, some (.row 3 p.1.state.far)), (2, some (.row 45 p.1.told))]
def d96 (a : List AV) (H : Heap) : Option P96 := match a, H with
  | [.ptr 0 0 0, .int .i64 a0], [(0, some (.box 80 [.int .i64 a1, .int .i64 a2, .int .i64 a3, .int .i64 a4, .int .i64 a5, .int .i64 a6, ba7, .slf 1, .int .i64 a8, ba9, .slf 2])), (1, ba10), (2, ba11)] => (match (dslD 9 ba7 : Option (List ByteArray)) with | some a7 => (match (dslD 89 ba9 : Option (List GVote)) with | some a9 => (match (rowD 3 ba10 : Option (List Int)) with | some a10 => (match (rowD 45 ba11 : Option (List GMsg)) with | some a11 => some ((⟨⟨a1, a2, a3, a4, a5, a6, a7, a10, a8, a9⟩, a11⟩ : GActor), a0) | none => none) | none => none) | none => none) | none => none)
  | _, _ => none
theorem d96_ok (a : List AV) (H : Heap) (p : P96) (h : d96 a H = some p) : a = A96 p ∧ H = H96 p := by
  unfold d96 at h
  split at h
  · skip
    split at h
    · rename_i q
      have q := dslD_ok q
      subst q
      split at h
      · rename_i q
        have q := dslD_ok q
        subst q
        split at h
        · rename_i q
          have q := rowD_ok q
          subst q
          split at h
          · rename_i q
            have q := rowD_ok q
            subst q
            cases h; exact ⟨rfl, rfl⟩
          · cases h
        · cases h
      · cases h
    · cases h
  · cases h
abbrev R96 := GActor
def o96 (r : R96) : AEnd := .ret (.tup [])
def u96 (r : R96) : Heap := [(0, some (.box 80 [.int .i64 r.state.id, .int .i64 r.state.n, .int .i64 r.state.view, .int .i64 r.state.last, .int .i64 r.state.phase, .int .i64 r.state.commit, .dsl 9 r.state.rows, .slf 3, .int .i64 r.state.starts, .dsl 89 r.state.votes, .slf 4])), (1, none), (2, none), (3, some (.row 3 r.state.far)), (4, some (.row 45 r.told))]
def n96 (_ : R96) : Nat := 5
def r96 (o : AEnd) (u : Heap) (n : Nat) : Option R96 := match o, u, n with
  | .ret (.tup []), [(0, some (.box 80 [.int .i64 a0, .int .i64 a1, .int .i64 a2, .int .i64 a3, .int .i64 a4, .int .i64 a5, ba6, .slf 3, .int .i64 a7, ba8, .slf 4])), (1, none), (2, none), (3, ba9), (4, ba10)], 5 => (match (dslD 9 ba6 : Option (List ByteArray)) with | some a6 => (match (dslD 89 ba8 : Option (List GVote)) with | some a8 => (match (rowD 3 ba9 : Option (List Int)) with | some a9 => (match (rowD 45 ba10 : Option (List GMsg)) with | some a10 => some ((⟨⟨a0, a1, a2, a3, a4, a5, a6, a9, a7, a8⟩, a10⟩ : GActor)) | none => none) | none => none) | none => none) | none => none)
  | _, _, _ => none
theorem r96_ok (p : P96) (o : AEnd) (u : Heap) (n : Nat) (r : R96) (h : r96 o u n = some r) : o = o96 r ∧ u = u96 r ∧ n = n96 r := by
  unfold r96 at h
  split at h
  · skip
    split at h
    · rename_i q
      have q := dslD_ok q
      subst q
      split at h
      · rename_i q
        have q := dslD_ok q
        subst q
        split at h
        · rename_i q
          have q := rowD_ok q
          subst q
          split at h
          · rename_i q
            have q := rowD_ok q
            subst q
            cases h; exact ⟨rfl, rfl, rfl⟩
          · cases h
        · cases h
      · cases h
    · cases h
  · cases h
def f96 (k : Nat) (x0 : GActor) (x1 : Int) : Option R96 :=
  some (GActor.mk (GNode.mk (GNode.id (GActor.state x0)) (GNode.n (GActor.state x0)) (GNode.view (GActor.state x0)) (GNode.last (GActor.state x0)) (GNode.phase (GActor.state x0)) (Go.Eng.min2 (Go.Eng.max2 (GNode.commit (GActor.state x0)) x1) (↑(List.length (GNode.rows (GActor.state x0))) : Int)) (GNode.rows (GActor.state x0)) (GNode.far (GActor.state x0)) (GNode.starts (GActor.state x0)) (GNode.votes (GActor.state x0))) (GActor.told x0))
theorem f96_run (k : Nat) (x0 : GActor) (x1 : Int) : cf45 k R96 96 (A96 (x0, x1)) (H96 (x0, x1)) (List.length (H96 (x0, x1))) (endR planR (.any) [1, 2] (List.length (H96 (x0, x1))) r96) = f96 k x0 x1 := by kernel_rfl
def g96 (k : Nat) : CallS := entT d96 (fun p => f96 k p.1 p.2) (elAll _) (fun _ => o96) (fun _ => u96) (fun _ => n96)
theorem g96_ok (k : Nat) : CallSOk Try.prog 96 (g96 k) := entry_ok (Hp := H96) (oR := fun _ => o96) (uR := fun _ => u96) (nR := fun _ => n96) (cf45_ok k) d96_ok r96_ok (hel := elAll_ok) (fun p => f96_run k p.1 p.2)
def Dl46 (k : Nat) : Delta := dCons 96 (callAt plan [.any, .any] (g96 k)) (Dl45 k)
def Lm46 (k : Nat) : FuncId → Nat → Option LamF := Lm45 k
theorem Dl46_ok (k : Nat) : DeltaOk Try.prog (Dl46 k) := dCons_ok (Dl45_ok k) (g96_ok k)
theorem Lm46_ok (k : Nat) : LamsOk Try.prog (Lm46 k) := Lm45_ok k
abbrev cf46 (k : Nat) : CallF := evF Try.prog (Dl46 k) (Lm46 k) 200 12
theorem cf46_ok (k : Nat) : CfOk Try.prog (cf46 k) := evF_ok noNum mixed (Dl46_ok k) (Lm46_ok k) 12
abbrev P51 := GActor × GMsg
def A51 (p : P51) : List AV := [.ptr 0 0 0, .agg [.int .i64 p.2.kind, .int .i64 p.2.src, .int .i64 p.2.to, .int .i64 p.2.view, .int .i64 p.2.last, .int .i64 p.2.n, .int .i64 p.2.commit, .dsl 9 p.2.rows]]
def H51 (p : P51) : Heap := [(0, some (.box 80 [.int .i64 p.1.state.id, .int .i64 p.1.state.n, .int .i64 p.1.state.view, .int .i64 p.1.state.last, .int .i64 p.1.state.phase, .int .i64 p.1.state.commit, .dsl 9 p.1.state.rows, .slf 1, .int .i64 p.1.state.starts, .dsl 89 p.1.state.votes, .slf 2])), (1, some (.row 3 p.1.state.far)), (2, some (.row 45 p.1.told))]
def d51 (a : List AV) (H : Heap) : Option P51 := match a, H with
  | [.ptr 0 0 0, .agg [.int .i64 a0, .int .i64 a1, .int .i64 a2, .int .i64 a3, .int .i64 a4, .int .i64 a5, .int .i64 a6, ba7]], [(0, some (.box 80 [.int .i64 a8, .int .i64 a9, .int .i64 a10, .int .i64 a11, .int .i64 a12, .int .i64 a13, ba14, .slf 1, .int .i64 a15, ba16, .slf 2])), (1, ba17), (2, ba18)] => (match (dslD 9 ba7 : Option (List ByteArray)) with | some a7 => (match (dslD 9 ba14 : Option (List ByteArray)) with | some a14 => (match (dslD 89 ba16 : Option (List GVote)) with | some a16 => (match (rowD 3 ba17 : Option (List Int)) with | some a17 => (match (rowD 45 ba18 : Option (List GMsg)) with | some a18 => some ((⟨⟨a8, a9, a10, a11, a12, a13, a14, a17, a15, a16⟩, a18⟩ : GActor), (⟨a0, a1, a2, a3, a4, a5, a6, a7⟩ : GMsg)) | none => none) | none => none) | none => none) | none => none) | none => none)
  | _, _ => none
theorem d51_ok (a : List AV) (H : Heap) (p : P51) (h : d51 a H = some p) : a = A51 p ∧ H = H51 p := by
  unfold d51 at h
  split at h
  · skip
    split at h
    · rename_i q
      have q := dslD_ok q
      subst q
      split at h
      · rename_i q
        have q := dslD_ok q
        subst q
        split at h
        · rename_i q
          have q := dslD_ok q
          subst q
          split at h
          · rename_i q
            have q := rowD_ok q
            subst q
            split at h
            · rename_i q
              have q := rowD_ok q
              subst q
              cases h; exact ⟨rfl, rfl⟩
            · cases h
          · cases h
        · cases h
      · cases h
    · cases h
  · cases h
abbrev R51 := GActor
def o51 (r : R51) : AEnd := .ret (.tup [])
def u51 (r : R51) : Heap := [(0, some (.box 80 [.int .i64 r.state.id, .int .i64 r.state.n, .int .i64 r.state.view, .int .i64 r.state.last, .int .i64 r.state.phase, .int .i64 r.state.commit, .dsl 9 r.state.rows, .slf 3, .int .i64 r.state.starts, .dsl 89 r.state.votes, .slf 4])), (1, none), (2, none), (3, some (.row 3 r.state.far)), (4, some (.row 45 r.told))]
def n51 (_ : R51) : Nat := 5
def r51 (o : AEnd) (u : Heap) (n : Nat) : Option R51 := match o, u, n with
  | .ret (.tup []), [(0, some (.box 80 [.int .i64 a0, .int .i64 a1, .int .i64 a2, .int .i64 a3, .int .i64 a4, .int .i64 a5, ba6, .slf 3, .int .i64 a7, ba8, .slf 4])), (1, none), (2, none), (3, ba9), (4, ba10)], 5 => (match (dslD 9 ba6 : Option (List ByteArray)) with | some a6 => (match (dslD 89 ba8 : Option (List GVote)) with | some a8 => (match (rowD 3 ba9 : Option (List Int)) with | some a9 => (match (rowD 45 ba10 : Option (List GMsg)) with | some a10 => some ((⟨⟨a0, a1, a2, a3, a4, a5, a6, a9, a7, a8⟩, a10⟩ : GActor)) | none => none) | none => none) | none => none) | none => none)
  | _, _, _ => none
theorem r51_ok (p : P51) (o : AEnd) (u : Heap) (n : Nat) (r : R51) (h : r51 o u n = some r) : o = o51 r ∧ u = u51 r ∧ n = n51 r := by
  unfold r51 at h
  split at h
  · skip
    split at h
    · rename_i q
      have q := dslD_ok q
      subst q
      split at h
      · rename_i q
        have q := dslD_ok q
        subst q
        split at h
        · rename_i q
          have q := rowD_ok q
          subst q
          split at h
          · rename_i q
            have q := rowD_ok q
            subst q
            cases h; exact ⟨rfl, rfl, rfl⟩
          · cases h
        · cases h
      · cases h
    · cases h
  · cases h
def f51 (k : Nat) (x0 : GActor) (x1 : GMsg) : Option R51 :=
  bindO (f118 k (GMsg.view x1) (GNode.n (GActor.state x0))) fun r3000 =>
   br (GMsg.src x1 != Prod.fst r3000)
    (some x0)
    (br (decide (GMsg.view x1 > GNode.view (GActor.state x0)))
     (bindO (f59 k (GActor.mk (GNode.mk (GNode.id (GActor.state x0)) (GNode.n (GActor.state x0)) (GMsg.view x1) (GNode.last (GActor.state x0)) (2 : Int) (GNode.commit (GActor.state x0)) (GNode.rows (GActor.state x0)) (GNode.far (GActor.state x0)) (GNode.starts (GActor.state x0)) (GNode.votes (GActor.state x0))) (GActor.told x0))) fun r2998 =>
      bindO (f95 k r2998 (GMsg.src x1) (GMsg.mk (7 : Int) (0 : Int) (0 : Int) (0 : Int) (0 : Int) (GNode.commit (GActor.state r2998)) (0 : Int) [])) fun r2997 =>
       some r2997)
     (br (GNode.phase (GActor.state x0) != (0 : Int))
      (bindO (f59 k (GActor.mk (GNode.mk (GNode.id (GActor.state x0)) (GNode.n (GActor.state x0)) (GMsg.view x1) (GNode.last (GActor.state x0)) (2 : Int) (GNode.commit (GActor.state x0)) (GNode.rows (GActor.state x0)) (GNode.far (GActor.state x0)) (GNode.starts (GActor.state x0)) (GNode.votes (GActor.state x0))) (GActor.told x0))) fun r2995 =>
       bindO (f95 k r2995 (GMsg.src x1) (GMsg.mk (7 : Int) (0 : Int) (0 : Int) (0 : Int) (0 : Int) (GNode.commit (GActor.state r2995)) (0 : Int) [])) fun r2994 =>
        some r2994)
      (br (GMsg.kind x1 == (3 : Int))
       (bindO (f96 k x0 (GMsg.commit x1)) fun r2992 =>
        br (decide (GMsg.commit x1 > (↑(List.length (GNode.rows (GActor.state x0))) : Int)))
         (bindO (f95 k r2992 (GMsg.src x1) (GMsg.mk (7 : Int) (0 : Int) (0 : Int) (0 : Int) (0 : Int) (↑(List.length (GNode.rows (GActor.state x0))) : Int) (0 : Int) [])) fun r2991 =>
          some r2991)
         (some r2992))
       (br (decide (GMsg.n x1 > IntKind.wrap IntKind.i64 ((↑(List.length (GNode.rows (GActor.state x0))) : Int) + (1 : Int))))
        (bindO (f95 k x0 (GMsg.src x1) (GMsg.mk (7 : Int) (0 : Int) (0 : Int) (0 : Int) (0 : Int) (↑(List.length (GNode.rows (GActor.state x0))) : Int) (0 : Int) [])) fun r2988 =>
         some r2988)
        (br (decide ((0 : Int) ≤ (0 : Int) ∧ (0 : Int) < (↑(List.length (GMsg.rows x1)) : Int)))
         (bindO (f97 k (GNode.rows (GActor.state x0)) (GMsg.n x1) (List.getD (GMsg.rows x1) (0 : Nat) default)) fun r2986 =>
          bindO (f96 k (GActor.mk (GNode.mk (GNode.id (GActor.state x0)) (GNode.n (GActor.state x0)) (GNode.view (GActor.state x0)) (GNode.last (GActor.state x0)) (GNode.phase (GActor.state x0)) (GNode.commit (GActor.state x0)) (Prod.fst r2986) (GNode.far (GActor.state x0)) (GNode.starts (GActor.state x0)) (GNode.votes (GActor.state x0))) (GActor.told x0)) (GMsg.commit x1)) fun r2985 =>
           bindO (f95 k r2985 (GMsg.src x1) (GMsg.mk (2 : Int) (0 : Int) (0 : Int) (0 : Int) (0 : Int) (↑(List.length (GNode.rows (GActor.state r2985))) : Int) (0 : Int) [])) fun r2984 =>
            some r2984)
         (none))))))
theorem f51_run (k : Nat) (x0 : GActor) (x1 : GMsg) : cf46 k R51 51 (A51 (x0, x1)) (H51 (x0, x1)) (List.length (H51 (x0, x1))) (endR planR (.any) [1, 2] (List.length (H51 (x0, x1))) r51) = f51 k x0 x1 := by kernel_rfl
def g51 (k : Nat) : CallS := entT d51 (fun p => f51 k p.1 p.2) (elAll _) (fun _ => o51) (fun _ => u51) (fun _ => n51)
theorem g51_ok (k : Nat) : CallSOk Try.prog 51 (g51 k) := entry_ok (Hp := H51) (oR := fun _ => o51) (uR := fun _ => u51) (nR := fun _ => n51) (cf46_ok k) d51_ok r51_ok (hel := elAll_ok) (fun p => f51_run k p.1 p.2)
def Dl47 (k : Nat) : Delta := dCons 51 (callAt plan [.any, .agg [.any, .any, .any, .any, .any, .any, .any, .rd 9]] (g51 k)) (Dl46 k)
def Lm47 (k : Nat) : FuncId → Nat → Option LamF := Lm46 k
theorem Dl47_ok (k : Nat) : DeltaOk Try.prog (Dl47 k) := dCons_ok (Dl46_ok k) (g51_ok k)
theorem Lm47_ok (k : Nat) : LamsOk Try.prog (Lm47 k) := Lm46_ok k
abbrev cf47 (k : Nat) : CallF := evF Try.prog (Dl47 k) (Lm47 k) 200 12
theorem cf47_ok (k : Nat) : CfOk Try.prog (cf47 k) := evF_ok noNum mixed (Dl47_ok k) (Lm47_ok k) 12
abbrev P61 := GActor
def A61 (p : P61) : List AV := [.ptr 0 0 0]
def H61 (p : P61) : Heap := [(0, some (.box 80 [.int .i64 p.state.id, .int .i64 p.state.n, .int .i64 p.state.view, .int .i64 p.state.last, .int .i64 p.state.phase, .int .i64 p.state.commit, .dsl 9 p.state.rows, .slf 1, .int .i64 p.state.starts, .dsl 89 p.state.votes, .slf 2])), (1, some (.row 3 p.state.far)), (2, some (.row 45 p.told))]
def d61 (a : List AV) (H : Heap) : Option P61 := match a, H with
  | [.ptr 0 0 0], [(0, some (.box 80 [.int .i64 a0, .int .i64 a1, .int .i64 a2, .int .i64 a3, .int .i64 a4, .int .i64 a5, ba6, .slf 1, .int .i64 a7, ba8, .slf 2])), (1, ba9), (2, ba10)] => (match (dslD 9 ba6 : Option (List ByteArray)) with | some a6 => (match (dslD 89 ba8 : Option (List GVote)) with | some a8 => (match (rowD 3 ba9 : Option (List Int)) with | some a9 => (match (rowD 45 ba10 : Option (List GMsg)) with | some a10 => some ((⟨⟨a0, a1, a2, a3, a4, a5, a6, a9, a7, a8⟩, a10⟩ : GActor)) | none => none) | none => none) | none => none) | none => none)
  | _, _ => none
theorem d61_ok (a : List AV) (H : Heap) (p : P61) (h : d61 a H = some p) : a = A61 p ∧ H = H61 p := by
  unfold d61 at h
  split at h
  · skip
    split at h
    · rename_i q
      have q := dslD_ok q
      subst q
      split at h
      · rename_i q
        have q := dslD_ok q
        subst q
        split at h
        · rename_i q
          have q := rowD_ok q
          subst q
          split at h
          · rename_i q
            have q := rowD_ok q
            subst q
            cases h; exact ⟨rfl, rfl⟩
          · cases h
        · cases h
      · cases h
    · cases h
  · cases h
abbrev R61 := GActor
def o61 (r : R61) : AEnd := .ret (.tup [])
def u61 (r : R61) : Heap := [(0, some (.box 80 [.int .i64 r.state.id, .int .i64 r.state.n, .int .i64 r.state.view, .int .i64 r.state.last, .int .i64 r.state.phase, .int .i64 r.state.commit, .dsl 9 r.state.rows, .slf 3, .int .i64 r.state.starts, .dsl 89 r.state.votes, .slf 4])), (1, none), (2, none), (3, some (.row 3 r.state.far)), (4, some (.row 45 r.told))]
def n61 (_ : R61) : Nat := 5
def r61 (o : AEnd) (u : Heap) (n : Nat) : Option R61 := match o, u, n with
  | .ret (.tup []), [(0, some (.box 80 [.int .i64 a0, .int .i64 a1, .int .i64 a2, .int .i64 a3, .int .i64 a4, .int .i64 a5, ba6, .slf 3, .int .i64 a7, ba8, .slf 4])), (1, none), (2, none), (3, ba9), (4, ba10)], 5 => (match (dslD 9 ba6 : Option (List ByteArray)) with | some a6 => (match (dslD 89 ba8 : Option (List GVote)) with | some a8 => (match (rowD 3 ba9 : Option (List Int)) with | some a9 => (match (rowD 45 ba10 : Option (List GMsg)) with | some a10 => some ((⟨⟨a0, a1, a2, a3, a4, a5, a6, a9, a7, a8⟩, a10⟩ : GActor)) | none => none) | none => none) | none => none) | none => none)
  | _, _, _ => none
theorem r61_ok (p : P61) (o : AEnd) (u : Heap) (n : Nat) (r : R61) (h : r61 o u n = some r) : o = o61 r ∧ u = u61 r ∧ n = n61 r := by
  unfold r61 at h
  split at h
  · skip
    split at h
    · rename_i q
      have q := dslD_ok q
      subst q
      split at h
      · rename_i q
        have q := dslD_ok q
        subst q
        split at h
        · rename_i q
          have q := rowD_ok q
          subst q
          split at h
          · rename_i q
            have q := rowD_ok q
            subst q
            cases h; exact ⟨rfl, rfl, rfl⟩
          · cases h
        · cases h
      · cases h
    · cases h
  · cases h
def f61 (k : Nat) (x0 : GActor) : Option R61 :=
  br (GNode.phase (GActor.state x0) == (0 : Int))
   (bindO (f118 k (GNode.view (GActor.state x0)) (GNode.n (GActor.state x0))) fun r3000 =>
    br (Prod.fst r3000 == GNode.id (GActor.state x0))
     (br (decide ((0 : Int) ≤ GNode.id (GActor.state x0) ∧ GNode.id (GActor.state x0) < (↑(List.length (GNode.far (GActor.state x0))) : Int)))
      (br (true && decide (Int.toNat (GNode.id (GActor.state x0)) < List.length (GNode.far (GActor.state x0))))
       (bindO (f107 k (GNode.n (GActor.state x0)) (List.set (GNode.far (GActor.state x0)) (Int.toNat (GNode.id (GActor.state x0))) (↑(List.length (GNode.rows (GActor.state x0))) : Int))) fun r2999 =>
        some (GActor.mk (GNode.mk (GNode.id (GActor.state x0)) (GNode.n (GActor.state x0)) (GNode.view (GActor.state x0)) (GNode.last (GActor.state x0)) (GNode.phase (GActor.state x0)) (Go.Eng.max2 (GNode.commit (GActor.state x0)) r2999) (GNode.rows (GActor.state x0)) (List.set (GNode.far (GActor.state x0)) (Int.toNat (GNode.id (GActor.state x0))) (↑(List.length (GNode.rows (GActor.state x0))) : Int)) (GNode.starts (GActor.state x0)) (GNode.votes (GActor.state x0))) (GActor.told x0)))
       (none))
      (none))
     (some x0))
   (some x0)
theorem f61_run (k : Nat) (x0 : GActor) : cf47 k R61 61 (A61 (x0)) (H61 (x0)) (List.length (H61 (x0))) (endR planR (.any) [1, 2] (List.length (H61 (x0))) r61) = f61 k x0 := by kernel_rfl
def g61 (k : Nat) : CallS := entT d61 (fun p => f61 k p) (elAll _) (fun _ => o61) (fun _ => u61) (fun _ => n61)
theorem g61_ok (k : Nat) : CallSOk Try.prog 61 (g61 k) := entry_ok (Hp := H61) (oR := fun _ => o61) (uR := fun _ => u61) (nR := fun _ => n61) (cf47_ok k) d61_ok r61_ok (hel := elAll_ok) (fun p => f61_run k p)
def Dl48 (k : Nat) : Delta := dCons 61 (callAt plan [.any] (g61 k)) (Dl47 k)
def Lm48 (k : Nat) : FuncId → Nat → Option LamF := Lm47 k
theorem Dl48_ok (k : Nat) : DeltaOk Try.prog (Dl48 k) := dCons_ok (Dl47_ok k) (g61_ok k)
theorem Lm48_ok (k : Nat) : LamsOk Try.prog (Lm48 k) := Lm47_ok k
abbrev cf48 (k : Nat) : CallF := evF Try.prog (Dl48 k) (Lm48 k) 200 12
theorem cf48_ok (k : Nat) : CfOk Try.prog (cf48 k) := evF_ok noNum mixed (Dl48_ok k) (Lm48_ok k) 12
abbrev P67 := GActor × GMsg
def A67 (p : P67) : List AV := [.ptr 0 0 0, .agg [.int .i64 p.2.kind, .int .i64 p.2.src, .int .i64 p.2.to, .int .i64 p.2.view, .int .i64 p.2.last, .int .i64 p.2.n, .int .i64 p.2.commit, .dsl 9 p.2.rows]]
def H67 (p : P67) : Heap := [(0, some (.box 80 [.int .i64 p.1.state.id, .int .i64 p.1.state.n, .int .i64 p.1.state.view, .int .i64 p.1.state.last, .int .i64 p.1.state.phase, .int .i64 p.1.state.commit, .dsl 9 p.1.state.rows, .slf 1, .int .i64 p.1.state.starts, .dsl 89 p.1.state.votes, .slf 2])), (1, some (.row 3 p.1.state.far)), (2, some (.row 45 p.1.told))]
def d67 (a : List AV) (H : Heap) : Option P67 := match a, H with
  | [.ptr 0 0 0, .agg [.int .i64 a0, .int .i64 a1, .int .i64 a2, .int .i64 a3, .int .i64 a4, .int .i64 a5, .int .i64 a6, ba7]], [(0, some (.box 80 [.int .i64 a8, .int .i64 a9, .int .i64 a10, .int .i64 a11, .int .i64 a12, .int .i64 a13, ba14, .slf 1, .int .i64 a15, ba16, .slf 2])), (1, ba17), (2, ba18)] => (match (dslD 9 ba7 : Option (List ByteArray)) with | some a7 => (match (dslD 9 ba14 : Option (List ByteArray)) with | some a14 => (match (dslD 89 ba16 : Option (List GVote)) with | some a16 => (match (rowD 3 ba17 : Option (List Int)) with | some a17 => (match (rowD 45 ba18 : Option (List GMsg)) with | some a18 => some ((⟨⟨a8, a9, a10, a11, a12, a13, a14, a17, a15, a16⟩, a18⟩ : GActor), (⟨a0, a1, a2, a3, a4, a5, a6, a7⟩ : GMsg)) | none => none) | none => none) | none => none) | none => none) | none => none)
  | _, _ => none
theorem d67_ok (a : List AV) (H : Heap) (p : P67) (h : d67 a H = some p) : a = A67 p ∧ H = H67 p := by
  unfold d67 at h
  split at h
  · skip
    split at h
    · rename_i q
      have q := dslD_ok q
      subst q
      split at h
      · rename_i q
        have q := dslD_ok q
        subst q
        split at h
        · rename_i q
          have q := dslD_ok q
          subst q
          split at h
          · rename_i q
            have q := rowD_ok q
            subst q
            split at h
            · rename_i q
              have q := rowD_ok q
              subst q
              cases h; exact ⟨rfl, rfl⟩
            · cases h
          · cases h
        · cases h
      · cases h
    · cases h
  · cases h
abbrev R67 := GActor
def o67 (r : R67) : AEnd := .ret (.tup [])
def u67 (r : R67) : Heap := [(0, some (.box 80 [.int .i64 r.state.id, .int .i64 r.state.n, .int .i64 r.state.view, .int .i64 r.state.last, .int .i64 r.state.phase, .int .i64 r.state.commit, .dsl 9 r.state.rows, .slf 3, .int .i64 r.state.starts, .dsl 89 r.state.votes, .slf 4])), (1, none), (2, none), (3, some (.row 3 r.state.far)), (4, some (.row 45 r.told))]
def n67 (_ : R67) : Nat := 5
def r67 (o : AEnd) (u : Heap) (n : Nat) : Option R67 := match o, u, n with
  | .ret (.tup []), [(0, some (.box 80 [.int .i64 a0, .int .i64 a1, .int .i64 a2, .int .i64 a3, .int .i64 a4, .int .i64 a5, ba6, .slf 3, .int .i64 a7, ba8, .slf 4])), (1, none), (2, none), (3, ba9), (4, ba10)], 5 => (match (dslD 9 ba6 : Option (List ByteArray)) with | some a6 => (match (dslD 89 ba8 : Option (List GVote)) with | some a8 => (match (rowD 3 ba9 : Option (List Int)) with | some a9 => (match (rowD 45 ba10 : Option (List GMsg)) with | some a10 => some ((⟨⟨a0, a1, a2, a3, a4, a5, a6, a9, a7, a8⟩, a10⟩ : GActor)) | none => none) | none => none) | none => none) | none => none)
  | _, _, _ => none
theorem r67_ok (p : P67) (o : AEnd) (u : Heap) (n : Nat) (r : R67) (h : r67 o u n = some r) : o = o67 r ∧ u = u67 r ∧ n = n67 r := by
  unfold r67 at h
  split at h
  · skip
    split at h
    · rename_i q
      have q := dslD_ok q
      subst q
      split at h
      · rename_i q
        have q := dslD_ok q
        subst q
        split at h
        · rename_i q
          have q := rowD_ok q
          subst q
          split at h
          · rename_i q
            have q := rowD_ok q
            subst q
            cases h; exact ⟨rfl, rfl, rfl⟩
          · cases h
        · cases h
      · cases h
    · cases h
  · cases h
structure S67_0 where
  mk ::
  x10 : Int
  x11 : Int
  h0_0 : Int
  h0_1 : Int
  h0_2 : Int
  h0_3 : Int
  h0_4 : Int
  h0_5 : Int
  h0_6 : List ByteArray
  h0_8 : Int
  h0_9 : List GVote
  h1_0 : Int
  h1_1 : Int
  h1_2 : Int
  h1_3 : Int
  h1_4 : Int
  h1_5 : Int
  h1_6 : Int
  h1_7 : List ByteArray
  h2 : List Int
  h3 : List GMsg
def VS67_0 (s : S67_0) : List AV := [.ptr 0 0 0, .ptr 1 0 0, .int .i64 s.x10, .int .i64 s.x11]
end
end Go.Proofs.Ytaooefnmdlajcaa

end
