/- The statement SpotDoes is proved: the call returns true for every input. No conditions. -/
import Derived.Test.YtllaajhdpfighaaDoorA1
import Derived.Shelf.Sort.Plain
import Derived.Shelf.Slices.In.SortNone
import Derived.Shelf.Strings.Shaped
import Derived.Shelf.Strconv.Itoa3
import Derived.Shelf.Slices.CompactI
import Derived.Shelf.Strconv.AtoiAll
import Derived.Test.YtllaajhdpfighaaDoorProg
import Derived.Laws.Strings
import Derived.WideShapes
import Derived.ProofKit
import Derived.LaidMore
import Derived.OpenShut
import Derived.Stop.Joined
import Derived.HandedShaped
import Derived.Test.YtllaajhdpfighaaDoorTie
import Derived.Test.YtllaajhdpfighaaDoorCards
import Derived.WalkKit
import Derived.ShutString
import Derived.ChangeOld
import Derived.Below
import Derived.SizedLaws
import Derived.SevenTiedAt
import Derived.Test.YtllaajhdpfighaaDoorRows
set_option linter.unusedVariables false
set_option linter.unusedSimpArgs false
set_option linter.unusedSectionVars false
section
set_option linter.unusedVariables false
set_option linter.unusedSectionVars false
namespace Go.Proofs.YtllaajhdpfighaaDoor
open Go Go.Eng Go.Proofs Go.Sort
def ins (a : Int) : List Int → List Int
  | [] => [a]
  | b :: r => match decide (a ≤ b) with | true => a :: b :: r | false => b :: ins a r
def sortLe : List Int → List Int
  | [] => []
  | a :: r => ins a (sortLe r)
theorem ins_perm (a : Int) : ∀ l : List Int, (ins a l).Perm (a :: l)
  | [] => .refl _
  | b :: r => by
    unfold ins
    split
    · exact .refl _
    · exact ((ins_perm a r).cons b).trans (List.Perm.swap a b r)
theorem sortLe_perm : ∀ l : List Int, (sortLe l).Perm l
  | [] => .refl _
  | a :: r => (ins_perm a _).trans ((sortLe_perm r).cons a)
theorem ins_sorted (a : Int) : ∀ {l : List Int}, l.Pairwise (· ≤ ·) → (ins a l).Pairwise (· ≤ ·)
  | [], _ => by simp [ins]
  | b :: r, h => by
    unfold ins
    rw [List.pairwise_cons] at h
    split
    · rename_i hb
      have hb := of_decide_eq_true hb
      refine List.pairwise_cons.2 ⟨fun x hx => ?_, List.pairwise_cons.2 h⟩
      rcases List.mem_cons.1 hx with rfl | hx
      · exact hb
      · exact Int.le_trans hb (h.1 x hx)
    · rename_i hb
      have hb : ¬ a ≤ b := of_decide_eq_false hb
      refine List.pairwise_cons.2 ⟨fun x hx => ?_, ins_sorted a h.2⟩
      rcases List.mem_cons.1 ((ins_perm a r).mem_iff.1 hx) with rfl | hx
      · omega
      · exact h.1 x hx
theorem sortLe_sorted : ∀ l : List Int, (sortLe l).Pairwise (· ≤ ·)
  | [] => .nil
  | a :: r => ins_sorted a (sortLe_sorted r)
theorem sorted_eq : ∀ {l m : List Int}, l.Perm m → l.Pairwise (· ≤ ·) → m.Pairwise (· ≤ ·) → l = m
  | [], m, h, _, _ => h.nil_eq
  | a :: l, [], h, _, _ => absurd h.symm.nil_eq (by simp)
  | a :: l, b :: m, h, h1, h2 => by
    rw [List.pairwise_cons] at h1 h2
    have ha : a ∈ b :: m := h.mem_iff.1 (by simp)
    have hb : b ∈ a :: l := h.mem_iff.2 (by simp)
    have hab : a = b := by
      rcases List.mem_cons.1 ha with q | q
      · exact q
      · rcases List.mem_cons.1 hb with p | p
        · exact p.symm
        · exact Int.le_antisymm (h1.1 b p) (h2.1 a q)
    subst hab
    rw [sorted_eq (List.Perm.cons_inv h) h1.2 h2.2]
theorem merge_eq (l : List Int) : (l.mergeSort fun x y => decide (x ≤ y)) = sortLe l := by
  refine sorted_eq ((List.mergeSort_perm l _).trans (sortLe_perm l).symm) ?_ (sortLe_sorted l)
  have := List.pairwise_mergeSort (le := fun (x y : Int) => decide (x ≤ y)) (fun a b c h1 h2 => by simp at *; omega) (fun a b => by simp; omega) l
  exact this.imp (fun h => by simpa using h)
def fSort (l : List Int) : Option (List Int) := br (decide (l.length < 4611686018427387904)) (some (sortLe l)) none
def dSort (a : List AV) (H : Heap) : Option (List (Den.den 3)) := match a, H with
  | [.slf 0], [(0, b)] => rowD 3 b
  | _, _ => none
def gSort : CallS := entT dSort (fun l => fSort l) (elAll _) (fun _ _ => .ret (.tup [])) (fun _ r => [(0, some (.row 3 r))]) (fun _ _ => 1)
theorem sort_contract {P : Program} {k : FuncId} (hb : ∃ fn, P.funcs[k]? = some fn ∧ fn.body.isSome = true)
    (h1 : ∀ (blk off cap : Nat) (zs : List Int) (w : World), Holds (Value.int .i64) w blk off zs.toArray → blk < w.heap.size → zs.length < 4611686018427387904 →
      Calls P k #[.slice (some ⟨blk, off, none⟩) zs.length cap] w fun e w' => e = .returned (.tuple #[]) ∧ ∃ n os, w' = grow (putRow (Value.int .i64) (Sort.ahead w n) blk off (zs.mergeSort fun x y => decide (x ≤ y)).toArray) os)
    (h0 : ∀ (p : Option Addr) (cap : Nat) (w : World), Calls P k #[.slice p 0 cap] w fun e w' => e = .returned (.tuple #[]) ∧ w' = w) : CallSOk P k gSort := by
  intro R ac Hc m K r hm hlen e
  unfold gSort entT at e
  split at e
  · rename_i l hd
    unfold dSort at hd
    split at hd
    · have := rowD_ok hd
      subst this
      obtain ⟨l, rfl⟩ : ∃ l' : List Int, l' = l := ⟨l, rfl⟩
      replace e : bindO (fSort l) (fun z => K (.ret (.tup [])) [(0, some (.row 3 z))] 1) = some r := e
      cases hf : fSort l with
      | none => rw [hf] at e; cases e
      | some z =>
        rw [hf] at e
        replace e : K (.ret (.tup [])) [(0, some (.row 3 z))] 1 = some r := e
        unfold fSort at hf
        obtain ⟨hl, hz⟩ := (br_some hf).resolve_right (fun q => by cases q.2)
        have hl := of_decide_eq_true hl
        cases hz
        have hm1 : m = 1 := by rw [← hlen]; rfl
        subst hm1
        refine ⟨_, _, _, ⟨hb, fun w0 F ρ RO w vs H hvs => ?_⟩, e⟩
        obtain ⟨v, t, rfl, hv, ht⟩ := hvs.inv_cons
        rw [ht.inv_nil]
        have hlk : lookH ([(0, some (AObj.row 3 l))] : Heap) 0 = some (.row 3 l) := rfl
        have tup : ∀ {ρ' RO' w'}, EndRel ρ' RO' w' (.ret (.tup [])) (.returned (.tuple #[])) := fun {ρ' RO' w'} => ⟨_, rfl, .tup (vs := []) rfl (fun i a v h => by simp at h)⟩
        cases hv with
        | @slf _ c L A hL hc hA hz0 hs hmm =>
        obtain ⟨⟨r1, r2⟩, r3⟩ := H.row hlk hL
        by_cases hl0 : l = []
        · subst hl0
          have hn0 : L.n = 0 := r2
          have hs0 : sortLe [] = [] := rfl
          rw [hs0]
          rw [hn0]
          refine (h0 A c w).mono fun e w' he => ?_
          obtain ⟨rfl, rfl⟩ := he
          refine ⟨ρ, RO, .refl _ _ _, H.forget (fun i o hi => ?_) (fun i o hi => ?_), tup⟩
          · rw [List.cons_append, lookH_cons] at hi
            split at hi
            · rename_i q; subst q; exact hi
            · exact hi
          · rw [List.cons_append, lookF_cons] at hi
            split at hi
            · cases hi
            · exact hi
        · have hpos : 0 < l.length := List.length_pos_iff.2 hl0
          obtain ⟨_, cs, g1, g2, g3⟩ := r3 hpos
          have hng : ¬ Ghost L (.row 3 l) := not_ghost_row hpos
          have hlt : L.blk < w.heap.size := (Array.getElem?_eq_some_iff.1 g1).1
          have hn1 : 0 < L.n := by rw [r2]; exact hpos
          have hA' := hA (by omega)
          subst hA'
          rw [r2]
          have hcell : ∀ i, i < l.length → cs[L.base + i]? = some (.int .i64 (l.getD i 0)) := by
            intro i hi
            obtain ⟨u, u1, u2, u3⟩ := g3 i 0 hi (Univ.sz_pos 3)
            have hz : Univ.sz 3 = 1 := rfl
            have : elT 3 l i 0 = .int .i64 (l.getD i 0) := rfl
            rw [this] at u3
            cases u3
            rw [hz] at u1
            simpa using u1
          have hH : Holds (Value.int .i64) w L.blk L.base l.toArray := by
            intro j hj
            have hj : j < l.length := by simpa using hj
            refine ⟨?_, by simp [World.frozen?, g1]⟩
            simp only [World.cell?, g1]
            simp only [Option.isSome_none, Bool.false_eq_true, if_false]
            rw [hcell j hj]
            simp [List.getD_eq_getElem?_getD, hj]
          refine (h1 L.blk L.base c l w hH hlt hl).mono fun e w' he => ?_
          obtain ⟨rfl, n, os, hw⟩ := he
          rw [merge_eq] at hw
          subst hw
          have hsl : (sortLe l).length = l.length := (sortLe_perm l).length_eq
          let w1 : World := putRow (Value.int .i64) (Sort.ahead w n) L.blk L.base (sortLe l).toArray
          have hsame : ∀ k, k ≠ L.blk → w1.heap[k]? = w.heap[k]? := by
            intro k hk
            have : L.blk ≠ k := fun q => hk q.symm
            simp [w1, putRow, mapBlock, Sort.ahead, Array.getElem?_modify, this]
          obtain ⟨ext, fin⟩ := H.turn (w' := w1) hlk hL hng rfl rfl rfl (by simp [w1, putRow, mapBlock, Sort.ahead]) (by simp [w1, putRow, mapBlock, Sort.ahead]) hsame
          have hb1 : w1.heap[L.blk]? = some (.cells (putCells (Value.int .i64) L.base (sortLe l).toArray cs) 3 (0, 0)) := by
            simp [w1, putRow, mapBlock, Sort.ahead, Array.getElem?_modify, g1, onCells]
          have H1 := fin (.row 3 (sortLe l)) rfl ⟨⟨r1, by rw [r2]; exact hsl.symm⟩, _, hb1, by simp [putCells, g2], fun i k hi hk => by
            have hz : Univ.sz 3 = 1 := rfl
            rw [hz] at hk ⊢
            have hk0 : k = 0 := by omega
            subst hk0
            have hi : i < List.length (α := Int) (sortLe l) := hi
            have hi2 : i < List.length (α := Int) l := by omega
            obtain ⟨hin, _⟩ := Array.getElem?_eq_some_iff.1 (hcell i hi2)
            refine ⟨.int .i64 ((sortLe l).getD i 0), ?_, rfl, .int _ _⟩
            have hi' : i < (sortLe l).toArray.size := by simpa using hi
            simp only [Nat.mul_one, Nat.add_zero, putCells, Array.getElem?_mapIdx, Array.getElem?_eq_getElem hin, Option.map_some]
            rw [if_pos ⟨by omega, by omega⟩]
            simp [List.getD_eq_getElem?_getD, hi]⟩
          obtain ⟨ext2, H2⟩ := H1.grown (w' := grow w1 os) ⟨rfl, rfl, rfl, by simp [grow], fun k hk => heap_grow_old _ _ hk, fun _ => Nat.le_refl _⟩
          exact ⟨ρ, RO, ext.trans ext2, H2, tup⟩
    · cases hd
  · cases e
section
open Go.Shelf
def sortI_ren : Go.Shelf.Ren := ⟨fun | 189 => 32 | 125 => 39 | 257 => 38 | 128 => 56 | 129 => 57 | 294 => 47 | 295 => 48 | 296 => 49 | 297 => 50 | 298 => 51 | 299 => 52 | 216 => 53 | 300 => 54 | 301 => 55 | 328 => 66 | 329 => 67 | 330 => 68 | 331 => 69 | 332 => 70 | 215 => 71 | 343 => 80 | n => n, fun | 28 => 38 | 3 => 3 | 46 => 64 | 0 => 0 | 51 => 82 | 53 => 84 | 4 => 4 | 183 => 74 | 182 => 73 | 131 => 79 | 5 => 5 | 9 => 9 | 218 => 94 | 222 => 98 | 228 => 112 | 229 => 113 | n => n, fun | n => n⟩
theorem sortI : Go.Proofs.Lays.n189 Tryd.prog sortI_ren := {
  mixed := by kernel_rfl,
  f125 := Tryd.func39.trans (congrArg some (by kernel_rfl)),
  f128 := Tryd.func56.trans (congrArg some (by kernel_rfl)),
  f129 := Tryd.func57.trans (congrArg some (by kernel_rfl)),
  f189 := Tryd.func32.trans (congrArg some (by kernel_rfl)),
  f215 := Tryd.func71.trans (congrArg some (by kernel_rfl)),
  f216 := Tryd.func53.trans (congrArg some (by kernel_rfl)),
  f257 := Tryd.func38.trans (congrArg some (by kernel_rfl)),
  f294 := Tryd.func47.trans (congrArg some (by kernel_rfl)),
  f295 := Tryd.func48.trans (congrArg some (by kernel_rfl)),
  f296 := Tryd.func49.trans (congrArg some (by kernel_rfl)),
  f297 := Tryd.func50.trans (congrArg some (by kernel_rfl)),
  f298 := Tryd.func51.trans (congrArg some (by kernel_rfl)),
  f299 := Tryd.func52.trans (congrArg some (by kernel_rfl)),
  f300 := Tryd.func54.trans (congrArg some (by kernel_rfl)),
  f301 := Tryd.func55.trans (congrArg some (by kernel_rfl)),
  f328 := Tryd.func66.trans (congrArg some (by kernel_rfl)),
  f329 := Tryd.func67.trans (congrArg some (by kernel_rfl)),
  f330 := Tryd.func68.trans (congrArg some (by kernel_rfl)),
  f331 := Tryd.func69.trans (congrArg some (by kernel_rfl)),
  f332 := Tryd.func70.trans (congrArg some (by kernel_rfl)),
  f343 := Tryd.func80.trans (congrArg some (by kernel_rfl)),
  t0 := Tryd.underlying0,
  a0 := Tryd.isAgg0,
  z0 := Tryd.sizeOf0,
  v0 := Tryd.zeroValue0,
  t3 := Tryd.underlying3,
  a3 := Tryd.isAgg3,
  z3 := Tryd.sizeOf3,
  v3 := Tryd.zeroValue3,
  t4 := Tryd.underlying4,
  a4 := Tryd.isAgg4,
  z4 := Tryd.sizeOf4,
  v4 := Tryd.zeroValue4,
  t5 := Tryd.underlying5,
  a5 := Tryd.isAgg5,
  z5 := Tryd.sizeOf5,
  v5 := Tryd.zeroValue5,
  t9 := Tryd.underlying9,
  a9 := Tryd.isAgg9,
  z9 := Tryd.sizeOf9,
  v9 := Tryd.zeroValue9,
  t28 := Tryd.underlying38,
  a28 := Tryd.isAgg38,
  z28 := Tryd.sizeOf38,
  v28 := Tryd.zeroValue38,
  t46 := Tryd.underlying64,
  a46 := Tryd.isAgg64,
  z46 := Tryd.sizeOf64,
  v46 := Tryd.zeroValue64,
  t51 := Tryd.underlying82,
  a51 := Tryd.isAgg82,
  z51 := Tryd.sizeOf82,
  v51 := Tryd.zeroValue82,
  t53 := Tryd.underlying84,
  a53 := Tryd.isAgg84,
  z53 := Tryd.sizeOf84,
  v53 := Tryd.zeroValue84,
  t131 := Tryd.underlying79,
  a131 := Tryd.isAgg79,
  z131 := Tryd.sizeOf79,
  v131 := Tryd.zeroValue79,
  t182 := Tryd.underlying73,
  a182 := Tryd.isAgg73,
  z182 := Tryd.sizeOf73,
  v182 := Tryd.zeroValue73,
  t183 := Tryd.underlying74,
  a183 := Tryd.isAgg74,
  z183 := Tryd.sizeOf74,
  v183 := Tryd.zeroValue74,
  t218 := Tryd.underlying94,
  a218 := Tryd.isAgg94,
  z218 := Tryd.sizeOf94,
  v218 := Tryd.zeroValue94,
  t222 := Tryd.underlying98,
  a222 := Tryd.isAgg98,
  z222 := Tryd.sizeOf98,
  v222 := Tryd.zeroValue98,
  t228 := Tryd.underlying112,
  a228 := Tryd.isAgg112,
  z228 := Tryd.sizeOf112,
  v228 := Tryd.zeroValue112,
  t229 := Tryd.underlying113,
  a229 := Tryd.isAgg113,
  z229 := Tryd.sizeOf113,
  v229 := Tryd.zeroValue113 }
end
theorem g32_ok (k : Nat) : CallSOk Tryd.prog 32 gSort := sort_contract ⟨_, Tryd.func32, rfl⟩ (fun blk off cap zs w a b c => Any.slices_Sort_int sortI blk off cap zs w a b c) (fun p cap w => Any.slices_Sort_int_none sortI p cap w)
end Go.Proofs.YtllaajhdpfighaaDoor

end
section
set_option linter.unusedVariables false
namespace Go.Proofs.YtllaajhdpfighaaDoor
open Go Go.Eng Go.Proofs Go.RowKit Go.Lib Go.Sort
section
open Go.Shelf
def cutL_ren : Go.Shelf.Ren := ⟨fun | 145 => 30 | 220 => 35 | 219 => 41 | 217 => 59 | 225 => 60 | 224 => 61 | 267 => 62 | 266 => 76 | 314 => 77 | n => n, fun | 9 => 9 | 4 => 4 | 59 => 52 | 3 => 3 | 5 => 5 | 46 => 64 | 146 => 104 | 51 => 82 | n => n, fun | 1 => 0 | n => n⟩
theorem cutL : Go.Proofs.LaysM.n145 Tryd.prog cutL_ren := {
  mixed := by kernel_rfl,
  f145 := Tryd.func30.trans (congrArg some (by kernel_rfl)),
  f217 := Tryd.func59.trans (congrArg some (by kernel_rfl)),
  f219 := Tryd.func41.trans (congrArg some (by kernel_rfl)),
  f220 := Tryd.func35.trans (congrArg some (by kernel_rfl)),
  f224 := Tryd.func61.trans (congrArg some (by kernel_rfl)),
  f225 := Tryd.func60.trans (congrArg some (by kernel_rfl)),
  f266 := Tryd.func76.trans (congrArg some (by kernel_rfl)),
  f267 := Tryd.func62.trans (congrArg some (by kernel_rfl)),
  f314 := Tryd.func77.trans (congrArg some (by kernel_rfl)),
  t3 := Tryd.underlying3,
  a3 := Tryd.isAgg3,
  z3 := Tryd.sizeOf3,
  v3 := Tryd.zeroValue3,
  t4 := Tryd.underlying4,
  a4 := Tryd.isAgg4,
  z4 := Tryd.sizeOf4,
  v4 := Tryd.zeroValue4,
  t5 := Tryd.underlying5,
  a5 := Tryd.isAgg5,
  z5 := Tryd.sizeOf5,
  v5 := Tryd.zeroValue5,
  t9 := Tryd.underlying9,
  a9 := Tryd.isAgg9,
  z9 := Tryd.sizeOf9,
  v9 := Tryd.zeroValue9,
  t46 := Tryd.underlying64,
  a46 := Tryd.isAgg64,
  z46 := Tryd.sizeOf64,
  v46 := Tryd.zeroValue64,
  t51 := Tryd.underlying82,
  a51 := Tryd.isAgg82,
  z51 := Tryd.sizeOf82,
  v51 := Tryd.zeroValue82,
  t59 := Tryd.underlying52,
  a59 := Tryd.isAgg52,
  z59 := Tryd.sizeOf52,
  v59 := Tryd.zeroValue52,
  t146 := Tryd.underlying104,
  a146 := Tryd.isAgg104,
  z146 := Tryd.sizeOf104,
  v146 := Tryd.zeroValue104,
  g1 := by kernel_rfl,
  i3 := by kernel_rfl,
  i4 := by kernel_rfl,
  i5 := by kernel_rfl,
  i9 := by kernel_rfl,
  i46 := by kernel_rfl,
  i51 := by kernel_rfl,
  i59 := by kernel_rfl,
  i146 := by kernel_rfl,
  m1 := by kernel_rfl,
  s1_3 := fun w h => Go.Proofs.cell_of_shapedOpen_int (zero := #[.int .i64 0]) (t := 3) h (of_decide_eq_true (by kernel_rfl)) (by kernel_rfl) rfl (by kernel_rfl) (by kernel_rfl) Tryd.underlying3 }
def itoaL_ren : Go.Shelf.Ren := ⟨fun | 171 => 34 | 243 => 40 | 246 => 58 | 283 => 72 | 284 => 73 | 285 => 74 | 286 => 75 | 129 => 57 | 317 => 81 | 318 => 82 | 319 => 83 | 320 => 84 | 337 => 85 | 338 => 86 | n => n, fun | 3 => 3 | 9 => 9 | 2 => 2 | 4 => 4 | 171 => 100 | 0 => 0 | 53 => 84 | 37 => 60 | 5 => 5 | 173 => 102 | 212 => 116 | 51 => 82 | 20 => 20 | 213 => 117 | 46 => 64 | 232 => 118 | 233 => 119 | n => n, fun | 17 => 3 | 18 => 4 | 19 => 5 | n => n⟩
theorem itoaL : Go.Proofs.Lays.n171 Tryd.prog itoaL_ren := {
  mixed := by kernel_rfl,
  f129 := Tryd.func57.trans (congrArg some (by kernel_rfl)),
  f171 := Tryd.func34.trans (congrArg some (by kernel_rfl)),
  f243 := Tryd.func40.trans (congrArg some (by kernel_rfl)),
  f246 := Tryd.func58.trans (congrArg some (by kernel_rfl)),
  f283 := Tryd.func72.trans (congrArg some (by kernel_rfl)),
  f284 := Tryd.func73.trans (congrArg some (by kernel_rfl)),
  f285 := Tryd.func74.trans (congrArg some (by kernel_rfl)),
  f286 := Tryd.func75.trans (congrArg some (by kernel_rfl)),
  f317 := Tryd.func81.trans (congrArg some (by kernel_rfl)),
  f318 := Tryd.func82.trans (congrArg some (by kernel_rfl)),
  f319 := Tryd.func83.trans (congrArg some (by kernel_rfl)),
  f320 := Tryd.func84.trans (congrArg some (by kernel_rfl)),
  f337 := Tryd.func85.trans (congrArg some (by kernel_rfl)),
  f338 := Tryd.func86.trans (congrArg some (by kernel_rfl)),
  t0 := Tryd.underlying0,
  a0 := Tryd.isAgg0,
  z0 := Tryd.sizeOf0,
  v0 := Tryd.zeroValue0,
  t2 := Tryd.underlying2,
  a2 := Tryd.isAgg2,
  z2 := Tryd.sizeOf2,
  v2 := Tryd.zeroValue2,
  t3 := Tryd.underlying3,
  a3 := Tryd.isAgg3,
  z3 := Tryd.sizeOf3,
  v3 := Tryd.zeroValue3,
  t4 := Tryd.underlying4,
  a4 := Tryd.isAgg4,
  z4 := Tryd.sizeOf4,
  v4 := Tryd.zeroValue4,
  t5 := Tryd.underlying5,
  a5 := Tryd.isAgg5,
  z5 := Tryd.sizeOf5,
  v5 := Tryd.zeroValue5,
  t9 := Tryd.underlying9,
  a9 := Tryd.isAgg9,
  z9 := Tryd.sizeOf9,
  v9 := Tryd.zeroValue9,
  t20 := Tryd.underlying20,
  a20 := Tryd.isAgg20,
  z20 := Tryd.sizeOf20,
  v20 := Tryd.zeroValue20,
  t37 := Tryd.underlying60,
  a37 := Tryd.isAgg60,
  z37 := Tryd.sizeOf60,
  v37 := Tryd.zeroValue60,
  t46 := Tryd.underlying64,
  a46 := Tryd.isAgg64,
  z46 := Tryd.sizeOf64,
  v46 := Tryd.zeroValue64,
  t51 := Tryd.underlying82,
  a51 := Tryd.isAgg82,
  z51 := Tryd.sizeOf82,
  v51 := Tryd.zeroValue82,
  t53 := Tryd.underlying84,
  a53 := Tryd.isAgg84,
  z53 := Tryd.sizeOf84,
  v53 := Tryd.zeroValue84,
  t171 := Tryd.underlying100,
  a171 := Tryd.isAgg100,
  z171 := Tryd.sizeOf100,
  v171 := Tryd.zeroValue100,
  t173 := Tryd.underlying102,
  a173 := Tryd.isAgg102,
  z173 := Tryd.sizeOf102,
  v173 := Tryd.zeroValue102,
  t212 := Tryd.underlying116,
  a212 := Tryd.isAgg116,
  z212 := Tryd.sizeOf116,
  v212 := Tryd.zeroValue116,
  t213 := Tryd.underlying117,
  a213 := Tryd.isAgg117,
  z213 := Tryd.sizeOf117,
  t232 := Tryd.underlying118,
  a232 := Tryd.isAgg118,
  z232 := Tryd.sizeOf118,
  v232 := Tryd.zeroValue118,
  t233 := Tryd.underlying119,
  a233 := Tryd.isAgg119,
  z233 := Tryd.sizeOf119,
  v233 := Tryd.zeroValue119,
  g17 := by kernel_rfl,
  g18 := by kernel_rfl,
  g19 := by kernel_rfl }
def compL_ren : Go.Shelf.Ren := ⟨fun | 20 => 33 | n => n, fun | 22 => 38 | 3 => 3 | 4 => 4 | 0 => 0 | n => n, fun | n => n⟩
theorem compL : Go.Proofs.Lays2.n20 Tryd.prog compL_ren := {
  mixed := by kernel_rfl,
  f20 := Tryd.func33.trans (congrArg some (by kernel_rfl)),
  t0 := Tryd.underlying0,
  a0 := Tryd.isAgg0,
  z0 := Tryd.sizeOf0,
  v0 := Tryd.zeroValue0,
  t3 := Tryd.underlying3,
  a3 := Tryd.isAgg3,
  z3 := Tryd.sizeOf3,
  v3 := Tryd.zeroValue3,
  t4 := Tryd.underlying4,
  a4 := Tryd.isAgg4,
  z4 := Tryd.sizeOf4,
  v4 := Tryd.zeroValue4,
  t22 := Tryd.underlying38,
  a22 := Tryd.isAgg38,
  z22 := Tryd.sizeOf38,
  v22 := Tryd.zeroValue38,
  i3 := by kernel_rfl }
def atoiL_ren : Go.Shelf.Ren := ⟨fun | 172 => 31 | 244 => 36 | 245 => 37 | 247 => 42 | 279 => 43 | 280 => 44 | 281 => 45 | 282 => 46 | 287 => 63 | 316 => 64 | 171 => 34 | 205 => 65 | 321 => 78 | 322 => 79 | 243 => 40 | 246 => 58 | 283 => 72 | 284 => 73 | 285 => 74 | 286 => 75 | 129 => 57 | 317 => 81 | 318 => 82 | 319 => 83 | 320 => 84 | 337 => 85 | 338 => 86 | n => n, fun | 9 => 9 | 3 => 3 | 75 => 55 | 76 => 56 | 4 => 4 | 5 => 5 | 167 => 66 | 37 => 60 | 0 => 0 | 85 => 67 | 2 => 2 | 168 => 69 | 53 => 84 | 175 => 88 | 46 => 64 | 210 => 92 | 127 => 108 | 145 => 111 | 143 => 109 | 21 => 21 | 171 => 100 | 173 => 102 | 212 => 116 | 51 => 82 | 20 => 20 | 213 => 117 | 232 => 118 | 233 => 119 | 80 => 50 | n => n, fun | 15 => 1 | 16 => 2 | 17 => 3 | 18 => 4 | 19 => 5 | n => n⟩
theorem atoiL : Go.Proofs.LaysC.n172 Tryd.prog atoiL_ren := {
  mixed := by kernel_rfl,
  f129 := Tryd.func57.trans (congrArg some (by kernel_rfl)),
  f171 := Tryd.func34.trans (congrArg some (by kernel_rfl)),
  f172 := Tryd.func31.trans (congrArg some (by kernel_rfl)),
  f205 := Tryd.func65.trans (congrArg some (by kernel_rfl)),
  f243 := Tryd.func40.trans (congrArg some (by kernel_rfl)),
  f244 := Tryd.func36.trans (congrArg some (by kernel_rfl)),
  f245 := Tryd.func37.trans (congrArg some (by kernel_rfl)),
  f246 := Tryd.func58.trans (congrArg some (by kernel_rfl)),
  f247 := Tryd.func42.trans (congrArg some (by kernel_rfl)),
  f279 := Tryd.func43.trans (congrArg some (by kernel_rfl)),
  f280 := Tryd.func44.trans (congrArg some (by kernel_rfl)),
  f281 := Tryd.func45.trans (congrArg some (by kernel_rfl)),
  f282 := Tryd.func46.trans (congrArg some (by kernel_rfl)),
  f283 := Tryd.func72.trans (congrArg some (by kernel_rfl)),
  f284 := Tryd.func73.trans (congrArg some (by kernel_rfl)),
  f285 := Tryd.func74.trans (congrArg some (by kernel_rfl)),
  f286 := Tryd.func75.trans (congrArg some (by kernel_rfl)),
  f287 := Tryd.func63.trans (congrArg some (by kernel_rfl)),
  f316 := Tryd.func64.trans (congrArg some (by kernel_rfl)),
  f317 := Tryd.func81.trans (congrArg some (by kernel_rfl)),
  f318 := Tryd.func82.trans (congrArg some (by kernel_rfl)),
  f319 := Tryd.func83.trans (congrArg some (by kernel_rfl)),
  f320 := Tryd.func84.trans (congrArg some (by kernel_rfl)),
  f321 := Tryd.func78.trans (congrArg some (by kernel_rfl)),
  f322 := Tryd.func79.trans (congrArg some (by kernel_rfl)),
  f337 := Tryd.func85.trans (congrArg some (by kernel_rfl)),
  f338 := Tryd.func86.trans (congrArg some (by kernel_rfl)),
  t0 := Tryd.underlying0,
  a0 := Tryd.isAgg0,
  z0 := Tryd.sizeOf0,
  v0 := Tryd.zeroValue0,
  t2 := Tryd.underlying2,
  a2 := Tryd.isAgg2,
  z2 := Tryd.sizeOf2,
  v2 := Tryd.zeroValue2,
  t3 := Tryd.underlying3,
  a3 := Tryd.isAgg3,
  z3 := Tryd.sizeOf3,
  v3 := Tryd.zeroValue3,
  t4 := Tryd.underlying4,
  a4 := Tryd.isAgg4,
  z4 := Tryd.sizeOf4,
  v4 := Tryd.zeroValue4,
  t5 := Tryd.underlying5,
  a5 := Tryd.isAgg5,
  z5 := Tryd.sizeOf5,
  v5 := Tryd.zeroValue5,
  t9 := Tryd.underlying9,
  a9 := Tryd.isAgg9,
  z9 := Tryd.sizeOf9,
  v9 := Tryd.zeroValue9,
  t20 := Tryd.underlying20,
  a20 := Tryd.isAgg20,
  z20 := Tryd.sizeOf20,
  v20 := Tryd.zeroValue20,
  t21 := Tryd.underlying21,
  a21 := Tryd.isAgg21,
  z21 := Tryd.sizeOf21,
  v21 := Tryd.zeroValue21,
  t37 := Tryd.underlying60,
  a37 := Tryd.isAgg60,
  z37 := Tryd.sizeOf60,
  v37 := Tryd.zeroValue60,
  t46 := Tryd.underlying64,
  a46 := Tryd.isAgg64,
  z46 := Tryd.sizeOf64,
  v46 := Tryd.zeroValue64,
  t51 := Tryd.underlying82,
  a51 := Tryd.isAgg82,
  z51 := Tryd.sizeOf82,
  v51 := Tryd.zeroValue82,
  t53 := Tryd.underlying84,
  a53 := Tryd.isAgg84,
  z53 := Tryd.sizeOf84,
  v53 := Tryd.zeroValue84,
  t75 := Tryd.underlying55,
  a75 := Tryd.isAgg55,
  z75 := Tryd.sizeOf55,
  v75 := Tryd.zeroValue55,
  t76 := Tryd.underlying56,
  a76 := Tryd.isAgg56,
  z76 := Tryd.sizeOf56,
  v76 := Tryd.zeroValue56,
  t85 := Tryd.underlying67,
  a85 := Tryd.isAgg67,
  z85 := Tryd.sizeOf67,
  v85 := Tryd.zeroValue67,
  t127 := Tryd.underlying108,
  a127 := Tryd.isAgg108,
  z127 := Tryd.sizeOf108,
  v127 := Tryd.zeroValue108,
  t143 := Tryd.underlying109,
  a143 := Tryd.isAgg109,
  z143 := Tryd.sizeOf109,
  v143 := Tryd.zeroValue109,
  t145 := Tryd.underlying111,
  a145 := Tryd.isAgg111,
  z145 := Tryd.sizeOf111,
  v145 := Tryd.zeroValue111,
  t167 := Tryd.underlying66,
  a167 := Tryd.isAgg66,
  z167 := Tryd.sizeOf66,
  v167 := Tryd.zeroValue66,
  t168 := Tryd.underlying69,
  a168 := Tryd.isAgg69,
  z168 := Tryd.sizeOf69,
  v168 := Tryd.zeroValue69,
  t171 := Tryd.underlying100,
  a171 := Tryd.isAgg100,
  z171 := Tryd.sizeOf100,
  v171 := Tryd.zeroValue100,
  t173 := Tryd.underlying102,
  a173 := Tryd.isAgg102,
  z173 := Tryd.sizeOf102,
  v173 := Tryd.zeroValue102,
  t175 := Tryd.underlying88,
  a175 := Tryd.isAgg88,
  z175 := Tryd.sizeOf88,
  v175 := Tryd.zeroValue88,
  t210 := Tryd.underlying92,
  a210 := Tryd.isAgg92,
  z210 := Tryd.sizeOf92,
  v210 := Tryd.zeroValue92,
  t212 := Tryd.underlying116,
  a212 := Tryd.isAgg116,
  z212 := Tryd.sizeOf116,
  v212 := Tryd.zeroValue116,
  t213 := Tryd.underlying117,
  a213 := Tryd.isAgg117,
  z213 := Tryd.sizeOf117,
  t232 := Tryd.underlying118,
  a232 := Tryd.isAgg118,
  z232 := Tryd.sizeOf118,
  v232 := Tryd.zeroValue118,
  t233 := Tryd.underlying119,
  a233 := Tryd.isAgg119,
  z233 := Tryd.sizeOf119,
  v233 := Tryd.zeroValue119,
  g15 := by kernel_rfl,
  g16 := by kernel_rfl,
  g17 := by kernel_rfl,
  g18 := by kernel_rfl,
  g19 := by kernel_rfl,
  t80 := Tryd.underlying50,
  a80 := Tryd.isAgg50,
  z80 := Tryd.sizeOf50,
  v80 := Tryd.zeroValue50,
  i0 := by kernel_rfl,
  i2 := by kernel_rfl,
  i3 := by kernel_rfl,
  i4 := by kernel_rfl,
  i5 := by kernel_rfl,
  i9 := by kernel_rfl,
  i20 := by kernel_rfl,
  i21 := by kernel_rfl,
  i37 := by kernel_rfl,
  i46 := by kernel_rfl,
  i51 := by kernel_rfl,
  i53 := by kernel_rfl,
  i75 := by kernel_rfl,
  i76 := by kernel_rfl,
  i80 := by kernel_rfl,
  i85 := by kernel_rfl,
  i127 := by kernel_rfl,
  i143 := by kernel_rfl,
  i145 := by kernel_rfl,
  i167 := by kernel_rfl,
  i168 := by kernel_rfl,
  i171 := by kernel_rfl,
  i173 := by kernel_rfl,
  i175 := by kernel_rfl,
  i210 := by kernel_rfl,
  i212 := by kernel_rfl,
  i232 := by kernel_rfl,
  i233 := by kernel_rfl,
  m15 := by kernel_rfl,
  m16 := by kernel_rfl,
  m17 := by kernel_rfl,
  m18 := by kernel_rfl,
  m19 := by kernel_rfl,
  c0 := by kernel_rfl,
  c2 := by kernel_rfl,
  c3 := by kernel_rfl,
  c4 := by kernel_rfl,
  c5 := by kernel_rfl,
  c9 := by kernel_rfl,
  c20 := by kernel_rfl,
  c21 := by kernel_rfl,
  c37 := by kernel_rfl,
  c46 := by kernel_rfl,
  c51 := by kernel_rfl,
  c53 := by kernel_rfl,
  c75 := by kernel_rfl,
  c76 := by kernel_rfl,
  c80 := by kernel_rfl,
  c85 := by kernel_rfl,
  c127 := by kernel_rfl,
  c143 := by kernel_rfl,
  c145 := by kernel_rfl,
  c167 := by kernel_rfl,
  c168 := by kernel_rfl,
  c171 := by kernel_rfl,
  c173 := by kernel_rfl,
  c175 := by kernel_rfl,
  c210 := by kernel_rfl,
  c212 := by kernel_rfl,
  c213 := by kernel_rfl,
  c232 := by kernel_rfl,
  c233 := by kernel_rfl }
end
end Go.Proofs.YtllaajhdpfighaaDoor

end
section
set_option linter.unusedVariables false
namespace Go.Proofs.YtllaajhdpfighaaDoor
open Go Go.Eng Go.Proofs Go.RowKit Go.Lib Go.Sort
theorem rel_drewN {w0 w : World} {F : Fr} {h : Heap} {n : Nat} {ρ : Nat → Option Go.Eng.Loc} {RO : Nat → Prop} (H : HRel w0 F h n ρ RO w) (k : Nat) : Ext ρ RO w ρ RO (w.drewN k) ∧ HRel w0 F h n ρ RO (w.drewN k) :=
  H.grown ⟨rfl, rfl, rfl, Nat.le_refl _, fun _ _ => rfl, fun d => d.elim⟩
def cutText (s t : ByteArray) : ByteArray × ByteArray × Bool := (⟨(Lib.cut s.data.toList t.data.toList).1.toArray⟩, ⟨(Lib.cut s.data.toList t.data.toList).2.1.toArray⟩, (Lib.cut s.data.toList t.data.toList).2.2)
def fCut (p : ByteArray × ByteArray) : Option (ByteArray × ByteArray × Bool) := br (decide (p.1.size < 4294967281)) (some (cutText p.1 p.2)) none
def dCut (a : List AV) (H : Heap) : Option (ByteArray × ByteArray) := match a, H with
  | [.str s, .str t], [] => some (s, t)
  | _, _ => none
def gCut : CallS := entT dCut fCut (elAll _) (fun _ r => .ret (.tup [.str r.1, .str r.2.1, .bool r.2.2])) (fun _ _ => []) (fun _ _ => 0)
theorem tup3 {ρ : Nat → Option Go.Eng.Loc} {RO : Nat → Prop} {w : World} (a b : ByteArray) (c : Bool) : EndRel ρ RO w (.ret (.tup [.str a, .str b, .bool c])) (.returned (.tuple #[.string a, .string b, .bool c])) :=
  ⟨_, rfl, .tup (vs := [.string a, .string b, .bool c]) rfl fun i x v h1 h2 => by
    match i with
    | 0 => cases h1; cases h2; exact .str _
    | 1 => cases h1; cases h2; exact .str _
    | 2 => cases h1; cases h2; exact .bool _
    | i + 3 => simp at h1⟩
theorem gCut_ok : CallSOk Tryd.prog 30 gCut := by
  intro R ac Hc m K r hm hlen e
  unfold gCut entT at e
  split at e
  · rename_i p hd
    unfold dCut at hd
    split at hd
    · rename_i s t
      cases hd
      have hm0 : m = 0 := by rw [← hlen]; rfl
      subst hm0
      cases hf : fCut (s, t) with
      | none => rw [hf] at e; cases e
      | some z =>
        rw [hf] at e
        unfold fCut at hf
        obtain ⟨hl, hz⟩ := (br_some hf).resolve_right (fun q => by cases q.2)
        have hl : s.size < 4294967281 := of_decide_eq_true hl
        cases hz
        refine ⟨_, _, _, ⟨⟨_, Tryd.func30, rfl⟩, fun w0 F ρ RO w vs H hvs => ?_⟩, e⟩
        obtain ⟨v, q, rfl, hv, ht⟩ := hvs.inv_cons
        obtain ⟨u, q2, rfl, hu, ht2⟩ := ht.inv_cons
        rw [ht2.inv_nil]
        cases hv; cases hu
        obtain ⟨⟨k, hk⟩, _⟩ := H.frame.glb'
        refine (Any.strings_Cut { cutL with } s t k w hl hk).mono fun e w' he => ?_
        obtain ⟨rfl, n, rfl⟩ := he
        obtain ⟨ext, H2⟩ := rel_drewN H n
        exact ⟨ρ, RO, ext, H2, tup3 _ _ _⟩
    · cases hd
  · cases e
def fAtoi (s : ByteArray) : Option (Int ⊕ Int) := br (decide (s.size ≤ 281474976710656)) (some (match Lib.atoiAll s.data.toList with | .ok v => .inl v | .«syntax» => .inr 0 | .range => .inr (Lib.atoiSat s.data.toList))) none
def dAtoi (a : List AV) (H : Heap) : Option ByteArray := match a, H with
  | [.str s], [] => some s
  | _, _ => none
def oAtoi (r : Int ⊕ Int) : AEnd := match r with
  | .inl v => .ret (.tup [.int .i64 v, .nili])
  | .inr v => .ret (.tup [.int .i64 v, .iface 69 (.ptr 0 0 0)])
def nAtoi (r : Int ⊕ Int) : Nat := match r with | .inl _ => 0 | .inr _ => 1
def gAtoi : CallS := entT dAtoi fAtoi (elSum (elAll _) (elAll _)) (fun _ r => oAtoi r) (fun _ _ => []) (fun _ r => nAtoi r)
theorem tup2 {ρ : Nat → Option Go.Eng.Loc} {RO : Nat → Prop} {w : World} {a b : AV} {x y : Value} (h1 : VRel ρ RO w a x) (h2 : VRel ρ RO w b y) : EndRel ρ RO w (.ret (.tup [a, b])) (.returned (.tuple #[x, y])) :=
  ⟨_, rfl, .tup (vs := [x, y]) rfl fun i z v q1 q2 => by
    match i with
    | 0 => cases q1; cases q2; exact h1
    | 1 => cases q1; cases q2; exact h2
    | i + 2 => simp at q1⟩
theorem bytes_grown (w : World) (t : TypeId) (s : ByteArray) : Eng.Grown w (Lib.bytesWorld w t s) :=
  ⟨rfl, rfl, rfl, by rw [Lib.bytesWorld_size]; omega, fun k hk => Lib.bytesWorld_at_old w t s k hk, fun d => d.elim⟩
theorem rel_ghost {w0 w w' : World} {F : Fr} {h : Heap} {n : Nat} {ρ : Nat → Option Go.Eng.Loc} {RO : Nat → Prop} (H : HRel w0 F h n ρ RO w) (hb : Below w.heap.size w w') (N : Nat) :
    ∃ ρ', Ext ρ RO w ρ' RO w' ∧ HRel w0 F h (n + 1) ρ' RO w' ∧ VRel ρ' RO w' (.ptr n 0 0) (.pointer (some ⟨N, 0, none⟩)) := by
  have hsame : ∀ k, k < w.heap.size → w'.heap[k]? = w.heap[k]? := fun k hk => hb.block k hk
  have hf : Go.Eng.Frame w0 F w' := ⟨hb.os.trans H.frame.os, hb.tape.trans H.frame.tape, hb.output.trans H.frame.output, Nat.le_trans H.frame.size hb.size,
    fun k hk hF => (hsame k (Nat.lt_of_lt_of_le hk H.frame.size)).trans (H.frame.block k hk hF), fun d => d.elim, H.frame.glb⟩
  obtain ⟨ext, fin⟩ := H.add (w' := w') (.row 3 []) ⟨N, 0, Univ.sz 3, 0, 0, false⟩ hf hsame hb.size rfl
  have H2 := fin (.inl ⟨_, rfl, rfl, ⟨rfl, rfl⟩, rfl⟩)
  refine ⟨_, ext, ⟨H2.frame, fun id o hl => H2.objs id o ?_, fun i j o o' x x' hne h1 h2 => H2.dis i j o o' x x' hne ?_ ?_, H2.fresh, H2.ro, fun id r hl => H2.frz id r ?_⟩, ?_⟩
  · rw [lookH_cons, if_neg (fun q => ?_)]
    · exact hl
    · subst q
      obtain ⟨x, hx, _⟩ := H.objs _ _ hl
      rw [H.fresh _ (Nat.le_refl _)] at hx
      cases hx
  · rw [lookH_cons, if_neg (fun q => ?_)]
    · exact h1
    · subst q
      obtain ⟨x, hx, _⟩ := H.objs _ _ h1
      rw [H.fresh _ (Nat.le_refl _)] at hx
      cases hx
  · rw [lookH_cons, if_neg (fun q => ?_)]
    · exact h2
    · subst q
      obtain ⟨x, hx, _⟩ := H.objs _ _ h2
      rw [H.fresh _ (Nat.le_refl _)] at hx
      cases hx
  · rw [lookF_cons, if_neg (fun q => ?_)]
    · exact hl
    · subst q
      obtain ⟨x, hx, _⟩ := H.frz _ _ hl
      rw [H.fresh _ (Nat.le_refl _)] at hx
      cases hx
  · exact .ptr (L := ⟨N, 0, Univ.sz 3, 0, 0, false⟩) (if_pos rfl)
theorem gAtoi_ok : CallSOk Tryd.prog 31 gAtoi := by
  intro R ac Hc m K r hm hlen e
  unfold gAtoi entT at e
  split at e
  · rename_i p hd
    unfold dAtoi at hd
    split at hd
    · rename_i s
      obtain rfl := Option.some.inj hd
      have hm0 : m = 0 := by rw [← hlen]; rfl
      subst hm0
      cases hf : fAtoi s with
      | none => rw [hf] at e; cases e
      | some z =>
        rw [hf] at e
        unfold fAtoi at hf
        obtain ⟨hl, hz⟩ := (br_some hf).resolve_right (fun q => by cases q.2)
        have hl : s.size ≤ 281474976710656 := of_decide_eq_true hl
        have hs : ∀ w0 F ρ RO w vs, HRel w0 F [] 0 ρ RO w → VRels ρ RO w [.str s] vs → gpS w ∧ vs = [.string s] := by
          intro w0 F ρ RO w vs H hvs
          obtain ⟨v, q, rfl, hv, ht⟩ := hvs.inv_cons
          rw [ht.inv_nil]
          cases hv
          exact ⟨H.frame.glb', rfl⟩
        cases ha : Lib.atoiAll s.data.toList with
        | ok v =>
          rw [ha] at hz
          cases hz
          refine ⟨_, _, _, ⟨⟨_, Tryd.func31, rfl⟩, fun w0 F ρ RO w vs H hvs => ?_⟩, e⟩
          obtain ⟨hg, rfl⟩ := hs w0 F ρ RO w vs H hvs
          refine (Any.strconv_Atoi_ok { atoiL with } s (by omega) v ha w).mono fun e w' he => ?_
          obtain ⟨rfl, he⟩ := he
          rcases he with rfl | ⟨t, rfl⟩
          · exact ⟨ρ, RO, .refl _ _ _, H, tup2 (.int _ _) .nili⟩
          · obtain ⟨ext, H2⟩ := H.grown (bytes_grown w _ t)
            exact ⟨ρ, RO, ext, H2, tup2 (.int _ _) .nili⟩
        | «syntax» =>
          rw [ha] at hz
          cases hz
          refine ⟨_, _, _, ⟨⟨_, Tryd.func31, rfl⟩, fun w0 F ρ RO w vs H hvs => ?_⟩, e⟩
          obtain ⟨⟨_, ⟨ev, hv, hev⟩, _⟩, rfl⟩ := hs w0 F ρ RO w vs H hvs
          refine (Any.strconv_Atoi_syntax { atoiL with } s hl ha ev w hv hev).mono fun e w' he => ?_
          obtain ⟨N, rfl, _, _, hb⟩ := he
          obtain ⟨ρ', q1, q2, q3⟩ := rel_ghost H hb N
          exact ⟨ρ', RO, q1, q2, tup2 (.int _ _) (.iface q3)⟩
        | range =>
          rw [ha] at hz
          cases hz
          refine ⟨_, _, _, ⟨⟨_, Tryd.func31, rfl⟩, fun w0 F ρ RO w vs H hvs => ?_⟩, e⟩
          obtain ⟨⟨_, _, ⟨ev, hv, hev⟩⟩, rfl⟩ := hs w0 F ρ RO w vs H hvs
          refine (Any.strconv_Atoi_range { atoiL with } s hl ha ev w hv hev).mono fun e w' he => ?_
          obtain ⟨N, rfl, _, _, hb⟩ := he
          obtain ⟨ρ', q1, q2, q3⟩ := rel_ghost H hb N
          exact ⟨ρ', RO, q1, q2, tup2 (.int _ _) (.iface q3)⟩
    · cases hd
  · cases e
def txtN (i : Nat) : ByteArray := if i < 10 then ⟨#[UInt8.ofNat (48 + i)]⟩ else ⟨#[UInt8.ofNat (48 + i / 10), UInt8.ofNat (48 + i % 10)]⟩
theorem txt_dec {i : Nat} (h : i < 100) : (⟨(Lib.decDigits i).toArray⟩ : ByteArray) = txtN i := by
  unfold txtN
  by_cases h1 : i < 10
  · rw [if_pos h1, Lib.decDigits, dif_pos h1]
  · rw [if_neg h1, Lib.decDigits, dif_neg h1, Lib.decDigits, dif_pos (by omega)]
    rfl
def fItoa (n : Int) : Option ByteArray := br (decide (0 ≤ n ∧ n < 100)) (some (txtN n.toNat)) none
def dItoa (a : List AV) (H : Heap) : Option Int := match a, H with
  | [.int .i64 n], [] => some n
  | _, _ => none
def gItoa : CallS := entT dItoa fItoa (elAll _) (fun _ r => .ret (.str r)) (fun _ _ => []) (fun _ _ => 0)
theorem gItoa_ok : CallSOk Tryd.prog 34 gItoa := by
  intro R ac Hc m K r hm hlen e
  unfold gItoa entT at e
  split at e
  · rename_i p hd
    unfold dItoa at hd
    split at hd
    · rename_i n
      obtain rfl := Option.some.inj hd
      have hm0 : m = 0 := by rw [← hlen]; rfl
      subst hm0
      cases hf : fItoa n with
      | none => rw [hf] at e; cases e
      | some z =>
        rw [hf] at e
        unfold fItoa at hf
        obtain ⟨hl, hz⟩ := (br_some hf).resolve_right (fun q => by cases q.2)
        have hl : 0 ≤ n ∧ n < 100 := of_decide_eq_true hl
        cases hz
        refine ⟨_, _, _, ⟨⟨_, Tryd.func34, rfl⟩, fun w0 F ρ RO w vs H hvs => ?_⟩, e⟩
        obtain ⟨v, q, rfl, hv, ht⟩ := hvs.inv_cons
        rw [ht.inv_nil]
        have := int_inv hv
        subst this
        have hn : (n.toNat : Int) = n := Int.toNat_of_nonneg hl.1
        have := Any.strconv_Itoa_small { itoaL with } n.toNat (by omega) w
        rw [hn, txt_dec (by omega)] at this
        refine this.mono fun e w' he => ?_
        obtain ⟨rfl, rfl⟩ := he
        exact ⟨ρ, RO, .refl _ _ _, H, _, rfl, .str _⟩
    · cases hd
  · cases e
def fComp (l : List Int) : Option (List Int × Nat) := br (decide (l.length < 4611686018427387904)) (some (Lib.compact l ++ List.replicate (l.length - (Lib.compact l).length) 0, (Lib.compact l).length)) none
def dComp (a : List AV) (H : Heap) : Option (List (Den.den 3)) := match a, H with
  | [.slf 0], [(0, b)] => rowD 3 b
  | _, _ => none
def gComp : CallS := entT dComp (fun l => fComp l) (elAll _) (fun _ r => .ret (.sl 0 0 r.2 (List.length (α := Int) r.1))) (fun _ r => [(0, some (.row 3 r.1))]) (fun _ _ => 1)
theorem comp_len (l : List Int) : (Lib.compact l).length ≤ l.length := by
  unfold Lib.compact Lib.compactUpTo
  rw [List.length_map]
  exact Nat.le_trans (List.length_filter_le ..) (by rw [List.length_range]; exact Nat.le_refl _)
theorem sl_less {ρ : Nat → Option Go.Eng.Loc} {RO : Nat → Prop} {w : World} {id n k c : Nat} {A : Option Addr} (h : VRel ρ RO w (.sl id 0 n n) (.slice A n c)) (hk : k ≤ n) : VRel ρ RO w (.sl id 0 k n) (.slice A k c) := by
  cases h with
  | sl h hl hc hA h0 hs hm => exact .sl h hk hc hA h0 hs hm
theorem gComp_ok : CallSOk Tryd.prog 33 gComp := by
  intro R ac Hc m K r hm hlen e
  unfold gComp entT at e
  split at e
  · rename_i l hd
    unfold dComp at hd
    split at hd
    · have := rowD_ok hd
      subst this
      obtain ⟨l, rfl⟩ : ∃ l' : List Int, l' = l := ⟨l, rfl⟩
      have hm1 : m = 1 := by rw [← hlen]; rfl
      subst hm1
      replace e : bindO (fComp l) (fun z => K (.ret (.sl 0 0 z.2 z.1.length)) [(0, some (.row 3 z.1))] 1) = some r := e
      cases hf : fComp l with
      | none => rw [hf] at e; cases e
      | some z =>
        rw [hf] at e
        replace e : K (.ret (.sl 0 0 z.2 z.1.length)) [(0, some (.row 3 z.1))] 1 = some r := e
        unfold fComp at hf
        obtain ⟨hl, hz⟩ := (br_some hf).resolve_right (fun q => by cases q.2)
        have hl := of_decide_eq_true hl
        cases hz
        refine ⟨_, _, _, ⟨⟨_, Tryd.func33, rfl⟩, fun w0 F ρ RO w vs H hvs => ?_⟩, e⟩
        obtain ⟨v, t, rfl, hv, ht⟩ := hvs.inv_cons
        rw [ht.inv_nil]
        have hlk : lookH ([(0, some (AObj.row 3 l))] : Heap) 0 = some (.row 3 l) := rfl
        have hv' := H.unslf hlk hv
        have hcl := comp_len l
        have hfull : (Lib.compact l ++ List.replicate (l.length - (Lib.compact l).length) 0).length = l.length := by rw [List.length_append, List.length_replicate]; omega
        cases hv with
        | @slf _ c L A hL hc hA hz0 hs hmm =>
        obtain ⟨⟨r1, r2⟩, r3⟩ := H.row hlk hL
        by_cases hl0 : l = []
        · subst hl0
          have hn0 : L.n = 0 := r2
          rw [hn0] at hv' ⊢
          refine (Any.slices_Compact_int_empty { compL with } A c w).mono fun e w' he => ?_
          obtain ⟨rfl, rfl⟩ := he
          refine ⟨ρ, RO, .refl _ _ _, H.forget (fun i o hi => ?_) (fun i o hi => ?_), _, rfl, hv'⟩
          · rw [List.cons_append, lookH_cons] at hi
            split at hi
            · rename_i q; subst q; exact hi
            · exact hi
          · rw [List.cons_append, lookF_cons] at hi
            split at hi
            · cases hi
            · exact hi
        · have hpos : 0 < l.length := List.length_pos_iff.2 hl0
          obtain ⟨_, cs, g1, g2, g3⟩ := r3 hpos
          have hng : ¬ Ghost L (.row 3 l) := not_ghost_row hpos
          have hn1 : 0 < L.n := by rw [r2]; exact hpos
          have hA' := hA (by omega)
          subst hA'
          rw [r2] at hv' hc ⊢
          have hcell : ∀ i, i < l.length → cs[L.base + i]? = some (.int .i64 (l.getD i 0)) := by
            intro i hi
            obtain ⟨u, u1, u2, u3⟩ := g3 i 0 hi (Univ.sz_pos 3)
            have hz : Univ.sz 3 = 1 := rfl
            have : elT 3 l i 0 = .int .i64 (l.getD i 0) := rfl
            rw [this] at u3
            cases u3
            rw [hz] at u1
            simpa using u1
          have hH : Holds (Value.int .i64) w L.blk L.base l.toArray := by
            intro j hj
            have hj : j < l.length := by simpa using hj
            refine ⟨?_, by simp [World.frozen?, g1]⟩
            simp only [World.cell?, g1]
            simp only [Option.isSome_none, Bool.false_eq_true, if_false]
            rw [hcell j hj]
            simp [List.getD_eq_getElem?_getD, hj]
          refine (Any.slices_Compact_int { compL with } L.blk L.base c l w hH (by omega) hc).mono fun e w' he => ?_
          obtain ⟨rfl, n, rfl⟩ := he
          replace e : True := trivial
          show ∃ ρ' RO', Ext ρ RO w ρ' RO' (putRow (Value.int .i64) (Sort.ahead w n) L.blk L.base (Lib.compact l ++ List.replicate (l.length - (Lib.compact l).length) 0).toArray) ∧ HRel w0 F ((0, some (.row 3 (Lib.compact l ++ List.replicate (l.length - (Lib.compact l).length) 0))) :: [(0, some (AObj.row 3 l))]) 1 ρ' RO' (putRow (Value.int .i64) (Sort.ahead w n) L.blk L.base (Lib.compact l ++ List.replicate (l.length - (Lib.compact l).length) 0).toArray) ∧ EndRel ρ' RO' (putRow (Value.int .i64) (Sort.ahead w n) L.blk L.base (Lib.compact l ++ List.replicate (l.length - (Lib.compact l).length) 0).toArray) (.ret (.sl 0 0 (Lib.compact l).length (List.length (α := Int) (Lib.compact l ++ List.replicate (l.length - (Lib.compact l).length) 0)))) (.returned (.slice (some ⟨L.blk, L.base, none⟩) (Lib.compact l).length c))
          generalize Lib.compact l ++ List.replicate (l.length - (Lib.compact l).length) 0 = full at hfull ⊢
          let w1 : World := putRow (Value.int .i64) (Sort.ahead w n) L.blk L.base full.toArray
          have hsame : ∀ k, k ≠ L.blk → w1.heap[k]? = w.heap[k]? := by
            intro k hk
            have : L.blk ≠ k := fun q => hk q.symm
            simp [w1, putRow, mapBlock, Sort.ahead, Array.getElem?_modify, this]
          obtain ⟨ext, fin⟩ := H.turn (w' := w1) hlk hL hng rfl rfl rfl (by simp [w1, putRow, mapBlock, Sort.ahead]) (by simp [w1, putRow, mapBlock, Sort.ahead]) hsame
          have hb1 : w1.heap[L.blk]? = some (.cells (putCells (Value.int .i64) L.base full.toArray cs) 3 (0, 0)) := by
            simp [w1, putRow, mapBlock, Sort.ahead, Array.getElem?_modify, g1, onCells]
          have H1 := fin (.row 3 full) rfl ⟨⟨r1, by rw [r2]; exact hfull.symm⟩, _, hb1, by simp [putCells, g2], fun i k hi hk => by
            have hz : Univ.sz 3 = 1 := rfl
            rw [hz] at hk ⊢
            have hk0 : k = 0 := by omega
            subst hk0
            have hi : i < List.length (α := Int) full := hi
            have hi2 : i < List.length (α := Int) l := by rw [← hfull]; exact hi
            obtain ⟨hin, _⟩ := Array.getElem?_eq_some_iff.1 (hcell i hi2)
            refine ⟨.int .i64 (full.getD i 0), ?_, rfl, .int _ _⟩
            have hi' : i < full.toArray.size := by simpa using hi
            simp only [Nat.mul_one, Nat.add_zero, putCells, Array.getElem?_mapIdx, Array.getElem?_eq_getElem hin, Option.map_some]
            rw [if_pos ⟨by omega, by omega⟩]
            simp [List.getD_eq_getElem?_getD, hi]⟩
          refine ⟨ρ, RO, ext, H1, _, rfl, ?_⟩
          have q := sl_less hv' hcl
          have q2 : VRel ρ RO w (.sl 0 0 (Lib.compact l).length (List.length (α := Int) full)) (.slice (some ⟨L.blk, L.base, none⟩) (Lib.compact l).length c) := by
            rw [hfull]
            exact q
          exact q2.mono ext
    · cases hd
  · cases e
end Go.Proofs.YtllaajhdpfighaaDoor

end
section
set_option linter.unusedVariables false
open Go Go.Eng Go.Proofs
namespace Go.Proofs.YtllaajhdpfighaaDoor
set_option maxHeartbeats 0
set_option maxRecDepth 100000
noncomputable section
def plan : Plan := fun t => match t with
  | _ => none
def planR : Plan := fun t => match t with
  | _ => none
def Dl0 (k : Nat) : Delta := noΔ
def Lm0 (k : Nat) : FuncId → Nat → Option LamF := noΛ
theorem Dl0_ok (k : Nat) : DeltaOk Tryd.prog (Dl0 k) := noΔ_ok
theorem Lm0_ok (k : Nat) : LamsOk Tryd.prog (Lm0 k) := noΛ_ok
def Dl1 (k : Nat) : Delta := dCons 32 (callAt plan [.own 3] (gSort)) (Dl0 k)
def Lm1 (k : Nat) : FuncId → Nat → Option LamF := Lm0 k
theorem Dl1_ok (k : Nat) : DeltaOk Tryd.prog (Dl1 k) := dCons_ok (Dl0_ok k) (g32_ok k)
theorem Lm1_ok (k : Nat) : LamsOk Tryd.prog (Lm1 k) := Lm0_ok k
def Dl2 (k : Nat) : Delta := dCons 33 (callAt plan [.own 3] (gComp)) (Dl1 k)
def Lm2 (k : Nat) : FuncId → Nat → Option LamF := Lm1 k
theorem Dl2_ok (k : Nat) : DeltaOk Tryd.prog (Dl2 k) := dCons_ok (Dl1_ok k) (gComp_ok)
theorem Lm2_ok (k : Nat) : LamsOk Tryd.prog (Lm2 k) := Lm1_ok k
def Dl3 (k : Nat) : Delta := dCons 30 (callAt plan [.any, .any] (gCut)) (Dl2 k)
def Lm3 (k : Nat) : FuncId → Nat → Option LamF := Lm2 k
theorem Dl3_ok (k : Nat) : DeltaOk Tryd.prog (Dl3 k) := dCons_ok (Dl2_ok k) (gCut_ok)
theorem Lm3_ok (k : Nat) : LamsOk Tryd.prog (Lm3 k) := Lm2_ok k
def Dl4 (k : Nat) : Delta := dCons 31 (callAt plan [.any] (gAtoi)) (Dl3 k)
def Lm4 (k : Nat) : FuncId → Nat → Option LamF := Lm3 k
theorem Dl4_ok (k : Nat) : DeltaOk Tryd.prog (Dl4 k) := dCons_ok (Dl3_ok k) (gAtoi_ok)
theorem Lm4_ok (k : Nat) : LamsOk Tryd.prog (Lm4 k) := Lm3_ok k
def Dl5 (k : Nat) : Delta := dCons 34 (callAt plan [.any] (gItoa)) (Dl4 k)
def Lm5 (k : Nat) : FuncId → Nat → Option LamF := Lm4 k
theorem Dl5_ok (k : Nat) : DeltaOk Tryd.prog (Dl5 k) := dCons_ok (Dl4_ok k) (gItoa_ok)
theorem Lm5_ok (k : Nat) : LamsOk Tryd.prog (Lm5 k) := Lm4_ok k
abbrev cf5 (k : Nat) : CallF := evF Tryd.prog (Dl5 k) (Lm5 k) 200 12
theorem cf5_ok (k : Nat) : CfOk Tryd.prog (cf5 k) := evF_ok noNum mixed (Dl5_ok k) (Lm5_ok k) 12
abbrev P26 := GSpot
def A26 (p : P26) : List AV := [.agg [.int .i64 p.bed, .int .i64 p.channel]]
def d26 (a : List AV) (H : Heap) : Option P26 := match a, H with
  | [.agg [.int .i64 a0, .int .i64 a1]], [] => some ((⟨a0, a1⟩ : GSpot))
  | _, _ => none
theorem d26_ok (a : List AV) (H : Heap) (p : P26) (h : d26 a H = some p) : a = A26 p ∧ H = [] := by
  unfold d26 at h
  split at h
  · skip
    cases h; exact ⟨rfl, rfl⟩
  · cases h
abbrev R26 := Bool
def o26 (r : R26) : AEnd := .ret (.bool r)
def u26 (r : R26) : Heap := []
def n26 (_ : R26) : Nat := 0
def r26 (o : AEnd) (u : Heap) (n : Nat) : Option R26 := match o, u, n with
  | .ret (.bool a0), [], 0 => some (a0)
  | _, _, _ => none
theorem r26_ok (p : P26) (o : AEnd) (u : Heap) (n : Nat) (r : R26) (h : r26 o u n = some r) : o = o26 r ∧ u = u26 r ∧ n = n26 r := by
  unfold r26 at h
  split at h
  · skip
    cases h; exact ⟨rfl, rfl, rfl⟩
  · cases h
def f26 (k : Nat) (x0 : GSpot) : Option R26 :=
  br (decide (GSpot.bed x0 ≥ (1 : Int)))
   (br (decide (GSpot.bed x0 ≤ (99 : Int)))
    (br (decide (GSpot.channel x0 ≥ (0 : Int)))
     (some (decide (GSpot.channel x0 < (8 : Int))))
     (some false))
    (some false))
   (some false)
theorem f26_run (k : Nat) (x0 : GSpot) : cf5 k R26 26 (A26 (x0)) [] 0 (endR planR (.any) [] 0 r26) = f26 k x0 := by kernel_rfl
def g26 (k : Nat) : CallS := entT d26 (fun p => f26 k p) (elAll _) (fun _ => o26) (fun _ => u26) (fun _ => n26)
theorem g26_ok (k : Nat) : CallSOk Tryd.prog 26 (g26 k) := entry_ok (Hp := fun _ => []) (oR := fun _ => o26) (uR := fun _ => u26) (nR := fun _ => n26) (cf5_ok k) d26_ok r26_ok (hel := elAll_ok) (fun p => f26_run k p)
def Dl6 (k : Nat) : Delta := dCons 26 (callAt plan [.any] (g26 k)) (Dl5 k)
def Lm6 (k : Nat) : FuncId → Nat → Option LamF := Lm5 k
theorem Dl6_ok (k : Nat) : DeltaOk Tryd.prog (Dl6 k) := dCons_ok (Dl5_ok k) (g26_ok k)
theorem Lm6_ok (k : Nat) : LamsOk Tryd.prog (Lm6 k) := Lm5_ok k
abbrev cf6 (k : Nat) : CallF := evF Tryd.prog (Dl6 k) (Lm6 k) 200 12
theorem cf6_ok (k : Nat) : CfOk Tryd.prog (cf6 k) := evF_ok noNum mixed (Dl6_ok k) (Lm6_ok k) 12
abbrev P27 := GSpot
def A27 (p : P27) : List AV := [.agg [.int .i64 p.bed, .int .i64 p.channel]]
def d27 (a : List AV) (H : Heap) : Option P27 := match a, H with
  | [.agg [.int .i64 a0, .int .i64 a1]], [] => some ((⟨a0, a1⟩ : GSpot))
  | _, _ => none
theorem d27_ok (a : List AV) (H : Heap) (p : P27) (h : d27 a H = some p) : a = A27 p ∧ H = [] := by
  unfold d27 at h
  split at h
  · skip
    cases h; exact ⟨rfl, rfl⟩
  · cases h
abbrev R27 := Int
def o27 (r : R27) : AEnd := .ret (.int .i64 r)
def u27 (r : R27) : Heap := []
def n27 (_ : R27) : Nat := 0
def r27 (o : AEnd) (u : Heap) (n : Nat) : Option R27 := match o, u, n with
  | .ret (.int .i64 a0), [], 0 => some (a0)
  | _, _, _ => none
theorem r27_ok (p : P27) (o : AEnd) (u : Heap) (n : Nat) (r : R27) (h : r27 o u n = some r) : o = o27 r ∧ u = u27 r ∧ n = n27 r := by
  unfold r27 at h
  split at h
  · skip
    cases h; exact ⟨rfl, rfl, rfl⟩
  · cases h
def f27 (k : Nat) (x0 : GSpot) : Option R27 :=
  some (IntKind.wrap IntKind.i64 (IntKind.wrap IntKind.i64 ((8 : Int) * IntKind.wrap IntKind.i64 (GSpot.bed x0 - (1 : Int))) + GSpot.channel x0))
theorem f27_run (k : Nat) (x0 : GSpot) : cf6 k R27 27 (A27 (x0)) [] 0 (endR planR (.any) [] 0 r27) = f27 k x0 := by kernel_rfl
def g27 (k : Nat) : CallS := entT d27 (fun p => f27 k p) (elAll _) (fun _ => o27) (fun _ => u27) (fun _ => n27)
theorem g27_ok (k : Nat) : CallSOk Tryd.prog 27 (g27 k) := entry_ok (Hp := fun _ => []) (oR := fun _ => o27) (uR := fun _ => u27) (nR := fun _ => n27) (cf6_ok k) d27_ok r27_ok (hel := elAll_ok) (fun p => f27_run k p)
def Dl7 (k : Nat) : Delta := dCons 27 (callAt plan [.any] (g27 k)) (Dl6 k)
def Lm7 (k : Nat) : FuncId → Nat → Option LamF := Lm6 k
theorem Dl7_ok (k : Nat) : DeltaOk Tryd.prog (Dl7 k) := dCons_ok (Dl6_ok k) (g27_ok k)
theorem Lm7_ok (k : Nat) : LamsOk Tryd.prog (Lm7 k) := Lm6_ok k
abbrev cf7 (k : Nat) : CallF := evF Tryd.prog (Dl7 k) (Lm7 k) 200 12
theorem cf7_ok (k : Nat) : CfOk Tryd.prog (cf7 k) := evF_ok noNum mixed (Dl7_ok k) (Lm7_ok k) 12
abbrev P9 := GSpot
def A9 (p : P9) : List AV := [.agg [.int .i64 p.bed, .int .i64 p.channel]]
def d9 (a : List AV) (H : Heap) : Option P9 := match a, H with
  | [.agg [.int .i64 a0, .int .i64 a1]], [] => some ((⟨a0, a1⟩ : GSpot))
  | _, _ => none
theorem d9_ok (a : List AV) (H : Heap) (p : P9) (h : d9 a H = some p) : a = A9 p ∧ H = [] := by
  unfold d9 at h
  split at h
  · skip
    cases h; exact ⟨rfl, rfl⟩
  · cases h
abbrev R9 := Int × Int
def o9 (r : R9) : AEnd := .ret (.tup [.int .i64 r.1, .int .i64 r.2])
def u9 (r : R9) : Heap := []
def n9 (_ : R9) : Nat := 0
def r9 (o : AEnd) (u : Heap) (n : Nat) : Option R9 := match o, u, n with
  | .ret (.tup [.int .i64 a0, .int .i64 a1]), [], 0 => some (a0, a1)
  | _, _, _ => none
theorem r9_ok (p : P9) (o : AEnd) (u : Heap) (n : Nat) (r : R9) (h : r9 o u n = some r) : o = o9 r ∧ u = u9 r ∧ n = n9 r := by
  unfold r9 at h
  split at h
  · skip
    cases h; exact ⟨rfl, rfl, rfl⟩
  · cases h
def f9 (k : Nat) (x0 : GSpot) : Option R9 :=
  bindO (f26 k x0) fun r3000 =>
   br r3000
    (bindO (f27 k x0) fun r2999 =>
     some (r2999, (0 : Int)))
    (some ((0 : Int), (1 : Int)))
theorem f9_run (k : Nat) (x0 : GSpot) : cf7 k R9 9 (A9 (x0)) [] 0 (endR planR (.any) [] 0 r9) = f9 k x0 := by kernel_rfl
def g9 (k : Nat) : CallS := entT d9 (fun p => f9 k p) (elAll _) (fun _ => o9) (fun _ => u9) (fun _ => n9)
theorem g9_ok (k : Nat) : CallSOk Tryd.prog 9 (g9 k) := entry_ok (Hp := fun _ => []) (oR := fun _ => o9) (uR := fun _ => u9) (nR := fun _ => n9) (cf7_ok k) d9_ok r9_ok (hel := elAll_ok) (fun p => f9_run k p)
def Dl8 (k : Nat) : Delta := dCons 9 (callAt plan [.any] (g9 k)) (Dl7 k)
def Lm8 (k : Nat) : FuncId → Nat → Option LamF := Lm7 k
theorem Dl8_ok (k : Nat) : DeltaOk Tryd.prog (Dl8 k) := dCons_ok (Dl7_ok k) (g9_ok k)
theorem Lm8_ok (k : Nat) : LamsOk Tryd.prog (Lm8 k) := Lm7_ok k
abbrev cf8 (k : Nat) : CallF := evF Tryd.prog (Dl8 k) (Lm8 k) 200 12
theorem cf8_ok (k : Nat) : CfOk Tryd.prog (cf8 k) := evF_ok noNum mixed (Dl8_ok k) (Lm8_ok k) 12
abbrev P11 := Int
def A11 (p : P11) : List AV := [.int .i64 p]
def d11 (a : List AV) (H : Heap) : Option P11 := match a, H with
  | [.int .i64 a0], [] => some (a0)
  | _, _ => none
theorem d11_ok (a : List AV) (H : Heap) (p : P11) (h : d11 a H = some p) : a = A11 p ∧ H = [] := by
  unfold d11 at h
  split at h
  · skip
    cases h; exact ⟨rfl, rfl⟩
  · cases h
abbrev R11 := GSpot × Int
def o11 (r : R11) : AEnd := .ret (.tup [.agg [.int .i64 r.1.bed, .int .i64 r.1.channel], .int .i64 r.2])
def u11 (r : R11) : Heap := []
def n11 (_ : R11) : Nat := 0
def r11 (o : AEnd) (u : Heap) (n : Nat) : Option R11 := match o, u, n with
  | .ret (.tup [.agg [.int .i64 a0, .int .i64 a1], .int .i64 a2]), [], 0 => some ((⟨a0, a1⟩ : GSpot), a2)
  | _, _, _ => none
theorem r11_ok (p : P11) (o : AEnd) (u : Heap) (n : Nat) (r : R11) (h : r11 o u n = some r) : o = o11 r ∧ u = u11 r ∧ n = n11 r := by
  unfold r11 at h
  split at h
  · skip
    cases h; exact ⟨rfl, rfl, rfl⟩
  · cases h
def f11 (k : Nat) (x0 : Int) : Option R11 :=
  br (decide (x0 < (0 : Int)))
   (some (GSpot.mk (0 : Int) (0 : Int), (1 : Int)))
   (br (decide (x0 ≥ (792 : Int)))
    (some (GSpot.mk (0 : Int) (0 : Int), (1 : Int)))
    (some (GSpot.mk (IntKind.wrap IntKind.i64 (IntKind.wrap IntKind.i64 (Int.tdiv x0 (8 : Int)) + (1 : Int))) (Int.tmod x0 (8 : Int)), (0 : Int))))
theorem f11_run (k : Nat) (x0 : Int) : cf8 k R11 11 (A11 (x0)) [] 0 (endR planR (.any) [] 0 r11) = f11 k x0 := by kernel_rfl
def g11 (k : Nat) : CallS := entT d11 (fun p => f11 k p) (elAll _) (fun _ => o11) (fun _ => u11) (fun _ => n11)
theorem g11_ok (k : Nat) : CallSOk Tryd.prog 11 (g11 k) := entry_ok (Hp := fun _ => []) (oR := fun _ => o11) (uR := fun _ => u11) (nR := fun _ => n11) (cf8_ok k) d11_ok r11_ok (hel := elAll_ok) (fun p => f11_run k p)
def Dl9 (k : Nat) : Delta := dCons 11 (callAt plan [.any] (g11 k)) (Dl8 k)
def Lm9 (k : Nat) : FuncId → Nat → Option LamF := Lm8 k
theorem Dl9_ok (k : Nat) : DeltaOk Tryd.prog (Dl9 k) := dCons_ok (Dl8_ok k) (g11_ok k)
theorem Lm9_ok (k : Nat) : LamsOk Tryd.prog (Lm9 k) := Lm8_ok k
abbrev cf9 (k : Nat) : CallF := evF Tryd.prog (Dl9 k) (Lm9 k) 200 12
theorem cf9_ok (k : Nat) : CfOk Tryd.prog (cf9 k) := evF_ok noNum mixed (Dl9_ok k) (Lm9_ok k) 12
abbrev P28 := GSpot
def A28 (p : P28) : List AV := [.agg [.int .i64 p.bed, .int .i64 p.channel]]
def d28 (a : List AV) (H : Heap) : Option P28 := match a, H with
  | [.agg [.int .i64 a0, .int .i64 a1]], [] => some ((⟨a0, a1⟩ : GSpot))
  | _, _ => none
theorem d28_ok (a : List AV) (H : Heap) (p : P28) (h : d28 a H = some p) : a = A28 p ∧ H = [] := by
  unfold d28 at h
  split at h
  · skip
    cases h; exact ⟨rfl, rfl⟩
  · cases h
abbrev R28 := ByteArray
def o28 (r : R28) : AEnd := .ret (.str r)
def u28 (r : R28) : Heap := []
def n28 (_ : R28) : Nat := 0
def r28 (o : AEnd) (u : Heap) (n : Nat) : Option R28 := match o, u, n with
  | .ret (.str a0), [], 0 => some (a0)
  | _, _, _ => none
theorem r28_ok (p : P28) (o : AEnd) (u : Heap) (n : Nat) (r : R28) (h : r28 o u n = some r) : o = o28 r ∧ u = u28 r ∧ n = n28 r := by
  unfold r28 at h
  split at h
  · skip
    cases h; exact ⟨rfl, rfl, rfl⟩
  · cases h
def f28 (k : Nat) (x0 : GSpot) : Option R28 :=
  bindO (fItoa (GSpot.bed x0)) fun r3000 =>
   br (decide (ByteArray.size r3000 + (1 : Nat) ≤ (9223372036854775807 : Nat)))
    (bindO (fItoa (GSpot.channel x0)) fun r2999 =>
     br (decide (ByteArray.size (r3000 ++ ByteArray.mk #[(47 : UInt8)]) + ByteArray.size r2999 ≤ (9223372036854775807 : Nat)))
      (some (r3000 ++ ByteArray.mk #[(47 : UInt8)] ++ r2999))
      (none))
    (none)
theorem f28_run (k : Nat) (x0 : GSpot) : cf9 k R28 28 (A28 (x0)) [] 0 (endR planR (.any) [] 0 r28) = f28 k x0 := by kernel_rfl
def g28 (k : Nat) : CallS := entT d28 (fun p => f28 k p) (elAll _) (fun _ => o28) (fun _ => u28) (fun _ => n28)
theorem g28_ok (k : Nat) : CallSOk Tryd.prog 28 (g28 k) := entry_ok (Hp := fun _ => []) (oR := fun _ => o28) (uR := fun _ => u28) (nR := fun _ => n28) (cf9_ok k) d28_ok r28_ok (hel := elAll_ok) (fun p => f28_run k p)
def Dl10 (k : Nat) : Delta := dCons 28 (callAt plan [.any] (g28 k)) (Dl9 k)
def Lm10 (k : Nat) : FuncId → Nat → Option LamF := Lm9 k
theorem Dl10_ok (k : Nat) : DeltaOk Tryd.prog (Dl10 k) := dCons_ok (Dl9_ok k) (g28_ok k)
theorem Lm10_ok (k : Nat) : LamsOk Tryd.prog (Lm10 k) := Lm9_ok k
abbrev cf10 (k : Nat) : CallF := evF Tryd.prog (Dl10 k) (Lm10 k) 200 12
theorem cf10_ok (k : Nat) : CfOk Tryd.prog (cf10 k) := evF_ok noNum mixed (Dl10_ok k) (Lm10_ok k) 12
abbrev P13 := GSpot
def A13 (p : P13) : List AV := [.agg [.int .i64 p.bed, .int .i64 p.channel]]
def d13 (a : List AV) (H : Heap) : Option P13 := match a, H with
  | [.agg [.int .i64 a0, .int .i64 a1]], [] => some ((⟨a0, a1⟩ : GSpot))
  | _, _ => none
theorem d13_ok (a : List AV) (H : Heap) (p : P13) (h : d13 a H = some p) : a = A13 p ∧ H = [] := by
  unfold d13 at h
  split at h
  · skip
    cases h; exact ⟨rfl, rfl⟩
  · cases h
abbrev R13 := ByteArray × Int
def o13 (r : R13) : AEnd := .ret (.tup [.str r.1, .int .i64 r.2])
def u13 (r : R13) : Heap := []
def n13 (_ : R13) : Nat := 0
def r13 (o : AEnd) (u : Heap) (n : Nat) : Option R13 := match o, u, n with
  | .ret (.tup [.str a0, .int .i64 a1]), [], 0 => some (a0, a1)
  | _, _, _ => none
theorem r13_ok (p : P13) (o : AEnd) (u : Heap) (n : Nat) (r : R13) (h : r13 o u n = some r) : o = o13 r ∧ u = u13 r ∧ n = n13 r := by
  unfold r13 at h
  split at h
  · skip
    cases h; exact ⟨rfl, rfl, rfl⟩
  · cases h
def f13 (k : Nat) (x0 : GSpot) : Option R13 :=
  bindO (f26 k x0) fun r3000 =>
   br r3000
    (bindO (f28 k x0) fun r2999 =>
     some (r2999, (0 : Int)))
    (some (ByteArray.mk #[], (1 : Int)))
theorem f13_run (k : Nat) (x0 : GSpot) : cf10 k R13 13 (A13 (x0)) [] 0 (endR planR (.any) [] 0 r13) = f13 k x0 := by kernel_rfl
def g13 (k : Nat) : CallS := entT d13 (fun p => f13 k p) (elAll _) (fun _ => o13) (fun _ => u13) (fun _ => n13)
theorem g13_ok (k : Nat) : CallSOk Tryd.prog 13 (g13 k) := entry_ok (Hp := fun _ => []) (oR := fun _ => o13) (uR := fun _ => u13) (nR := fun _ => n13) (cf10_ok k) d13_ok r13_ok (hel := elAll_ok) (fun p => f13_run k p)
def Dl11 (k : Nat) : Delta := dCons 13 (callAt plan [.any] (g13 k)) (Dl10 k)
def Lm11 (k : Nat) : FuncId → Nat → Option LamF := Lm10 k
theorem Dl11_ok (k : Nat) : DeltaOk Tryd.prog (Dl11 k) := dCons_ok (Dl10_ok k) (g13_ok k)
theorem Lm11_ok (k : Nat) : LamsOk Tryd.prog (Lm11 k) := Lm10_ok k
abbrev cf11 (k : Nat) : CallF := evF Tryd.prog (Dl11 k) (Lm11 k) 200 12
theorem cf11_ok (k : Nat) : CfOk Tryd.prog (cf11 k) := evF_ok noNum mixed (Dl11_ok k) (Lm11_ok k) 12
abbrev P15 := ByteArray
def A15 (p : P15) : List AV := [.str p]
def d15 (a : List AV) (H : Heap) : Option P15 := match a, H with
  | [.str a0], [] => some (a0)
  | _, _ => none
theorem d15_ok (a : List AV) (H : Heap) (p : P15) (h : d15 a H = some p) : a = A15 p ∧ H = [] := by
  unfold d15 at h
  split at h
  · skip
    cases h; exact ⟨rfl, rfl⟩
  · cases h
abbrev R15 := GSpot × Int
def o15 (r : R15) : AEnd := .ret (.tup [.agg [.int .i64 r.1.bed, .int .i64 r.1.channel], .int .i64 r.2])
def u15 (r : R15) : Heap := []
def n15 (_ : R15) : Nat := 0
def r15 (o : AEnd) (u : Heap) (n : Nat) : Option R15 := match o, u, n with
  | .ret (.tup [.agg [.int .i64 a0, .int .i64 a1], .int .i64 a2]), [], 0 => some ((⟨a0, a1⟩ : GSpot), a2)
  | _, _, _ => none
theorem r15_ok (p : P15) (o : AEnd) (u : Heap) (n : Nat) (r : R15) (h : r15 o u n = some r) : o = o15 r ∧ u = u15 r ∧ n = n15 r := by
  unfold r15 at h
  split at h
  · skip
    cases h; exact ⟨rfl, rfl, rfl⟩
  · cases h
def f15 (k : Nat) (x0 : ByteArray) : Option R15 :=
  bindO (fCut (x0, ByteArray.mk #[(47 : UInt8)])) fun r3000 =>
   bindO (fAtoi (Prod.fst r3000)) fun r2999 =>
    match r2999 with
    | .inl c2998 => bindO (fAtoi (Prod.fst (Prod.snd r3000))) fun r2997 =>
      match r2997 with
      | .inl c2996 => bindO (f26 k (GSpot.mk c2998 c2996)) fun r2995 =>
        br (!r2995)
         (some (GSpot.mk (0 : Int) (0 : Int), (20 : Int)))
         (bindO (f28 k (GSpot.mk c2998 c2996)) fun r2993 =>
          br (!ByteArray.toList r2993 == ByteArray.toList x0)
           (some (GSpot.mk (0 : Int) (0 : Int), (20 : Int)))
           (some (GSpot.mk c2998 c2996, (0 : Int))))
      | .inr c2996 => some (GSpot.mk (0 : Int) (0 : Int), (20 : Int))
    | .inr c2998 => bindO (fAtoi (Prod.fst (Prod.snd r3000))) fun r2989 =>
      match r2989 with
      | .inl c2988 => some (GSpot.mk (0 : Int) (0 : Int), (20 : Int))
      | .inr c2988 => some (GSpot.mk (0 : Int) (0 : Int), (20 : Int))
theorem f15_run (k : Nat) (x0 : ByteArray) : cf11 k R15 15 (A15 (x0)) [] 0 (endR planR (.any) [] 0 r15) = f15 k x0 := by kernel_rfl
def g15 (k : Nat) : CallS := entT d15 (fun p => f15 k p) (elAll _) (fun _ => o15) (fun _ => u15) (fun _ => n15)
theorem g15_ok (k : Nat) : CallSOk Tryd.prog 15 (g15 k) := entry_ok (Hp := fun _ => []) (oR := fun _ => o15) (uR := fun _ => u15) (nR := fun _ => n15) (cf11_ok k) d15_ok r15_ok (hel := elAll_ok) (fun p => f15_run k p)
def Dl12 (k : Nat) : Delta := dCons 15 (callAt plan [.any] (g15 k)) (Dl11 k)
def Lm12 (k : Nat) : FuncId → Nat → Option LamF := Lm11 k
theorem Dl12_ok (k : Nat) : DeltaOk Tryd.prog (Dl12 k) := dCons_ok (Dl11_ok k) (g15_ok k)
theorem Lm12_ok (k : Nat) : LamsOk Tryd.prog (Lm12 k) := Lm11_ok k
abbrev cf12 (k : Nat) : CallF := evF Tryd.prog (Dl12 k) (Lm12 k) 200 12
theorem cf12_ok (k : Nat) : CfOk Tryd.prog (cf12 k) := evF_ok noNum mixed (Dl12_ok k) (Lm12_ok k) 12
abbrev P18 := GSpot
def A18 (p : P18) : List AV := [.agg [.int .i64 p.bed, .int .i64 p.channel]]
def d18 (a : List AV) (H : Heap) : Option P18 := match a, H with
  | [.agg [.int .i64 a0, .int .i64 a1]], [] => some ((⟨a0, a1⟩ : GSpot))
  | _, _ => none
theorem d18_ok (a : List AV) (H : Heap) (p : P18) (h : d18 a H = some p) : a = A18 p ∧ H = [] := by
  unfold d18 at h
  split at h
  · skip
    cases h; exact ⟨rfl, rfl⟩
  · cases h
abbrev R18 := Bool
def o18 (r : R18) : AEnd := .ret (.bool r)
def u18 (r : R18) : Heap := []
def n18 (_ : R18) : Nat := 0
def r18 (o : AEnd) (u : Heap) (n : Nat) : Option R18 := match o, u, n with
  | .ret (.bool a0), [], 0 => some (a0)
  | _, _, _ => none
theorem r18_ok (p : P18) (o : AEnd) (u : Heap) (n : Nat) (r : R18) (h : r18 o u n = some r) : o = o18 r ∧ u = u18 r ∧ n = n18 r := by
  unfold r18 at h
  split at h
  · skip
    cases h; exact ⟨rfl, rfl, rfl⟩
  · cases h
def f18 (k : Nat) (x0 : GSpot) : Option R18 :=
  bindO (f26 k x0) fun r3000 =>
   some r3000
theorem f18_run (k : Nat) (x0 : GSpot) : cf12 k R18 18 (A18 (x0)) [] 0 (endR planR (.any) [] 0 r18) = f18 k x0 := by kernel_rfl
def g18 (k : Nat) : CallS := entT d18 (fun p => f18 k p) (elAll _) (fun _ => o18) (fun _ => u18) (fun _ => n18)
theorem g18_ok (k : Nat) : CallSOk Tryd.prog 18 (g18 k) := entry_ok (Hp := fun _ => []) (oR := fun _ => o18) (uR := fun _ => u18) (nR := fun _ => n18) (cf12_ok k) d18_ok r18_ok (hel := elAll_ok) (fun p => f18_run k p)
def Dl13 (k : Nat) : Delta := dCons 18 (callAt plan [.any] (g18 k)) (Dl12 k)
def Lm13 (k : Nat) : FuncId → Nat → Option LamF := Lm12 k
theorem Dl13_ok (k : Nat) : DeltaOk Tryd.prog (Dl13 k) := dCons_ok (Dl12_ok k) (g18_ok k)
theorem Lm13_ok (k : Nat) : LamsOk Tryd.prog (Lm13 k) := Lm12_ok k
abbrev cf13 (k : Nat) : CallF := evF Tryd.prog (Dl13 k) (Lm13 k) 200 12
theorem cf13_ok (k : Nat) : CfOk Tryd.prog (cf13 k) := evF_ok noNum mixed (Dl13_ok k) (Lm13_ok k) 12
abbrev P20 := GSpot × GSpot
def A20 (p : P20) : List AV := [.agg [.int .i64 p.1.bed, .int .i64 p.1.channel], .agg [.int .i64 p.2.bed, .int .i64 p.2.channel]]
def d20 (a : List AV) (H : Heap) : Option P20 := match a, H with
  | [.agg [.int .i64 a0, .int .i64 a1], .agg [.int .i64 a2, .int .i64 a3]], [] => some ((⟨a0, a1⟩ : GSpot), (⟨a2, a3⟩ : GSpot))
  | _, _ => none
theorem d20_ok (a : List AV) (H : Heap) (p : P20) (h : d20 a H = some p) : a = A20 p ∧ H = [] := by
  unfold d20 at h
  split at h
  · skip
    cases h; exact ⟨rfl, rfl⟩
  · cases h
abbrev R20 := Bool
def o20 (r : R20) : AEnd := .ret (.bool r)
def u20 (r : R20) : Heap := []
def n20 (_ : R20) : Nat := 0
def r20 (o : AEnd) (u : Heap) (n : Nat) : Option R20 := match o, u, n with
  | .ret (.bool a0), [], 0 => some (a0)
  | _, _, _ => none
theorem r20_ok (p : P20) (o : AEnd) (u : Heap) (n : Nat) (r : R20) (h : r20 o u n = some r) : o = o20 r ∧ u = u20 r ∧ n = n20 r := by
  unfold r20 at h
  split at h
  · skip
    cases h; exact ⟨rfl, rfl, rfl⟩
  · cases h
def f20 (k : Nat) (x0 : GSpot) (x1 : GSpot) : Option R20 :=
  br (decide (GSpot.bed x0 < GSpot.bed x1))
   (some true)
   (br (GSpot.bed x0 == GSpot.bed x1)
    (some (decide (GSpot.channel x0 < GSpot.channel x1)))
    (some false))
theorem f20_run (k : Nat) (x0 : GSpot) (x1 : GSpot) : cf13 k R20 20 (A20 (x0, x1)) [] 0 (endR planR (.any) [] 0 r20) = f20 k x0 x1 := by kernel_rfl
def g20 (k : Nat) : CallS := entT d20 (fun p => f20 k p.1 p.2) (elAll _) (fun _ => o20) (fun _ => u20) (fun _ => n20)
theorem g20_ok (k : Nat) : CallSOk Tryd.prog 20 (g20 k) := entry_ok (Hp := fun _ => []) (oR := fun _ => o20) (uR := fun _ => u20) (nR := fun _ => n20) (cf13_ok k) d20_ok r20_ok (hel := elAll_ok) (fun p => f20_run k p.1 p.2)
def Dl14 (k : Nat) : Delta := dCons 20 (callAt plan [.any, .any] (g20 k)) (Dl13 k)
def Lm14 (k : Nat) : FuncId → Nat → Option LamF := Lm13 k
theorem Dl14_ok (k : Nat) : DeltaOk Tryd.prog (Dl14 k) := dCons_ok (Dl13_ok k) (g20_ok k)
theorem Lm14_ok (k : Nat) : LamsOk Tryd.prog (Lm14 k) := Lm13_ok k
abbrev cf14 (k : Nat) : CallF := evF Tryd.prog (Dl14 k) (Lm14 k) 200 12
theorem cf14_ok (k : Nat) : CfOk Tryd.prog (cf14 k) := evF_ok noNum mixed (Dl14_ok k) (Lm14_ok k) 12
abbrev P23 := List GSpot
def A23 (p : P23) : List AV := [.dsl 23 p]
def d23 (a : List AV) (H : Heap) : Option P23 := match a, H with
  | [ba0], [] => (match (dslD 23 ba0 : Option (List GSpot)) with | some a0 => some (a0) | none => none)
  | _, _ => none
theorem d23_ok (a : List AV) (H : Heap) (p : P23) (h : d23 a H = some p) : a = A23 p ∧ H = [] := by
  unfold d23 at h
  split at h
  · skip
    split at h
    · rename_i q
      have q := dslD_ok q
      subst q
      cases h; exact ⟨rfl, rfl⟩
    · cases h
  · cases h
abbrev R23 := List Int
def o23 (r : R23) : AEnd := .ret (.dsl 3 r)
def u23 (r : R23) : Heap := []
def n23 (_ : R23) : Nat := 0
def r23 (o : AEnd) (u : Heap) (n : Nat) : Option R23 := match o, u, n with
  | .ret ba0, [], 0 => (match (dslD 3 ba0 : Option (List Int)) with | some a0 => some (a0) | none => none)
  | _, _, _ => none
theorem r23_ok (p : P23) (o : AEnd) (u : Heap) (n : Nat) (r : R23) (h : r23 o u n = some r) : o = o23 r ∧ u = u23 r ∧ n = n23 r := by
  unfold r23 at h
  split at h
  · skip
    split at h
    · rename_i q
      have q := dslD_ok q
      subst q
      cases h; exact ⟨rfl, rfl, rfl⟩
    · cases h
  · cases h
structure S23_0 where
  mk ::
  x6 : List GSpot
  x7 : Int
  x8 : Int
  h0 : List Int
def VS23_0 (s : S23_0) : List AV := [.slf 0, .dsl 23 s.x6, .int .i64 s.x7, .int .i64 s.x8]
def HS23_0 (s : S23_0) : Heap := [(0, some (.row 3 s.h0))]
def dS23_0 (vs : List AV) (H : Heap) : Option S23_0 := match vs, H with
  | [.slf 0, bx6, .int .i64 x7, .int .i64 x8], [(0, bh0)] => (match (dslD 23 bx6 : Option (List GSpot)) with | some x6 => (match (rowD 3 bh0 : Option (List Int)) with | some h0 => some (⟨x6, x7, x8, h0⟩ : S23_0) | none => none) | none => none)
  | _, _ => none
theorem dS23_0_ok (vs : List AV) (H : Heap) (s : S23_0) (h : dS23_0 vs H = some s) : vs = VS23_0 s ∧ H = HS23_0 s := by
  unfold dS23_0 at h
  split at h
  · skip
    split at h
    · rename_i q
      have q := dslD_ok q
      subst q
      split at h
      · rename_i q
        have q := rowD_ok q
        subst q
        cases h; exact ⟨rfl, rfl⟩
      · cases h
    · cases h
  · cases h
def tS23_0 : AExit → List (Nat × Kd) := fun x => match x with
  | .normal => [(3, .own 3), (6, .rd 23), (7, .any), (8, .any)]
  | .exit i => (match i with | 0 => [(3, .own 3)] | _ => [])
  | .ret => [(2, .rd 3)]
  | _ => []
structure E23_0 where
  mk ::
  h0 : List Int
def VE23_0 (s : E23_0) : List AV := [.slf 0]
def HE23_0 (s : E23_0) : Heap := [(0, some (.row 3 s.h0))]
def dE23_0 (x : AExit) (vs : List AV) (H : Heap) : Option E23_0 := match x, vs, H with
  | .exit 0, [.slf 0], [(0, bh0)] => (match (rowD 3 bh0 : Option (List Int)) with | some h0 => some (⟨h0⟩ : E23_0) | none => none)
  | _, _, _ => none
theorem dE23_0_ok (x : AExit) (vs : List AV) (H : Heap) (s : E23_0) (h : dE23_0 x vs H = some s) : x = .exit 0 ∧ vs = VE23_0 s ∧ H = HE23_0 s := by
  unfold dE23_0 at h
  split at h
  · skip
    split at h
    · rename_i q
      have q := rowD_ok q
      subst q
      cases h; exact ⟨rfl, rfl, rfl⟩
    · cases h
  · cases h
def xE23_0 (_ : E23_0) : AExit := .exit 0
def pS23_0 (k : Nat) (s : S23_0) : Option (S23_0 ⊕ E23_0) :=
  br (decide (S23_0.x8 s < S23_0.x7 s))
   (br (decide ((0 : Int) ≤ S23_0.x8 s ∧ S23_0.x8 s < (↑(List.length (S23_0.x6 s)) : Int)))
    (bindO (f18 k (List.getD (S23_0.x6 s) (Int.toNat (S23_0.x8 s)) default)) fun r1500 =>
     br r1500
      (br (true && decide ((List.length (S23_0.h0 s) + List.length [GSpot.bed (List.getD (S23_0.x6 s) (Int.toNat (S23_0.x8 s)) default)]) * (8 : Nat) ≤ (140737488355328 : Nat)))
       (some (Sum.inl (S23_0.mk (S23_0.x6 s) (S23_0.x7 s) (IntKind.wrap IntKind.i64 (S23_0.x8 s + (1 : Int))) (S23_0.h0 s ++ [GSpot.bed (List.getD (S23_0.x6 s) (Int.toNat (S23_0.x8 s)) default)]))))
       (none))
      (some (Sum.inl (S23_0.mk (S23_0.x6 s) (S23_0.x7 s) (IntKind.wrap IntKind.i64 (S23_0.x8 s + (1 : Int))) (S23_0.h0 s)))))
    (none))
   (some (Sum.inr (E23_0.mk (S23_0.h0 s))))
theorem pS23_0_run (k : Nat) (s : S23_0) : evC (S23_0 ⊕ E23_0) Tryd.prog (ntmpsAt Tryd.prog 23) (cf14 k) ((Lm14 k) 23) 200 (loopAt Tryd.prog 23 0) (zipE [(3, .own 3), (6, .rd 23), (7, .any), (8, .any)] (VS23_0 s)) (HS23_0 s) (List.length (HS23_0 s)) (cutS plan 0 tS23_0 (rndT dS23_0 dE23_0)) = pS23_0 k s := by kernel_rfl
def l23_0 (k : Nat) (s : S23_0) : Option E23_0 := iterT (pS23_0 k) k s
def m23_0 (k : Nat) : LamS := lamT 0 dS23_0 (l23_0 k) (elAll _) tS23_0 xE23_0 VE23_0 HE23_0
theorem loop23_0 : isLoopAt Tryd.prog 23 0 = true := by kernel_rfl
theorem m23_0_ok (k : Nat) : LamSOk Tryd.prog (ntmpsAt Tryd.prog 23) 0 (.block 0 (.loop (loopAt Tryd.prog 23 0))) [(3, .own 3), (6, .rd 23), (7, .any), (8, .any)] (m23_0 k) := lamT_ok (plan := plan) (kb := 0) (body_run noNum mixed (cf14_ok k) (Lm14_ok k) loop23_0) rfl dS23_0_ok dE23_0_ok (hel := elAll_ok) (pS23_0_run k) k
def Dl15 (k : Nat) : Delta := Dl14 k
def Lm15 (k : Nat) : FuncId → Nat → Option LamF := lCons 23 0 (lamBy plan [9, 10, 11, 5, 12, 13, 14, 15, 16, 17, 18, 3, 19, 8] [(3, .own 3), (6, .rd 23), (7, .any), (8, .any)] 0 (m23_0 k)) (Lm14 k)
theorem Dl15_ok (k : Nat) : DeltaOk Tryd.prog (Dl15 k) := Dl14_ok k
theorem Lm15_ok (k : Nat) : LamsOk Tryd.prog (Lm15 k) := lCons_ok (Lm14_ok k) loop23_0 (lamBy_ok (m23_0_ok k) (by kernel_rfl))
abbrev cf15 (k : Nat) : CallF := evF Tryd.prog (Dl15 k) (Lm15 k) 200 12
theorem cf15_ok (k : Nat) : CfOk Tryd.prog (cf15 k) := evF_ok noNum mixed (Dl15_ok k) (Lm15_ok k) 12
def f23 (k : Nat) (x0 : List GSpot) : Option R23 :=
  bindO (l23_0 k (S23_0.mk x0 (↑(List.length x0) : Int) (0 : Int) [])) fun r3000 =>
   bindO (fSort (E23_0.h0 r3000)) fun r2999 =>
    bindO (fComp r2999) fun r2998 =>
     br (decide ((0 : Nat) + Prod.snd r2998 ≤ List.length (Prod.fst r2998)) && true)
      (some (List.take (Prod.snd r2998) (List.drop (0 : Nat) (Prod.fst r2998))))
      (none)
theorem f23_run (k : Nat) (x0 : List GSpot) : cf15 k R23 23 (A23 (x0)) [] 0 (endR planR (.ro 3) [] 0 r23) = f23 k x0 := by kernel_rfl
def g23 (k : Nat) : CallS := entT d23 (fun p => f23 k p) (elAll _) (fun _ => o23) (fun _ => u23) (fun _ => n23)
theorem g23_ok (k : Nat) : CallSOk Tryd.prog 23 (g23 k) := entry_ok (Hp := fun _ => []) (oR := fun _ => o23) (uR := fun _ => u23) (nR := fun _ => n23) (cf15_ok k) d23_ok r23_ok (hel := elAll_ok) (fun p => f23_run k p)
def Dl16 (k : Nat) : Delta := dCons 23 (callAt plan [.rd 23] (g23 k)) (Dl15 k)
def Lm16 (k : Nat) : FuncId → Nat → Option LamF := Lm15 k
theorem Dl16_ok (k : Nat) : DeltaOk Tryd.prog (Dl16 k) := dCons_ok (Dl15_ok k) (g23_ok k)
theorem Lm16_ok (k : Nat) : LamsOk Tryd.prog (Lm16 k) := Lm15_ok k
abbrev cf16 (k : Nat) : CallF := evF Tryd.prog (Dl16 k) (Lm16 k) 200 12
theorem cf16_ok (k : Nat) : CfOk Tryd.prog (cf16 k) := evF_ok noNum mixed (Dl16_ok k) (Lm16_ok k) 12
abbrev P22 := List Int × List Int
def A22 (p : P22) : List AV := [.dsl 3 p.1, .dsl 3 p.2]
def d22 (a : List AV) (H : Heap) : Option P22 := match a, H with
  | [ba0, ba1], [] => (match (dslD 3 ba0 : Option (List Int)) with | some a0 => (match (dslD 3 ba1 : Option (List Int)) with | some a1 => some (a0, a1) | none => none) | none => none)
  | _, _ => none
theorem d22_ok (a : List AV) (H : Heap) (p : P22) (h : d22 a H = some p) : a = A22 p ∧ H = [] := by
  unfold d22 at h
  split at h
  · skip
    split at h
    · rename_i q
      have q := dslD_ok q
      subst q
      split at h
      · rename_i q
        have q := dslD_ok q
        subst q
        cases h; exact ⟨rfl, rfl⟩
      · cases h
    · cases h
  · cases h
abbrev R22 := Bool
def o22 (r : R22) : AEnd := .ret (.bool r)
def u22 (r : R22) : Heap := []
def n22 (_ : R22) : Nat := 0
def r22 (o : AEnd) (u : Heap) (n : Nat) : Option R22 := match o, u, n with
  | .ret (.bool a0), [], 0 => some (a0)
  | _, _, _ => none
theorem r22_ok (p : P22) (o : AEnd) (u : Heap) (n : Nat) (r : R22) (h : r22 o u n = some r) : o = o22 r ∧ u = u22 r ∧ n = n22 r := by
  unfold r22 at h
  split at h
  · skip
    cases h; exact ⟨rfl, rfl, rfl⟩
  · cases h
structure S22_0 where
  mk ::
  x0 : List Int
  x1 : List Int
  x5 : Int
def VS22_0 (s : S22_0) : List AV := [.dsl 3 s.x0, .dsl 3 s.x1, .int .i64 s.x5]
def HS22_0 (s : S22_0) : Heap := []
def dS22_0 (vs : List AV) (H : Heap) : Option S22_0 := match vs, H with
  | [bx0, bx1, .int .i64 x5], [] => (match (dslD 3 bx0 : Option (List Int)) with | some x0 => (match (dslD 3 bx1 : Option (List Int)) with | some x1 => some (⟨x0, x1, x5⟩ : S22_0) | none => none) | none => none)
  | _, _ => none
theorem dS22_0_ok (vs : List AV) (H : Heap) (s : S22_0) (h : dS22_0 vs H = some s) : vs = VS22_0 s ∧ H = HS22_0 s := by
  unfold dS22_0 at h
  split at h
  · skip
    split at h
    · rename_i q
      have q := dslD_ok q
      subst q
      split at h
      · rename_i q
        have q := dslD_ok q
        subst q
        cases h; exact ⟨rfl, rfl⟩
      · cases h
    · cases h
  · cases h
def tS22_0 : AExit → List (Nat × Kd) := fun x => match x with
  | .normal => [(0, .rd 3), (1, .rd 3), (5, .any)]
  | .exit i => (match i with | 0 => [] | _ => [])
  | .ret => [(4, .any)]
  | _ => []
structure E22_0 where
  mk ::
  x4 : Bool
def VE22_0 (s : E22_0) : List AV := [.bool s.x4]
def HE22_0 (s : E22_0) : Heap := []
def dE22_0 (x : AExit) (vs : List AV) (H : Heap) : Option E22_0 := match x, vs, H with
  | .ret, [.bool x4], [] => some (⟨x4⟩ : E22_0)
  | _, _, _ => none
theorem dE22_0_ok (x : AExit) (vs : List AV) (H : Heap) (s : E22_0) (h : dE22_0 x vs H = some s) : x = .ret ∧ vs = VE22_0 s ∧ H = HE22_0 s := by
  unfold dE22_0 at h
  split at h
  · skip
    cases h; exact ⟨rfl, rfl, rfl⟩
  · cases h
structure E22_0b where
  mk ::
def VE22_0b (s : E22_0b) : List AV := []
def HE22_0b (s : E22_0b) : Heap := []
def dE22_0b (x : AExit) (vs : List AV) (H : Heap) : Option E22_0b := match x, vs, H with
  | .exit 0, [], [] => some (⟨⟩ : E22_0b)
  | _, _, _ => none
theorem dE22_0b_ok (x : AExit) (vs : List AV) (H : Heap) (s : E22_0b) (h : dE22_0b x vs H = some s) : x = .exit 0 ∧ vs = VE22_0b s ∧ H = HE22_0b s := by
  unfold dE22_0b at h
  split at h
  · skip
    cases h; exact ⟨rfl, rfl, rfl⟩
  · cases h
abbrev EE22_0 := E22_0 ⊕ E22_0b
def xEE22_0 (e : EE22_0) : AExit := match e with | .inl _ => .ret | .inr _ => .exit 0
def VEE22_0 (e : EE22_0) : List AV := match e with | .inl s => VE22_0 s | .inr s => VE22_0b s
def HEE22_0 (e : EE22_0) : Heap := match e with | .inl s => HE22_0 s | .inr s => HE22_0b s
def dEE22_0 (x : AExit) (vs : List AV) (H : Heap) : Option EE22_0 := match dE22_0 x vs H with | some s => some (.inl s) | none => (match dE22_0b x vs H with | some s => some (.inr s) | none => none)
theorem dEE22_0_ok (x : AExit) (vs : List AV) (H : Heap) (s : EE22_0) (h : dEE22_0 x vs H = some s) : x = xEE22_0 s ∧ vs = VEE22_0 s ∧ H = HEE22_0 s := by
  unfold dEE22_0 at h
  split at h
  · rename_i q; cases h; exact dE22_0_ok _ _ _ _ q
  · split at h
    · rename_i q; cases h; exact dE22_0b_ok _ _ _ _ q
    · cases h
def pS22_0 (k : Nat) (s : S22_0) : Option (S22_0 ⊕ EE22_0) :=
  br (decide (S22_0.x5 s < (↑(List.length (S22_0.x0 s)) : Int)))
   (br (decide ((0 : Int) ≤ S22_0.x5 s ∧ S22_0.x5 s < (↑(List.length (S22_0.x0 s)) : Int)))
    (br (decide ((0 : Int) ≤ S22_0.x5 s ∧ S22_0.x5 s < (↑(List.length (S22_0.x1 s)) : Int)))
     (br (List.getD (S22_0.x0 s) (Int.toNat (S22_0.x5 s)) (0 : Int) != List.getD (S22_0.x1 s) (Int.toNat (S22_0.x5 s)) (0 : Int))
      (some (Sum.inr (Sum.inl (E22_0.mk false))))
      (some (Sum.inl (S22_0.mk (S22_0.x0 s) (S22_0.x1 s) (IntKind.wrap IntKind.i64 (S22_0.x5 s + (1 : Int)))))))
     (none))
    (none))
   (some (Sum.inr (Sum.inr E22_0b.mk)))
theorem pS22_0_run (k : Nat) (s : S22_0) : evC (S22_0 ⊕ EE22_0) Tryd.prog (ntmpsAt Tryd.prog 22) (cf16 k) ((Lm16 k) 22) 200 (loopAt Tryd.prog 22 0) (zipE [(0, .rd 3), (1, .rd 3), (5, .any)] (VS22_0 s)) (HS22_0 s) (List.length (HS22_0 s)) (cutS plan 0 tS22_0 (rndT dS22_0 dEE22_0)) = pS22_0 k s := by kernel_rfl
def l22_0 (k : Nat) (s : S22_0) : Option EE22_0 := iterT (pS22_0 k) k s
def m22_0 (k : Nat) : LamS := lamT 0 dS22_0 (l22_0 k) (elSum (elAll _) (elAll _)) tS22_0 xEE22_0 VEE22_0 HEE22_0
theorem loop22_0 : isLoopAt Tryd.prog 22 0 = true := by kernel_rfl
theorem m22_0_ok (k : Nat) : LamSOk Tryd.prog (ntmpsAt Tryd.prog 22) 0 (.block 0 (.loop (loopAt Tryd.prog 22 0))) [(0, .rd 3), (1, .rd 3), (5, .any)] (m22_0 k) := lamT_ok (plan := plan) (kb := 0) (body_run noNum mixed (cf16_ok k) (Lm16_ok k) loop22_0) rfl dS22_0_ok dEE22_0_ok (hel := (elSum_ok elAll_ok elAll_ok)) (pS22_0_run k) k
def Dl17 (k : Nat) : Delta := Dl16 k
def Lm17 (k : Nat) : FuncId → Nat → Option LamF := lCons 22 0 (lamBy plan [11, 12, 13, 14, 17, 18, 19, 20, 21, 22, 23, 24, 25, 4, 15, 16, 5] [(0, .rd 3), (1, .rd 3), (5, .any)] 0 (m22_0 k)) (Lm16 k)
theorem Dl17_ok (k : Nat) : DeltaOk Tryd.prog (Dl17 k) := Dl16_ok k
theorem Lm17_ok (k : Nat) : LamsOk Tryd.prog (Lm17 k) := lCons_ok (Lm16_ok k) loop22_0 (lamBy_ok (m22_0_ok k) (by kernel_rfl))
abbrev cf17 (k : Nat) : CallF := evF Tryd.prog (Dl17 k) (Lm17 k) 200 12
theorem cf17_ok (k : Nat) : CfOk Tryd.prog (cf17 k) := evF_ok noNum mixed (Dl17_ok k) (Lm17_ok k) 12
def f22 (k : Nat) (x0 : List Int) (x1 : List Int) : Option R22 :=
  br ((↑(List.length x0) : Int) != (↑(List.length x1) : Int))
   (some false)
   (bindO (l22_0 k (S22_0.mk x0 x1 (0 : Int))) fun r2999 =>
    match r2999 with
    | .inl c2998 => some (E22_0.x4 c2998)
    | .inr c2998 => some true)
theorem f22_run (k : Nat) (x0 : List Int) (x1 : List Int) : cf17 k R22 22 (A22 (x0, x1)) [] 0 (endR planR (.any) [] 0 r22) = f22 k x0 x1 := by kernel_rfl
def g22 (k : Nat) : CallS := entT d22 (fun p => f22 k p.1 p.2) (elAll _) (fun _ => o22) (fun _ => u22) (fun _ => n22)
theorem g22_ok (k : Nat) : CallSOk Tryd.prog 22 (g22 k) := entry_ok (Hp := fun _ => []) (oR := fun _ => o22) (uR := fun _ => u22) (nR := fun _ => n22) (cf17_ok k) d22_ok r22_ok (hel := elAll_ok) (fun p => f22_run k p.1 p.2)
def Dl18 (k : Nat) : Delta := dCons 22 (callAt plan [.rd 3, .rd 3] (g22 k)) (Dl17 k)
def Lm18 (k : Nat) : FuncId → Nat → Option LamF := Lm17 k
theorem Dl18_ok (k : Nat) : DeltaOk Tryd.prog (Dl18 k) := dCons_ok (Dl17_ok k) (g22_ok k)
theorem Lm18_ok (k : Nat) : LamsOk Tryd.prog (Lm18 k) := Lm17_ok k
abbrev cf18 (k : Nat) : CallF := evF Tryd.prog (Dl18 k) (Lm18 k) 200 12
theorem cf18_ok (k : Nat) : CfOk Tryd.prog (cf18 k) := evF_ok noNum mixed (Dl18_ok k) (Lm18_ok k) 12
abbrev P17 := Unit
def A17 (p : P17) : List AV := []
def d17 (a : List AV) (H : Heap) : Option P17 := match a, H with
  | [], [] => some ()
  | _, _ => none
theorem d17_ok (a : List AV) (H : Heap) (p : P17) (h : d17 a H = some p) : a = A17 p ∧ H = [] := by
  unfold d17 at h
  split at h
  · skip
    cases h; exact ⟨rfl, rfl⟩
  · cases h
abbrev R17 := Bool
def o17 (r : R17) : AEnd := .ret (.bool r)
def u17 (r : R17) : Heap := []
def n17 (_ : R17) : Nat := 0
def r17 (o : AEnd) (u : Heap) (n : Nat) : Option R17 := match o, u, n with
  | .ret (.bool a0), [], 0 => some (a0)
  | _, _, _ => none
theorem r17_ok (p : P17) (o : AEnd) (u : Heap) (n : Nat) (r : R17) (h : r17 o u n = some r) : o = o17 r ∧ u = u17 r ∧ n = n17 r := by
  unfold r17 at h
  split at h
  · skip
    cases h; exact ⟨rfl, rfl, rfl⟩
  · cases h
def f17 (k : Nat) : Option R17 := some true
theorem f17_run : cf18 60 R17 17 (A17 ()) [] 0 (endR planR (.any) [] 0 r17) = some true := by kernel_rfl
def g17 (k : Nat) : CallS := entT d17 (fun p => f17 k ) (elAll _) (fun _ => o17) (fun _ => u17) (fun _ => n17)
theorem g17_ok (k : Nat) : CallSOk Tryd.prog 17 (g17 k) := entry_le (Hp := fun _ => []) (plan := planR) (kd := .any) (dead := []) (decR := fun _ => r17) (oR := fun _ => o17) (uR := fun _ => u17) (nR := fun _ => n17) d17_ok r17_ok (hel := elAll_ok) (fun p z h => ⟨cf18 60, cf18_ok 60, f17_run.trans h⟩)
def Dl19 (k : Nat) : Delta := dCons 17 (callAt plan [] (g17 k)) (Dl18 k)
def Lm19 (k : Nat) : FuncId → Nat → Option LamF := Lm18 k
theorem Dl19_ok (k : Nat) : DeltaOk Tryd.prog (Dl19 k) := dCons_ok (Dl18_ok k) (g17_ok k)
theorem Lm19_ok (k : Nat) : LamsOk Tryd.prog (Lm19 k) := Lm18_ok k
abbrev cf19 (k : Nat) : CallF := evF Tryd.prog (Dl19 k) (Lm19 k) 200 12
theorem cf19_ok (k : Nat) : CfOk Tryd.prog (cf19 k) := evF_ok noNum mixed (Dl19_ok k) (Lm19_ok k) 12
abbrev P29 := Int
def A29 (p : P29) : List AV := [.int .i64 p]
def d29 (a : List AV) (H : Heap) : Option P29 := match a, H with
  | [.int .i64 a0], [] => some (a0)
  | _, _ => none
theorem d29_ok (a : List AV) (H : Heap) (p : P29) (h : d29 a H = some p) : a = A29 p ∧ H = [] := by
  unfold d29 at h
  split at h
  · skip
    cases h; exact ⟨rfl, rfl⟩
  · cases h
abbrev R29 := ByteArray
def o29 (r : R29) : AEnd := .ret (.str r)
def u29 (r : R29) : Heap := []
def n29 (_ : R29) : Nat := 0
def r29 (o : AEnd) (u : Heap) (n : Nat) : Option R29 := match o, u, n with
  | .ret (.str a0), [], 0 => some (a0)
  | _, _, _ => none
theorem r29_ok (p : P29) (o : AEnd) (u : Heap) (n : Nat) (r : R29) (h : r29 o u n = some r) : o = o29 r ∧ u = u29 r ∧ n = n29 r := by
  unfold r29 at h
  split at h
  · skip
    cases h; exact ⟨rfl, rfl, rfl⟩
  · cases h
structure S29_0 where
  mk ::
  x0 : Int
  x3 : ByteArray
def VS29_0 (s : S29_0) : List AV := [.int .i64 s.x0, .str s.x3]
def HS29_0 (s : S29_0) : Heap := []
def dS29_0 (vs : List AV) (H : Heap) : Option S29_0 := match vs, H with
  | [.int .i64 x0, .str x3], [] => some (⟨x0, x3⟩ : S29_0)
  | _, _ => none
theorem dS29_0_ok (vs : List AV) (H : Heap) (s : S29_0) (h : dS29_0 vs H = some s) : vs = VS29_0 s ∧ H = HS29_0 s := by
  unfold dS29_0 at h
  split at h
  · skip
    cases h; exact ⟨rfl, rfl⟩
  · cases h
def tS29_0 : AExit → List (Nat × Kd) := fun x => match x with
  | .normal => [(0, .any), (3, .any)]
  | .exit i => (match i with | 0 => [(3, .any)] | _ => [])
  | .ret => [(2, .any)]
  | _ => []
structure E29_0 where
  mk ::
  x3 : ByteArray
def VE29_0 (s : E29_0) : List AV := [.str s.x3]
def HE29_0 (s : E29_0) : Heap := []
def dE29_0 (x : AExit) (vs : List AV) (H : Heap) : Option E29_0 := match x, vs, H with
  | .exit 0, [.str x3], [] => some (⟨x3⟩ : E29_0)
  | _, _, _ => none
theorem dE29_0_ok (x : AExit) (vs : List AV) (H : Heap) (s : E29_0) (h : dE29_0 x vs H = some s) : x = .exit 0 ∧ vs = VE29_0 s ∧ H = HE29_0 s := by
  unfold dE29_0 at h
  split at h
  · skip
    cases h; exact ⟨rfl, rfl, rfl⟩
  · cases h
def xE29_0 (_ : E29_0) : AExit := .exit 0
def pS29_0 (k : Nat) (s : S29_0) : Option (S29_0 ⊕ E29_0) :=
  br (decide (S29_0.x0 s ≥ (10 : Int)))
   (br (decide (ByteArray.size (ByteArray.mk (List.toArray (List.map (fun n => UInt8.ofBitVec (BitVec.ofFin (Fin.mk (Int.toNat n % (256 : Nat)) (Nat.mod_lt (Int.toNat n) (BitVec.ofNat._proof_1 (8 : Nat)))))) [IntKind.wrap IntKind.u8 (IntKind.wrap IntKind.i64 ((48 : Int) + Int.tmod (IntKind.wrap IntKind.i64 (Int.tdiv (S29_0.x0 s) (10 : Int))) (10 : Int)))]))) + ByteArray.size (S29_0.x3 s) ≤ (9223372036854775807 : Nat)))
    (some (Sum.inl (S29_0.mk (IntKind.wrap IntKind.i64 (Int.tdiv (S29_0.x0 s) (10 : Int))) (ByteArray.mk (List.toArray (List.map (fun n => UInt8.ofBitVec (BitVec.ofFin (Fin.mk (Int.toNat n % (256 : Nat)) (Nat.mod_lt (Int.toNat n) (BitVec.ofNat._proof_1 (8 : Nat)))))) [IntKind.wrap IntKind.u8 (IntKind.wrap IntKind.i64 ((48 : Int) + Int.tmod (IntKind.wrap IntKind.i64 (Int.tdiv (S29_0.x0 s) (10 : Int))) (10 : Int)))])) ++ S29_0.x3 s))))
    (none))
   (some (Sum.inr (E29_0.mk (S29_0.x3 s))))
theorem pS29_0_run (k : Nat) (s : S29_0) : evC (S29_0 ⊕ E29_0) Tryd.prog (ntmpsAt Tryd.prog 29) (cf19 k) ((Lm19 k) 29) 200 (loopAt Tryd.prog 29 0) (zipE [(0, .any), (3, .any)] (VS29_0 s)) (HS29_0 s) (List.length (HS29_0 s)) (cutS plan 0 tS29_0 (rndT dS29_0 dE29_0)) = pS29_0 k s := by kernel_rfl
def l29_0 (k : Nat) (s : S29_0) : Option E29_0 := iterT (pS29_0 k) k s
def m29_0 (k : Nat) : LamS := lamT 0 dS29_0 (l29_0 k) (elAll _) tS29_0 xE29_0 VE29_0 HE29_0
theorem loop29_0 : isLoopAt Tryd.prog 29 0 = true := by kernel_rfl
theorem m29_0_ok (k : Nat) : LamSOk Tryd.prog (ntmpsAt Tryd.prog 29) 0 (.block 0 (.loop (loopAt Tryd.prog 29 0))) [(0, .any), (3, .any)] (m29_0 k) := lamT_ok (plan := plan) (kb := 0) (body_run noNum mixed (cf19_ok k) (Lm19_ok k) loop29_0) rfl dS29_0_ok dE29_0_ok (hel := elAll_ok) (pS29_0_run k) k
def Dl20 (k : Nat) : Delta := Dl19 k
def Lm20 (k : Nat) : FuncId → Nat → Option LamF := lCons 29 0 (lamBy plan [10, 11, 12, 13, 0, 14, 15, 16, 17, 18, 19, 20, 21, 3] [(0, .any), (3, .any)] 0 (m29_0 k)) (Lm19 k)
theorem Dl20_ok (k : Nat) : DeltaOk Tryd.prog (Dl20 k) := Dl19_ok k
theorem Lm20_ok (k : Nat) : LamsOk Tryd.prog (Lm20 k) := lCons_ok (Lm19_ok k) loop29_0 (lamBy_ok (m29_0_ok k) (by kernel_rfl))
abbrev cf20 (k : Nat) : CallF := evF Tryd.prog (Dl20 k) (Lm20 k) 200 12
theorem cf20_ok (k : Nat) : CfOk Tryd.prog (cf20 k) := evF_ok noNum mixed (Dl20_ok k) (Lm20_ok k) 12
def f29 (k : Nat) (x0 : Int) : Option R29 :=
  bindO (l29_0 k (S29_0.mk x0 (ByteArray.mk (List.toArray (List.map (fun n => UInt8.ofBitVec (BitVec.ofFin (Fin.mk (Int.toNat n % (256 : Nat)) (Nat.mod_lt (Int.toNat n) (BitVec.ofNat._proof_1 (8 : Nat)))))) [IntKind.wrap IntKind.u8 (IntKind.wrap IntKind.i64 ((48 : Int) + Int.tmod x0 (10 : Int)))]))))) fun r3000 =>
   some (E29_0.x3 r3000)
theorem f29_run (k : Nat) (x0 : Int) : cf20 k R29 29 (A29 (x0)) [] 0 (endR planR (.any) [] 0 r29) = f29 k x0 := by kernel_rfl
def g29 (k : Nat) : CallS := entT d29 (fun p => f29 k p) (elAll _) (fun _ => o29) (fun _ => u29) (fun _ => n29)
theorem g29_ok (k : Nat) : CallSOk Tryd.prog 29 (g29 k) := entry_ok (Hp := fun _ => []) (oR := fun _ => o29) (uR := fun _ => u29) (nR := fun _ => n29) (cf20_ok k) d29_ok r29_ok (hel := elAll_ok) (fun p => f29_run k p)
def Dl21 (k : Nat) : Delta := dCons 29 (callAt plan [.any] (g29 k)) (Dl20 k)
def Lm21 (k : Nat) : FuncId → Nat → Option LamF := Lm20 k
theorem Dl21_ok (k : Nat) : DeltaOk Tryd.prog (Dl21 k) := dCons_ok (Dl20_ok k) (g29_ok k)
theorem Lm21_ok (k : Nat) : LamsOk Tryd.prog (Lm21 k) := Lm20_ok k
abbrev cf21 (k : Nat) : CallF := evF Tryd.prog (Dl21 k) (Lm21 k) 200 12
theorem cf21_ok (k : Nat) : CfOk Tryd.prog (cf21 k) := evF_ok noNum mixed (Dl21_ok k) (Lm21_ok k) 12
abbrev P8 := List GSpot
def A8 (p : P8) : List AV := [.dsl 23 p]
def d8 (a : List AV) (H : Heap) : Option P8 := match a, H with
  | [ba0], [] => (match (dslD 23 ba0 : Option (List GSpot)) with | some a0 => some (a0) | none => none)
  | _, _ => none
theorem d8_ok (a : List AV) (H : Heap) (p : P8) (h : d8 a H = some p) : a = A8 p ∧ H = [] := by
  unfold d8 at h
  split at h
  · skip
    split at h
    · rename_i q
      have q := dslD_ok q
      subst q
      cases h; exact ⟨rfl, rfl⟩
    · cases h
  · cases h
abbrev R8 := List GSpot
def o8 (r : R8) : AEnd := .ret (.slf 0)
def u8 (r : R8) : Heap := [(0, some (.row 23 r))]
def n8 (_ : R8) : Nat := 1
def r8 (o : AEnd) (u : Heap) (n : Nat) : Option R8 := match o, u, n with
  | .ret (.slf 0), [(0, ba0)], 1 => (match (rowD 23 ba0 : Option (List GSpot)) with | some a0 => some (a0) | none => none)
  | _, _, _ => none
theorem r8_ok (p : P8) (o : AEnd) (u : Heap) (n : Nat) (r : R8) (h : r8 o u n = some r) : o = o8 r ∧ u = u8 r ∧ n = n8 r := by
  unfold r8 at h
  split at h
  · skip
    split at h
    · rename_i q
      have q := rowD_ok q
      subst q
      cases h; exact ⟨rfl, rfl, rfl⟩
    · cases h
  · cases h
def f8 (k : Nat) (x0 : List GSpot) : Option R8 :=
  br (true && decide (List.length x0 * (16 : Nat) ≤ (140737488355328 : Nat)))
   (some x0)
   (none)
theorem f8_run (k : Nat) (x0 : List GSpot) : cf21 k R8 8 (A8 (x0)) [] 0 (endR planR (.fresh 23) [] 0 r8) = f8 k x0 := by kernel_rfl
def g8 (k : Nat) : CallS := entT d8 (fun p => f8 k p) (elAll _) (fun _ => o8) (fun _ => u8) (fun _ => n8)
theorem g8_ok (k : Nat) : CallSOk Tryd.prog 8 (g8 k) := entry_ok (Hp := fun _ => []) (oR := fun _ => o8) (uR := fun _ => u8) (nR := fun _ => n8) (cf21_ok k) d8_ok r8_ok (hel := elAll_ok) (fun p => f8_run k p)
def Dl22 (k : Nat) : Delta := dCons 8 (callAt plan [.rd 23] (g8 k)) (Dl21 k)
def Lm22 (k : Nat) : FuncId → Nat → Option LamF := Lm21 k
theorem Dl22_ok (k : Nat) : DeltaOk Tryd.prog (Dl22 k) := dCons_ok (Dl21_ok k) (g8_ok k)
theorem Lm22_ok (k : Nat) : LamsOk Tryd.prog (Lm22 k) := Lm21_ok k
abbrev cf22 (k : Nat) : CallF := evF Tryd.prog (Dl22 k) (Lm22 k) 200 12
theorem cf22_ok (k : Nat) : CfOk Tryd.prog (cf22 k) := evF_ok noNum mixed (Dl22_ok k) (Lm22_ok k) 12
abbrev P19 := GSpot
def A19 (p : P19) : List AV := [.agg [.int .i64 p.bed, .int .i64 p.channel]]
def d19 (a : List AV) (H : Heap) : Option P19 := match a, H with
  | [.agg [.int .i64 a0, .int .i64 a1]], [] => some ((⟨a0, a1⟩ : GSpot))
  | _, _ => none
theorem d19_ok (a : List AV) (H : Heap) (p : P19) (h : d19 a H = some p) : a = A19 p ∧ H = [] := by
  unfold d19 at h
  split at h
  · skip
    cases h; exact ⟨rfl, rfl⟩
  · cases h
abbrev R19 := Bool
def o19 (r : R19) : AEnd := .ret (.bool r)
def u19 (r : R19) : Heap := []
def n19 (_ : R19) : Nat := 0
def r19 (o : AEnd) (u : Heap) (n : Nat) : Option R19 := match o, u, n with
  | .ret (.bool a0), [], 0 => some (a0)
  | _, _, _ => none
theorem r19_ok (p : P19) (o : AEnd) (u : Heap) (n : Nat) (r : R19) (h : r19 o u n = some r) : o = o19 r ∧ u = u19 r ∧ n = n19 r := by
  unfold r19 at h
  split at h
  · skip
    cases h; exact ⟨rfl, rfl, rfl⟩
  · cases h
def f19 (k : Nat) (x0 : GSpot) : Option R19 :=
  br (decide (GSpot.bed x0 ≥ (1 : Int)))
   (br (decide (GSpot.bed x0 ≤ (99 : Int)))
    (br (decide (GSpot.channel x0 ≥ (0 : Int)))
     (some (decide (GSpot.channel x0 ≤ (7 : Int))))
     (some false))
    (some false))
   (some false)
theorem f19_run (k : Nat) (x0 : GSpot) : cf22 k R19 19 (A19 (x0)) [] 0 (endR planR (.any) [] 0 r19) = f19 k x0 := by kernel_rfl
def g19 (k : Nat) : CallS := entT d19 (fun p => f19 k p) (elAll _) (fun _ => o19) (fun _ => u19) (fun _ => n19)
theorem g19_ok (k : Nat) : CallSOk Tryd.prog 19 (g19 k) := entry_ok (Hp := fun _ => []) (oR := fun _ => o19) (uR := fun _ => u19) (nR := fun _ => n19) (cf22_ok k) d19_ok r19_ok (hel := elAll_ok) (fun p => f19_run k p)
def Dl23 (k : Nat) : Delta := dCons 19 (callAt plan [.any] (g19 k)) (Dl22 k)
def Lm23 (k : Nat) : FuncId → Nat → Option LamF := Lm22 k
theorem Dl23_ok (k : Nat) : DeltaOk Tryd.prog (Dl23 k) := dCons_ok (Dl22_ok k) (g19_ok k)
theorem Lm23_ok (k : Nat) : LamsOk Tryd.prog (Lm23 k) := Lm22_ok k
abbrev cf23 (k : Nat) : CallF := evF Tryd.prog (Dl23 k) (Lm23 k) 200 12
theorem cf23_ok (k : Nat) : CfOk Tryd.prog (cf23 k) := evF_ok noNum mixed (Dl23_ok k) (Lm23_ok k) 12
abbrev P10 := GSpot
def A10 (p : P10) : List AV := [.agg [.int .i64 p.bed, .int .i64 p.channel]]
def d10 (a : List AV) (H : Heap) : Option P10 := match a, H with
  | [.agg [.int .i64 a0, .int .i64 a1]], [] => some ((⟨a0, a1⟩ : GSpot))
  | _, _ => none
theorem d10_ok (a : List AV) (H : Heap) (p : P10) (h : d10 a H = some p) : a = A10 p ∧ H = [] := by
  unfold d10 at h
  split at h
  · skip
    cases h; exact ⟨rfl, rfl⟩
  · cases h
abbrev R10 := Int × Int
def o10 (r : R10) : AEnd := .ret (.tup [.int .i64 r.1, .int .i64 r.2])
def u10 (r : R10) : Heap := []
def n10 (_ : R10) : Nat := 0
def r10 (o : AEnd) (u : Heap) (n : Nat) : Option R10 := match o, u, n with
  | .ret (.tup [.int .i64 a0, .int .i64 a1]), [], 0 => some (a0, a1)
  | _, _, _ => none
theorem r10_ok (p : P10) (o : AEnd) (u : Heap) (n : Nat) (r : R10) (h : r10 o u n = some r) : o = o10 r ∧ u = u10 r ∧ n = n10 r := by
  unfold r10 at h
  split at h
  · skip
    cases h; exact ⟨rfl, rfl, rfl⟩
  · cases h
def f10 (k : Nat) (x0 : GSpot) : Option R10 :=
  bindO (f19 k x0) fun r3000 =>
   br (!r3000)
    (some ((0 : Int), (1 : Int)))
    (some (IntKind.wrap IntKind.i64 (IntKind.wrap IntKind.i64 ((8 : Int) * IntKind.wrap IntKind.i64 (GSpot.bed x0 - (1 : Int))) + GSpot.channel x0), (0 : Int)))
theorem f10_run (k : Nat) (x0 : GSpot) : cf23 k R10 10 (A10 (x0)) [] 0 (endR planR (.any) [] 0 r10) = f10 k x0 := by kernel_rfl
def g10 (k : Nat) : CallS := entT d10 (fun p => f10 k p) (elAll _) (fun _ => o10) (fun _ => u10) (fun _ => n10)
theorem g10_ok (k : Nat) : CallSOk Tryd.prog 10 (g10 k) := entry_ok (Hp := fun _ => []) (oR := fun _ => o10) (uR := fun _ => u10) (nR := fun _ => n10) (cf23_ok k) d10_ok r10_ok (hel := elAll_ok) (fun p => f10_run k p)
def Dl24 (k : Nat) : Delta := dCons 10 (callAt plan [.any] (g10 k)) (Dl23 k)
def Lm24 (k : Nat) : FuncId → Nat → Option LamF := Lm23 k
theorem Dl24_ok (k : Nat) : DeltaOk Tryd.prog (Dl24 k) := dCons_ok (Dl23_ok k) (g10_ok k)
theorem Lm24_ok (k : Nat) : LamsOk Tryd.prog (Lm24 k) := Lm23_ok k
abbrev cf24 (k : Nat) : CallF := evF Tryd.prog (Dl24 k) (Lm24 k) 200 12
theorem cf24_ok (k : Nat) : CfOk Tryd.prog (cf24 k) := evF_ok noNum mixed (Dl24_ok k) (Lm24_ok k) 12
abbrev P12 := Int
def A12 (p : P12) : List AV := [.int .i64 p]
def d12 (a : List AV) (H : Heap) : Option P12 := match a, H with
  | [.int .i64 a0], [] => some (a0)
  | _, _ => none
theorem d12_ok (a : List AV) (H : Heap) (p : P12) (h : d12 a H = some p) : a = A12 p ∧ H = [] := by
  unfold d12 at h
  split at h
  · skip
    cases h; exact ⟨rfl, rfl⟩
  · cases h
abbrev R12 := GSpot × Int
def o12 (r : R12) : AEnd := .ret (.tup [.agg [.int .i64 r.1.bed, .int .i64 r.1.channel], .int .i64 r.2])
def u12 (r : R12) : Heap := []
def n12 (_ : R12) : Nat := 0
def r12 (o : AEnd) (u : Heap) (n : Nat) : Option R12 := match o, u, n with
  | .ret (.tup [.agg [.int .i64 a0, .int .i64 a1], .int .i64 a2]), [], 0 => some ((⟨a0, a1⟩ : GSpot), a2)
  | _, _, _ => none
theorem r12_ok (p : P12) (o : AEnd) (u : Heap) (n : Nat) (r : R12) (h : r12 o u n = some r) : o = o12 r ∧ u = u12 r ∧ n = n12 r := by
  unfold r12 at h
  split at h
  · skip
    cases h; exact ⟨rfl, rfl, rfl⟩
  · cases h
def f12 (k : Nat) (x0 : Int) : Option R12 :=
  br (decide (x0 < (0 : Int)))
   (some (GSpot.mk (0 : Int) (0 : Int), (1 : Int)))
   (br (decide (x0 > (791 : Int)))
    (some (GSpot.mk (0 : Int) (0 : Int), (1 : Int)))
    (some (GSpot.mk (IntKind.wrap IntKind.i64 (IntKind.wrap IntKind.i64 (Int.tdiv x0 (8 : Int)) + (1 : Int))) (Int.tmod x0 (8 : Int)), (0 : Int))))
theorem f12_run (k : Nat) (x0 : Int) : cf24 k R12 12 (A12 (x0)) [] 0 (endR planR (.any) [] 0 r12) = f12 k x0 := by kernel_rfl
def g12 (k : Nat) : CallS := entT d12 (fun p => f12 k p) (elAll _) (fun _ => o12) (fun _ => u12) (fun _ => n12)
theorem g12_ok (k : Nat) : CallSOk Tryd.prog 12 (g12 k) := entry_ok (Hp := fun _ => []) (oR := fun _ => o12) (uR := fun _ => u12) (nR := fun _ => n12) (cf24_ok k) d12_ok r12_ok (hel := elAll_ok) (fun p => f12_run k p)
def Dl25 (k : Nat) : Delta := dCons 12 (callAt plan [.any] (g12 k)) (Dl24 k)
def Lm25 (k : Nat) : FuncId → Nat → Option LamF := Lm24 k
theorem Dl25_ok (k : Nat) : DeltaOk Tryd.prog (Dl25 k) := dCons_ok (Dl24_ok k) (g12_ok k)
theorem Lm25_ok (k : Nat) : LamsOk Tryd.prog (Lm25 k) := Lm24_ok k
abbrev cf25 (k : Nat) : CallF := evF Tryd.prog (Dl25 k) (Lm25 k) 200 12
theorem cf25_ok (k : Nat) : CfOk Tryd.prog (cf25 k) := evF_ok noNum mixed (Dl25_ok k) (Lm25_ok k) 12
abbrev P14 := GSpot
def A14 (p : P14) : List AV := [.agg [.int .i64 p.bed, .int .i64 p.channel]]
def d14 (a : List AV) (H : Heap) : Option P14 := match a, H with
  | [.agg [.int .i64 a0, .int .i64 a1]], [] => some ((⟨a0, a1⟩ : GSpot))
  | _, _ => none
theorem d14_ok (a : List AV) (H : Heap) (p : P14) (h : d14 a H = some p) : a = A14 p ∧ H = [] := by
  unfold d14 at h
  split at h
  · skip
    cases h; exact ⟨rfl, rfl⟩
  · cases h
abbrev R14 := ByteArray × Int
def o14 (r : R14) : AEnd := .ret (.tup [.str r.1, .int .i64 r.2])
def u14 (r : R14) : Heap := []
def n14 (_ : R14) : Nat := 0
def r14 (o : AEnd) (u : Heap) (n : Nat) : Option R14 := match o, u, n with
  | .ret (.tup [.str a0, .int .i64 a1]), [], 0 => some (a0, a1)
  | _, _, _ => none
theorem r14_ok (p : P14) (o : AEnd) (u : Heap) (n : Nat) (r : R14) (h : r14 o u n = some r) : o = o14 r ∧ u = u14 r ∧ n = n14 r := by
  unfold r14 at h
  split at h
  · skip
    cases h; exact ⟨rfl, rfl, rfl⟩
  · cases h
def f14 (k : Nat) (x0 : GSpot) : Option R14 :=
  bindO (f19 k x0) fun r3000 =>
   br (!r3000)
    (some (ByteArray.mk #[], (1 : Int)))
    (bindO (f29 k (GSpot.bed x0)) fun r2998 =>
     br (decide (ByteArray.size r2998 + (1 : Nat) ≤ (9223372036854775807 : Nat)))
      (bindO (f29 k (GSpot.channel x0)) fun r2997 =>
       br (decide (ByteArray.size (r2998 ++ ByteArray.mk #[(47 : UInt8)]) + ByteArray.size r2997 ≤ (9223372036854775807 : Nat)))
        (some (r2998 ++ ByteArray.mk #[(47 : UInt8)] ++ r2997, (0 : Int)))
        (none))
      (none))
theorem f14_run (k : Nat) (x0 : GSpot) : cf25 k R14 14 (A14 (x0)) [] 0 (endR planR (.any) [] 0 r14) = f14 k x0 := by kernel_rfl
def g14 (k : Nat) : CallS := entT d14 (fun p => f14 k p) (elAll _) (fun _ => o14) (fun _ => u14) (fun _ => n14)
theorem g14_ok (k : Nat) : CallSOk Tryd.prog 14 (g14 k) := entry_ok (Hp := fun _ => []) (oR := fun _ => o14) (uR := fun _ => u14) (nR := fun _ => n14) (cf25_ok k) d14_ok r14_ok (hel := elAll_ok) (fun p => f14_run k p)
def Dl26 (k : Nat) : Delta := dCons 14 (callAt plan [.any] (g14 k)) (Dl25 k)
def Lm26 (k : Nat) : FuncId → Nat → Option LamF := Lm25 k
theorem Dl26_ok (k : Nat) : DeltaOk Tryd.prog (Dl26 k) := dCons_ok (Dl25_ok k) (g14_ok k)
theorem Lm26_ok (k : Nat) : LamsOk Tryd.prog (Lm26 k) := Lm25_ok k
abbrev cf26 (k : Nat) : CallF := evF Tryd.prog (Dl26 k) (Lm26 k) 200 12
theorem cf26_ok (k : Nat) : CfOk Tryd.prog (cf26 k) := evF_ok noNum mixed (Dl26_ok k) (Lm26_ok k) 12
abbrev P16 := ByteArray
def A16 (p : P16) : List AV := [.str p]
def d16 (a : List AV) (H : Heap) : Option P16 := match a, H with
  | [.str a0], [] => some (a0)
  | _, _ => none
theorem d16_ok (a : List AV) (H : Heap) (p : P16) (h : d16 a H = some p) : a = A16 p ∧ H = [] := by
  unfold d16 at h
  split at h
  · skip
    cases h; exact ⟨rfl, rfl⟩
  · cases h
abbrev R16 := GSpot × Int
def o16 (r : R16) : AEnd := .ret (.tup [.agg [.int .i64 r.1.bed, .int .i64 r.1.channel], .int .i64 r.2])
def u16 (r : R16) : Heap := []
def n16 (_ : R16) : Nat := 0
def r16 (o : AEnd) (u : Heap) (n : Nat) : Option R16 := match o, u, n with
  | .ret (.tup [.agg [.int .i64 a0, .int .i64 a1], .int .i64 a2]), [], 0 => some ((⟨a0, a1⟩ : GSpot), a2)
  | _, _, _ => none
theorem r16_ok (p : P16) (o : AEnd) (u : Heap) (n : Nat) (r : R16) (h : r16 o u n = some r) : o = o16 r ∧ u = u16 r ∧ n = n16 r := by
  unfold r16 at h
  split at h
  · skip
    cases h; exact ⟨rfl, rfl, rfl⟩
  · cases h
structure S16_0 where
  mk ::
  x0 : ByteArray
  x4 : Int
  h0_0 : Int
  h0_1 : Int
def VS16_0 (s : S16_0) : List AV := [.str s.x0, .ptr 0 0 0, .int .i64 s.x4]
def HS16_0 (s : S16_0) : Heap := [(0, some (.box 23 [.int .i64 s.h0_0, .int .i64 s.h0_1]))]
def dS16_0 (vs : List AV) (H : Heap) : Option S16_0 := match vs, H with
  | [.str x0, .ptr 0 0 0, .int .i64 x4], [(0, some (.box 23 [.int .i64 h0_0, .int .i64 h0_1]))] => some (⟨x0, x4, h0_0, h0_1⟩ : S16_0)
  | _, _ => none
theorem dS16_0_ok (vs : List AV) (H : Heap) (s : S16_0) (h : dS16_0 vs H = some s) : vs = VS16_0 s ∧ H = HS16_0 s := by
  unfold dS16_0 at h
  split at h
  · skip
    cases h; exact ⟨rfl, rfl⟩
  · cases h
def tS16_0 : AExit → List (Nat × Kd) := fun x => match x with
  | .normal => [(0, .any), (2, .any), (4, .any)]
  | .exit i => (match i with | 0 => [(2, .any)] | _ => [])
  | .ret => [(2, .any), (3, .any)]
  | _ => []
structure S16_2 where
  mk ::
  x0 : ByteArray
  x4 : Int
  x5 : Int
  h0_0 : Int
  h0_1 : Int
def VS16_2 (s : S16_2) : List AV := [.str s.x0, .ptr 0 0 0, .int .i64 s.x4, .int .i64 s.x5]
def HS16_2 (s : S16_2) : Heap := [(0, some (.box 23 [.int .i64 s.h0_0, .int .i64 s.h0_1]))]
def dS16_2 (vs : List AV) (H : Heap) : Option S16_2 := match vs, H with
  | [.str x0, .ptr 0 0 0, .int .i64 x4, .int .i64 x5], [(0, some (.box 23 [.int .i64 h0_0, .int .i64 h0_1]))] => some (⟨x0, x4, x5, h0_0, h0_1⟩ : S16_2)
  | _, _ => none
theorem dS16_2_ok (vs : List AV) (H : Heap) (s : S16_2) (h : dS16_2 vs H = some s) : vs = VS16_2 s ∧ H = HS16_2 s := by
  unfold dS16_2 at h
  split at h
  · skip
    cases h; exact ⟨rfl, rfl⟩
  · cases h
def tS16_2 : AExit → List (Nat × Kd) := fun x => match x with
  | .normal => [(0, .any), (2, .any), (4, .any), (5, .any)]
  | .exit i => (match i with | 2 => [(0, .any), (2, .any), (4, .any)] | 0 => [(2, .any)] | 1 => [(0, .any), (2, .any), (4, .any)] | _ => [])
  | .ret => [(2, .any), (3, .any)]
  | _ => []
structure E16_2 where
  mk ::
  x3 : Int
  h0_0 : Int
  h0_1 : Int
def VE16_2 (s : E16_2) : List AV := [.ptr 0 0 0, .int .i64 s.x3]
def HE16_2 (s : E16_2) : Heap := [(0, some (.box 23 [.int .i64 s.h0_0, .int .i64 s.h0_1]))]
def dE16_2 (x : AExit) (vs : List AV) (H : Heap) : Option E16_2 := match x, vs, H with
  | .ret, [.ptr 0 0 0, .int .i64 x3], [(0, some (.box 23 [.int .i64 h0_0, .int .i64 h0_1]))] => some (⟨x3, h0_0, h0_1⟩ : E16_2)
  | _, _, _ => none
theorem dE16_2_ok (x : AExit) (vs : List AV) (H : Heap) (s : E16_2) (h : dE16_2 x vs H = some s) : x = .ret ∧ vs = VE16_2 s ∧ H = HE16_2 s := by
  unfold dE16_2 at h
  split at h
  · skip
    cases h; exact ⟨rfl, rfl, rfl⟩
  · cases h
structure E16_2b where
  mk ::
  x0 : ByteArray
  x4 : Int
  h0_0 : Int
  h0_1 : Int
def VE16_2b (s : E16_2b) : List AV := [.str s.x0, .ptr 0 0 0, .int .i64 s.x4]
def HE16_2b (s : E16_2b) : Heap := [(0, some (.box 23 [.int .i64 s.h0_0, .int .i64 s.h0_1]))]
def dE16_2b (x : AExit) (vs : List AV) (H : Heap) : Option E16_2b := match x, vs, H with
  | .exit 2, [.str x0, .ptr 0 0 0, .int .i64 x4], [(0, some (.box 23 [.int .i64 h0_0, .int .i64 h0_1]))] => some (⟨x0, x4, h0_0, h0_1⟩ : E16_2b)
  | _, _, _ => none
theorem dE16_2b_ok (x : AExit) (vs : List AV) (H : Heap) (s : E16_2b) (h : dE16_2b x vs H = some s) : x = .exit 2 ∧ vs = VE16_2b s ∧ H = HE16_2b s := by
  unfold dE16_2b at h
  split at h
  · skip
    cases h; exact ⟨rfl, rfl, rfl⟩
  · cases h
abbrev EE16_2 := E16_2 ⊕ E16_2b
def xEE16_2 (e : EE16_2) : AExit := match e with | .inl _ => .ret | .inr _ => .exit 2
def VEE16_2 (e : EE16_2) : List AV := match e with | .inl s => VE16_2 s | .inr s => VE16_2b s
def HEE16_2 (e : EE16_2) : Heap := match e with | .inl s => HE16_2 s | .inr s => HE16_2b s
def dEE16_2 (x : AExit) (vs : List AV) (H : Heap) : Option EE16_2 := match dE16_2 x vs H with | some s => some (.inl s) | none => (match dE16_2b x vs H with | some s => some (.inr s) | none => none)
theorem dEE16_2_ok (x : AExit) (vs : List AV) (H : Heap) (s : EE16_2) (h : dEE16_2 x vs H = some s) : x = xEE16_2 s ∧ vs = VEE16_2 s ∧ H = HEE16_2 s := by
  unfold dEE16_2 at h
  split at h
  · rename_i q; cases h; exact dE16_2_ok _ _ _ _ q
  · split at h
    · rename_i q; cases h; exact dE16_2b_ok _ _ _ _ q
    · cases h
def pS16_2 (k : Nat) (s : S16_2) : Option (S16_2 ⊕ EE16_2) :=
  br (decide (S16_2.x5 s ≤ (7 : Int)))
   (bindO (f14 k (GSpot.mk (S16_2.x4 s) (S16_2.x5 s))) fun r1500 =>
    br (ByteArray.toList (Prod.fst r1500) == ByteArray.toList (S16_2.x0 s))
     (some (Sum.inr (Sum.inl (E16_2.mk (0 : Int) (S16_2.x4 s) (S16_2.x5 s)))))
     (some (Sum.inl (S16_2.mk (S16_2.x0 s) (S16_2.x4 s) (IntKind.wrap IntKind.i64 (S16_2.x5 s + (1 : Int))) (S16_2.h0_0 s) (S16_2.h0_1 s)))))
   (some (Sum.inr (Sum.inr (E16_2b.mk (S16_2.x0 s) (S16_2.x4 s) (S16_2.h0_0 s) (S16_2.h0_1 s)))))
theorem pS16_2_run (k : Nat) (s : S16_2) : evC (S16_2 ⊕ EE16_2) Tryd.prog (ntmpsAt Tryd.prog 16) (cf26 k) ((Lm26 k) 16) 200 (loopAt Tryd.prog 16 2) (zipE [(0, .any), (2, .any), (4, .any), (5, .any)] (VS16_2 s)) (HS16_2 s) (List.length (HS16_2 s)) (cutS plan 1 tS16_2 (rndT dS16_2 dEE16_2)) = pS16_2 k s := by kernel_rfl
def l16_2 (k : Nat) (s : S16_2) : Option EE16_2 := iterT (pS16_2 k) k s
def m16_2 (k : Nat) : LamS := lamT 2 dS16_2 (l16_2 k) (elSum (elAll _) (elAll _)) tS16_2 xEE16_2 VEE16_2 HEE16_2
theorem loop16_2 : isLoopAt Tryd.prog 16 2 = true := by kernel_rfl
theorem m16_2_ok (k : Nat) : LamSOk Tryd.prog (ntmpsAt Tryd.prog 16) 1 (.block 2 (.loop (loopAt Tryd.prog 16 2))) [(0, .any), (2, .any), (4, .any), (5, .any)] (m16_2 k) := lamT_ok (plan := plan) (kb := 1) (body_run noNum mixed (cf26_ok k) (Lm26_ok k) loop16_2) rfl dS16_2_ok dEE16_2_ok (hel := (elSum_ok elAll_ok elAll_ok)) (pS16_2_run k) k
def Dl27 (k : Nat) : Delta := Dl26 k
def Lm27 (k : Nat) : FuncId → Nat → Option LamF := lCons 16 2 (lamBy plan [17, 18, 21, 22, 23, 6, 25, 26, 24, 27, 28, 7, 8, 29, 30, 31, 32, 3, 19, 20, 5] [(0, .any), (2, .any), (4, .any), (5, .any)] 1 (m16_2 k)) (Lm26 k)
theorem Dl27_ok (k : Nat) : DeltaOk Tryd.prog (Dl27 k) := Dl26_ok k
theorem Lm27_ok (k : Nat) : LamsOk Tryd.prog (Lm27 k) := lCons_ok (Lm26_ok k) loop16_2 (lamBy_ok (m16_2_ok k) (by kernel_rfl))
abbrev cf27 (k : Nat) : CallF := evF Tryd.prog (Dl27 k) (Lm27 k) 200 12
theorem cf27_ok (k : Nat) : CfOk Tryd.prog (cf27 k) := evF_ok noNum mixed (Dl27_ok k) (Lm27_ok k) 12
structure E16_0 where
  mk ::
  x3 : Int
  h0_0 : Int
  h0_1 : Int
def VE16_0 (s : E16_0) : List AV := [.ptr 0 0 0, .int .i64 s.x3]
def HE16_0 (s : E16_0) : Heap := [(0, some (.box 23 [.int .i64 s.h0_0, .int .i64 s.h0_1]))]
def dE16_0 (x : AExit) (vs : List AV) (H : Heap) : Option E16_0 := match x, vs, H with
  | .ret, [.ptr 0 0 0, .int .i64 x3], [(0, some (.box 23 [.int .i64 h0_0, .int .i64 h0_1]))] => some (⟨x3, h0_0, h0_1⟩ : E16_0)
  | _, _, _ => none
theorem dE16_0_ok (x : AExit) (vs : List AV) (H : Heap) (s : E16_0) (h : dE16_0 x vs H = some s) : x = .ret ∧ vs = VE16_0 s ∧ H = HE16_0 s := by
  unfold dE16_0 at h
  split at h
  · skip
    cases h; exact ⟨rfl, rfl, rfl⟩
  · cases h
structure E16_0b where
  mk ::
  h0_0 : Int
  h0_1 : Int
def VE16_0b (s : E16_0b) : List AV := [.ptr 0 0 0]
def HE16_0b (s : E16_0b) : Heap := [(0, some (.box 23 [.int .i64 s.h0_0, .int .i64 s.h0_1]))]
def dE16_0b (x : AExit) (vs : List AV) (H : Heap) : Option E16_0b := match x, vs, H with
  | .exit 0, [.ptr 0 0 0], [(0, some (.box 23 [.int .i64 h0_0, .int .i64 h0_1]))] => some (⟨h0_0, h0_1⟩ : E16_0b)
  | _, _, _ => none
theorem dE16_0b_ok (x : AExit) (vs : List AV) (H : Heap) (s : E16_0b) (h : dE16_0b x vs H = some s) : x = .exit 0 ∧ vs = VE16_0b s ∧ H = HE16_0b s := by
  unfold dE16_0b at h
  split at h
  · skip
    cases h; exact ⟨rfl, rfl, rfl⟩
  · cases h
abbrev EE16_0 := E16_0 ⊕ E16_0b
def xEE16_0 (e : EE16_0) : AExit := match e with | .inl _ => .ret | .inr _ => .exit 0
def VEE16_0 (e : EE16_0) : List AV := match e with | .inl s => VE16_0 s | .inr s => VE16_0b s
def HEE16_0 (e : EE16_0) : Heap := match e with | .inl s => HE16_0 s | .inr s => HE16_0b s
def dEE16_0 (x : AExit) (vs : List AV) (H : Heap) : Option EE16_0 := match dE16_0 x vs H with | some s => some (.inl s) | none => (match dE16_0b x vs H with | some s => some (.inr s) | none => none)
theorem dEE16_0_ok (x : AExit) (vs : List AV) (H : Heap) (s : EE16_0) (h : dEE16_0 x vs H = some s) : x = xEE16_0 s ∧ vs = VEE16_0 s ∧ H = HEE16_0 s := by
  unfold dEE16_0 at h
  split at h
  · rename_i q; cases h; exact dE16_0_ok _ _ _ _ q
  · split at h
    · rename_i q; cases h; exact dE16_0b_ok _ _ _ _ q
    · cases h
def pS16_0 (k : Nat) (s : S16_0) : Option (S16_0 ⊕ EE16_0) :=
  br (decide (S16_0.x4 s ≤ (99 : Int)))
   (bindO (l16_2 k (S16_2.mk (S16_0.x0 s) (S16_0.x4 s) (0 : Int) (S16_0.h0_0 s) (S16_0.h0_1 s))) fun r1500 =>
    match r1500 with
    | .inl c1499 => some (Sum.inr (Sum.inl (E16_0.mk (E16_2.x3 c1499) (E16_2.h0_0 c1499) (E16_2.h0_1 c1499))))
    | .inr c1499 => some (Sum.inl (S16_0.mk (E16_2b.x0 c1499) (IntKind.wrap IntKind.i64 (E16_2b.x4 c1499 + (1 : Int))) (E16_2b.h0_0 c1499) (E16_2b.h0_1 c1499))))
   (some (Sum.inr (Sum.inr (E16_0b.mk (S16_0.h0_0 s) (S16_0.h0_1 s)))))
theorem pS16_0_run (k : Nat) (s : S16_0) : evC (S16_0 ⊕ EE16_0) Tryd.prog (ntmpsAt Tryd.prog 16) (cf27 k) ((Lm27 k) 16) 200 (loopAt Tryd.prog 16 0) (zipE [(0, .any), (2, .any), (4, .any)] (VS16_0 s)) (HS16_0 s) (List.length (HS16_0 s)) (cutS plan 1 tS16_0 (rndT dS16_0 dEE16_0)) = pS16_0 k s := by kernel_rfl
def l16_0 (k : Nat) (s : S16_0) : Option EE16_0 := iterT (pS16_0 k) k s
def m16_0 (k : Nat) : LamS := lamT 0 dS16_0 (l16_0 k) (elSum (elAll _) (elAll _)) tS16_0 xEE16_0 VEE16_0 HEE16_0
theorem loop16_0 : isLoopAt Tryd.prog 16 0 = true := by kernel_rfl
theorem m16_0_ok (k : Nat) : LamSOk Tryd.prog (ntmpsAt Tryd.prog 16) 1 (.block 0 (.loop (loopAt Tryd.prog 16 0))) [(0, .any), (2, .any), (4, .any)] (m16_0 k) := lamT_ok (plan := plan) (kb := 1) (body_run noNum mixed (cf27_ok k) (Lm27_ok k) loop16_0) rfl dS16_0_ok dEE16_0_ok (hel := (elSum_ok elAll_ok elAll_ok)) (pS16_0_run k) k
def Dl28 (k : Nat) : Delta := Dl27 k
def Lm28 (k : Nat) : FuncId → Nat → Option LamF := lCons 16 0 (lamBy plan [13, 14, 5, 17, 18, 21, 22, 23, 6, 25, 26, 24, 27, 28, 7, 8, 29, 30, 31, 32, 3, 19, 20, 5, 15, 16, 4] [(0, .any), (2, .any), (4, .any)] 1 (m16_0 k)) (Lm27 k)
theorem Dl28_ok (k : Nat) : DeltaOk Tryd.prog (Dl28 k) := Dl27_ok k
theorem Lm28_ok (k : Nat) : LamsOk Tryd.prog (Lm28 k) := lCons_ok (Lm27_ok k) loop16_0 (lamBy_ok (m16_0_ok k) (by kernel_rfl))
abbrev cf28 (k : Nat) : CallF := evF Tryd.prog (Dl28 k) (Lm28 k) 200 12
theorem cf28_ok (k : Nat) : CfOk Tryd.prog (cf28 k) := evF_ok noNum mixed (Dl28_ok k) (Lm28_ok k) 12
def f16 (k : Nat) (x0 : ByteArray) : Option R16 :=
  br (decide ((↑(ByteArray.size x0) : Int) > (4 : Int)))
   (some (GSpot.mk (0 : Int) (0 : Int), (20 : Int)))
   (bindO (l16_0 k (S16_0.mk x0 (1 : Int) (0 : Int) (0 : Int))) fun r2999 =>
    match r2999 with
    | .inl c2998 => some (GSpot.mk (E16_0.h0_0 c2998) (E16_0.h0_1 c2998), E16_0.x3 c2998)
    | .inr c2998 => some (GSpot.mk (0 : Int) (0 : Int), (20 : Int)))
theorem f16_run (k : Nat) (x0 : ByteArray) : cf28 k R16 16 (A16 (x0)) [] 0 (endR planR (.any) [] 0 r16) = f16 k x0 := by kernel_rfl
def g16 (k : Nat) : CallS := entT d16 (fun p => f16 k p) (elAll _) (fun _ => o16) (fun _ => u16) (fun _ => n16)
theorem g16_ok (k : Nat) : CallSOk Tryd.prog 16 (g16 k) := entry_ok (Hp := fun _ => []) (oR := fun _ => o16) (uR := fun _ => u16) (nR := fun _ => n16) (cf28_ok k) d16_ok r16_ok (hel := elAll_ok) (fun p => f16_run k p)
def Dl29 (k : Nat) : Delta := dCons 16 (callAt plan [.any] (g16 k)) (Dl28 k)
def Lm29 (k : Nat) : FuncId → Nat → Option LamF := Lm28 k
theorem Dl29_ok (k : Nat) : DeltaOk Tryd.prog (Dl29 k) := dCons_ok (Dl28_ok k) (g16_ok k)
theorem Lm29_ok (k : Nat) : LamsOk Tryd.prog (Lm29 k) := Lm28_ok k
abbrev cf29 (k : Nat) : CallF := evF Tryd.prog (Dl29 k) (Lm29 k) 200 12
theorem cf29_ok (k : Nat) : CfOk Tryd.prog (cf29 k) := evF_ok noNum mixed (Dl29_ok k) (Lm29_ok k) 12
abbrev P21 := GSpot × GSpot
def A21 (p : P21) : List AV := [.agg [.int .i64 p.1.bed, .int .i64 p.1.channel], .agg [.int .i64 p.2.bed, .int .i64 p.2.channel]]
def d21 (a : List AV) (H : Heap) : Option P21 := match a, H with
  | [.agg [.int .i64 a0, .int .i64 a1], .agg [.int .i64 a2, .int .i64 a3]], [] => some ((⟨a0, a1⟩ : GSpot), (⟨a2, a3⟩ : GSpot))
  | _, _ => none
theorem d21_ok (a : List AV) (H : Heap) (p : P21) (h : d21 a H = some p) : a = A21 p ∧ H = [] := by
  unfold d21 at h
  split at h
  · skip
    cases h; exact ⟨rfl, rfl⟩
  · cases h
abbrev R21 := Bool
def o21 (r : R21) : AEnd := .ret (.bool r)
def u21 (r : R21) : Heap := []
def n21 (_ : R21) : Nat := 0
def r21 (o : AEnd) (u : Heap) (n : Nat) : Option R21 := match o, u, n with
  | .ret (.bool a0), [], 0 => some (a0)
  | _, _, _ => none
theorem r21_ok (p : P21) (o : AEnd) (u : Heap) (n : Nat) (r : R21) (h : r21 o u n = some r) : o = o21 r ∧ u = u21 r ∧ n = n21 r := by
  unfold r21 at h
  split at h
  · skip
    cases h; exact ⟨rfl, rfl, rfl⟩
  · cases h
def f21 (k : Nat) (x0 : GSpot) (x1 : GSpot) : Option R21 :=
  br (decide (GSpot.bed x0 < GSpot.bed x1))
   (some true)
   (br (GSpot.bed x0 == GSpot.bed x1)
    (some (decide (GSpot.channel x0 < GSpot.channel x1)))
    (some false))
theorem f21_run (k : Nat) (x0 : GSpot) (x1 : GSpot) : cf29 k R21 21 (A21 (x0, x1)) [] 0 (endR planR (.any) [] 0 r21) = f21 k x0 x1 := by kernel_rfl
def g21 (k : Nat) : CallS := entT d21 (fun p => f21 k p.1 p.2) (elAll _) (fun _ => o21) (fun _ => u21) (fun _ => n21)
theorem g21_ok (k : Nat) : CallSOk Tryd.prog 21 (g21 k) := entry_ok (Hp := fun _ => []) (oR := fun _ => o21) (uR := fun _ => u21) (nR := fun _ => n21) (cf29_ok k) d21_ok r21_ok (hel := elAll_ok) (fun p => f21_run k p.1 p.2)
def Dl30 (k : Nat) : Delta := dCons 21 (callAt plan [.any, .any] (g21 k)) (Dl29 k)
def Lm30 (k : Nat) : FuncId → Nat → Option LamF := Lm29 k
theorem Dl30_ok (k : Nat) : DeltaOk Tryd.prog (Dl30 k) := dCons_ok (Dl29_ok k) (g21_ok k)
theorem Lm30_ok (k : Nat) : LamsOk Tryd.prog (Lm30 k) := Lm29_ok k
abbrev cf30 (k : Nat) : CallF := evF Tryd.prog (Dl30 k) (Lm30 k) 200 12
theorem cf30_ok (k : Nat) : CfOk Tryd.prog (cf30 k) := evF_ok noNum mixed (Dl30_ok k) (Lm30_ok k) 12
abbrev P24 := List GSpot
def A24 (p : P24) : List AV := [.dsl 23 p]
def d24 (a : List AV) (H : Heap) : Option P24 := match a, H with
  | [ba0], [] => (match (dslD 23 ba0 : Option (List GSpot)) with | some a0 => some (a0) | none => none)
  | _, _ => none
theorem d24_ok (a : List AV) (H : Heap) (p : P24) (h : d24 a H = some p) : a = A24 p ∧ H = [] := by
  unfold d24 at h
  split at h
  · skip
    split at h
    · rename_i q
      have q := dslD_ok q
      subst q
      cases h; exact ⟨rfl, rfl⟩
    · cases h
  · cases h
abbrev R24 := List Int
def o24 (r : R24) : AEnd := .ret (.slf 0)
def u24 (r : R24) : Heap := [(0, some (.row 3 r))]
def n24 (_ : R24) : Nat := 1
def r24 (o : AEnd) (u : Heap) (n : Nat) : Option R24 := match o, u, n with
  | .ret (.slf 0), [(0, ba0)], 1 => (match (rowD 3 ba0 : Option (List Int)) with | some a0 => some (a0) | none => none)
  | _, _, _ => none
theorem r24_ok (p : P24) (o : AEnd) (u : Heap) (n : Nat) (r : R24) (h : r24 o u n = some r) : o = o24 r ∧ u = u24 r ∧ n = n24 r := by
  unfold r24 at h
  split at h
  · skip
    split at h
    · rename_i q
      have q := rowD_ok q
      subst q
      cases h; exact ⟨rfl, rfl, rfl⟩
    · cases h
  · cases h
structure S24_0 where
  mk ::
  x0 : List GSpot
  x4 : Int
  h0 : List Int
def VS24_0 (s : S24_0) : List AV := [.dsl 23 s.x0, .slf 0, .int .i64 s.x4]
def HS24_0 (s : S24_0) : Heap := [(0, some (.row 3 s.h0))]
def dS24_0 (vs : List AV) (H : Heap) : Option S24_0 := match vs, H with
  | [bx0, .slf 0, .int .i64 x4], [(0, bh0)] => (match (dslD 23 bx0 : Option (List GSpot)) with | some x0 => (match (rowD 3 bh0 : Option (List Int)) with | some h0 => some (⟨x0, x4, h0⟩ : S24_0) | none => none) | none => none)
  | _, _ => none
theorem dS24_0_ok (vs : List AV) (H : Heap) (s : S24_0) (h : dS24_0 vs H = some s) : vs = VS24_0 s ∧ H = HS24_0 s := by
  unfold dS24_0 at h
  split at h
  · skip
    split at h
    · rename_i q
      have q := dslD_ok q
      subst q
      split at h
      · rename_i q
        have q := rowD_ok q
        subst q
        cases h; exact ⟨rfl, rfl⟩
      · cases h
    · cases h
  · cases h
def tS24_0 : AExit → List (Nat × Kd) := fun x => match x with
  | .normal => [(0, .rd 23), (3, .own 3), (4, .any)]
  | .exit i => (match i with | 0 => [(3, .own 3)] | _ => [])
  | .ret => [(2, .rd 3)]
  | _ => []
structure S24_2 where
  mk ::
  x0 : List GSpot
  x4 : Int
  x5 : Bool
  x6 : Int
  h0 : List Int
def VS24_2 (s : S24_2) : List AV := [.dsl 23 s.x0, .slf 0, .int .i64 s.x4, .bool s.x5, .int .i64 s.x6]
def HS24_2 (s : S24_2) : Heap := [(0, some (.row 3 s.h0))]
def dS24_2 (vs : List AV) (H : Heap) : Option S24_2 := match vs, H with
  | [bx0, .slf 0, .int .i64 x4, .bool x5, .int .i64 x6], [(0, bh0)] => (match (dslD 23 bx0 : Option (List GSpot)) with | some x0 => (match (rowD 3 bh0 : Option (List Int)) with | some h0 => some (⟨x0, x4, x5, x6, h0⟩ : S24_2) | none => none) | none => none)
  | _, _ => none
theorem dS24_2_ok (vs : List AV) (H : Heap) (s : S24_2) (h : dS24_2 vs H = some s) : vs = VS24_2 s ∧ H = HS24_2 s := by
  unfold dS24_2 at h
  split at h
  · skip
    split at h
    · rename_i q
      have q := dslD_ok q
      subst q
      split at h
      · rename_i q
        have q := rowD_ok q
        subst q
        cases h; exact ⟨rfl, rfl⟩
      · cases h
    · cases h
  · cases h
def tS24_2 : AExit → List (Nat × Kd) := fun x => match x with
  | .normal => [(0, .rd 23), (3, .rd 3), (4, .any), (5, .any), (6, .any)]
  | .exit i => (match i with | 2 => [(0, .rd 23), (3, .rd 3), (4, .any), (5, .any)] | 0 => [(3, .rd 3)] | 1 => [(0, .rd 23), (3, .rd 3), (4, .any)] | _ => [])
  | .ret => [(2, .rd 3)]
  | _ => []
structure E24_2 where
  mk ::
  x0 : List GSpot
  x4 : Int
  x5 : Bool
  h0 : List Int
def VE24_2 (s : E24_2) : List AV := [.dsl 23 s.x0, .slf 0, .int .i64 s.x4, .bool s.x5]
def HE24_2 (s : E24_2) : Heap := [(0, some (.row 3 s.h0))]
def dE24_2 (x : AExit) (vs : List AV) (H : Heap) : Option E24_2 := match x, vs, H with
  | .exit 2, [bx0, .slf 0, .int .i64 x4, .bool x5], [(0, bh0)] => (match (dslD 23 bx0 : Option (List GSpot)) with | some x0 => (match (rowD 3 bh0 : Option (List Int)) with | some h0 => some (⟨x0, x4, x5, h0⟩ : E24_2) | none => none) | none => none)
  | _, _, _ => none
theorem dE24_2_ok (x : AExit) (vs : List AV) (H : Heap) (s : E24_2) (h : dE24_2 x vs H = some s) : x = .exit 2 ∧ vs = VE24_2 s ∧ H = HE24_2 s := by
  unfold dE24_2 at h
  split at h
  · skip
    split at h
    · rename_i q
      have q := dslD_ok q
      subst q
      split at h
      · rename_i q
        have q := rowD_ok q
        subst q
        cases h; exact ⟨rfl, rfl, rfl⟩
      · cases h
    · cases h
  · cases h
def xE24_2 (_ : E24_2) : AExit := .exit 2
def pS24_2 (k : Nat) (s : S24_2) : Option (S24_2 ⊕ E24_2) :=
  br (decide (S24_2.x6 s < (↑(List.length (S24_2.x0 s)) : Int)))
   (br (S24_2.x5 s)
    (some (Sum.inl (S24_2.mk (S24_2.x0 s) (S24_2.x4 s) true (IntKind.wrap IntKind.i64 (S24_2.x6 s + (1 : Int))) (S24_2.h0 s))))
    (br (decide ((0 : Int) ≤ S24_2.x6 s ∧ S24_2.x6 s < (↑(List.length (S24_2.x0 s)) : Int)))
     (bindO (f19 k (List.getD (S24_2.x0 s) (Int.toNat (S24_2.x6 s)) default)) fun r1499 =>
      br r1499
       (br (decide ((0 : Int) ≤ S24_2.x6 s ∧ S24_2.x6 s < (↑(List.length (S24_2.x0 s)) : Int)))
        (some (Sum.inl (S24_2.mk (S24_2.x0 s) (S24_2.x4 s) (GSpot.bed (List.getD (S24_2.x0 s) (Int.toNat (S24_2.x6 s)) default) == S24_2.x4 s) (IntKind.wrap IntKind.i64 (S24_2.x6 s + (1 : Int))) (S24_2.h0 s))))
        (none))
       (some (Sum.inl (S24_2.mk (S24_2.x0 s) (S24_2.x4 s) false (IntKind.wrap IntKind.i64 (S24_2.x6 s + (1 : Int))) (S24_2.h0 s)))))
     (none)))
   (some (Sum.inr (E24_2.mk (S24_2.x0 s) (S24_2.x4 s) (S24_2.x5 s) (S24_2.h0 s))))
theorem pS24_2_run (k : Nat) (s : S24_2) : evC (S24_2 ⊕ E24_2) Tryd.prog (ntmpsAt Tryd.prog 24) (cf30 k) ((Lm30 k) 24) 200 (loopAt Tryd.prog 24 2) (zipE [(0, .rd 23), (3, .rd 3), (4, .any), (5, .any), (6, .any)] (VS24_2 s)) (HS24_2 s) (List.length (HS24_2 s)) (cutS plan 0 tS24_2 (rndT dS24_2 dE24_2)) = pS24_2 k s := by kernel_rfl
def l24_2 (k : Nat) (s : S24_2) : Option E24_2 := iterT (pS24_2 k) k s
def m24_2 (k : Nat) : LamS := lamT 2 dS24_2 (l24_2 k) (elAll _) tS24_2 xE24_2 VE24_2 HE24_2
theorem loop24_2 : isLoopAt Tryd.prog 24 2 = true := by kernel_rfl
theorem m24_2_ok (k : Nat) : LamSOk Tryd.prog (ntmpsAt Tryd.prog 24) 0 (.block 2 (.loop (loopAt Tryd.prog 24 2))) [(0, .rd 23), (3, .rd 3), (4, .any), (5, .any), (6, .any)] (m24_2 k) := lamT_ok (plan := plan) (kb := 0) (body_run noNum mixed (cf30_ok k) (Lm30_ok k) loop24_2) rfl dS24_2_ok dE24_2_ok (hel := elAll_ok) (pS24_2_run k) k
def Dl31 (k : Nat) : Delta := Dl30 k
def Lm31 (k : Nat) : FuncId → Nat → Option LamF := lCons 24 2 (lamBy plan [11, 12, 13, 14, 17, 18, 19, 20, 21, 22, 23, 24, 25, 26, 27, 28, 29, 30, 31, 32, 33, 5, 15, 16, 6] [(0, .rd 23), (3, .rd 3), (4, .any), (5, .any), (6, .any)] 0 (m24_2 k)) (Lm30 k)
theorem Dl31_ok (k : Nat) : DeltaOk Tryd.prog (Dl31 k) := Dl30_ok k
theorem Lm31_ok (k : Nat) : LamsOk Tryd.prog (Lm31 k) := lCons_ok (Lm30_ok k) loop24_2 (lamBy_ok (m24_2_ok k) (by kernel_rfl))
abbrev cf31 (k : Nat) : CallF := evF Tryd.prog (Dl31 k) (Lm31 k) 200 12
theorem cf31_ok (k : Nat) : CfOk Tryd.prog (cf31 k) := evF_ok noNum mixed (Dl31_ok k) (Lm31_ok k) 12
structure E24_0 where
  mk ::
  h0 : List Int
def VE24_0 (s : E24_0) : List AV := [.slf 0]
def HE24_0 (s : E24_0) : Heap := [(0, some (.row 3 s.h0))]
def dE24_0 (x : AExit) (vs : List AV) (H : Heap) : Option E24_0 := match x, vs, H with
  | .exit 0, [.slf 0], [(0, bh0)] => (match (rowD 3 bh0 : Option (List Int)) with | some h0 => some (⟨h0⟩ : E24_0) | none => none)
  | _, _, _ => none
theorem dE24_0_ok (x : AExit) (vs : List AV) (H : Heap) (s : E24_0) (h : dE24_0 x vs H = some s) : x = .exit 0 ∧ vs = VE24_0 s ∧ H = HE24_0 s := by
  unfold dE24_0 at h
  split at h
  · skip
    split at h
    · rename_i q
      have q := rowD_ok q
      subst q
      cases h; exact ⟨rfl, rfl, rfl⟩
    · cases h
  · cases h
def xE24_0 (_ : E24_0) : AExit := .exit 0
def pS24_0 (k : Nat) (s : S24_0) : Option (S24_0 ⊕ E24_0) :=
  br (decide (S24_0.x4 s ≤ (99 : Int)))
   (bindO (l24_2 k (S24_2.mk (S24_0.x0 s) (S24_0.x4 s) false (0 : Int) (S24_0.h0 s))) fun r1500 =>
    br (E24_2.x5 r1500)
     (br (true && decide ((List.length (E24_2.h0 r1500) + List.length [E24_2.x4 r1500]) * (8 : Nat) ≤ (140737488355328 : Nat)))
      (some (Sum.inl (S24_0.mk (E24_2.x0 r1500) (IntKind.wrap IntKind.i64 (E24_2.x4 r1500 + (1 : Int))) (E24_2.h0 r1500 ++ [E24_2.x4 r1500]))))
      (none))
     (some (Sum.inl (S24_0.mk (E24_2.x0 r1500) (IntKind.wrap IntKind.i64 (E24_2.x4 r1500 + (1 : Int))) (E24_2.h0 r1500)))))
   (some (Sum.inr (E24_0.mk (S24_0.h0 s))))
theorem pS24_0_run (k : Nat) (s : S24_0) : evC (S24_0 ⊕ E24_0) Tryd.prog (ntmpsAt Tryd.prog 24) (cf31 k) ((Lm31 k) 24) 200 (loopAt Tryd.prog 24 0) (zipE [(0, .rd 23), (3, .own 3), (4, .any)] (VS24_0 s)) (HS24_0 s) (List.length (HS24_0 s)) (cutS plan 0 tS24_0 (rndT dS24_0 dE24_0)) = pS24_0 k s := by kernel_rfl
def l24_0 (k : Nat) (s : S24_0) : Option E24_0 := iterT (pS24_0 k) k s
def m24_0 (k : Nat) : LamS := lamT 0 dS24_0 (l24_0 k) (elAll _) tS24_0 xE24_0 VE24_0 HE24_0
theorem loop24_0 : isLoopAt Tryd.prog 24 0 = true := by kernel_rfl
theorem m24_0_ok (k : Nat) : LamSOk Tryd.prog (ntmpsAt Tryd.prog 24) 0 (.block 0 (.loop (loopAt Tryd.prog 24 0))) [(0, .rd 23), (3, .own 3), (4, .any)] (m24_0 k) := lamT_ok (plan := plan) (kb := 0) (body_run noNum mixed (cf31_ok k) (Lm31_ok k) loop24_0) rfl dS24_0_ok dE24_0_ok (hel := elAll_ok) (pS24_0_run k) k
def Dl32 (k : Nat) : Delta := Dl31 k
def Lm32 (k : Nat) : FuncId → Nat → Option LamF := lCons 24 0 (lamBy plan [7, 8, 5, 6, 11, 12, 13, 14, 17, 18, 19, 20, 21, 22, 23, 24, 25, 26, 27, 28, 29, 30, 31, 32, 33, 5, 15, 16, 6, 34, 35, 36, 37, 38, 3, 9, 10, 4] [(0, .rd 23), (3, .own 3), (4, .any)] 0 (m24_0 k)) (Lm31 k)
theorem Dl32_ok (k : Nat) : DeltaOk Tryd.prog (Dl32 k) := Dl31_ok k
theorem Lm32_ok (k : Nat) : LamsOk Tryd.prog (Lm32 k) := lCons_ok (Lm31_ok k) loop24_0 (lamBy_ok (m24_0_ok k) (by kernel_rfl))
abbrev cf32 (k : Nat) : CallF := evF Tryd.prog (Dl32 k) (Lm32 k) 200 12
theorem cf32_ok (k : Nat) : CfOk Tryd.prog (cf32 k) := evF_ok noNum mixed (Dl32_ok k) (Lm32_ok k) 12
def f24 (k : Nat) (x0 : List GSpot) : Option R24 :=
  bindO (l24_0 k (S24_0.mk x0 (1 : Int) [])) fun r3000 =>
   some (E24_0.h0 r3000)
theorem f24_run (k : Nat) (x0 : List GSpot) : cf32 k R24 24 (A24 (x0)) [] 0 (endR planR (.fresh 3) [] 0 r24) = f24 k x0 := by kernel_rfl
def g24 (k : Nat) : CallS := entT d24 (fun p => f24 k p) (elAll _) (fun _ => o24) (fun _ => u24) (fun _ => n24)
theorem g24_ok (k : Nat) : CallSOk Tryd.prog 24 (g24 k) := entry_ok (Hp := fun _ => []) (oR := fun _ => o24) (uR := fun _ => u24) (nR := fun _ => n24) (cf32_ok k) d24_ok r24_ok (hel := elAll_ok) (fun p => f24_run k p)
def Dl33 (k : Nat) : Delta := dCons 24 (callAt plan [.rd 23] (g24 k)) (Dl32 k)
def Lm33 (k : Nat) : FuncId → Nat → Option LamF := Lm32 k
theorem Dl33_ok (k : Nat) : DeltaOk Tryd.prog (Dl33 k) := dCons_ok (Dl32_ok k) (g24_ok k)
theorem Lm33_ok (k : Nat) : LamsOk Tryd.prog (Lm33 k) := Lm32_ok k
abbrev cf33 (k : Nat) : CallF := evF Tryd.prog (Dl33 k) (Lm33 k) 200 12
theorem cf33_ok (k : Nat) : CfOk Tryd.prog (cf33 k) := evF_ok noNum mixed (Dl33_ok k) (Lm33_ok k) 12
abbrev P25 := List GSpot × List GSpot
def A25 (p : P25) : List AV := [.dsl 23 p.1, .dsl 23 p.2]
def d25 (a : List AV) (H : Heap) : Option P25 := match a, H with
  | [ba0, ba1], [] => (match (dslD 23 ba0 : Option (List GSpot)) with | some a0 => (match (dslD 23 ba1 : Option (List GSpot)) with | some a1 => some (a0, a1) | none => none) | none => none)
  | _, _ => none
theorem d25_ok (a : List AV) (H : Heap) (p : P25) (h : d25 a H = some p) : a = A25 p ∧ H = [] := by
  unfold d25 at h
  split at h
  · skip
    split at h
    · rename_i q
      have q := dslD_ok q
      subst q
      split at h
      · rename_i q
        have q := dslD_ok q
        subst q
        cases h; exact ⟨rfl, rfl⟩
      · cases h
    · cases h
  · cases h
abbrev R25 := Bool
def o25 (r : R25) : AEnd := .ret (.bool r)
def u25 (r : R25) : Heap := []
def n25 (_ : R25) : Nat := 0
def r25 (o : AEnd) (u : Heap) (n : Nat) : Option R25 := match o, u, n with
  | .ret (.bool a0), [], 0 => some (a0)
  | _, _, _ => none
theorem r25_ok (p : P25) (o : AEnd) (u : Heap) (n : Nat) (r : R25) (h : r25 o u n = some r) : o = o25 r ∧ u = u25 r ∧ n = n25 r := by
  unfold r25 at h
  split at h
  · skip
    cases h; exact ⟨rfl, rfl, rfl⟩
  · cases h
structure S25_0 where
  mk ::
  x0 : List GSpot
  x1 : List GSpot
  x5 : Int
def VS25_0 (s : S25_0) : List AV := [.dsl 23 s.x0, .dsl 23 s.x1, .int .i64 s.x5]
def HS25_0 (s : S25_0) : Heap := []
def dS25_0 (vs : List AV) (H : Heap) : Option S25_0 := match vs, H with
  | [bx0, bx1, .int .i64 x5], [] => (match (dslD 23 bx0 : Option (List GSpot)) with | some x0 => (match (dslD 23 bx1 : Option (List GSpot)) with | some x1 => some (⟨x0, x1, x5⟩ : S25_0) | none => none) | none => none)
  | _, _ => none
theorem dS25_0_ok (vs : List AV) (H : Heap) (s : S25_0) (h : dS25_0 vs H = some s) : vs = VS25_0 s ∧ H = HS25_0 s := by
  unfold dS25_0 at h
  split at h
  · skip
    split at h
    · rename_i q
      have q := dslD_ok q
      subst q
      split at h
      · rename_i q
        have q := dslD_ok q
        subst q
        cases h; exact ⟨rfl, rfl⟩
      · cases h
    · cases h
  · cases h
def tS25_0 : AExit → List (Nat × Kd) := fun x => match x with
  | .normal => [(0, .rd 23), (1, .rd 23), (5, .any)]
  | .exit i => (match i with | 0 => [] | _ => [])
  | .ret => [(4, .any)]
  | _ => []
structure E25_0 where
  mk ::
  x4 : Bool
def VE25_0 (s : E25_0) : List AV := [.bool s.x4]
def HE25_0 (s : E25_0) : Heap := []
def dE25_0 (x : AExit) (vs : List AV) (H : Heap) : Option E25_0 := match x, vs, H with
  | .ret, [.bool x4], [] => some (⟨x4⟩ : E25_0)
  | _, _, _ => none
theorem dE25_0_ok (x : AExit) (vs : List AV) (H : Heap) (s : E25_0) (h : dE25_0 x vs H = some s) : x = .ret ∧ vs = VE25_0 s ∧ H = HE25_0 s := by
  unfold dE25_0 at h
  split at h
  · skip
    cases h; exact ⟨rfl, rfl, rfl⟩
  · cases h
structure E25_0b where
  mk ::
def VE25_0b (s : E25_0b) : List AV := []
def HE25_0b (s : E25_0b) : Heap := []
def dE25_0b (x : AExit) (vs : List AV) (H : Heap) : Option E25_0b := match x, vs, H with
  | .exit 0, [], [] => some (⟨⟩ : E25_0b)
  | _, _, _ => none
theorem dE25_0b_ok (x : AExit) (vs : List AV) (H : Heap) (s : E25_0b) (h : dE25_0b x vs H = some s) : x = .exit 0 ∧ vs = VE25_0b s ∧ H = HE25_0b s := by
  unfold dE25_0b at h
  split at h
  · skip
    cases h; exact ⟨rfl, rfl, rfl⟩
  · cases h
abbrev EE25_0 := E25_0 ⊕ E25_0b
def xEE25_0 (e : EE25_0) : AExit := match e with | .inl _ => .ret | .inr _ => .exit 0
def VEE25_0 (e : EE25_0) : List AV := match e with | .inl s => VE25_0 s | .inr s => VE25_0b s
def HEE25_0 (e : EE25_0) : Heap := match e with | .inl s => HE25_0 s | .inr s => HE25_0b s
def dEE25_0 (x : AExit) (vs : List AV) (H : Heap) : Option EE25_0 := match dE25_0 x vs H with | some s => some (.inl s) | none => (match dE25_0b x vs H with | some s => some (.inr s) | none => none)
theorem dEE25_0_ok (x : AExit) (vs : List AV) (H : Heap) (s : EE25_0) (h : dEE25_0 x vs H = some s) : x = xEE25_0 s ∧ vs = VEE25_0 s ∧ H = HEE25_0 s := by
  unfold dEE25_0 at h
  split at h
  · rename_i q; cases h; exact dE25_0_ok _ _ _ _ q
  · split at h
    · rename_i q; cases h; exact dE25_0b_ok _ _ _ _ q
    · cases h
def pS25_0 (k : Nat) (s : S25_0) : Option (S25_0 ⊕ EE25_0) :=
  br (decide (S25_0.x5 s < (↑(List.length (S25_0.x0 s)) : Int)))
   (br (decide ((0 : Int) ≤ S25_0.x5 s ∧ S25_0.x5 s < (↑(List.length (S25_0.x0 s)) : Int)))
    (br (decide ((0 : Int) ≤ S25_0.x5 s ∧ S25_0.x5 s < (↑(List.length (S25_0.x1 s)) : Int)))
     (br (!(GSpot.bed (List.getD (S25_0.x0 s) (Int.toNat (S25_0.x5 s)) default) == GSpot.bed (List.getD (S25_0.x1 s) (Int.toNat (S25_0.x5 s)) default) && GSpot.channel (List.getD (S25_0.x0 s) (Int.toNat (S25_0.x5 s)) default) == GSpot.channel (List.getD (S25_0.x1 s) (Int.toNat (S25_0.x5 s)) default)))
      (some (Sum.inr (Sum.inl (E25_0.mk false))))
      (some (Sum.inl (S25_0.mk (S25_0.x0 s) (S25_0.x1 s) (IntKind.wrap IntKind.i64 (S25_0.x5 s + (1 : Int)))))))
     (none))
    (none))
   (some (Sum.inr (Sum.inr E25_0b.mk)))
theorem pS25_0_run (k : Nat) (s : S25_0) : evC (S25_0 ⊕ EE25_0) Tryd.prog (ntmpsAt Tryd.prog 25) (cf33 k) ((Lm33 k) 25) 200 (loopAt Tryd.prog 25 0) (zipE [(0, .rd 23), (1, .rd 23), (5, .any)] (VS25_0 s)) (HS25_0 s) (List.length (HS25_0 s)) (cutS plan 0 tS25_0 (rndT dS25_0 dEE25_0)) = pS25_0 k s := by kernel_rfl
def l25_0 (k : Nat) (s : S25_0) : Option EE25_0 := iterT (pS25_0 k) k s
def m25_0 (k : Nat) : LamS := lamT 0 dS25_0 (l25_0 k) (elSum (elAll _) (elAll _)) tS25_0 xEE25_0 VEE25_0 HEE25_0
theorem loop25_0 : isLoopAt Tryd.prog 25 0 = true := by kernel_rfl
theorem m25_0_ok (k : Nat) : LamSOk Tryd.prog (ntmpsAt Tryd.prog 25) 0 (.block 0 (.loop (loopAt Tryd.prog 25 0))) [(0, .rd 23), (1, .rd 23), (5, .any)] (m25_0 k) := lamT_ok (plan := plan) (kb := 0) (body_run noNum mixed (cf33_ok k) (Lm33_ok k) loop25_0) rfl dS25_0_ok dEE25_0_ok (hel := (elSum_ok elAll_ok elAll_ok)) (pS25_0_run k) k
def Dl34 (k : Nat) : Delta := Dl33 k
def Lm34 (k : Nat) : FuncId → Nat → Option LamF := lCons 25 0 (lamBy plan [11, 12, 13, 14, 17, 18, 19, 20, 21, 22, 23, 24, 25, 4, 15, 16, 5] [(0, .rd 23), (1, .rd 23), (5, .any)] 0 (m25_0 k)) (Lm33 k)
theorem Dl34_ok (k : Nat) : DeltaOk Tryd.prog (Dl34 k) := Dl33_ok k
theorem Lm34_ok (k : Nat) : LamsOk Tryd.prog (Lm34 k) := lCons_ok (Lm33_ok k) loop25_0 (lamBy_ok (m25_0_ok k) (by kernel_rfl))
abbrev cf34 (k : Nat) : CallF := evF Tryd.prog (Dl34 k) (Lm34 k) 200 12
theorem cf34_ok (k : Nat) : CfOk Tryd.prog (cf34 k) := evF_ok noNum mixed (Dl34_ok k) (Lm34_ok k) 12
def f25 (k : Nat) (x0 : List GSpot) (x1 : List GSpot) : Option R25 :=
  br ((↑(List.length x0) : Int) != (↑(List.length x1) : Int))
   (some false)
   (bindO (l25_0 k (S25_0.mk x0 x1 (0 : Int))) fun r2999 =>
    match r2999 with
    | .inl c2998 => some (E25_0.x4 c2998)
    | .inr c2998 => some true)
theorem f25_run (k : Nat) (x0 : List GSpot) (x1 : List GSpot) : cf34 k R25 25 (A25 (x0, x1)) [] 0 (endR planR (.any) [] 0 r25) = f25 k x0 x1 := by kernel_rfl
def g25 (k : Nat) : CallS := entT d25 (fun p => f25 k p.1 p.2) (elAll _) (fun _ => o25) (fun _ => u25) (fun _ => n25)
theorem g25_ok (k : Nat) : CallSOk Tryd.prog 25 (g25 k) := entry_ok (Hp := fun _ => []) (oR := fun _ => o25) (uR := fun _ => u25) (nR := fun _ => n25) (cf34_ok k) d25_ok r25_ok (hel := elAll_ok) (fun p => f25_run k p.1 p.2)
def Dl35 (k : Nat) : Delta := dCons 25 (callAt plan [.rd 23, .rd 23] (g25 k)) (Dl34 k)
def Lm35 (k : Nat) : FuncId → Nat → Option LamF := Lm34 k
theorem Dl35_ok (k : Nat) : DeltaOk Tryd.prog (Dl35 k) := dCons_ok (Dl34_ok k) (g25_ok k)
theorem Lm35_ok (k : Nat) : LamsOk Tryd.prog (Lm35 k) := Lm34_ok k
abbrev cf35 (k : Nat) : CallF := evF Tryd.prog (Dl35 k) (Lm35 k) 200 12
theorem cf35_ok (k : Nat) : CfOk Tryd.prog (cf35 k) := evF_ok noNum mixed (Dl35_ok k) (Lm35_ok k) 12
abbrev P7 := Int
def A7 (p : P7) : List AV := [.int .i64 p]
def d7 (a : List AV) (H : Heap) : Option P7 := match a, H with
  | [.int .i64 a0], [] => some (a0)
  | _, _ => none
theorem d7_ok (a : List AV) (H : Heap) (p : P7) (h : d7 a H = some p) : a = A7 p ∧ H = [] := by
  unfold d7 at h
  split at h
  · skip
    cases h; exact ⟨rfl, rfl⟩
  · cases h
abbrev R7 := Bool
def o7 (r : R7) : AEnd := .ret (.bool r)
def u7 (r : R7) : Heap := []
def n7 (_ : R7) : Nat := 0
def r7 (o : AEnd) (u : Heap) (n : Nat) : Option R7 := match o, u, n with
  | .ret (.bool a0), [], 0 => some (a0)
  | _, _, _ => none
theorem r7_ok (p : P7) (o : AEnd) (u : Heap) (n : Nat) (r : R7) (h : r7 o u n = some r) : o = o7 r ∧ u = u7 r ∧ n = n7 r := by
  unfold r7 at h
  split at h
  · skip
    cases h; exact ⟨rfl, rfl, rfl⟩
  · cases h
structure S7_0 where
  mk ::
  x0 : Int
  x3 : Int
def VS7_0 (s : S7_0) : List AV := [.int .i64 s.x0, .int .i64 s.x3]
def HS7_0 (s : S7_0) : Heap := []
def dS7_0 (vs : List AV) (H : Heap) : Option S7_0 := match vs, H with
  | [.int .i64 x0, .int .i64 x3], [] => some (⟨x0, x3⟩ : S7_0)
  | _, _ => none
theorem dS7_0_ok (vs : List AV) (H : Heap) (s : S7_0) (h : dS7_0 vs H = some s) : vs = VS7_0 s ∧ H = HS7_0 s := by
  unfold dS7_0 at h
  split at h
  · skip
    cases h; exact ⟨rfl, rfl⟩
  · cases h
def tS7_0 : AExit → List (Nat × Kd) := fun x => match x with
  | .normal => [(0, .any), (3, .any)]
  | .exit i => (match i with | 0 => [] | _ => [])
  | .ret => [(2, .any)]
  | _ => []
structure E7_0 where
  mk ::
  x2 : Bool
def VE7_0 (s : E7_0) : List AV := [.bool s.x2]
def HE7_0 (s : E7_0) : Heap := []
def dE7_0 (x : AExit) (vs : List AV) (H : Heap) : Option E7_0 := match x, vs, H with
  | .ret, [.bool x2], [] => some (⟨x2⟩ : E7_0)
  | _, _, _ => none
theorem dE7_0_ok (x : AExit) (vs : List AV) (H : Heap) (s : E7_0) (h : dE7_0 x vs H = some s) : x = .ret ∧ vs = VE7_0 s ∧ H = HE7_0 s := by
  unfold dE7_0 at h
  split at h
  · skip
    cases h; exact ⟨rfl, rfl, rfl⟩
  · cases h
structure E7_0b where
  mk ::
def VE7_0b (s : E7_0b) : List AV := []
def HE7_0b (s : E7_0b) : Heap := []
def dE7_0b (x : AExit) (vs : List AV) (H : Heap) : Option E7_0b := match x, vs, H with
  | .exit 0, [], [] => some (⟨⟩ : E7_0b)
  | _, _, _ => none
theorem dE7_0b_ok (x : AExit) (vs : List AV) (H : Heap) (s : E7_0b) (h : dE7_0b x vs H = some s) : x = .exit 0 ∧ vs = VE7_0b s ∧ H = HE7_0b s := by
  unfold dE7_0b at h
  split at h
  · skip
    cases h; exact ⟨rfl, rfl, rfl⟩
  · cases h
abbrev EE7_0 := E7_0 ⊕ E7_0b
def xEE7_0 (e : EE7_0) : AExit := match e with | .inl _ => .ret | .inr _ => .exit 0
def VEE7_0 (e : EE7_0) : List AV := match e with | .inl s => VE7_0 s | .inr s => VE7_0b s
def HEE7_0 (e : EE7_0) : Heap := match e with | .inl s => HE7_0 s | .inr s => HE7_0b s
def dEE7_0 (x : AExit) (vs : List AV) (H : Heap) : Option EE7_0 := match dE7_0 x vs H with | some s => some (.inl s) | none => (match dE7_0b x vs H with | some s => some (.inr s) | none => none)
theorem dEE7_0_ok (x : AExit) (vs : List AV) (H : Heap) (s : EE7_0) (h : dEE7_0 x vs H = some s) : x = xEE7_0 s ∧ vs = VEE7_0 s ∧ H = HEE7_0 s := by
  unfold dEE7_0 at h
  split at h
  · rename_i q; cases h; exact dE7_0_ok _ _ _ _ q
  · split at h
    · rename_i q; cases h; exact dE7_0b_ok _ _ _ _ q
    · cases h
def pS7_0 (k : Nat) (s : S7_0) : Option (S7_0 ⊕ EE7_0) :=
  br (decide (S7_0.x3 s < (8 : Int)))
   (bindO (f9 k (GSpot.mk (S7_0.x0 s) (S7_0.x3 s))) fun r1500 =>
    bindO (f9 k (GSpot.mk (IntKind.wrap IntKind.i64 (S7_0.x0 s + (1 : Int))) (S7_0.x3 s))) fun r1499 =>
     bindO (f9 k (GSpot.mk (S7_0.x0 s) (0 : Int))) fun r1498 =>
      br (Prod.snd r1500 != (0 : Int))
       (some (Sum.inr (Sum.inl (E7_0.mk false))))
       (br (Prod.snd r1499 != (0 : Int))
        (some (Sum.inr (Sum.inl (E7_0.mk false))))
        (br (Prod.snd r1498 != (0 : Int))
         (some (Sum.inr (Sum.inl (E7_0.mk false))))
         (br (Prod.fst r1500 != IntKind.wrap IntKind.i64 (Prod.fst r1498 + S7_0.x3 s))
          (some (Sum.inr (Sum.inl (E7_0.mk false))))
          (br (Prod.fst r1499 != IntKind.wrap IntKind.i64 (Prod.fst r1500 + (8 : Int)))
           (some (Sum.inr (Sum.inl (E7_0.mk false))))
           (bindO (f20 k (GSpot.mk (S7_0.x0 s) (7 : Int)) (GSpot.mk (IntKind.wrap IntKind.i64 (S7_0.x0 s + (1 : Int))) (S7_0.x3 s))) fun r1492 =>
            br (!r1492)
             (some (Sum.inr (Sum.inl (E7_0.mk false))))
             (some (Sum.inl (S7_0.mk (S7_0.x0 s) (IntKind.wrap IntKind.i64 (S7_0.x3 s + (1 : Int))))))))))))
   (some (Sum.inr (Sum.inr E7_0b.mk)))
theorem pS7_0_run (k : Nat) (s : S7_0) : evC (S7_0 ⊕ EE7_0) Tryd.prog (ntmpsAt Tryd.prog 7) (cf35 k) ((Lm35 k) 7) 200 (loopAt Tryd.prog 7 0) (zipE [(0, .any), (3, .any)] (VS7_0 s)) (HS7_0 s) (List.length (HS7_0 s)) (cutS plan 0 tS7_0 (rndT dS7_0 dEE7_0)) = pS7_0 k s := by kernel_rfl
def l7_0 (k : Nat) (s : S7_0) : Option EE7_0 := iterT (pS7_0 k) k s
def m7_0 (k : Nat) : LamS := lamT 0 dS7_0 (l7_0 k) (elSum (elAll _) (elAll _)) tS7_0 xEE7_0 VEE7_0 HEE7_0
theorem loop7_0 : isLoopAt Tryd.prog 7 0 = true := by kernel_rfl
theorem m7_0_ok (k : Nat) : LamSOk Tryd.prog (ntmpsAt Tryd.prog 7) 0 (.block 0 (.loop (loopAt Tryd.prog 7 0))) [(0, .any), (3, .any)] (m7_0 k) := lamT_ok (plan := plan) (kb := 0) (body_run noNum mixed (cf35_ok k) (Lm35_ok k) loop7_0) rfl dS7_0_ok dEE7_0_ok (hel := (elSum_ok elAll_ok elAll_ok)) (pS7_0_run k) k
def Dl36 (k : Nat) : Delta := Dl35 k
def Lm36 (k : Nat) : FuncId → Nat → Option LamF := lCons 7 0 (lamBy plan [17, 18, 22, 23, 24, 25, 21, 26, 27, 4, 5, 29, 30, 31, 32, 33, 28, 34, 35, 6, 7, 37, 38, 39, 36, 40, 41, 8, 9, 42, 43, 44, 45, 46, 47, 48, 49, 50, 51, 52, 53, 54, 55, 56, 57, 58, 59, 60, 61, 62, 63, 64, 65, 66, 67, 68, 69, 70, 71, 72, 73, 74, 2, 19, 20, 3] [(0, .any), (3, .any)] 0 (m7_0 k)) (Lm35 k)
theorem Dl36_ok (k : Nat) : DeltaOk Tryd.prog (Dl36 k) := Dl35_ok k
theorem Lm36_ok (k : Nat) : LamsOk Tryd.prog (Lm36 k) := lCons_ok (Lm35_ok k) loop7_0 (lamBy_ok (m7_0_ok k) (by kernel_rfl))
abbrev cf36 (k : Nat) : CallF := evF Tryd.prog (Dl36 k) (Lm36 k) 200 12
theorem cf36_ok (k : Nat) : CfOk Tryd.prog (cf36 k) := evF_ok noNum mixed (Dl36_ok k) (Lm36_ok k) 12
def f7 (k : Nat) (x0 : Int) : Option R7 :=
  br (decide (x0 < (1 : Int)))
   (some true)
   (br (decide (x0 > (98 : Int)))
    (some true)
    (bindO (l7_0 k (S7_0.mk x0 (0 : Int))) fun r2998 =>
     match r2998 with
     | .inl c2997 => some (E7_0.x2 c2997)
     | .inr c2997 => some true))
theorem f7_run (k : Nat) (x0 : Int) : cf36 k R7 7 (A7 (x0)) [] 0 (endR planR (.any) [] 0 r7) = f7 k x0 := by kernel_rfl
def g7 (k : Nat) : CallS := entT d7 (fun p => f7 k p) (elAll _) (fun _ => o7) (fun _ => u7) (fun _ => n7)
theorem g7_ok (k : Nat) : CallSOk Tryd.prog 7 (g7 k) := entry_ok (Hp := fun _ => []) (oR := fun _ => o7) (uR := fun _ => u7) (nR := fun _ => n7) (cf36_ok k) d7_ok r7_ok (hel := elAll_ok) (fun p => f7_run k p)
def Dl37 (k : Nat) : Delta := dCons 7 (callAt plan [.any] (g7 k)) (Dl36 k)
def Lm37 (k : Nat) : FuncId → Nat → Option LamF := Lm36 k
theorem Dl37_ok (k : Nat) : DeltaOk Tryd.prog (Dl37 k) := dCons_ok (Dl36_ok k) (g7_ok k)
theorem Lm37_ok (k : Nat) : LamsOk Tryd.prog (Lm37 k) := Lm36_ok k
abbrev cf37 (k : Nat) : CallF := evF Tryd.prog (Dl37 k) (Lm37 k) 200 12
theorem cf37_ok (k : Nat) : CfOk Tryd.prog (cf37 k) := evF_ok noNum mixed (Dl37_ok k) (Lm37_ok k) 12
abbrev P5 := GSpot × GSpot × GSpot
def A5 (p : P5) : List AV := [.agg [.int .i64 p.1.bed, .int .i64 p.1.channel], .agg [.int .i64 p.2.1.bed, .int .i64 p.2.1.channel], .agg [.int .i64 p.2.2.bed, .int .i64 p.2.2.channel]]
def d5 (a : List AV) (H : Heap) : Option P5 := match a, H with
  | [.agg [.int .i64 a0, .int .i64 a1], .agg [.int .i64 a2, .int .i64 a3], .agg [.int .i64 a4, .int .i64 a5]], [] => some ((⟨a0, a1⟩ : GSpot), (⟨a2, a3⟩ : GSpot), (⟨a4, a5⟩ : GSpot))
  | _, _ => none
theorem d5_ok (a : List AV) (H : Heap) (p : P5) (h : d5 a H = some p) : a = A5 p ∧ H = [] := by
  unfold d5 at h
  split at h
  · skip
    cases h; exact ⟨rfl, rfl⟩
  · cases h
abbrev R5 := Bool
def o5 (r : R5) : AEnd := .ret (.bool r)
def u5 (r : R5) : Heap := []
def n5 (_ : R5) : Nat := 0
def r5 (o : AEnd) (u : Heap) (n : Nat) : Option R5 := match o, u, n with
  | .ret (.bool a0), [], 0 => some (a0)
  | _, _, _ => none
theorem r5_ok (p : P5) (o : AEnd) (u : Heap) (n : Nat) (r : R5) (h : r5 o u n = some r) : o = o5 r ∧ u = u5 r ∧ n = n5 r := by
  unfold r5 at h
  split at h
  · skip
    cases h; exact ⟨rfl, rfl, rfl⟩
  · cases h
def f5 (k : Nat) (x0 : GSpot) (x1 : GSpot) (x2 : GSpot) : Option R5 :=
  bindO (f9 k x0) fun r3000 =>
   bindO (f9 k x1) fun r2999 =>
    br (Prod.snd r3000 == (0 : Int))
     (br (Prod.snd r2999 == (0 : Int))
      (bindO (f20 k x0 x1) fun r2998 =>
       br (!r2998 == decide (Prod.fst r3000 < Prod.fst r2999))
        (some false)
        (bindO (f20 k x0 x1) fun r2996 =>
         br r2996
          (bindO (f20 k x1 x2) fun r2995 =>
           br r2995
            (bindO (f20 k x0 x2) fun r2994 =>
             br (!r2994)
              (some false)
              (bindO (f20 k x0 x1) fun r2992 =>
               br r2992
                (bindO (f20 k x1 x0) fun r2991 =>
                 br r2991
                  (some false)
                  (bindO (f20 k x0 x1) fun r2989 =>
                   br (!r2989)
                    (bindO (f20 k x1 x0) fun r2988 =>
                     some ((GSpot.bed x0 == GSpot.bed x1 && GSpot.channel x0 == GSpot.channel x1) == !r2988))
                    (some ((GSpot.bed x0 == GSpot.bed x1 && GSpot.channel x0 == GSpot.channel x1) == false))))
                (bindO (f20 k x0 x1) fun r2985 =>
                 br (!r2985)
                  (bindO (f20 k x1 x0) fun r2984 =>
                   some ((GSpot.bed x0 == GSpot.bed x1 && GSpot.channel x0 == GSpot.channel x1) == !r2984))
                  (some ((GSpot.bed x0 == GSpot.bed x1 && GSpot.channel x0 == GSpot.channel x1) == false)))))
            (bindO (f20 k x0 x1) fun r2981 =>
             br r2981
              (bindO (f20 k x1 x0) fun r2980 =>
               br r2980
                (some false)
                (bindO (f20 k x0 x1) fun r2978 =>
                 br (!r2978)
                  (bindO (f20 k x1 x0) fun r2977 =>
                   some ((GSpot.bed x0 == GSpot.bed x1 && GSpot.channel x0 == GSpot.channel x1) == !r2977))
                  (some ((GSpot.bed x0 == GSpot.bed x1 && GSpot.channel x0 == GSpot.channel x1) == false))))
              (bindO (f20 k x0 x1) fun r2974 =>
               br (!r2974)
                (bindO (f20 k x1 x0) fun r2973 =>
                 some ((GSpot.bed x0 == GSpot.bed x1 && GSpot.channel x0 == GSpot.channel x1) == !r2973))
                (some ((GSpot.bed x0 == GSpot.bed x1 && GSpot.channel x0 == GSpot.channel x1) == false)))))
          (bindO (f20 k x0 x1) fun r2970 =>
           br r2970
            (bindO (f20 k x1 x0) fun r2969 =>
             br r2969
              (some false)
              (bindO (f20 k x0 x1) fun r2967 =>
               br (!r2967)
                (bindO (f20 k x1 x0) fun r2966 =>
                 some ((GSpot.bed x0 == GSpot.bed x1 && GSpot.channel x0 == GSpot.channel x1) == !r2966))
                (some ((GSpot.bed x0 == GSpot.bed x1 && GSpot.channel x0 == GSpot.channel x1) == false))))
            (bindO (f20 k x0 x1) fun r2963 =>
             br (!r2963)
              (bindO (f20 k x1 x0) fun r2962 =>
               some ((GSpot.bed x0 == GSpot.bed x1 && GSpot.channel x0 == GSpot.channel x1) == !r2962))
              (some ((GSpot.bed x0 == GSpot.bed x1 && GSpot.channel x0 == GSpot.channel x1) == false))))))
      (bindO (f20 k x0 x1) fun r2959 =>
       br r2959
        (bindO (f20 k x1 x2) fun r2958 =>
         br r2958
          (bindO (f20 k x0 x2) fun r2957 =>
           br (!r2957)
            (some false)
            (bindO (f20 k x0 x1) fun r2955 =>
             br r2955
              (bindO (f20 k x1 x0) fun r2954 =>
               br r2954
                (some false)
                (bindO (f20 k x0 x1) fun r2952 =>
                 br (!r2952)
                  (bindO (f20 k x1 x0) fun r2951 =>
                   some ((GSpot.bed x0 == GSpot.bed x1 && GSpot.channel x0 == GSpot.channel x1) == !r2951))
                  (some ((GSpot.bed x0 == GSpot.bed x1 && GSpot.channel x0 == GSpot.channel x1) == false))))
              (bindO (f20 k x0 x1) fun r2948 =>
               br (!r2948)
                (bindO (f20 k x1 x0) fun r2947 =>
                 some ((GSpot.bed x0 == GSpot.bed x1 && GSpot.channel x0 == GSpot.channel x1) == !r2947))
                (some ((GSpot.bed x0 == GSpot.bed x1 && GSpot.channel x0 == GSpot.channel x1) == false)))))
          (bindO (f20 k x0 x1) fun r2944 =>
           br r2944
            (bindO (f20 k x1 x0) fun r2943 =>
             br r2943
              (some false)
              (bindO (f20 k x0 x1) fun r2941 =>
               br (!r2941)
                (bindO (f20 k x1 x0) fun r2940 =>
                 some ((GSpot.bed x0 == GSpot.bed x1 && GSpot.channel x0 == GSpot.channel x1) == !r2940))
                (some ((GSpot.bed x0 == GSpot.bed x1 && GSpot.channel x0 == GSpot.channel x1) == false))))
            (bindO (f20 k x0 x1) fun r2937 =>
             br (!r2937)
              (bindO (f20 k x1 x0) fun r2936 =>
               some ((GSpot.bed x0 == GSpot.bed x1 && GSpot.channel x0 == GSpot.channel x1) == !r2936))
              (some ((GSpot.bed x0 == GSpot.bed x1 && GSpot.channel x0 == GSpot.channel x1) == false)))))
        (bindO (f20 k x0 x1) fun r2933 =>
         br r2933
          (bindO (f20 k x1 x0) fun r2932 =>
           br r2932
            (some false)
            (bindO (f20 k x0 x1) fun r2930 =>
             br (!r2930)
              (bindO (f20 k x1 x0) fun r2929 =>
               some ((GSpot.bed x0 == GSpot.bed x1 && GSpot.channel x0 == GSpot.channel x1) == !r2929))
              (some ((GSpot.bed x0 == GSpot.bed x1 && GSpot.channel x0 == GSpot.channel x1) == false))))
          (bindO (f20 k x0 x1) fun r2926 =>
           br (!r2926)
            (bindO (f20 k x1 x0) fun r2925 =>
             some ((GSpot.bed x0 == GSpot.bed x1 && GSpot.channel x0 == GSpot.channel x1) == !r2925))
            (some ((GSpot.bed x0 == GSpot.bed x1 && GSpot.channel x0 == GSpot.channel x1) == false))))))
     (bindO (f20 k x0 x1) fun r2922 =>
      br r2922
       (bindO (f20 k x1 x2) fun r2921 =>
        br r2921
         (bindO (f20 k x0 x2) fun r2920 =>
          br (!r2920)
           (some false)
           (bindO (f20 k x0 x1) fun r2918 =>
            br r2918
             (bindO (f20 k x1 x0) fun r2917 =>
              br r2917
               (some false)
               (bindO (f20 k x0 x1) fun r2915 =>
                br (!r2915)
                 (bindO (f20 k x1 x0) fun r2914 =>
                  some ((GSpot.bed x0 == GSpot.bed x1 && GSpot.channel x0 == GSpot.channel x1) == !r2914))
                 (some ((GSpot.bed x0 == GSpot.bed x1 && GSpot.channel x0 == GSpot.channel x1) == false))))
             (bindO (f20 k x0 x1) fun r2911 =>
              br (!r2911)
               (bindO (f20 k x1 x0) fun r2910 =>
                some ((GSpot.bed x0 == GSpot.bed x1 && GSpot.channel x0 == GSpot.channel x1) == !r2910))
               (some ((GSpot.bed x0 == GSpot.bed x1 && GSpot.channel x0 == GSpot.channel x1) == false)))))
         (bindO (f20 k x0 x1) fun r2907 =>
          br r2907
           (bindO (f20 k x1 x0) fun r2906 =>
            br r2906
             (some false)
             (bindO (f20 k x0 x1) fun r2904 =>
              br (!r2904)
               (bindO (f20 k x1 x0) fun r2903 =>
                some ((GSpot.bed x0 == GSpot.bed x1 && GSpot.channel x0 == GSpot.channel x1) == !r2903))
               (some ((GSpot.bed x0 == GSpot.bed x1 && GSpot.channel x0 == GSpot.channel x1) == false))))
           (bindO (f20 k x0 x1) fun r2900 =>
            br (!r2900)
             (bindO (f20 k x1 x0) fun r2899 =>
              some ((GSpot.bed x0 == GSpot.bed x1 && GSpot.channel x0 == GSpot.channel x1) == !r2899))
             (some ((GSpot.bed x0 == GSpot.bed x1 && GSpot.channel x0 == GSpot.channel x1) == false)))))
       (bindO (f20 k x0 x1) fun r2896 =>
        br r2896
         (bindO (f20 k x1 x0) fun r2895 =>
          br r2895
           (some false)
           (bindO (f20 k x0 x1) fun r2893 =>
            br (!r2893)
             (bindO (f20 k x1 x0) fun r2892 =>
              some ((GSpot.bed x0 == GSpot.bed x1 && GSpot.channel x0 == GSpot.channel x1) == !r2892))
             (some ((GSpot.bed x0 == GSpot.bed x1 && GSpot.channel x0 == GSpot.channel x1) == false))))
         (bindO (f20 k x0 x1) fun r2889 =>
          br (!r2889)
           (bindO (f20 k x1 x0) fun r2888 =>
            some ((GSpot.bed x0 == GSpot.bed x1 && GSpot.channel x0 == GSpot.channel x1) == !r2888))
           (some ((GSpot.bed x0 == GSpot.bed x1 && GSpot.channel x0 == GSpot.channel x1) == false)))))
theorem f5_run (k : Nat) (x0 : GSpot) (x1 : GSpot) (x2 : GSpot) : cf37 k R5 5 (A5 (x0, x1, x2)) [] 0 (endR planR (.any) [] 0 r5) = f5 k x0 x1 x2 := by kernel_rfl
def g5 (k : Nat) : CallS := entT d5 (fun p => f5 k p.1 p.2.1 p.2.2) (elAll _) (fun _ => o5) (fun _ => u5) (fun _ => n5)
theorem g5_ok (k : Nat) : CallSOk Tryd.prog 5 (g5 k) := entry_ok (Hp := fun _ => []) (oR := fun _ => o5) (uR := fun _ => u5) (nR := fun _ => n5) (cf37_ok k) d5_ok r5_ok (hel := elAll_ok) (fun p => f5_run k p.1 p.2.1 p.2.2)
def Dl38 (k : Nat) : Delta := dCons 5 (callAt plan [.any, .any, .any] (g5 k)) (Dl37 k)
def Lm38 (k : Nat) : FuncId → Nat → Option LamF := Lm37 k
theorem Dl38_ok (k : Nat) : DeltaOk Tryd.prog (Dl38 k) := dCons_ok (Dl37_ok k) (g5_ok k)
theorem Lm38_ok (k : Nat) : LamsOk Tryd.prog (Lm38 k) := Lm37_ok k
abbrev cf38 (k : Nat) : CallF := evF Tryd.prog (Dl38 k) (Lm38 k) 200 12
theorem cf38_ok (k : Nat) : CfOk Tryd.prog (cf38 k) := evF_ok noNum mixed (Dl38_ok k) (Lm38_ok k) 12
abbrev P6 := List GSpot
def A6 (p : P6) : List AV := [.dsl 23 p]
def d6 (a : List AV) (H : Heap) : Option P6 := match a, H with
  | [ba0], [] => (match (dslD 23 ba0 : Option (List GSpot)) with | some a0 => some (a0) | none => none)
  | _, _ => none
theorem d6_ok (a : List AV) (H : Heap) (p : P6) (h : d6 a H = some p) : a = A6 p ∧ H = [] := by
  unfold d6 at h
  split at h
  · skip
    split at h
    · rename_i q
      have q := dslD_ok q
      subst q
      cases h; exact ⟨rfl, rfl⟩
    · cases h
  · cases h
abbrev R6 := Bool
def o6 (r : R6) : AEnd := .ret (.bool r)
def u6 (r : R6) : Heap := []
def n6 (_ : R6) : Nat := 0
def r6 (o : AEnd) (u : Heap) (n : Nat) : Option R6 := match o, u, n with
  | .ret (.bool a0), [], 0 => some (a0)
  | _, _, _ => none
theorem r6_ok (p : P6) (o : AEnd) (u : Heap) (n : Nat) (r : R6) (h : r6 o u n = some r) : o = o6 r ∧ u = u6 r ∧ n = n6 r := by
  unfold r6 at h
  split at h
  · skip
    cases h; exact ⟨rfl, rfl, rfl⟩
  · cases h
structure S6_0 where
  mk ::
  x0 : List GSpot
  x3 : List Int
  x4 : Int
def VS6_0 (s : S6_0) : List AV := [.dsl 23 s.x0, .dsl 3 s.x3, .int .i64 s.x4]
def HS6_0 (s : S6_0) : Heap := []
def dS6_0 (vs : List AV) (H : Heap) : Option S6_0 := match vs, H with
  | [bx0, bx3, .int .i64 x4], [] => (match (dslD 23 bx0 : Option (List GSpot)) with | some x0 => (match (dslD 3 bx3 : Option (List Int)) with | some x3 => some (⟨x0, x3, x4⟩ : S6_0) | none => none) | none => none)
  | _, _ => none
theorem dS6_0_ok (vs : List AV) (H : Heap) (s : S6_0) (h : dS6_0 vs H = some s) : vs = VS6_0 s ∧ H = HS6_0 s := by
  unfold dS6_0 at h
  split at h
  · skip
    split at h
    · rename_i q
      have q := dslD_ok q
      subst q
      split at h
      · rename_i q
        have q := dslD_ok q
        subst q
        cases h; exact ⟨rfl, rfl⟩
      · cases h
    · cases h
  · cases h
def tS6_0 : AExit → List (Nat × Kd) := fun x => match x with
  | .normal => [(0, .rd 23), (3, .rd 3), (4, .any)]
  | .exit i => (match i with | 0 => [(0, .rd 23), (3, .rd 3)] | _ => [])
  | .ret => [(2, .any)]
  | _ => []
structure S6_2 where
  mk ::
  x0 : List GSpot
  x3 : List Int
  x4 : Int
  x5 : Bool
  x6 : Int
def VS6_2 (s : S6_2) : List AV := [.dsl 23 s.x0, .dsl 3 s.x3, .int .i64 s.x4, .bool s.x5, .int .i64 s.x6]
def HS6_2 (s : S6_2) : Heap := []
def dS6_2 (vs : List AV) (H : Heap) : Option S6_2 := match vs, H with
  | [bx0, bx3, .int .i64 x4, .bool x5, .int .i64 x6], [] => (match (dslD 23 bx0 : Option (List GSpot)) with | some x0 => (match (dslD 3 bx3 : Option (List Int)) with | some x3 => some (⟨x0, x3, x4, x5, x6⟩ : S6_2) | none => none) | none => none)
  | _, _ => none
theorem dS6_2_ok (vs : List AV) (H : Heap) (s : S6_2) (h : dS6_2 vs H = some s) : vs = VS6_2 s ∧ H = HS6_2 s := by
  unfold dS6_2 at h
  split at h
  · skip
    split at h
    · rename_i q
      have q := dslD_ok q
      subst q
      split at h
      · rename_i q
        have q := dslD_ok q
        subst q
        cases h; exact ⟨rfl, rfl⟩
      · cases h
    · cases h
  · cases h
def tS6_2 : AExit → List (Nat × Kd) := fun x => match x with
  | .normal => [(0, .rd 23), (3, .rd 3), (4, .any), (5, .any), (6, .any)]
  | .exit i => (match i with | 2 => [(0, .rd 23), (3, .rd 3), (4, .any), (5, .any)] | 0 => [(0, .rd 23), (3, .rd 3)] | 1 => [(0, .rd 23), (3, .rd 3), (4, .any)] | _ => [])
  | .ret => [(2, .any)]
  | _ => []
structure E6_2 where
  mk ::
  x0 : List GSpot
  x3 : List Int
  x4 : Int
  x5 : Bool
def VE6_2 (s : E6_2) : List AV := [.dsl 23 s.x0, .dsl 3 s.x3, .int .i64 s.x4, .bool s.x5]
def HE6_2 (s : E6_2) : Heap := []
def dE6_2 (x : AExit) (vs : List AV) (H : Heap) : Option E6_2 := match x, vs, H with
  | .exit 2, [bx0, bx3, .int .i64 x4, .bool x5], [] => (match (dslD 23 bx0 : Option (List GSpot)) with | some x0 => (match (dslD 3 bx3 : Option (List Int)) with | some x3 => some (⟨x0, x3, x4, x5⟩ : E6_2) | none => none) | none => none)
  | _, _, _ => none
theorem dE6_2_ok (x : AExit) (vs : List AV) (H : Heap) (s : E6_2) (h : dE6_2 x vs H = some s) : x = .exit 2 ∧ vs = VE6_2 s ∧ H = HE6_2 s := by
  unfold dE6_2 at h
  split at h
  · skip
    split at h
    · rename_i q
      have q := dslD_ok q
      subst q
      split at h
      · rename_i q
        have q := dslD_ok q
        subst q
        cases h; exact ⟨rfl, rfl, rfl⟩
      · cases h
    · cases h
  · cases h
def xE6_2 (_ : E6_2) : AExit := .exit 2
def pS6_2 (k : Nat) (s : S6_2) : Option (S6_2 ⊕ E6_2) :=
  br (decide (S6_2.x6 s < (↑(List.length (S6_2.x0 s)) : Int)))
   (br (S6_2.x5 s)
    (some (Sum.inl (S6_2.mk (S6_2.x0 s) (S6_2.x3 s) (S6_2.x4 s) true (IntKind.wrap IntKind.i64 (S6_2.x6 s + (1 : Int))))))
    (br (decide ((0 : Int) ≤ S6_2.x6 s ∧ S6_2.x6 s < (↑(List.length (S6_2.x0 s)) : Int)))
     (bindO (f18 k (List.getD (S6_2.x0 s) (Int.toNat (S6_2.x6 s)) default)) fun r1499 =>
      br r1499
       (br (decide ((0 : Int) ≤ S6_2.x6 s ∧ S6_2.x6 s < (↑(List.length (S6_2.x0 s)) : Int)))
        (br (decide ((0 : Int) ≤ S6_2.x4 s ∧ S6_2.x4 s < (↑(List.length (S6_2.x3 s)) : Int)))
         (some (Sum.inl (S6_2.mk (S6_2.x0 s) (S6_2.x3 s) (S6_2.x4 s) (GSpot.bed (List.getD (S6_2.x0 s) (Int.toNat (S6_2.x6 s)) default) == List.getD (S6_2.x3 s) (Int.toNat (S6_2.x4 s)) (0 : Int)) (IntKind.wrap IntKind.i64 (S6_2.x6 s + (1 : Int))))))
         (none))
        (none))
       (some (Sum.inl (S6_2.mk (S6_2.x0 s) (S6_2.x3 s) (S6_2.x4 s) false (IntKind.wrap IntKind.i64 (S6_2.x6 s + (1 : Int)))))))
     (none)))
   (some (Sum.inr (E6_2.mk (S6_2.x0 s) (S6_2.x3 s) (S6_2.x4 s) (S6_2.x5 s))))
theorem pS6_2_run (k : Nat) (s : S6_2) : evC (S6_2 ⊕ E6_2) Tryd.prog (ntmpsAt Tryd.prog 6) (cf38 k) ((Lm38 k) 6) 200 (loopAt Tryd.prog 6 2) (zipE [(0, .rd 23), (3, .rd 3), (4, .any), (5, .any), (6, .any)] (VS6_2 s)) (HS6_2 s) (List.length (HS6_2 s)) (cutS plan 0 tS6_2 (rndT dS6_2 dE6_2)) = pS6_2 k s := by kernel_rfl
def l6_2 (k : Nat) (s : S6_2) : Option E6_2 := iterT (pS6_2 k) k s
def m6_2 (k : Nat) : LamS := lamT 2 dS6_2 (l6_2 k) (elAll _) tS6_2 xE6_2 VE6_2 HE6_2
theorem loop6_2 : isLoopAt Tryd.prog 6 2 = true := by kernel_rfl
theorem m6_2_ok (k : Nat) : LamSOk Tryd.prog (ntmpsAt Tryd.prog 6) 0 (.block 2 (.loop (loopAt Tryd.prog 6 2))) [(0, .rd 23), (3, .rd 3), (4, .any), (5, .any), (6, .any)] (m6_2 k) := lamT_ok (plan := plan) (kb := 0) (body_run noNum mixed (cf38_ok k) (Lm38_ok k) loop6_2) rfl dS6_2_ok dE6_2_ok (hel := elAll_ok) (pS6_2_run k) k
def Dl39 (k : Nat) : Delta := Dl38 k
def Lm39 (k : Nat) : FuncId → Nat → Option LamF := lCons 6 2 (lamBy plan [21, 22, 23, 24, 27, 28, 29, 30, 31, 32, 33, 34, 35, 36, 37, 38, 39, 40, 41, 42, 43, 44, 45, 46, 5, 25, 26, 6] [(0, .rd 23), (3, .rd 3), (4, .any), (5, .any), (6, .any)] 0 (m6_2 k)) (Lm38 k)
theorem Dl39_ok (k : Nat) : DeltaOk Tryd.prog (Dl39 k) := Dl38_ok k
theorem Lm39_ok (k : Nat) : LamsOk Tryd.prog (Lm39 k) := lCons_ok (Lm38_ok k) loop6_2 (lamBy_ok (m6_2_ok k) (by kernel_rfl))
abbrev cf39 (k : Nat) : CallF := evF Tryd.prog (Dl39 k) (Lm39 k) 200 12
theorem cf39_ok (k : Nat) : CfOk Tryd.prog (cf39 k) := evF_ok noNum mixed (Dl39_ok k) (Lm39_ok k) 12
structure E6_0 where
  mk ::
  x2 : Bool
def VE6_0 (s : E6_0) : List AV := [.bool s.x2]
def HE6_0 (s : E6_0) : Heap := []
def dE6_0 (x : AExit) (vs : List AV) (H : Heap) : Option E6_0 := match x, vs, H with
  | .ret, [.bool x2], [] => some (⟨x2⟩ : E6_0)
  | _, _, _ => none
theorem dE6_0_ok (x : AExit) (vs : List AV) (H : Heap) (s : E6_0) (h : dE6_0 x vs H = some s) : x = .ret ∧ vs = VE6_0 s ∧ H = HE6_0 s := by
  unfold dE6_0 at h
  split at h
  · skip
    cases h; exact ⟨rfl, rfl, rfl⟩
  · cases h
structure E6_0b where
  mk ::
  x0 : List GSpot
  x3 : List Int
def VE6_0b (s : E6_0b) : List AV := [.dsl 23 s.x0, .dsl 3 s.x3]
def HE6_0b (s : E6_0b) : Heap := []
def dE6_0b (x : AExit) (vs : List AV) (H : Heap) : Option E6_0b := match x, vs, H with
  | .exit 0, [bx0, bx3], [] => (match (dslD 23 bx0 : Option (List GSpot)) with | some x0 => (match (dslD 3 bx3 : Option (List Int)) with | some x3 => some (⟨x0, x3⟩ : E6_0b) | none => none) | none => none)
  | _, _, _ => none
theorem dE6_0b_ok (x : AExit) (vs : List AV) (H : Heap) (s : E6_0b) (h : dE6_0b x vs H = some s) : x = .exit 0 ∧ vs = VE6_0b s ∧ H = HE6_0b s := by
  unfold dE6_0b at h
  split at h
  · skip
    split at h
    · rename_i q
      have q := dslD_ok q
      subst q
      split at h
      · rename_i q
        have q := dslD_ok q
        subst q
        cases h; exact ⟨rfl, rfl, rfl⟩
      · cases h
    · cases h
  · cases h
abbrev EE6_0 := E6_0 ⊕ E6_0b
def xEE6_0 (e : EE6_0) : AExit := match e with | .inl _ => .ret | .inr _ => .exit 0
def VEE6_0 (e : EE6_0) : List AV := match e with | .inl s => VE6_0 s | .inr s => VE6_0b s
def HEE6_0 (e : EE6_0) : Heap := match e with | .inl s => HE6_0 s | .inr s => HE6_0b s
def dEE6_0 (x : AExit) (vs : List AV) (H : Heap) : Option EE6_0 := match dE6_0 x vs H with | some s => some (.inl s) | none => (match dE6_0b x vs H with | some s => some (.inr s) | none => none)
theorem dEE6_0_ok (x : AExit) (vs : List AV) (H : Heap) (s : EE6_0) (h : dEE6_0 x vs H = some s) : x = xEE6_0 s ∧ vs = VEE6_0 s ∧ H = HEE6_0 s := by
  unfold dEE6_0 at h
  split at h
  · rename_i q; cases h; exact dE6_0_ok _ _ _ _ q
  · split at h
    · rename_i q; cases h; exact dE6_0b_ok _ _ _ _ q
    · cases h
def pS6_0 (k : Nat) (s : S6_0) : Option (S6_0 ⊕ EE6_0) :=
  br (decide (S6_0.x4 s < (↑(List.length (S6_0.x3 s)) : Int)))
   (bindO (l6_2 k (S6_2.mk (S6_0.x0 s) (S6_0.x3 s) (S6_0.x4 s) false (0 : Int))) fun r1500 =>
    br (!E6_2.x5 r1500)
     (some (Sum.inr (Sum.inl (E6_0.mk false))))
     (br (decide (E6_2.x4 r1500 > (0 : Int)))
      (br (decide ((0 : Int) ≤ IntKind.wrap IntKind.i64 (E6_2.x4 r1500 - (1 : Int)) ∧ IntKind.wrap IntKind.i64 (E6_2.x4 r1500 - (1 : Int)) < (↑(List.length (E6_2.x3 r1500)) : Int)))
       (br (decide ((0 : Int) ≤ E6_2.x4 r1500 ∧ E6_2.x4 r1500 < (↑(List.length (E6_2.x3 r1500)) : Int)))
        (br (decide (List.getD (E6_2.x3 r1500) (Int.toNat (IntKind.wrap IntKind.i64 (E6_2.x4 r1500 - (1 : Int)))) (0 : Int) ≥ List.getD (E6_2.x3 r1500) (Int.toNat (E6_2.x4 r1500)) (0 : Int)))
         (some (Sum.inr (Sum.inl (E6_0.mk false))))
         (some (Sum.inl (S6_0.mk (E6_2.x0 r1500) (E6_2.x3 r1500) (IntKind.wrap IntKind.i64 (E6_2.x4 r1500 + (1 : Int)))))))
        (none))
       (none))
      (some (Sum.inl (S6_0.mk (E6_2.x0 r1500) (E6_2.x3 r1500) (IntKind.wrap IntKind.i64 (E6_2.x4 r1500 + (1 : Int))))))))
   (some (Sum.inr (Sum.inr (E6_0b.mk (S6_0.x0 s) (S6_0.x3 s)))))
theorem pS6_0_run (k : Nat) (s : S6_0) : evC (S6_0 ⊕ EE6_0) Tryd.prog (ntmpsAt Tryd.prog 6) (cf39 k) ((Lm39 k) 6) 200 (loopAt Tryd.prog 6 0) (zipE [(0, .rd 23), (3, .rd 3), (4, .any)] (VS6_0 s)) (HS6_0 s) (List.length (HS6_0 s)) (cutS plan 0 tS6_0 (rndT dS6_0 dEE6_0)) = pS6_0 k s := by kernel_rfl
def l6_0 (k : Nat) (s : S6_0) : Option EE6_0 := iterT (pS6_0 k) k s
def m6_0 (k : Nat) : LamS := lamT 0 dS6_0 (l6_0 k) (elSum (elAll _) (elAll _)) tS6_0 xEE6_0 VEE6_0 HEE6_0
theorem loop6_0 : isLoopAt Tryd.prog 6 0 = true := by kernel_rfl
theorem m6_0_ok (k : Nat) : LamSOk Tryd.prog (ntmpsAt Tryd.prog 6) 0 (.block 0 (.loop (loopAt Tryd.prog 6 0))) [(0, .rd 23), (3, .rd 3), (4, .any)] (m6_0 k) := lamT_ok (plan := plan) (kb := 0) (body_run noNum mixed (cf39_ok k) (Lm39_ok k) loop6_0) rfl dS6_0_ok dEE6_0_ok (hel := (elSum_ok elAll_ok elAll_ok)) (pS6_0_run k) k
def Dl40 (k : Nat) : Delta := Dl39 k
def Lm40 (k : Nat) : FuncId → Nat → Option LamF := lCons 6 0 (lamBy plan [15, 16, 17, 18, 5, 6, 21, 22, 23, 24, 27, 28, 29, 30, 31, 32, 33, 34, 35, 36, 37, 38, 39, 40, 41, 42, 43, 44, 45, 46, 5, 25, 26, 6, 47, 48, 49, 50, 51, 52, 53, 54, 55, 56, 57, 58, 59, 60, 61, 62, 63, 64, 2, 19, 20, 4] [(0, .rd 23), (3, .rd 3), (4, .any)] 0 (m6_0 k)) (Lm39 k)
theorem Dl40_ok (k : Nat) : DeltaOk Tryd.prog (Dl40 k) := Dl39_ok k
theorem Lm40_ok (k : Nat) : LamsOk Tryd.prog (Lm40 k) := lCons_ok (Lm39_ok k) loop6_0 (lamBy_ok (m6_0_ok k) (by kernel_rfl))
abbrev cf40 (k : Nat) : CallF := evF Tryd.prog (Dl40 k) (Lm40 k) 200 12
theorem cf40_ok (k : Nat) : CfOk Tryd.prog (cf40 k) := evF_ok noNum mixed (Dl40_ok k) (Lm40_ok k) 12
structure S6_4 where
  mk ::
  x0 : List GSpot
  x3 : List Int
  x7 : Int
def VS6_4 (s : S6_4) : List AV := [.dsl 23 s.x0, .dsl 3 s.x3, .int .i64 s.x7]
def HS6_4 (s : S6_4) : Heap := []
def dS6_4 (vs : List AV) (H : Heap) : Option S6_4 := match vs, H with
  | [bx0, bx3, .int .i64 x7], [] => (match (dslD 23 bx0 : Option (List GSpot)) with | some x0 => (match (dslD 3 bx3 : Option (List Int)) with | some x3 => some (⟨x0, x3, x7⟩ : S6_4) | none => none) | none => none)
  | _, _ => none
theorem dS6_4_ok (vs : List AV) (H : Heap) (s : S6_4) (h : dS6_4 vs H = some s) : vs = VS6_4 s ∧ H = HS6_4 s := by
  unfold dS6_4 at h
  split at h
  · skip
    split at h
    · rename_i q
      have q := dslD_ok q
      subst q
      split at h
      · rename_i q
        have q := dslD_ok q
        subst q
        cases h; exact ⟨rfl, rfl⟩
      · cases h
    · cases h
  · cases h
def tS6_4 : AExit → List (Nat × Kd) := fun x => match x with
  | .normal => [(0, .rd 23), (3, .rd 3), (7, .any)]
  | .exit i => (match i with | 4 => [] | _ => [])
  | .ret => [(2, .any)]
  | _ => []
structure S6_6 where
  mk ::
  x0 : List GSpot
  x3 : List Int
  x7 : Int
  x8 : Bool
  x9 : Int
def VS6_6 (s : S6_6) : List AV := [.dsl 23 s.x0, .dsl 3 s.x3, .int .i64 s.x7, .bool s.x8, .int .i64 s.x9]
def HS6_6 (s : S6_6) : Heap := []
def dS6_6 (vs : List AV) (H : Heap) : Option S6_6 := match vs, H with
  | [bx0, bx3, .int .i64 x7, .bool x8, .int .i64 x9], [] => (match (dslD 23 bx0 : Option (List GSpot)) with | some x0 => (match (dslD 3 bx3 : Option (List Int)) with | some x3 => some (⟨x0, x3, x7, x8, x9⟩ : S6_6) | none => none) | none => none)
  | _, _ => none
theorem dS6_6_ok (vs : List AV) (H : Heap) (s : S6_6) (h : dS6_6 vs H = some s) : vs = VS6_6 s ∧ H = HS6_6 s := by
  unfold dS6_6 at h
  split at h
  · skip
    split at h
    · rename_i q
      have q := dslD_ok q
      subst q
      split at h
      · rename_i q
        have q := dslD_ok q
        subst q
        cases h; exact ⟨rfl, rfl⟩
      · cases h
    · cases h
  · cases h
def tS6_6 : AExit → List (Nat × Kd) := fun x => match x with
  | .normal => [(0, .rd 23), (3, .rd 3), (7, .any), (8, .any), (9, .any)]
  | .exit i => (match i with | 6 => [(0, .rd 23), (3, .rd 3), (7, .any), (8, .any)] | 4 => [] | 5 => [(0, .rd 23), (3, .rd 3), (7, .any)] | _ => [])
  | .ret => [(2, .any)]
  | _ => []
structure E6_6 where
  mk ::
  x0 : List GSpot
  x3 : List Int
  x7 : Int
  x8 : Bool
def VE6_6 (s : E6_6) : List AV := [.dsl 23 s.x0, .dsl 3 s.x3, .int .i64 s.x7, .bool s.x8]
def HE6_6 (s : E6_6) : Heap := []
def dE6_6 (x : AExit) (vs : List AV) (H : Heap) : Option E6_6 := match x, vs, H with
  | .exit 6, [bx0, bx3, .int .i64 x7, .bool x8], [] => (match (dslD 23 bx0 : Option (List GSpot)) with | some x0 => (match (dslD 3 bx3 : Option (List Int)) with | some x3 => some (⟨x0, x3, x7, x8⟩ : E6_6) | none => none) | none => none)
  | _, _, _ => none
theorem dE6_6_ok (x : AExit) (vs : List AV) (H : Heap) (s : E6_6) (h : dE6_6 x vs H = some s) : x = .exit 6 ∧ vs = VE6_6 s ∧ H = HE6_6 s := by
  unfold dE6_6 at h
  split at h
  · skip
    split at h
    · rename_i q
      have q := dslD_ok q
      subst q
      split at h
      · rename_i q
        have q := dslD_ok q
        subst q
        cases h; exact ⟨rfl, rfl, rfl⟩
      · cases h
    · cases h
  · cases h
def xE6_6 (_ : E6_6) : AExit := .exit 6
def pS6_6 (k : Nat) (s : S6_6) : Option (S6_6 ⊕ E6_6) :=
  br (decide (S6_6.x9 s < (↑(List.length (S6_6.x3 s)) : Int)))
   (br (S6_6.x8 s)
    (some (Sum.inl (S6_6.mk (S6_6.x0 s) (S6_6.x3 s) (S6_6.x7 s) true (IntKind.wrap IntKind.i64 (S6_6.x9 s + (1 : Int))))))
    (br (decide ((0 : Int) ≤ S6_6.x9 s ∧ S6_6.x9 s < (↑(List.length (S6_6.x3 s)) : Int)))
     (br (decide ((0 : Int) ≤ S6_6.x7 s ∧ S6_6.x7 s < (↑(List.length (S6_6.x0 s)) : Int)))
      (some (Sum.inl (S6_6.mk (S6_6.x0 s) (S6_6.x3 s) (S6_6.x7 s) (List.getD (S6_6.x3 s) (Int.toNat (S6_6.x9 s)) (0 : Int) == GSpot.bed (List.getD (S6_6.x0 s) (Int.toNat (S6_6.x7 s)) default)) (IntKind.wrap IntKind.i64 (S6_6.x9 s + (1 : Int))))))
      (none))
     (none)))
   (some (Sum.inr (E6_6.mk (S6_6.x0 s) (S6_6.x3 s) (S6_6.x7 s) (S6_6.x8 s))))
theorem pS6_6_run (k : Nat) (s : S6_6) : evC (S6_6 ⊕ E6_6) Tryd.prog (ntmpsAt Tryd.prog 6) (cf40 k) ((Lm40 k) 6) 200 (loopAt Tryd.prog 6 6) (zipE [(0, .rd 23), (3, .rd 3), (7, .any), (8, .any), (9, .any)] (VS6_6 s)) (HS6_6 s) (List.length (HS6_6 s)) (cutS plan 0 tS6_6 (rndT dS6_6 dE6_6)) = pS6_6 k s := by kernel_rfl
def l6_6 (k : Nat) (s : S6_6) : Option E6_6 := iterT (pS6_6 k) k s
def m6_6 (k : Nat) : LamS := lamT 6 dS6_6 (l6_6 k) (elAll _) tS6_6 xE6_6 VE6_6 HE6_6
theorem loop6_6 : isLoopAt Tryd.prog 6 6 = true := by kernel_rfl
theorem m6_6_ok (k : Nat) : LamSOk Tryd.prog (ntmpsAt Tryd.prog 6) 0 (.block 6 (.loop (loopAt Tryd.prog 6 6))) [(0, .rd 23), (3, .rd 3), (7, .any), (8, .any), (9, .any)] (m6_6 k) := lamT_ok (plan := plan) (kb := 0) (body_run noNum mixed (cf40_ok k) (Lm40_ok k) loop6_6) rfl dS6_6_ok dE6_6_ok (hel := elAll_ok) (pS6_6_run k) k
def Dl41 (k : Nat) : Delta := Dl40 k
def Lm41 (k : Nat) : FuncId → Nat → Option LamF := lCons 6 6 (lamBy plan [77, 78, 79, 80, 83, 84, 85, 86, 87, 88, 89, 90, 91, 92, 93, 94, 95, 8, 81, 82, 9] [(0, .rd 23), (3, .rd 3), (7, .any), (8, .any), (9, .any)] 0 (m6_6 k)) (Lm40 k)
theorem Dl41_ok (k : Nat) : DeltaOk Tryd.prog (Dl41 k) := Dl40_ok k
theorem Lm41_ok (k : Nat) : LamsOk Tryd.prog (Lm41 k) := lCons_ok (Lm40_ok k) loop6_6 (lamBy_ok (m6_6_ok k) (by kernel_rfl))
abbrev cf41 (k : Nat) : CallF := evF Tryd.prog (Dl41 k) (Lm41 k) 200 12
theorem cf41_ok (k : Nat) : CfOk Tryd.prog (cf41 k) := evF_ok noNum mixed (Dl41_ok k) (Lm41_ok k) 12
structure E6_4 where
  mk ::
  x2 : Bool
def VE6_4 (s : E6_4) : List AV := [.bool s.x2]
def HE6_4 (s : E6_4) : Heap := []
def dE6_4 (x : AExit) (vs : List AV) (H : Heap) : Option E6_4 := match x, vs, H with
  | .ret, [.bool x2], [] => some (⟨x2⟩ : E6_4)
  | _, _, _ => none
theorem dE6_4_ok (x : AExit) (vs : List AV) (H : Heap) (s : E6_4) (h : dE6_4 x vs H = some s) : x = .ret ∧ vs = VE6_4 s ∧ H = HE6_4 s := by
  unfold dE6_4 at h
  split at h
  · skip
    cases h; exact ⟨rfl, rfl, rfl⟩
  · cases h
structure E6_4b where
  mk ::
def VE6_4b (s : E6_4b) : List AV := []
def HE6_4b (s : E6_4b) : Heap := []
def dE6_4b (x : AExit) (vs : List AV) (H : Heap) : Option E6_4b := match x, vs, H with
  | .exit 4, [], [] => some (⟨⟩ : E6_4b)
  | _, _, _ => none
theorem dE6_4b_ok (x : AExit) (vs : List AV) (H : Heap) (s : E6_4b) (h : dE6_4b x vs H = some s) : x = .exit 4 ∧ vs = VE6_4b s ∧ H = HE6_4b s := by
  unfold dE6_4b at h
  split at h
  · skip
    cases h; exact ⟨rfl, rfl, rfl⟩
  · cases h
abbrev EE6_4 := E6_4 ⊕ E6_4b
def xEE6_4 (e : EE6_4) : AExit := match e with | .inl _ => .ret | .inr _ => .exit 4
def VEE6_4 (e : EE6_4) : List AV := match e with | .inl s => VE6_4 s | .inr s => VE6_4b s
def HEE6_4 (e : EE6_4) : Heap := match e with | .inl s => HE6_4 s | .inr s => HE6_4b s
def dEE6_4 (x : AExit) (vs : List AV) (H : Heap) : Option EE6_4 := match dE6_4 x vs H with | some s => some (.inl s) | none => (match dE6_4b x vs H with | some s => some (.inr s) | none => none)
theorem dEE6_4_ok (x : AExit) (vs : List AV) (H : Heap) (s : EE6_4) (h : dEE6_4 x vs H = some s) : x = xEE6_4 s ∧ vs = VEE6_4 s ∧ H = HEE6_4 s := by
  unfold dEE6_4 at h
  split at h
  · rename_i q; cases h; exact dE6_4_ok _ _ _ _ q
  · split at h
    · rename_i q; cases h; exact dE6_4b_ok _ _ _ _ q
    · cases h
def pS6_4 (k : Nat) (s : S6_4) : Option (S6_4 ⊕ EE6_4) :=
  br (decide (S6_4.x7 s < (↑(List.length (S6_4.x0 s)) : Int)))
   (br (decide ((0 : Int) ≤ S6_4.x7 s ∧ S6_4.x7 s < (↑(List.length (S6_4.x0 s)) : Int)))
    (bindO (f18 k (List.getD (S6_4.x0 s) (Int.toNat (S6_4.x7 s)) default)) fun r1500 =>
     bindO (l6_6 k (S6_6.mk (S6_4.x0 s) (S6_4.x3 s) (S6_4.x7 s) (!r1500) (0 : Int))) fun r1499 =>
      br (!E6_6.x8 r1499)
       (some (Sum.inr (Sum.inl (E6_4.mk false))))
       (some (Sum.inl (S6_4.mk (E6_6.x0 r1499) (E6_6.x3 r1499) (IntKind.wrap IntKind.i64 (E6_6.x7 r1499 + (1 : Int)))))))
    (none))
   (some (Sum.inr (Sum.inr E6_4b.mk)))
theorem pS6_4_run (k : Nat) (s : S6_4) : evC (S6_4 ⊕ EE6_4) Tryd.prog (ntmpsAt Tryd.prog 6) (cf41 k) ((Lm41 k) 6) 200 (loopAt Tryd.prog 6 4) (zipE [(0, .rd 23), (3, .rd 3), (7, .any)] (VS6_4 s)) (HS6_4 s) (List.length (HS6_4 s)) (cutS plan 0 tS6_4 (rndT dS6_4 dEE6_4)) = pS6_4 k s := by kernel_rfl
def l6_4 (k : Nat) (s : S6_4) : Option EE6_4 := iterT (pS6_4 k) k s
def m6_4 (k : Nat) : LamS := lamT 4 dS6_4 (l6_4 k) (elSum (elAll _) (elAll _)) tS6_4 xEE6_4 VEE6_4 HEE6_4
theorem loop6_4 : isLoopAt Tryd.prog 6 4 = true := by kernel_rfl
theorem m6_4_ok (k : Nat) : LamSOk Tryd.prog (ntmpsAt Tryd.prog 6) 0 (.block 4 (.loop (loopAt Tryd.prog 6 4))) [(0, .rd 23), (3, .rd 3), (7, .any)] (m6_4 k) := lamT_ok (plan := plan) (kb := 0) (body_run noNum mixed (cf41_ok k) (Lm41_ok k) loop6_4) rfl dS6_4_ok dEE6_4_ok (hel := (elSum_ok elAll_ok elAll_ok)) (pS6_4_run k) k
def Dl42 (k : Nat) : Delta := Dl41 k
def Lm42 (k : Nat) : FuncId → Nat → Option LamF := lCons 6 4 (lamBy plan [65, 66, 67, 68, 71, 72, 73, 74, 75, 76, 8, 9, 77, 78, 79, 80, 83, 84, 85, 86, 87, 88, 89, 90, 91, 92, 93, 94, 95, 8, 81, 82, 9, 96, 97, 2, 69, 70, 7] [(0, .rd 23), (3, .rd 3), (7, .any)] 0 (m6_4 k)) (Lm41 k)
theorem Dl42_ok (k : Nat) : DeltaOk Tryd.prog (Dl42 k) := Dl41_ok k
theorem Lm42_ok (k : Nat) : LamsOk Tryd.prog (Lm42 k) := lCons_ok (Lm41_ok k) loop6_4 (lamBy_ok (m6_4_ok k) (by kernel_rfl))
abbrev cf42 (k : Nat) : CallF := evF Tryd.prog (Dl42 k) (Lm42 k) 200 12
theorem cf42_ok (k : Nat) : CfOk Tryd.prog (cf42 k) := evF_ok noNum mixed (Dl42_ok k) (Lm42_ok k) 12
def f6 (k : Nat) (x0 : List GSpot) : Option R6 :=
  br (decide ((↑(List.length x0) : Int) > (100 : Int)))
   (some true)
   (bindO (f23 k x0) fun r2999 =>
    bindO (l6_0 k (S6_0.mk x0 r2999 (0 : Int))) fun r2998 =>
     match r2998 with
     | .inl c2997 => some (E6_0.x2 c2997)
     | .inr c2997 => bindO (l6_4 k (S6_4.mk (E6_0b.x0 c2997) (E6_0b.x3 c2997) (0 : Int))) fun r2995 =>
       match r2995 with
       | .inl c2994 => some (E6_4.x2 c2994)
       | .inr c2994 => some true)
theorem f6_run (k : Nat) (x0 : List GSpot) : cf42 k R6 6 (A6 (x0)) [] 0 (endR planR (.any) [] 0 r6) = f6 k x0 := by kernel_rfl
def g6 (k : Nat) : CallS := entT d6 (fun p => f6 k p) (elAll _) (fun _ => o6) (fun _ => u6) (fun _ => n6)
theorem g6_ok (k : Nat) : CallSOk Tryd.prog 6 (g6 k) := entry_ok (Hp := fun _ => []) (oR := fun _ => o6) (uR := fun _ => u6) (nR := fun _ => n6) (cf42_ok k) d6_ok r6_ok (hel := elAll_ok) (fun p => f6_run k p)
def Dl43 (k : Nat) : Delta := dCons 6 (callAt plan [.rd 23] (g6 k)) (Dl42 k)
def Lm43 (k : Nat) : FuncId → Nat → Option LamF := Lm42 k
theorem Dl43_ok (k : Nat) : DeltaOk Tryd.prog (Dl43 k) := dCons_ok (Dl42_ok k) (g6_ok k)
theorem Lm43_ok (k : Nat) : LamsOk Tryd.prog (Lm43 k) := Lm42_ok k
abbrev cf43 (k : Nat) : CallF := evF Tryd.prog (Dl43 k) (Lm43 k) 200 12
theorem cf43_ok (k : Nat) : CfOk Tryd.prog (cf43 k) := evF_ok noNum mixed (Dl43_ok k) (Lm43_ok k) 12
abbrev P4 := GSpot × Int × ByteArray
def A4 (p : P4) : List AV := [.agg [.int .i64 p.1.bed, .int .i64 p.1.channel], .int .i64 p.2.1, .str p.2.2]
def d4 (a : List AV) (H : Heap) : Option P4 := match a, H with
  | [.agg [.int .i64 a0, .int .i64 a1], .int .i64 a2, .str a3], [] => some ((⟨a0, a1⟩ : GSpot), a2, a3)
  | _, _ => none
theorem d4_ok (a : List AV) (H : Heap) (p : P4) (h : d4 a H = some p) : a = A4 p ∧ H = [] := by
  unfold d4 at h
  split at h
  · skip
    cases h; exact ⟨rfl, rfl⟩
  · cases h
abbrev R4 := Bool
def o4 (r : R4) : AEnd := .ret (.bool r)
def u4 (r : R4) : Heap := []
def n4 (_ : R4) : Nat := 0
def r4 (o : AEnd) (u : Heap) (n : Nat) : Option R4 := match o, u, n with
  | .ret (.bool a0), [], 0 => some (a0)
  | _, _, _ => none
theorem r4_ok (p : P4) (o : AEnd) (u : Heap) (n : Nat) (r : R4) (h : r4 o u n = some r) : o = o4 r ∧ u = u4 r ∧ n = n4 r := by
  unfold r4 at h
  split at h
  · skip
    cases h; exact ⟨rfl, rfl, rfl⟩
  · cases h
def f4 (k : Nat) (x0 : GSpot) (x1 : Int) (x2 : ByteArray) : Option R4 :=
  br (decide ((↑(ByteArray.size x2) : Int) > (200 : Int)))
   (some true)
   (bindO (f9 k x0) fun r2999 =>
    bindO (f11 k (Prod.fst r2999)) fun r2998 =>
     bindO (f13 k x0) fun r2997 =>
      bindO (f15 k (Prod.fst r2997)) fun r2996 =>
       bindO (f18 k x0) fun r2995 =>
        br r2995
         (br (Prod.snd r2999 != (0 : Int))
          (some false)
          (br (Prod.snd r2998 != Prod.snd r2999)
           (some false)
           (br (!(GSpot.bed (Prod.fst r2998) == GSpot.bed x0 && GSpot.channel (Prod.fst r2998) == GSpot.channel x0))
            (some false)
            (br (Prod.snd r2997 != Prod.snd r2999)
             (some false)
             (br (Prod.snd r2996 != Prod.snd r2999)
              (some false)
              (br (!(GSpot.bed (Prod.fst r2996) == GSpot.bed x0 && GSpot.channel (Prod.fst r2996) == GSpot.channel x0))
               (some false)
               (br (decide (Prod.fst r2999 < (0 : Int)))
                (some false)
                (br (decide (Prod.fst r2999 > (791 : Int)))
                 (some false)
                 (bindO (f18 k x0) fun r2986 =>
                  br (!r2986)
                   (br (Prod.snd r2999 == (0 : Int))
                    (some false)
                    (br (Prod.snd r2997 == (0 : Int))
                     (some false)
                     (bindO (f11 k x1) fun r2983 =>
                      bindO (f9 k (Prod.fst r2983)) fun r2982 =>
                       bindO (f15 k x2) fun r2981 =>
                        bindO (f13 k (Prod.fst r2981)) fun r2980 =>
                         br (Prod.snd r2983 != (0 : Int))
                          (br (Prod.snd r2981 != (0 : Int))
                           (some true)
                           (br (Prod.snd r2980 == Prod.snd r2981)
                            (br (ByteArray.toList (Prod.fst r2980) == ByteArray.toList x2)
                             (bindO (f18 k (Prod.fst r2981)) fun r2978 =>
                              some r2978)
                             (some false))
                            (some false)))
                          (br (Prod.snd r2982 == Prod.snd r2983)
                           (br (Prod.fst r2982 == x1)
                            (bindO (f18 k (Prod.fst r2983)) fun r2974 =>
                             br r2974
                              (br (Prod.snd r2981 != (0 : Int))
                               (some true)
                               (br (Prod.snd r2980 == Prod.snd r2981)
                                (br (ByteArray.toList (Prod.fst r2980) == ByteArray.toList x2)
                                 (bindO (f18 k (Prod.fst r2981)) fun r2972 =>
                                  some r2972)
                                 (some false))
                                (some false)))
                              (some false))
                            (some false))
                           (some false)))))
                   (bindO (f11 k x1) fun r2965 =>
                    bindO (f9 k (Prod.fst r2965)) fun r2964 =>
                     bindO (f15 k x2) fun r2963 =>
                      bindO (f13 k (Prod.fst r2963)) fun r2962 =>
                       br (Prod.snd r2965 != (0 : Int))
                        (br (Prod.snd r2963 != (0 : Int))
                         (some true)
                         (br (Prod.snd r2962 == Prod.snd r2963)
                          (br (ByteArray.toList (Prod.fst r2962) == ByteArray.toList x2)
                           (bindO (f18 k (Prod.fst r2963)) fun r2960 =>
                            some r2960)
                           (some false))
                          (some false)))
                        (br (Prod.snd r2964 == Prod.snd r2965)
                         (br (Prod.fst r2964 == x1)
                          (bindO (f18 k (Prod.fst r2965)) fun r2956 =>
                           br r2956
                            (br (Prod.snd r2963 != (0 : Int))
                             (some true)
                             (br (Prod.snd r2962 == Prod.snd r2963)
                              (br (ByteArray.toList (Prod.fst r2962) == ByteArray.toList x2)
                               (bindO (f18 k (Prod.fst r2963)) fun r2954 =>
                                some r2954)
                               (some false))
                              (some false)))
                            (some false))
                          (some false))
                         (some false))))))))))))
         (bindO (f18 k x0) fun r2947 =>
          br (!r2947)
           (br (Prod.snd r2999 == (0 : Int))
            (some false)
            (br (Prod.snd r2997 == (0 : Int))
             (some false)
             (bindO (f11 k x1) fun r2944 =>
              bindO (f9 k (Prod.fst r2944)) fun r2943 =>
               bindO (f15 k x2) fun r2942 =>
                bindO (f13 k (Prod.fst r2942)) fun r2941 =>
                 br (Prod.snd r2944 != (0 : Int))
                  (br (Prod.snd r2942 != (0 : Int))
                   (some true)
                   (br (Prod.snd r2941 == Prod.snd r2942)
                    (br (ByteArray.toList (Prod.fst r2941) == ByteArray.toList x2)
                     (bindO (f18 k (Prod.fst r2942)) fun r2939 =>
                      some r2939)
                     (some false))
                    (some false)))
                  (br (Prod.snd r2943 == Prod.snd r2944)
                   (br (Prod.fst r2943 == x1)
                    (bindO (f18 k (Prod.fst r2944)) fun r2935 =>
                     br r2935
                      (br (Prod.snd r2942 != (0 : Int))
                       (some true)
                       (br (Prod.snd r2941 == Prod.snd r2942)
                        (br (ByteArray.toList (Prod.fst r2941) == ByteArray.toList x2)
                         (bindO (f18 k (Prod.fst r2942)) fun r2933 =>
                          some r2933)
                         (some false))
                        (some false)))
                      (some false))
                    (some false))
                   (some false)))))
           (bindO (f11 k x1) fun r2926 =>
            bindO (f9 k (Prod.fst r2926)) fun r2925 =>
             bindO (f15 k x2) fun r2924 =>
              bindO (f13 k (Prod.fst r2924)) fun r2923 =>
               br (Prod.snd r2926 != (0 : Int))
                (br (Prod.snd r2924 != (0 : Int))
                 (some true)
                 (br (Prod.snd r2923 == Prod.snd r2924)
                  (br (ByteArray.toList (Prod.fst r2923) == ByteArray.toList x2)
                   (bindO (f18 k (Prod.fst r2924)) fun r2921 =>
                    some r2921)
                   (some false))
                  (some false)))
                (br (Prod.snd r2925 == Prod.snd r2926)
                 (br (Prod.fst r2925 == x1)
                  (bindO (f18 k (Prod.fst r2926)) fun r2917 =>
                   br r2917
                    (br (Prod.snd r2924 != (0 : Int))
                     (some true)
                     (br (Prod.snd r2923 == Prod.snd r2924)
                      (br (ByteArray.toList (Prod.fst r2923) == ByteArray.toList x2)
                       (bindO (f18 k (Prod.fst r2924)) fun r2915 =>
                        some r2915)
                       (some false))
                      (some false)))
                    (some false))
                  (some false))
                 (some false)))))
theorem f4_run (k : Nat) (x0 : GSpot) (x1 : Int) (x2 : ByteArray) : cf43 k R4 4 (A4 (x0, x1, x2)) [] 0 (endR planR (.any) [] 0 r4) = f4 k x0 x1 x2 := by kernel_rfl
def g4 (k : Nat) : CallS := entT d4 (fun p => f4 k p.1 p.2.1 p.2.2) (elAll _) (fun _ => o4) (fun _ => u4) (fun _ => n4)
theorem g4_ok (k : Nat) : CallSOk Tryd.prog 4 (g4 k) := entry_ok (Hp := fun _ => []) (oR := fun _ => o4) (uR := fun _ => u4) (nR := fun _ => n4) (cf43_ok k) d4_ok r4_ok (hel := elAll_ok) (fun p => f4_run k p.1 p.2.1 p.2.2)
def Dl44 (k : Nat) : Delta := dCons 4 (callAt plan [.any, .any, .any] (g4 k)) (Dl43 k)
def Lm44 (k : Nat) : FuncId → Nat → Option LamF := Lm43 k
theorem Dl44_ok (k : Nat) : DeltaOk Tryd.prog (Dl44 k) := dCons_ok (Dl43_ok k) (g4_ok k)
theorem Lm44_ok (k : Nat) : LamsOk Tryd.prog (Lm44 k) := Lm43_ok k
abbrev cf44 (k : Nat) : CallF := evF Tryd.prog (Dl44 k) (Lm44 k) 200 12
theorem cf44_ok (k : Nat) : CfOk Tryd.prog (cf44 k) := evF_ok noNum mixed (Dl44_ok k) (Lm44_ok k) 12
abbrev P3 := GSpot × GSpot × Int × ByteArray × List GSpot
def A3 (p : P3) : List AV := [.agg [.int .i64 p.1.bed, .int .i64 p.1.channel], .agg [.int .i64 p.2.1.bed, .int .i64 p.2.1.channel], .int .i64 p.2.2.1, .str p.2.2.2.1, .dsl 23 p.2.2.2.2]
def d3 (a : List AV) (H : Heap) : Option P3 := match a, H with
  | [.agg [.int .i64 a0, .int .i64 a1], .agg [.int .i64 a2, .int .i64 a3], .int .i64 a4, .str a5, ba6], [] => (match (dslD 23 ba6 : Option (List GSpot)) with | some a6 => some ((⟨a0, a1⟩ : GSpot), (⟨a2, a3⟩ : GSpot), a4, a5, a6) | none => none)
  | _, _ => none
theorem d3_ok (a : List AV) (H : Heap) (p : P3) (h : d3 a H = some p) : a = A3 p ∧ H = [] := by
  unfold d3 at h
  split at h
  · skip
    split at h
    · rename_i q
      have q := dslD_ok q
      subst q
      cases h; exact ⟨rfl, rfl⟩
    · cases h
  · cases h
abbrev R3 := Bool
def o3 (r : R3) : AEnd := .ret (.bool r)
def u3 (r : R3) : Heap := []
def n3 (_ : R3) : Nat := 0
def r3 (o : AEnd) (u : Heap) (n : Nat) : Option R3 := match o, u, n with
  | .ret (.bool a0), [], 0 => some (a0)
  | _, _, _ => none
theorem r3_ok (p : P3) (o : AEnd) (u : Heap) (n : Nat) (r : R3) (h : r3 o u n = some r) : o = o3 r ∧ u = u3 r ∧ n = n3 r := by
  unfold r3 at h
  split at h
  · skip
    cases h; exact ⟨rfl, rfl, rfl⟩
  · cases h
def f3 (k : Nat) (x0 : GSpot) (x1 : GSpot) (x2 : Int) (x3 : ByteArray) (x4 : List GSpot) : Option R3 :=
  br (decide ((↑(ByteArray.size x3) : Int) > (200 : Int)))
   (some true)
   (br (decide ((↑(List.length x4) : Int) > (100 : Int)))
    (some true)
    (bindO (f8 k x4) fun r2998 =>
     bindO (f9 k x0) fun r2997 =>
      bindO (f10 k x0) fun r2996 =>
       bindO (f11 k x2) fun r2995 =>
        bindO (f12 k x2) fun r2994 =>
         bindO (f13 k x0) fun r2993 =>
          bindO (f14 k x0) fun r2992 =>
           bindO (f15 k x3) fun r2991 =>
            bindO (f16 k x3) fun r2990 =>
             br (Prod.fst r2997 == Prod.fst r2996)
              (br (Prod.snd r2997 == Prod.snd r2996)
               (br (GSpot.bed (Prod.fst r2995) == GSpot.bed (Prod.fst r2994) && GSpot.channel (Prod.fst r2995) == GSpot.channel (Prod.fst r2994))
                (br (Prod.snd r2995 == Prod.snd r2994)
                 (br (ByteArray.toList (Prod.fst r2993) == ByteArray.toList (Prod.fst r2992))
                  (br (Prod.snd r2993 == Prod.snd r2992)
                   (br (GSpot.bed (Prod.fst r2991) == GSpot.bed (Prod.fst r2990) && GSpot.channel (Prod.fst r2991) == GSpot.channel (Prod.fst r2990))
                    (br (Prod.snd r2991 == Prod.snd r2990)
                     (bindO (f18 k x0) fun r2989 =>
                      bindO (f19 k x0) fun r2988 =>
                       br (r2989 == r2988)
                        (bindO (f20 k x0 x1) fun r2987 =>
                         bindO (f21 k x0 x1) fun r2986 =>
                          br (r2987 == r2986)
                           (bindO (f23 k x4) fun r2985 =>
                            bindO (f24 k r2998) fun r2984 =>
                             bindO (f22 k r2985 r2984) fun r2983 =>
                              br r2983
                               (bindO (f25 k x4 r2998) fun r2982 =>
                                some r2982)
                               (some false))
                           (some false))
                        (some false))
                     (some false))
                    (some false))
                   (some false))
                  (some false))
                 (some false))
                (some false))
               (some false))
              (some false)))
theorem f3_run (k : Nat) (x0 : GSpot) (x1 : GSpot) (x2 : Int) (x3 : ByteArray) (x4 : List GSpot) : cf44 k R3 3 (A3 (x0, x1, x2, x3, x4)) [] 0 (endR planR (.any) [] 0 r3) = f3 k x0 x1 x2 x3 x4 := by kernel_rfl
def g3 (k : Nat) : CallS := entT d3 (fun p => f3 k p.1 p.2.1 p.2.2.1 p.2.2.2.1 p.2.2.2.2) (elAll _) (fun _ => o3) (fun _ => u3) (fun _ => n3)
theorem g3_ok (k : Nat) : CallSOk Tryd.prog 3 (g3 k) := entry_ok (Hp := fun _ => []) (oR := fun _ => o3) (uR := fun _ => u3) (nR := fun _ => n3) (cf44_ok k) d3_ok r3_ok (hel := elAll_ok) (fun p => f3_run k p.1 p.2.1 p.2.2.1 p.2.2.2.1 p.2.2.2.2)
end
end Go.Proofs.YtllaajhdpfighaaDoor

end
section
set_option linter.unusedVariables false
set_option linter.unusedSimpArgs false
namespace Go.Proofs.YtllaajhdpfighaaDoor
open Go Go.Eng
theorem bindO_some {α R : Type} (x : α) (f : α → Option R) : bindO (some x) f = f x := rfl
theorem wrap_ok {n : Int} (h0 : 0 ≤ n) (h1 : n ≤ 9223372036854775807) : IntKind.wrap .i64 n = n := by
  unfold IntKind.wrap
  have hb : IntKind.bits .i64 = 64 := rfl
  have hs : IntKind.signed .i64 = true := rfl
  simp only [hb, hs]
  have : n % (2 ^ 64 : Int) = n := Int.emod_eq_of_lt h0 (by omega)
  rw [this]
  simp
  intro h; omega
theorem iter_to {S E : Type} {stp : S → Option (S ⊕ E)} (st : Nat → S) (m : Nat) {e : E} (h : ∀ i, i < m → stp (st i) = some (.inl (st (i + 1)))) (he : stp (st m) = some (.inr e)) :
    ∀ j, m < j → iterT stp j (st 0) = some e := by
  have key : ∀ (d i j : Nat), i + d = m → d < j → iterT stp j (st i) = some e := by
    intro d
    induction d with
    | zero =>
      intro i j hi hj
      obtain ⟨j, rfl⟩ : ∃ j', j = j' + 1 := ⟨j - 1, by omega⟩
      have : i = m := by omega
      subst this
      simp only [iterT, he]
    | succ d ih =>
      intro i j hi hj
      obtain ⟨j, rfl⟩ : ∃ j', j = j' + 1 := ⟨j - 1, by omega⟩
      simp only [iterT, h i (by omega)]
      exact ih (i + 1) j (by omega) (by omega)
  exact fun j hj => key m 0 j (by omega) hj
theorem iter_cases {S E : Type} {stp : S → Option (S ⊕ E)} (st : Nat → S) (n : Nat) (good : Nat → Prop) {Qb Qe : E → Prop} (h1 : ∀ i, i < n → (∀ j, j ≤ i → good j) → stp (st i) = some (.inl (st (i + 1))))
    (h2 : ∀ i, i < n → (∀ j, j < i → good j) → ¬ good i → ∃ e, stp (st i) = some (.inr e) ∧ Qb e) (h3 : (∀ i, i < n → good i) → ∃ e, stp (st n) = some (.inr e) ∧ Qe e) :
    ∀ j, n < j → ∃ e, iterT stp j (st 0) = some e ∧ (((∃ i, i < n ∧ ¬ good i) ∧ Qb e) ∨ ((∀ i, i < n → good i) ∧ Qe e)) := by
  intro j hj
  by_cases hall : ∀ i, i < n → good i
  · obtain ⟨e, e1, e2⟩ := h3 hall
    exact ⟨e, iter_to st n (fun i hi => h1 i hi (fun j hj => hall j (by omega))) e1 j hj, .inr ⟨hall, e2⟩⟩
  · have hex : ∃ i, i < n ∧ ¬ good i := by
      apply Classical.byContradiction
      intro q
      exact hall fun i hi => Classical.byContradiction fun g => q ⟨i, hi, g⟩
    have hmin : ∃ m, m < n ∧ ¬ good m ∧ ∀ i, i < m → good i := by
      obtain ⟨i, hi, hg⟩ := hex
      have : ∀ d, ∀ i, i ≤ d → i < n → ¬ good i → ∃ m, m < n ∧ ¬ good m ∧ ∀ i, i < m → good i := by
        intro d
        induction d with
        | zero => intro i hi hn hg; exact ⟨i, hn, hg, fun k hk => by omega⟩
        | succ d ih =>
          intro i hi hn hg
          by_cases hb : ∃ k, k < i ∧ ¬ good k
          · obtain ⟨k, hk, hg'⟩ := hb
            exact ih k (by omega) (by omega) hg'
          · exact ⟨i, hn, hg, fun k hk => Classical.byContradiction fun g => hb ⟨k, hk, g⟩⟩
      exact this i i (Nat.le_refl _) hi hg
    obtain ⟨m, hm, hg, hlt⟩ := hmin
    obtain ⟨e, e1, e2⟩ := h2 m hm hlt hg
    exact ⟨e, iter_to st m (fun i hi => h1 i (by omega) (fun j hj => hlt j (by omega))) e1 j (by omega), .inl ⟨hex, e2⟩⟩
theorem lt_len {α : Type} {l : List α} {i : Nat} (h : i < l.length) : decide ((i : Int) < (l.length : Int)) = true := by simp; exact h
theorem in_len {α : Type} {l : List α} {i : Nat} (h : i < l.length) : decide ((0 : Int) ≤ (i : Int) ∧ (i : Int) < (l.length : Int)) = true := by simp; exact h
theorem end_len {α : Type} {l : List α} : decide ((l.length : Int) < (l.length : Int)) = false := by simp
theorem next_ok {i : Nat} (h : i < 1000000) : IntKind.wrap .i64 ((i : Int) + 1) = ((i + 1 : Nat) : Int) := by rw [wrap_ok (by omega) (by omega)]; simp
theorem br_t {R : Type} {b : Bool} (h : b = true) (x y : Option R) : br b x y = x := by rw [h, br_true]
theorem br_f {R : Type} {b : Bool} (h : b = false) (x y : Option R) : br b x y = y := by rw [h, br_false]
theorem take_next {α : Type} [Inhabited α] {l : List α} {i : Nat} (h : i < l.length) : l.take (i + 1) = l.take i ++ [l.getD i default] := by
  rw [List.take_add_one, List.getD_eq_getElem?_getD, List.getElem?_eq_getElem h]
  rfl
end Go.Proofs.YtllaajhdpfighaaDoor

end
section
set_option linter.unusedVariables false
set_option linter.unusedSimpArgs false
namespace Go.Proofs.YtllaajhdpfighaaDoor
open Go Go.Eng
def mayP (x : GSpot) : Bool := decide (1 ≤ x.bed ∧ x.bed ≤ 99 ∧ 0 ≤ x.channel ∧ x.channel < 8)
theorem f26_ok (k : Nat) (x : GSpot) : f26 k x = some (mayP x) := by
  unfold f26 mayP
  by_cases h1 : x.bed ≥ 1
  · by_cases h2 : x.bed ≤ 99
    · by_cases h3 : x.channel ≥ 0
      · rw [br_t (decide_eq_true h1), br_t (decide_eq_true h2), br_t (decide_eq_true h3)]
        congr 1
        apply decide_eq_decide.2
        omega
      · rw [br_t (decide_eq_true h1), br_t (decide_eq_true h2), br_f (decide_eq_false h3), decide_eq_false (by omega)]
    · rw [br_t (decide_eq_true h1), br_f (decide_eq_false h2), decide_eq_false (by omega)]
  · rw [br_f (decide_eq_false h1), decide_eq_false (by omega)]
theorem f18_ok (k : Nat) (x : GSpot) : f18 k x = some (mayP x) := by
  unfold f18
  rw [f26_ok, bindO_some]
def numP (x : GSpot) : Int := 8 * (x.bed - 1) + x.channel
def numE (x : GSpot) : Int × Int := if mayP x = true then (numP x, 0) else (0, 1)
theorem may_iff {x : GSpot} : mayP x = true ↔ (1 ≤ x.bed ∧ x.bed ≤ 99 ∧ 0 ≤ x.channel ∧ x.channel < 8) := by unfold mayP; exact decide_eq_true_iff
theorem may_mk {b c : Int} (h : 1 ≤ b ∧ b ≤ 99 ∧ 0 ≤ c ∧ c < 8) : mayP ⟨b, c⟩ = true := may_iff.2 h
theorem num_wrap {x : GSpot} (h : mayP x = true) : IntKind.wrap IntKind.i64 (IntKind.wrap IntKind.i64 ((8 : Int) * IntKind.wrap IntKind.i64 (GSpot.bed x - (1 : Int))) + GSpot.channel x) = numP x := by
  have h := may_iff.1 h
  rw [wrap_ok (n := x.bed - 1) (by omega) (by omega), wrap_ok (n := 8 * (x.bed - 1)) (by omega) (by omega), wrap_ok (by omega) (by omega)]
  rfl
theorem f9_ok (k : Nat) (x : GSpot) : f9 k x = some (numE x) := by
  unfold f9 numE
  rw [f26_ok, bindO_some]
  cases h : mayP x
  · rfl
  · rw [br_true, if_pos rfl]
    unfold f27
    rw [bindO_some, num_wrap h]
def lessP (x y : GSpot) : Bool := decide (x.bed < y.bed ∨ (x.bed = y.bed ∧ x.channel < y.channel))
theorem f20_ok (k : Nat) (x y : GSpot) : f20 k x y = some (lessP x y) := by
  unfold f20 lessP
  by_cases h : x.bed < y.bed
  · rw [br_t (decide_eq_true h), decide_eq_true (.inl h)]
  · rw [br_f (decide_eq_false h)]
    by_cases h2 : x.bed = y.bed
    · rw [br_t (by simp [h2])]
      congr 1
      apply decide_eq_decide.2
      omega
    · rw [br_f (by simp [h2]), decide_eq_false (by omega)]
end Go.Proofs.YtllaajhdpfighaaDoor

end
section
set_option linter.unusedVariables false
set_option linter.unusedSimpArgs false
namespace Go.Proofs.YtllaajhdpfighaaDoor
open Go Go.Eng
theorem at_bang {zs : List Int} {i : Nat} (h : i < zs.length) : zs.toArray[i]! = zs[i] := by simp [h]
theorem comp_upto {zs : List Int} (hp : zs.Pairwise (· ≤ ·)) : ∀ m, m ≤ zs.length → (∀ u, u ∈ Lib.compactUpTo zs.toArray m ↔ ∃ j, j < m ∧ u = zs.toArray[j]!) ∧ (Lib.compactUpTo zs.toArray m).Pairwise (· < ·)
  | 0, _ => by
    have : Lib.compactUpTo zs.toArray 0 = [] := rfl
    rw [this]
    exact ⟨fun u => by simp, .nil⟩
  | m + 1, h => by
    obtain ⟨h1, h2⟩ := comp_upto hp m (by omega)
    have hs : ∀ i j, i < j → j < zs.length → zs.toArray[i]! ≤ zs.toArray[j]! := fun i j hij hj => by
      rw [at_bang (by omega), at_bang hj]
      exact List.pairwise_iff_getElem.1 hp i j (by omega) hj hij
    rw [Lib.compactUpTo_succ]
    by_cases hk : m = 0 ∨ zs.toArray[m]! ≠ zs.toArray[m - 1]!
    · have : Lib.keeps zs.toArray m = true := by unfold Lib.keeps; exact decide_eq_true hk
      rw [this, if_pos rfl]
      refine ⟨fun u => ?_, ?_⟩
      · rw [List.mem_append, h1, List.mem_singleton]
        constructor
        · rintro (⟨j, hj, e⟩ | e)
          · exact ⟨j, by omega, e⟩
          · exact ⟨m, by omega, e⟩
        · rintro ⟨j, hj, e⟩
          by_cases q : j = m
          · subst q; exact .inr e
          · exact .inl ⟨j, by omega, e⟩
      · rw [List.pairwise_append]
        refine ⟨h2, List.pairwise_singleton .., fun a ha b hb => ?_⟩
        rw [List.mem_singleton] at hb
        subst hb
        obtain ⟨j, hj, rfl⟩ := (h1 a).1 ha
        have hm : m ≠ 0 := by omega
        have hne := hk.resolve_left hm
        have l1 := hs (m - 1) m (by omega) (by omega)
        by_cases q : j = m - 1
        · subst q; omega
        · have l2 := hs j (m - 1) (by omega) (by omega)
          omega
    · have : Lib.keeps zs.toArray m = false := by unfold Lib.keeps; exact decide_eq_false hk
      have hk2 : m ≠ 0 ∧ zs.toArray[m]! = zs.toArray[m - 1]! := ⟨fun q => hk (.inl q), Classical.byContradiction fun q => hk (.inr q)⟩
      rw [this, if_neg (by simp), List.append_nil]
      refine ⟨fun u => ?_, h2⟩
      rw [h1]
      constructor
      · rintro ⟨j, hj, e⟩; exact ⟨j, by omega, e⟩
      · rintro ⟨j, hj, e⟩
        by_cases q : j = m
        · subst q; exact ⟨j - 1, by omega, by rw [e, hk2.2]⟩
        · exact ⟨j, by omega, e⟩
theorem comp_mem {zs : List Int} (hp : zs.Pairwise (· ≤ ·)) (u : Int) : u ∈ Lib.compact zs ↔ u ∈ zs := by
  unfold Lib.compact
  rw [(comp_upto hp zs.length (Nat.le_refl _)).1]
  constructor
  · rintro ⟨j, hj, rfl⟩
    rw [at_bang hj]
    exact List.getElem_mem hj
  · intro h
    obtain ⟨j, hj, rfl⟩ := List.mem_iff_getElem.1 h
    exact ⟨j, hj, (at_bang hj).symm⟩
theorem comp_rises {zs : List Int} (hp : zs.Pairwise (· ≤ ·)) : (Lib.compact zs).Pairwise (· < ·) := (comp_upto hp zs.length (Nat.le_refl _)).2
def bedsU (l : List GSpot) : List Int := (l.filter mayP).map (·.bed)
def bedsP (l : List GSpot) : List Int := Lib.compact (sortLe (bedsU l))
theorem mem_bedsU {l : List GSpot} {u : Int} : u ∈ bedsU l ↔ ∃ v ∈ l, mayP v = true ∧ v.bed = u := by
  unfold bedsU
  rw [List.mem_map]
  constructor
  · rintro ⟨v, hv, e⟩
    obtain ⟨h1, h2⟩ := List.mem_filter.1 hv
    exact ⟨v, h1, h2, e⟩
  · rintro ⟨v, h1, h2, e⟩
    exact ⟨v, List.mem_filter.2 ⟨h1, h2⟩, e⟩
theorem mem_bedsP {l : List GSpot} {u : Int} : u ∈ bedsP l ↔ ∃ v ∈ l, mayP v = true ∧ v.bed = u := by
  unfold bedsP
  rw [comp_mem (sortLe_sorted _), (sortLe_perm _).mem_iff, mem_bedsU]
theorem beds_rise (l : List GSpot) : (bedsP l).Pairwise (· < ·) := comp_rises (sortLe_sorted _)
theorem bedsU_len (l : List GSpot) : (bedsU l).length ≤ l.length := by unfold bedsU; rw [List.length_map]; exact List.length_filter_le ..
theorem bedsP_len (l : List GSpot) : (bedsP l).length ≤ l.length := by
  refine Nat.le_trans (comp_len _) ?_
  rw [(sortLe_perm _).length_eq]
  exact bedsU_len l
theorem l23_ok {k : Nat} {l : List GSpot} (hk : l.length < k) (hl : l.length ≤ 1000) : l23_0 k (S23_0.mk l (l.length : Int) 0 []) = some (E23_0.mk (bedsU l)) := by
  have he := iter_to (stp := pS23_0 k) (fun i => S23_0.mk l (l.length : Int) (i : Int) (bedsU (l.take i))) l.length (e := E23_0.mk (bedsU l))
    (by
      intro i hi
      have hb := bedsU_len (l.take i)
      rw [List.length_take] at hb
      have hn : bedsU (l.take (i + 1)) = bedsU (l.take i) ++ (if mayP (l.getD i default) = true then [(l.getD i default).bed] else []) := by
        unfold bedsU
        rw [take_next hi, List.filter_append, List.map_append]
        congr 1
        cases h : mayP (l.getD i default)
        · rw [List.filter_cons_of_neg (by rw [h]; simp)]; rfl
        · rw [List.filter_cons_of_pos h]; rfl
      unfold pS23_0
      simp only [Int.toNat_natCast]
      rw [br_t (lt_len hi), br_t (in_len hi), f18_ok, bindO_some, next_ok (by omega), hn]
      cases h : mayP (l.getD i default)
      · rw [br_false, if_neg (by simp), List.append_nil]
      · rw [br_true, if_pos rfl, br_t (by rw [Bool.true_and]; exact decide_eq_true (by simp; omega))])
    (by
      unfold pS23_0
      simp only
      rw [br_f end_len, List.take_length]) k hk
  exact he
theorem f23_ok {k : Nat} {l : List GSpot} (hk : l.length < k) (hl : l.length ≤ 1000) : f23 k l = some (bedsP l) := by
  have hb := bedsU_len l
  have hs : (sortLe (bedsU l)).length = (bedsU l).length := (sortLe_perm _).length_eq
  have hc := comp_len (sortLe (bedsU l))
  unfold f23
  rw [l23_ok hk hl, bindO_some]
  have e1 : fSort (bedsU l) = some (sortLe (bedsU l)) := by unfold fSort; rw [br_t (decide_eq_true (by omega))]
  have e2 : fComp (sortLe (bedsU l)) = some (Lib.compact (sortLe (bedsU l)) ++ List.replicate ((sortLe (bedsU l)).length - (Lib.compact (sortLe (bedsU l))).length) 0, (Lib.compact (sortLe (bedsU l))).length) := by unfold fComp; rw [br_t (decide_eq_true (by omega))]
  rw [e1, bindO_some, e2, bindO_some]
  rw [br_t (by simp), List.drop_zero, List.take_left']
  · rfl
  · rfl
def hasBed (l : List GSpot) (u : Int) : Bool := l.any fun v => mayP v && v.bed == u
end Go.Proofs.YtllaajhdpfighaaDoor

end
section
set_option linter.unusedVariables false
set_option linter.unusedSimpArgs false
namespace Go.Proofs.YtllaajhdpfighaaDoor
open Go Go.Eng
theorem text_beq (a b : ByteArray) : (a.toList == b.toList) = decide (a = b) := by
  rw [ByteArray.toList_eq, ByteArray.toList_eq, Bool.eq_iff_iff, beq_iff_eq, decide_eq_true_eq]
  exact ⟨fun h => Go.WideShapes.bytes_inj h, fun h => by rw [h]⟩
theorem txt_size {i : Nat} : (txtN i).size ≤ 2 := by
  unfold txtN
  split <;> simp [ByteArray.size]
theorem txt_size1 {i : Nat} (h : i < 10) : (txtN i).size = 1 := by
  unfold txtN
  rw [if_pos h]
  rfl
def textP (x : GSpot) : ByteArray := txtN x.bed.toNat ++ ByteArray.mk #[(47 : UInt8)] ++ txtN x.channel.toNat
theorem f28_ok (k : Nat) {x : GSpot} (h : mayP x = true) : f28 k x = some (textP x) := by
  have h := may_iff.1 h
  have h1 := @txt_size x.bed.toNat
  have h2 := @txt_size x.channel.toNat
  have e1 : fItoa x.bed = some (txtN x.bed.toNat) := by unfold fItoa; rw [br_t (decide_eq_true (by omega))]
  have e2 : fItoa x.channel = some (txtN x.channel.toNat) := by unfold fItoa; rw [br_t (decide_eq_true (by omega))]
  have h3 : (ByteArray.mk #[(47 : UInt8)]).size = 1 := rfl
  unfold f28
  rw [e1, bindO_some, br_t (decide_eq_true (by omega)), e2, bindO_some, br_t (decide_eq_true (by rw [ByteArray.size_append, h3]; omega))]
  rfl
def printP (x : GSpot) : ByteArray × Int := if mayP x = true then (textP x, 0) else (ByteArray.mk #[], 1)
theorem f13_ok (k : Nat) (x : GSpot) : f13 k x = some (printP x) := by
  unfold f13 printP
  rw [f26_ok, bindO_some]
  cases h : mayP x
  · rfl
  · rw [br_true, f28_ok k h, bindO_some, if_pos rfl]
theorem parse_back : ((List.range 99).all fun b => (List.range 8).all fun c => decide (f15 0 (textP ⟨((b + 1 : Nat) : Int), (c : Int)⟩) = some ((⟨((b + 1 : Nat) : Int), (c : Int)⟩ : GSpot), (0 : Int)))) = true := by kernel_rfl
theorem cut_size (s t : ByteArray) : (cutText s t).1.size ≤ s.size ∧ (cutText s t).2.1.size ≤ s.size := by
  unfold cutText Lib.cut
  have hs : s.data.toList.length = s.size := by simp
  split
  · simp only [ByteArray.size, List.size_toArray, List.length_take, List.length_drop] at *
    omega
  · simp only [ByteArray.size, List.size_toArray, List.length_nil] at *
    omega
theorem f15_val (k : Nat) {t : ByteArray} (ht : t.size ≤ 200) : ∃ r, f15 k t = some r ∧ ((r.2 = 0 ∧ mayP r.1 = true ∧ textP r.1 = t) ∨ r = (⟨0, 0⟩, 20)) := by
  obtain ⟨c1, c2⟩ := cut_size t (ByteArray.mk #[(47 : UInt8)])
  have e1 : fCut (t, ByteArray.mk #[(47 : UInt8)]) = some (cutText t (ByteArray.mk #[(47 : UInt8)])) := by unfold fCut; rw [br_t (decide_eq_true (by simp only; omega))]
  have ea : ∀ s : ByteArray, s.size ≤ 200 → ∃ z, fAtoi s = some z := fun s hs => by unfold fAtoi; rw [br_t (decide_eq_true (by omega))]; exact ⟨_, rfl⟩
  obtain ⟨za, ha⟩ := ea _ (Nat.le_trans c1 ht)
  obtain ⟨zb, hb⟩ := ea _ (Nat.le_trans c2 ht)
  unfold f15
  rw [e1, bindO_some, ha, bindO_some]
  cases za with
  | inr a =>
    simp only
    rw [hb, bindO_some]
    cases zb <;> exact ⟨_, rfl, .inr rfl⟩
  | inl a =>
    simp only
    rw [hb, bindO_some]
    cases zb with
    | inr b => exact ⟨_, rfl, .inr rfl⟩
    | inl b =>
      simp only
      rw [f26_ok, bindO_some]
      cases hm : mayP ⟨a, b⟩
      · exact ⟨_, rfl, .inr rfl⟩
      · rw [br_f (b := !true) rfl, f28_ok k hm, bindO_some, text_beq]
        by_cases hq : textP ⟨a, b⟩ = t
        · rw [br_f (by rw [decide_eq_true hq]; rfl)]
          exact ⟨_, rfl, .inl ⟨rfl, hm, hq⟩⟩
        · rw [br_t (by rw [decide_eq_false hq]; rfl)]
          exact ⟨_, rfl, .inr rfl⟩
theorem f15_back (k : Nat) {x : GSpot} (h : mayP x = true) : f15 k (textP x) = some (x, 0) := by
  have h := may_iff.1 h
  have q := of_decide_eq_true (List.all_eq_true.1 (List.all_eq_true.1 parse_back (x.bed.toNat - 1) (List.mem_range.2 (by omega))) x.channel.toNat (List.mem_range.2 (by omega)))
  have e : (⟨((x.bed.toNat - 1 + 1 : Nat) : Int), (x.channel.toNat : Int)⟩ : GSpot) = x := by
    apply GSpot.ext
    · show ((x.bed.toNat - 1 + 1 : Nat) : Int) = x.bed
      omega
    · show (x.channel.toNat : Int) = x.channel
      omega
  rw [e] at q
  exact (show f15 k (textP x) = f15 0 (textP x) from rfl).trans q
def atP (n : Int) : GSpot × Int := if 0 ≤ n ∧ n ≤ 791 then (⟨n / 8 + 1, n % 8⟩, 0) else (⟨0, 0⟩, 1)
theorem at_val {n : Int} (h : 0 ≤ n ∧ n ≤ 791) : (GSpot.mk (IntKind.wrap IntKind.i64 (IntKind.wrap IntKind.i64 (Int.tdiv n (8 : Int)) + (1 : Int))) (Int.tmod n (8 : Int))) = ⟨n / 8 + 1, n % 8⟩ := by
  rw [Int.tdiv_eq_ediv_of_nonneg h.1, Int.tmod_eq_emod_of_nonneg h.1, wrap_ok (n := n / 8) (by omega) (by omega), wrap_ok (by omega) (by omega)]
theorem f11_ok (k : Nat) (n : Int) : f11 k n = some (atP n) := by
  unfold f11 atP
  by_cases h0 : n < 0
  · rw [br_t (decide_eq_true h0), if_neg (by omega)]
  · by_cases h1 : n ≥ 792
    · rw [br_f (decide_eq_false h0), br_t (decide_eq_true h1), if_neg (by omega)]
    · rw [br_f (decide_eq_false h0), br_f (decide_eq_false h1), if_pos (by omega), at_val (by omega)]
end Go.Proofs.YtllaajhdpfighaaDoor

end
section
set_option linter.unusedVariables false
set_option linter.unusedSimpArgs false
namespace Go.Proofs.YtllaajhdpfighaaDoor
open Go Go.Eng
theorem f19_ok (k : Nat) (x : GSpot) : f19 k x = some (mayP x) := by
  unfold f19 mayP
  by_cases h1 : x.bed ≥ 1
  · by_cases h2 : x.bed ≤ 99
    · by_cases h3 : x.channel ≥ 0
      · rw [br_t (decide_eq_true h1), br_t (decide_eq_true h2), br_t (decide_eq_true h3)]
        congr 1
        apply decide_eq_decide.2
        omega
      · rw [br_t (decide_eq_true h1), br_t (decide_eq_true h2), br_f (decide_eq_false h3), decide_eq_false (by omega)]
    · rw [br_t (decide_eq_true h1), br_f (decide_eq_false h2), decide_eq_false (by omega)]
  · rw [br_f (decide_eq_false h1), decide_eq_false (by omega)]
theorem f10_ok (k : Nat) (x : GSpot) : f10 k x = some (numE x) := by
  unfold f10 numE
  rw [f19_ok, bindO_some]
  cases h : mayP x
  · rfl
  · rw [br_f (b := !true) rfl, if_pos rfl, num_wrap h]
theorem f12_ok (k : Nat) (n : Int) : f12 k n = some (atP n) := by
  unfold f12 atP
  by_cases h0 : n < 0
  · rw [br_t (decide_eq_true h0), if_neg (by omega)]
  · by_cases h1 : n > 791
    · rw [br_f (decide_eq_false h0), br_t (decide_eq_true h1), if_neg (by omega)]
    · rw [br_f (decide_eq_false h0), br_f (decide_eq_false h1), if_pos (by omega), at_val (by omega)]
theorem f21_ok (k : Nat) (x y : GSpot) : f21 k x y = some (lessP x y) := f20_ok k x y
theorem digits_in : ((List.range 100).all fun n => decide (f29 101 (n : Int) = some (txtN n))) = true := by kernel_rfl
theorem f29_ok {n : Int} (h : 0 ≤ n ∧ n < 100) : f29 101 n = some (txtN n.toNat) := by
  have := of_decide_eq_true (List.all_eq_true.1 digits_in n.toNat (List.mem_range.2 (by omega)))
  rwa [Int.toNat_of_nonneg h.1] at this
theorem f14_ok (x : GSpot) : f14 101 x = some (printP x) := by
  unfold f14 printP
  rw [f19_ok, bindO_some]
  cases hm : mayP x
  · rfl
  · have h := may_iff.1 hm
    have h1 := @txt_size x.bed.toNat
    have h2 := @txt_size x.channel.toNat
    have h3 : (ByteArray.mk #[(47 : UInt8)]).size = 1 := rfl
    rw [br_f (b := !true) rfl, if_pos rfl, f29_ok (by omega), bindO_some, br_t (decide_eq_true (by omega)), f29_ok (by omega), bindO_some, br_t (decide_eq_true (by rw [ByteArray.size_append, h3]; omega))]
    rfl
theorem text_short {x : GSpot} (h : mayP x = true) : (textP x).size ≤ 4 := by
  have h := may_iff.1 h
  have h1 := @txt_size x.bed.toNat
  have h2 := txt_size1 (i := x.channel.toNat) (by omega)
  have h3 : (ByteArray.mk #[(47 : UInt8)]).size = 1 := rfl
  unfold textP
  rw [ByteArray.size_append, ByteArray.size_append, h3]
  omega
def isT (t : ByteArray) (b c : Int) : Prop := textP ⟨b, c⟩ = t
instance (t : ByteArray) (b c : Int) : Decidable (isT t b c) := inferInstanceAs (Decidable (textP ⟨b, c⟩ = t))
theorem l162_ok {t : ByteArray} {b h0 h1 : Int} (hb : 1 ≤ b ∧ b ≤ 99) : ∃ e, l16_2 101 (S16_2.mk t b 0 h0 h1) = some e ∧
    ((∃ c : Nat, c < 8 ∧ isT t b c ∧ e = .inl (E16_2.mk 0 b c)) ∨ ((∀ c : Nat, c < 8 → ¬ isT t b c) ∧ e = .inr (E16_2b.mk t b h0 h1))) := by
  have hr := iter_cases (stp := pS16_2 101) (fun i => S16_2.mk t b (i : Int) h0 h1) 8 (fun i => ¬ isT t b (i : Int)) (Qb := fun e => ∃ c : Nat, c < 8 ∧ isT t b c ∧ e = .inl (E16_2.mk 0 b c)) (Qe := fun e => e = .inr (E16_2b.mk t b h0 h1))
    (by
      intro i hi hg
      have hm : mayP ⟨b, (i : Int)⟩ = true := may_mk (by omega)
      have hp : printP ⟨b, (i : Int)⟩ = (textP ⟨b, (i : Int)⟩, 0) := by unfold printP; rw [if_pos hm]
      have hq := hg i (Nat.le_refl _)
      unfold pS16_2
      simp only
      rw [br_t (decide_eq_true (by omega)), f14_ok, bindO_some, hp]
      simp only
      rw [text_beq, br_f (b := decide (textP ⟨b, (i : Int)⟩ = t)) (decide_eq_false hq), next_ok (by omega)])
    (by
      intro i hi _ hg
      have hg : isT t b (i : Int) := Classical.byContradiction hg
      have hm : mayP ⟨b, (i : Int)⟩ = true := may_mk (by omega)
      have hp : printP ⟨b, (i : Int)⟩ = (textP ⟨b, (i : Int)⟩, 0) := by unfold printP; rw [if_pos hm]
      refine ⟨.inl (E16_2.mk 0 b (i : Int)), ?_, i, hi, hg, rfl⟩
      unfold pS16_2
      simp only
      rw [br_t (decide_eq_true (by omega)), f14_ok, bindO_some, hp]
      simp only
      rw [text_beq, br_t (b := decide (textP ⟨b, (i : Int)⟩ = t)) (decide_eq_true hg)])
    (by
      intro _
      refine ⟨_, ?_, rfl⟩
      unfold pS16_2
      simp only
      rw [br_f (decide_eq_false (by omega))]) 101 (by omega)
  obtain ⟨e, e1, e2⟩ := hr
  refine ⟨e, e1, ?_⟩
  rcases e2 with ⟨_, h⟩ | ⟨h, h2⟩
  · exact .inl h
  · exact .inr ⟨h, h2⟩
theorem l160_ok (t : ByteArray) : ∃ e, l16_0 101 (S16_0.mk t 1 0 0) = some e ∧
    ((∃ b c : Nat, 1 ≤ b ∧ b ≤ 99 ∧ c < 8 ∧ isT t b c ∧ e = .inl (E16_0.mk 0 b c)) ∨ ((∀ b c : Nat, 1 ≤ b → b ≤ 99 → c < 8 → ¬ isT t b c) ∧ e = .inr (E16_0b.mk 0 0))) := by
  have hr := iter_cases (stp := pS16_0 101) (fun i => S16_0.mk t ((i + 1 : Nat) : Int) 0 0) 99 (fun i => ∀ c : Nat, c < 8 → ¬ isT t ((i + 1 : Nat) : Int) c)
    (Qb := fun e => ∃ b c : Nat, 1 ≤ b ∧ b ≤ 99 ∧ c < 8 ∧ isT t b c ∧ e = .inl (E16_0.mk 0 b c)) (Qe := fun e => e = .inr (E16_0b.mk 0 0))
    (by
      intro i hi hg
      obtain ⟨e, e1, e2⟩ := l162_ok (t := t) (b := ((i + 1 : Nat) : Int)) (h0 := 0) (h1 := 0) (by omega)
      have hq := hg i (Nat.le_refl _)
      rcases e2 with ⟨c, hc, h, _⟩ | ⟨_, rfl⟩
      · exact absurd h (hq c hc)
      · unfold pS16_0
        simp only
        rw [br_t (decide_eq_true (by omega)), e1, bindO_some]
        simp only
        rw [next_ok (by omega)])
    (by
      intro i hi _ hg
      obtain ⟨e, e1, e2⟩ := l162_ok (t := t) (b := ((i + 1 : Nat) : Int)) (h0 := 0) (h1 := 0) (by omega)
      rcases e2 with ⟨c, hc, h, rfl⟩ | ⟨h, _⟩
      · refine ⟨.inl (E16_0.mk 0 ((i + 1 : Nat) : Int) c), ?_, i + 1, c, by omega, by omega, hc, h, rfl⟩
        unfold pS16_0
        simp only
        rw [br_t (decide_eq_true (by omega)), e1, bindO_some]
      · exact absurd h hg)
    (by
      intro _
      refine ⟨_, ?_, rfl⟩
      unfold pS16_0
      simp only
      rw [br_f (decide_eq_false (by omega))]) 101 (by omega)
  obtain ⟨e, e1, e2⟩ := hr
  refine ⟨e, e1, ?_⟩
  rcases e2 with ⟨_, h⟩ | ⟨h, h2⟩
  · exact .inl h
  · refine .inr ⟨fun b c hb hb2 hc => ?_, h2⟩
    have := h (b - 1) (by omega) c hc
    rwa [show ((b - 1 + 1 : Nat) : Int) = (b : Int) by omega] at this
theorem f16_ok (t : ByteArray) : ∃ r, f16 101 t = some r ∧ ((r.2 = 0 ∧ mayP r.1 = true ∧ textP r.1 = t) ∨ (r = (⟨0, 0⟩, 20) ∧ ∀ x, mayP x = true → textP x ≠ t)) := by
  unfold f16
  by_cases hl : (t.size : Int) > 4
  · rw [br_t (decide_eq_true hl)]
    refine ⟨_, rfl, .inr ⟨rfl, fun x hx h => ?_⟩⟩
    have := text_short hx
    rw [h] at this
    omega
  · obtain ⟨e, e1, e2⟩ := l160_ok t
    rw [br_f (decide_eq_false hl), e1, bindO_some]
    rcases e2 with ⟨b, c, h1, h2, h3, h4, rfl⟩ | ⟨h, rfl⟩
    · have hm : mayP ⟨(b : Int), (c : Int)⟩ = true := may_mk (by omega)
      exact ⟨_, rfl, .inl ⟨rfl, hm, h4⟩⟩
    · refine ⟨_, rfl, .inr ⟨rfl, fun x hx q => ?_⟩⟩
      have hm := may_iff.1 hx
      refine h x.bed.toNat x.channel.toNat (by omega) (by omega) (by omega) ?_
      unfold isT
      rw [Int.toNat_of_nonneg (by omega), Int.toNat_of_nonneg (by omega)]
      exact q
theorem parse_same {t : ByteArray} (ht : t.size ≤ 200) : ∃ r, f15 101 t = some r ∧ f16 101 t = some r := by
  obtain ⟨r, e1, h1⟩ := f15_val 101 ht
  obtain ⟨r', e2, h2⟩ := f16_ok t
  have : r = r' := by
    rcases h2 with ⟨a, b, c⟩ | ⟨a, b⟩
    · have := f15_back 101 b
      rw [c, e1] at this
      have := Option.some.inj this
      rw [this]
      exact Prod.ext rfl a.symm
    · rcases h1 with ⟨_, q1, q2⟩ | q
      · exact absurd q2 (b _ q1)
      · rw [q, a]
  exact ⟨r, e1, by rw [this]; exact e2⟩
theorem l242_ok {l : List GSpot} (hl : l.length ≤ 100) (b : Int) (h : List Int) : l24_2 101 (S24_2.mk l b false 0 h) = some (E24_2.mk l b (hasBed l b) h) := by
  have he := iter_to (stp := pS24_2 101) (fun j => S24_2.mk l b (hasBed (l.take j) b) (j : Int) h) l.length (e := E24_2.mk l b (hasBed l b) h)
    (by
      intro j hj
      have hn : hasBed (l.take (j + 1)) b = (hasBed (l.take j) b || (mayP (l.getD j default) && (l.getD j default).bed == b)) := by
        unfold hasBed
        rw [take_next hj, List.any_append]
        simp
      unfold pS24_2
      simp only [Int.toNat_natCast]
      rw [br_t (lt_len hj), hn, next_ok (by omega)]
      cases h1 : hasBed (l.take j) b
      · rw [br_false, br_t (in_len hj), f19_ok, bindO_some]
        cases h2 : mayP (l.getD j default)
        · rfl
        · rw [br_true, br_t (in_len hj)]
          rfl
      · rfl)
    (by
      unfold pS24_2
      simp only
      rw [br_f end_len, List.take_length]) 101 (by omega)
  exact he
def bedsR (l : List GSpot) (i : Nat) : List Int := ((List.range i).map fun j => ((j + 1 : Nat) : Int)).filter (hasBed l)
theorem bedsR_len (l : List GSpot) (i : Nat) : (bedsR l i).length ≤ i := by
  unfold bedsR
  exact Nat.le_trans (List.length_filter_le ..) (by rw [List.length_map, List.length_range]; exact Nat.le_refl _)
theorem f24_val {l : List GSpot} (hl : l.length ≤ 100) : f24 101 l = some (bedsR l 99) := by
  have he := iter_to (stp := pS24_0 101) (fun i => S24_0.mk l ((i + 1 : Nat) : Int) (bedsR l i)) 99 (e := E24_0.mk (bedsR l 99))
    (by
      intro i hi
      have hb := bedsR_len l i
      have hn : bedsR l (i + 1) = bedsR l i ++ (if hasBed l ((i + 1 : Nat) : Int) = true then [((i + 1 : Nat) : Int)] else []) := by
        unfold bedsR
        rw [List.range_succ, List.map_append, List.filter_append]
        congr 1
        cases h : hasBed l ((i + 1 : Nat) : Int)
        · rw [List.map_singleton, List.filter_cons_of_neg (by rw [h]; simp)]; rfl
        · rw [List.map_singleton, List.filter_cons_of_pos h]; rfl
      unfold pS24_0
      simp only
      rw [br_t (decide_eq_true (by omega)), l242_ok hl, bindO_some, hn]
      simp only
      rw [next_ok (by omega)]
      cases h : hasBed l ((i + 1 : Nat) : Int)
      · rw [br_false, if_neg (by simp), List.append_nil]
      · rw [br_true, if_pos rfl, br_t (by rw [Bool.true_and]; exact decide_eq_true (by simp; omega))])
    (by
      unfold pS24_0
      simp only
      rw [br_f (decide_eq_false (by omega))]) 101 (by omega)
  unfold f24 l24_0
  rw [show S24_0.mk l (1 : Int) [] = S24_0.mk l ((0 + 1 : Nat) : Int) (bedsR l 0) from rfl, he, bindO_some]
theorem rising_eq : ∀ {a b : List Int}, a.Pairwise (· < ·) → b.Pairwise (· < ·) → (∀ u, u ∈ a ↔ u ∈ b) → a = b
  | [], [], _, _, _ => rfl
  | [], y :: b, _, _, h => by have := (h y).2 (List.mem_cons_self ..); simp at this
  | x :: a, [], _, _, h => by have := (h x).1 (List.mem_cons_self ..); simp at this
  | x :: a, y :: b, ha, hb, h => by
    obtain ⟨a1, a2⟩ := List.pairwise_cons.1 ha
    obtain ⟨b1, b2⟩ := List.pairwise_cons.1 hb
    have hxy : x = y := by
      rcases List.mem_cons.1 ((h x).1 (List.mem_cons_self ..)) with q | q
      · exact q
      · rcases List.mem_cons.1 ((h y).2 (List.mem_cons_self ..)) with q2 | q2
        · exact q2.symm
        · have := b1 x q
          have := a1 y q2
          omega
    subst hxy
    rw [rising_eq a2 b2 fun u => ?_]
    constructor
    · intro hu
      rcases List.mem_cons.1 ((h u).1 (List.mem_cons_of_mem _ hu)) with q | q
      · have := a1 u hu; omega
      · exact q
    · intro hu
      rcases List.mem_cons.1 ((h u).2 (List.mem_cons_of_mem _ hu)) with q | q
      · have := b1 u hu; omega
      · exact q
theorem beds_same (l : List GSpot) : bedsR l 99 = bedsP l := by
  refine rising_eq ?_ (beds_rise l) fun u => ?_
  · unfold bedsR
    refine List.Pairwise.filter _ ?_
    rw [List.pairwise_map]
    exact List.pairwise_lt_range.imp fun h => by omega
  · rw [mem_bedsP]
    unfold bedsR
    rw [List.mem_filter, List.mem_map]
    unfold hasBed
    rw [List.any_eq_true]
    constructor
    · rintro ⟨_, v, hv, h⟩
      rw [Bool.and_eq_true, beq_iff_eq] at h
      exact ⟨v, hv, h.1, h.2⟩
    · rintro ⟨v, hv, h1, h2⟩
      have hm := may_iff.1 h1
      exact ⟨⟨u.toNat - 1, List.mem_range.2 (by omega), by omega⟩, v, hv, by rw [h1, h2]; simp⟩
theorem f22_same {k : Nat} {l : List Int} (hk : l.length < k) (hl : l.length ≤ 1000) : f22 k l l = some true := by
  have he := iter_to (stp := pS22_0 k) (fun i => S22_0.mk l l (i : Int)) l.length (e := .inr E22_0b.mk)
    (by
      intro i hi
      unfold pS22_0
      simp only [lt_len hi, in_len hi, br_true, Int.toNat_natCast]
      rw [br_f (by simp), next_ok (by omega)])
    (by unfold pS22_0; simp only [end_len, br_false]) k hk
  unfold f22 l22_0
  have e0 : (((0 : Nat) : Int)) = 0 := rfl
  simp only [e0] at he
  rw [br_f (by simp), he, bindO_some]
theorem f25_same {k : Nat} {l : List GSpot} (hk : l.length < k) (hl : l.length ≤ 1000) : f25 k l l = some true := by
  have he := iter_to (stp := pS25_0 k) (fun i => S25_0.mk l l (i : Int)) l.length (e := .inr E25_0b.mk)
    (by
      intro i hi
      unfold pS25_0
      simp only [lt_len hi, in_len hi, br_true, Int.toNat_natCast]
      rw [br_f (by simp), next_ok (by omega)])
    (by unfold pS25_0; simp only [end_len, br_false]) k hk
  unfold f25 l25_0
  have e0 : (((0 : Nat) : Int)) = 0 := rfl
  simp only [e0] at he
  rw [br_f (by simp), he, bindO_some]
theorem spot_beq (x : GSpot) : (x.bed == x.bed && x.channel == x.channel) = true := by simp
theorem beq_self' {α : Type} [BEq α] [ReflBEq α] (a : α) : (a == a) = true := BEq.rfl
theorem spotDoes_true (x0 x1 : GSpot) (x2 : Int) (x3 : ByteArray) (x4 : List GSpot) : ∃ k, f3 k x0 x1 x2 x3 x4 = some true := by
  refine ⟨101, ?_⟩
  unfold f3
  by_cases hl : (x3.size : Int) > 200
  · rw [br_t (decide_eq_true hl)]
  by_cases hl4 : (x4.length : Int) > 100
  · rw [br_f (decide_eq_false hl), br_t (decide_eq_true hl4)]
  obtain ⟨r, e15, e16⟩ := parse_same (t := x3) (by omega)
  have h8 : f8 101 x4 = some x4 := by unfold f8; rw [br_t (by rw [Bool.true_and]; exact decide_eq_true (by omega))]
  have hb := bedsP_len x4
  rw [br_f (decide_eq_false hl), br_f (decide_eq_false hl4), h8, bindO_some, f9_ok, bindO_some, f10_ok, bindO_some, f11_ok, bindO_some, f12_ok, bindO_some, f13_ok, bindO_some, f14_ok, bindO_some, e15, bindO_some, e16, bindO_some]
  rw [br_t (beq_self' _), br_t (beq_self' _), br_t (spot_beq _), br_t (beq_self' _), br_t (beq_self' _), br_t (beq_self' _), br_t (spot_beq _), br_t (beq_self' _)]
  rw [f18_ok, bindO_some, f19_ok, bindO_some, br_t (beq_self' _), f20_ok, bindO_some, f21_ok, bindO_some, br_t (beq_self' _)]
  rw [f23_ok (by omega) (by omega), bindO_some, f24_val (by omega), bindO_some, beds_same, f22_same (by omega) (by omega), bindO_some, br_true, f25_same (by omega) (by omega), bindO_some]
theorem spotDoes_pure (x0 x1 : GSpot) (x2 : Int) (x3 : ByteArray) (x4 : List GSpot) (g0 : ((Lit.int .i64 x0.bed).wf = true) ∧ ((Lit.int .i64 x0.channel).wf = true)) (g1 : ((Lit.int .i64 x1.bed).wf = true) ∧ ((Lit.int .i64 x1.channel).wf = true)) (g2 : (Lit.int .i64 x2).wf = true) (g3 : x3.size ≤ maxLen) (g4 : x4.length ≤ maxLen ∧ ∀ x5 ∈ x4, ((Lit.int .i64 x5.bed).wf = true) ∧ ((Lit.int .i64 x5.channel).wf = true)) : ∃ k, f3 k x0 x1 x2 x3 x4 = some true := spotDoes_true x0 x1 x2 x3 x4
end Go.Proofs.YtllaajhdpfighaaDoor

end
section
set_option linter.unusedVariables false
namespace Go.Proofs.YtllaajhdpfighaaDoor
open Go.ChangeShapes Go.WideShapes Go.ChangeAt Go.WideMaps Go.WideElems Go.RowKit Go.Proofs
def laidL {H : Type} : List (String × DataW H) := [("math/bits.deBruijn32tab", Rows.laid_math_bits_deBruijn32tab), ("math/bits.deBruijn64tab", Rows.laid_math_bits_deBruijn64tab), ("internal/strconv.uint64pow10", Rows.laid_internal_strconv_uint64pow10), ("strconv.ErrRange", Rows.laid_strconv_ErrRange), ("strconv.ErrSyntax", Rows.laid_strconv_ErrSyntax)]
theorem gRange : Tryd.prog.globalNamed "strconv.ErrRange" = some 2 := by kernel_rfl
theorem gSyntax : Tryd.prog.globalNamed "strconv.ErrSyntax" = some 1 := by kernel_rfl
theorem tRange : (Tryd.prog.globals[2]?).map (·.type) = some 55 := by kernel_rfl
theorem tSyntax : (Tryd.prog.globals[1]?).map (·.type) = some 55 := by kernel_rfl
theorem door_met (os : Os) (args : Array Value) : laidMetH Tryd.prog laidL ((World.doorLaid Tryd.prog 400 os).forCall (fun _ _ => 0) ⟨#[], args, []⟩).memory :=
  laidMetH_of_parts3 (fuel := 8) (laidMet_of_run' 8 (by kernel_rfl) (by kernel_rfl)) (by kernel_rfl) (by kernel_rfl)
theorem trod_ifc {H : Type} {enc : TypeId × Value → H} {P : Program} {w : World} {base : Nat} {spare : Nat → Bool} {held : Bool} {fuel : Nat} {t : TypeId} {cs : List Value} {x : DataW H × List MemPlace} {ms : Array (String × TypeId)}
    (ht : P.underlying t = some (.interface ms)) (h : DataW.trod enc P w base spare held fuel t cs = some x) : ∃ v, cs = [v] ∧ (v = .nilIface ∨ ∃ u z, v = .iface u z) := by
  cases fuel with
  | zero => simp [DataW.trod] at h
  | succ n =>
    unfold DataW.trod at h
    rw [ht] at h
    split at h <;> first | (exact ⟨_, rfl, .inl rfl⟩) | (exact ⟨_, rfl, .inr ⟨_, _, rfl⟩⟩) | simp_all
theorem iface_of {W : World} {nm : String} {g : Nat} {cs : Array Value} (hg : Tryd.prog.globalNamed nm = some g) (hv : W.var? Tryd.prog nm = some cs) {v : Value} (hc : cs.toList = [v]) (h : v = .nilIface ∨ ∃ u z, v = .iface u z) : ifaceAt W g := by
  have := World.var?_cell hg hv 0
  refine ⟨v, ?_, h⟩
  rw [this, ← Array.getElem?_toList, hc]
  rfl
theorem of_laid {W : World} (h : laidMetH Tryd.prog laidL W) (hs : W.ShapedOpen Tryd.prog) : gpS W := by
  rw [MakeChecks.laidMetH_plain _ _ _ (by kernel_rfl)] at h
  obtain ⟨ps, ⟨_, _, _, _, _, _, _, _, _, _, ⟨_, _, _, _, _, _, _, _, _, _, ⟨_, _, _, _, _, _, _, _, _, _, ⟨g3, t3, cs3, f3, p3, q3, hg3, ht3, hv3, hd3, ⟨g4, t4, cs4, f4, p4, q4, hg4, ht4, hv4, hd4, _, _⟩, _⟩, _⟩, _⟩, _⟩, _, _⟩ := h
  obtain rfl := Option.some.inj (gRange.symm.trans hg3)
  obtain rfl := Option.some.inj (gSyntax.symm.trans hg4)
  obtain rfl := Option.some.inj (tRange.symm.trans ht3)
  obtain rfl := Option.some.inj (tSyntax.symm.trans ht4)
  obtain ⟨v3, e3, i3⟩ := trod_ifc Tryd.underlying55 hd3
  obtain ⟨v4, e4, i4⟩ := trod_ifc Tryd.underlying55 hd4
  exact ⟨cutL.s1_3 W hs, iface_of gSyntax hv4 e4 i4, iface_of gRange hv3 e3 i3⟩
theorem returns_and_shaped {H : Type} {enc : TypeId × Value → H} {a : Assume} {C : Checked} {os : Os} {f : FuncId} {fn : Func} {s : ChangeSpec} {conds : List PathCond} {apart fresh handsOn again : Bool} {X : World → Array Value → Prop}
    (hX : ∀ (w w' : World) (args : Array Value), w.heap = w'.heap → X w args → X w' args)
    (own : ownKnob C.prog.godebug = none) (started : os.Started) (noInit : C.prog.inits.idxOf? f = none) (hfn : C.prog.funcs[f]? = some fn)
    (witness : ∃ (w : World) (tape : Tape) (i : Input), w.os = os ∧ (w.forCall tape i).Shaped C.prog ∧ i.vars = [] ∧ Input.okWide C.prog (w.forCall tape i) .any w.heap.size f i ∧
      ((s.pre enc C.prog fn conds apart (w.forCall tape i).memory i.args ∧ X (w.forCall tape i).memory i.args) ∧ sizedMet enc C.prog fn (OpenSpec.ofChange s) apart (w.forCall tape i).memory i.args) ∧ a.holds C.prog (lone (Frame.enter C.prog f i.args .normal) [] (w.forCall tape i)))
    (contract : ∀ (W : World) (base : Nat) (args : Array Value) (ds gs : List (DataW H)) (before : List MemPlace),
      (∀ (j : Nat) t v, fn.params[j]? = some t → args[j]? = some v → Value.okWide C.prog W .any base t v) →
      DataW.Whole enc C.prog fn.params.toList s.vars apart W args.toList ds gs before →
      conds.all (PathCond.test C.prog ⟨fn.params.toList, ds, s.plain.varTypes C.prog, gs⟩) = true →
      (DataW.weightsEach C.prog (fn.params.toList ++ s.plain.varTypes C.prog) (ds ++ gs)).all (· ≤ reachBytes) = true → X W args → W.ShapedOpen C.prog →
      a.holds C.prog (lone (Frame.enter C.prog f args .normal) [] W) →
      Calls C.prog f args W fun e W' => ∃ v, e = .returned v ∧ s.post enc C.prog fn apart fresh handsOn again W args v W') :
    ReturnsInHanded a C os f .any (fun w args => (s.pre enc C.prog fn conds apart w args ∧ X w args) ∧ sizedMet enc C.prog fn (OpenSpec.ofChange s) apart w args) (s.post enc C.prog fn apart fresh handsOn again) := by
  refine returnsInHanded_of_calls own started noInit witness ?_
  intro w tape i _ hsh _ hok hpre hholds
  obtain ⟨_, _, _, fn', hfn', _, _, _, _, hval⟩ := hok
  have e : fn' = fn := Option.some.inj (hfn'.symm.trans hfn)
  subst e
  obtain ⟨⟨⟨ds, gs, before, hw, hc⟩, hx⟩, hz⟩ := hpre
  have hw' := DataW.Whole.of_heap (w' := w.forCall tape i) (by rfl) hw
  refine (contract (w.forCall tape i) w.heap.size i.args ds gs before hval hw' hc (hz.weights hw) (hX _ _ _ (by rfl) hx) hsh hholds).mono fun e W' ⟨v, he, hp⟩ => ?_
  subst he
  exact ChangeSpec.post_blind hp
end Go.Proofs.YtllaajhdpfighaaDoor

end
section
set_option linter.unusedVariables false
namespace Go.Proofs.YtllaajhdpfighaaDoor.spotDoes
open Go.Eng Go.Proofs.YtllaajhdpfighaaDoor
open Go.ChangeShapes Go.WideShapes Go.ChangeAt Go.RowKit
open Go.ChangeMaps (open_string shut_string)
theorem own : ownKnob Tryd.prog.godebug = none := by kernel_rfl
theorem laidOut : laidOutB Tryd.prog = true := by kernel_rfl
theorem rd3 {H : Type} {enc : TypeId × Value → H} {W : World} : RdL enc Tryd.prog W (fun x : Int => [.int .i64 x]) 3 (fun x => (Lit.int .i64 x).wf = true) := RdL.int Tryd.underlying3
theorem rd23 {H : Type} {enc : TypeId × Value → H} {W : World} : RdL enc Tryd.prog W (fun x : GSpot => [.int .i64 x.bed, .int .i64 x.channel]) 23 (fun x => ((Lit.int .i64 x.bed).wf = true) ∧ ((Lit.int .i64 x.channel).wf = true)) := RdL.iso (RdL.struct (m := 2) Tryd.underlying23 (by kernel_rfl) (RdF.cons (o := 0) (n := 1) rd3 rfl (by kernel_rfl) (by decide) (RdF.last (o := 1) (n := 1) rd3 rfl (by kernel_rfl) rfl))) (fun p => (⟨p.1, p.2⟩ : GSpot)) (fun _ => rfl) (fun _ h => h)
theorem rd9 {H : Type} {enc : TypeId × Value → H} {W : World} : RdL enc Tryd.prog W (fun x : ByteArray => [.str x]) 9 (fun x => x.size ≤ maxLen) := RdL.str Tryd.underlying9
theorem rd24 {H : Type} {enc : TypeId × Value → H} {W : World} : RdL enc Tryd.prog W (fun x : List GSpot => [.dsl 23 x]) 24 (fun x => x.length ≤ maxLen ∧ ∀ x0 ∈ x, ((Lit.int .i64 x0.bed).wf = true) ∧ ((Lit.int .i64 x0.channel).wf = true)) := RdL.slice Tryd.underlying24 (by kernel_rfl) (RdL.iso rd23 (fun x => x) (fun _ => rfl) (fun _ h => h))
set_option maxRecDepth 100000 in
theorem lifted (os : Os) (started : os.Started) (H : Type) (enc : TypeId × Value → H) :
    ReturnsInHanded {} Tryd.checked os 3 .any (fun w args => (Rows.spotDoesSpec.pre enc Tryd.prog Tryd.f3 [] false w args ∧ laidMetH Tryd.prog laidL w) ∧ sizedMet enc Tryd.prog Tryd.f3 (OpenSpec.ofChange Rows.spotDoesSpec) false w args) (Rows.spotDoesSpec.post enc Tryd.prog Tryd.f3 false true false false) := by
  refine returns_and_shaped (C := Tryd.checked) (X := fun w _ => laidMetH Tryd.prog laidL w) (fun _ _ _ hh h => h.of_heap hh) own started (by kernel_rfl) Tryd.func3
    (ChangeSpec.witness_shaped (enc := enc) (C := Tryd.checked) (os := os) (X := fun w _ => laidMetH Tryd.prog laidL w) false (World.doorLaid Tryd.prog 400 os) #[.agg #[.int .i64 0, .int .i64 0], .agg #[.int .i64 0, .int .i64 0], .int .i64 0, .string ByteArray.empty, .slice none 0 0] 8 rfl (World.shaped_of_RefB (by kernel_rfl) (by kernel_rfl)) (by kernel_rfl) (by kernel_rfl) (by kernel_rfl) (door_met os _)) ?_
  intro W base args ds gs before hval0 hW hcnd hsz0 hL hsh _
  have hval : ∀ (j : Nat) t v, Tryd.f3.params[j]? = some t → args[j]? = some v → Value.okWide Tryd.prog W .any base t v := hval0
  have hW' := hW
  obtain ⟨p, q, hA0, hV, rfl, hfz, hnd⟩ := hW
  have hA : DataW.TrodAll enc Tryd.prog W 0 (fun _ => true) true Tryd.f3.params.toList args.toList ds p := hA0
  rw [Tryd.params3] at hA hval
  obtain ⟨v0, vs0, d0, ds0, p0, q0, hargs, rfl, rfl, h0, r0⟩ := trodAll_cons hA
  obtain ⟨v1, vs1, d1, ds1, p1, q1, rfl, rfl, rfl, h1, r1⟩ := trodAll_cons r0
  obtain ⟨v2, vs2, d2, ds2, p2, q2, rfl, rfl, rfl, h2, r2⟩ := trodAll_cons r1
  obtain ⟨v3, vs3, d3, ds3, p3, q3, rfl, rfl, rfl, h3, r3⟩ := trodAll_cons r2
  obtain ⟨v4, vs4, d4, ds4, p4, q4, rfl, rfl, rfl, h4, r4⟩ := trodAll_cons r3
  obtain ⟨rfl, rfl, rfl⟩ := trodAll_nil r4
  obtain rfl : args = #[v0, v1, v2, v3, v4] := by cases args; simp_all
  obtain ⟨rfl, rfl⟩ := trodVars_none hV
  have k0 := h0
  have lt0 : ∀ x ∈ p0, x.block < W.heap.size := by obtain ⟨m, hm⟩ := k0; exact DataW.trod_lt m _ _ _ hm
  obtain ⟨cs0, rfl, hz0⟩ := okWide_struct Tryd.underlying23 (hval 0 23 v0 rfl rfl)
  obtain ⟨a0, g0, c0⟩ := rd23 _ (Read.of h0) (by simpa [Value.cells] using hz0)
  have e0 : rel0 W (.agg [.int .i64 a0.bed, .int .i64 a0.channel]) (.agg cs0) := .agg (vs := cs0.toList) c0.1 (fun x hx => by
    obtain ⟨i, hi⟩ := List.mem_iff_getElem?.1 hx
    obtain ⟨hlt, _⟩ := List.getElem?_eq_some_iff.1 hi
    exact (c0.2 i _ x (List.getElem?_eq_getElem (by rw [c0.1]; exact hlt)) hi).1) (fun i a v h1 h2 => (c0.2 i a v h1 h2).2)
  have k1 := h1
  have lt1 : ∀ x ∈ p1, x.block < W.heap.size := by obtain ⟨m, hm⟩ := k1; exact DataW.trod_lt m _ _ _ hm
  obtain ⟨cs1, rfl, hz1⟩ := okWide_struct Tryd.underlying23 (hval 1 23 v1 rfl rfl)
  obtain ⟨a1, g1, c1⟩ := rd23 _ (Read.of h1) (by simpa [Value.cells] using hz1)
  have e1 : rel0 W (.agg [.int .i64 a1.bed, .int .i64 a1.channel]) (.agg cs1) := .agg (vs := cs1.toList) c1.1 (fun x hx => by
    obtain ⟨i, hi⟩ := List.mem_iff_getElem?.1 hx
    obtain ⟨hlt, _⟩ := List.getElem?_eq_some_iff.1 hi
    exact (c1.2 i _ x (List.getElem?_eq_getElem (by rw [c1.1]; exact hlt)) hi).1) (fun i a v h1 h2 => (c1.2 i a v h1 h2).2)
  have k2 := h2
  have lt2 : ∀ x ∈ p2, x.block < W.heap.size := by obtain ⟨m, hm⟩ := k2; exact DataW.trod_lt m _ _ _ hm
  obtain ⟨a2, rfl, rfl, rfl, g2⟩ := open_int Tryd.underlying3 (hval 2 3 v2 rfl rfl) h2
  have e2 : rel0 W (.int .i64 a2) (.int .i64 a2) := .int _ _
  have k3 := h3
  have lt3 : ∀ x ∈ p3, x.block < W.heap.size := by obtain ⟨m, hm⟩ := k3; exact DataW.trod_lt m _ _ _ hm
  obtain ⟨a3, rfl, rfl, rfl, g3⟩ := open_string Tryd.underlying9 (hval 3 9 v3 rfl rfl) h3
  have e3 : rel0 W (.str a3) (.string a3) := .str _
  have k4 := h4
  have lt4 : ∀ x ∈ p4, x.block < W.heap.size := by obtain ⟨m, hm⟩ := k4; exact DataW.trod_lt m _ _ _ hm
  obtain ⟨sa4, sl4, sc4, rfl⟩ := okWide_slice Tryd.underlying24 (hval 4 24 v4 rfl rfl)
  obtain ⟨a4, g4, c4⟩ := rd24 _ (Read.of h4) (by simp [Value.cells]; kernel_rfl)
  have e4 := (c4.2 0 _ _ rfl rfl).2
  clear hA0 hval0 hsz0
  obtain ⟨k, hk⟩ := spotDoes_pure a0 a1 a2 a3 a4 g0 g1 g2 g3 g4
  have hc : CallOk Tryd.prog 3 (A3 (a0, a1, a2, a3, a4)) [] 0 (.ret (.bool true)) _ _ := entry_call elAll_ok (g3_ok k) (show d3 (A3 (a0, a1, a2, a3, a4)) [] = some (a0, a1, a2, a3, a4) by kernel_rfl) hk
  have hv : VRels (fun _ => none) (ro0 W) W (A3 (a0, a1, a2, a3, a4)) [_, _, _, _, _] := .cons e0 (.cons e1 (.cons e2 (.cons e3 (.cons e4 (VRels.nil)))))
  refine (law_call hc hv (of_laid hL hsh)).mono fun e W' he => ?_
  obtain ⟨rfl, bel⟩ := he
  exact ⟨_, rfl, _, _, _, [], _, [], hW', trodAll_mk1 (shut_bool Tryd.underlying4 _), (trodAll_cons_mk (Below.trod laidOut (by kernel_rfl) (of_decide_eq_true (by kernel_rfl)) k0 bel lt0) (trodAll_cons_mk (Below.trod laidOut (by kernel_rfl) (of_decide_eq_true (by kernel_rfl)) k1 bel lt1) (trodAll_cons_mk (Below.trod laidOut (by kernel_rfl) (of_decide_eq_true (by kernel_rfl)) k2 bel lt2) (trodAll_cons_mk (Below.trod laidOut (by kernel_rfl) (of_decide_eq_true (by kernel_rfl)) k3 bel lt3) (trodAll_cons_mk (Below.trod laidOut (by kernel_rfl) (of_decide_eq_true (by kernel_rfl)) k4 bel lt4) trodAll_mk0))))), rfl, bel.frame _, fun h => by cases h⟩
theorem over : Rows.spotDoesRow.holds Tryd.pinned (OpenSpec.ofChange Rows.spotDoesSpec) :=
  OpenClaim.holds_of_wide 3 Tryd.f3 rfl rfl rfl rfl rfl rfl rfl ⟨rfl, rfl, rfl, rfl, rfl⟩ rfl rfl rfl rfl rfl (by kernel_rfl) Tryd.func3 (by kernel_rfl)
    (of_decide_eq_true (by kernel_rfl)) (by unfold Func.isWrapper; first | (rw [if_pos (by decide +kernel)]; kernel_rfl) | (rw [if_neg (by decide +kernel)]; exact ⟨rfl, rfl⟩))
    (fun os started H enc _ => lifted os started H enc)
end Go.Proofs.YtllaajhdpfighaaDoor.spotDoes
namespace Go.Proofs.YtllaajhdpfighaaDoor
theorem spotDoes_holds : Rows.SpotDoesCardSaid :=
  Claim7.holds_tied_plain_at .later [] [.data, .data, .data, .sentinel, .sentinel] true (true, "aa1a7c8b72539d9806dd74ac05224b80fe0098fddb2653d0e0c6883ffa92bcb1") true
    spotDoes.over (fun _ h => by cases h) (by kernel_rfl) (fun _ h => by cases h) spotDoes_row_tie rfl ⟨rfl, rfl⟩ (by kernel_rfl) rfl
    (fun f fn hf hfn => by
      obtain rfl : f = 3 := Option.some.inj ((show Tryd.prog.funcNamed "watchman/watchmanlaw04.SpotDoes" = some 3 by kernel_rfl).symm.trans hf) |>.symm
      obtain rfl : fn = Tryd.f3 := (Option.some.inj (Tryd.func3.symm.trans hfn)).symm
      exact ⟨by kernel_rfl, fun j t ht => by
        rw [Tryd.params3] at ht
        have hm : t ∈ [23, 23, 3, 9, 24] := by simpa using Array.mem_of_getElem? ht
        have hall : ([23, 23, 3, 9, 24].all fun u => !Tryd.prog.wantsStandIn u) = true := by kernel_rfl
        exact (show Tryd.prog.wantsStandIn t = false by simpa using List.all_eq_true.1 hall t hm)⟩)
    (by kernel_rfl)
end Go.Proofs.YtllaajhdpfighaaDoor

end
