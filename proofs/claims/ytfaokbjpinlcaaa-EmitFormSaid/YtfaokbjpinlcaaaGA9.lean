/- A function's code, block by block, and its jumps; plain. -/
import Derived.Test.YtfaokbjpinlcaaaGA8
import Derived.Shelf.Sort.Plain
import Derived.Shelf.Slices.CompactI
import Derived.Shelf.Slices.In.SortNone
import Derived.Ground.NamesProg
import Derived.Ground.Names2Prog
import Derived.Test.YtfaokbjpinlcaaaProg
import Derived.Test.YtfaokbjpinlcaaaGA4
import Derived.Test.YtfaokbjpinlcaaaGA6
section
/- A function's code, block by block, and its jumps; plain. -/
namespace Go.Proofs.Ytfaokbjpinlcaaa
open Go.Sep
set_option linter.unusedVariables false
def allS (F : AF) : List Int := F.blocks.flatMap fun b => b.body.flatMap AI.saves
/-- the registers that are saved, rising -/
def savS (F : AF) : List Int := ((List.range 8).map fun i : Nat => (i : Int)).filter fun r => decide (r ∈ allS F)
theorem range8 : ((List.range 8).map fun i : Nat => (i : Int)) = [0, 1, 2, 3, 4, 5, 6, 7] := rfl
theorem savS_mem {F : AF} (h : ∀ r ∈ allS F, 0 ≤ r ∧ r < 8) (r : Int) : r ∈ savS F ↔ r ∈ allS F := by
  unfold savS
  rw [List.mem_filter, range8]
  constructor
  · intro h2; simpa using h2.2
  · intro h2
    have := h r h2
    refine ⟨?_, by simpa using h2⟩
    have : r = 0 ∨ r = 1 ∨ r = 2 ∨ r = 3 ∨ r = 4 ∨ r = 5 ∨ r = 6 ∨ r = 7 := by omega
    simpa using this
theorem savS_lt (F : AF) : (savS F).Pairwise (· < ·) := by
  unfold savS
  rw [range8]
  exact List.Pairwise.filter _ (by decide)
theorem savS_len (F : AF) : (savS F).length ≤ 8 := by
  unfold savS
  exact Nat.le_trans (List.length_filter_le _ _) (by simp)
theorem lt_uniq : ∀ {a b : List Int}, a.Pairwise (· < ·) → b.Pairwise (· < ·) → (∀ r, r ∈ a ↔ r ∈ b) → a = b
  | [], [], _, _, _ => rfl
  | [], y :: b, _, _, h => by have := (h y).2 (by simp); cases this
  | x :: a, [], _, _, h => by have := (h x).1 (by simp); cases this
  | x :: a, y :: b, ha, hb, h => by
    rw [List.pairwise_cons] at ha hb
    have e : x = y := by
      rcases List.mem_cons.1 ((h x).1 (by simp)) with e | e
      · exact e
      · rcases List.mem_cons.1 ((h y).2 (by simp)) with e2 | e2
        · exact e2.symm
        · have := ha.1 y e2; have := hb.1 x e; omega
    subst e
    rw [lt_uniq ha.2 hb.2 fun r => ?_]
    constructor
    · intro hr
      rcases List.mem_cons.1 ((h r).1 (by simp [hr])) with e | e
      · have := ha.1 r hr; omega
      · exact e
    · intro hr
      rcases List.mem_cons.1 ((h r).2 (by simp [hr])) with e | e
      · have := hb.1 r hr; omega
      · exact e
/-- what is asked of a function -/
structure FunOk (F : AF) : Prop where
  sm : SmallF F
  sl : 0 ≤ F.slots ∧ F.slots ≤ 262144
  pl : F.params.length ≤ 8
  pp : ∀ l ∈ F.params, placeB F l = true
  pn : F.params.Nodup
  ins : ∀ b ∈ F.blocks, ∀ x ∈ b.body, InsOk F (savS F) x
  trm : ∀ b ∈ F.blocks, TermOk b.term ∧ ∀ t ∈ b.term.to, 0 ≤ t ∧ t < (F.blocks.length : Int)
  sv : ∀ r ∈ allS F, 0 ≤ r ∧ r < 8
theorem good_par {F : AF} (h : FunOk F) : GoodL (regL 11) (numbered F.params fun k l => ⟨l, regL k⟩) := by
  have mem : ∀ m ∈ numbered F.params (fun k l => (⟨l, regL k⟩ : Mv)), ∃ (k : Nat) (l : Lc), k < 8 ∧ l ∈ F.params ∧ m = ⟨l, regL k⟩ := fun m hm => by
    obtain ⟨k, hk⟩ := List.getElem?_of_mem hm
    rw [numb_get] at hk
    cases hl : F.params[k]? with
    | none => rw [hl] at hk; cases hk
    | some l =>
      rw [hl] at hk; simp only [Option.map_some, Option.some.injEq] at hk
      have := (List.getElem?_eq_some_iff.1 hl).1
      have := h.pl
      exact ⟨k, l, by omega, List.mem_of_getElem? hl, hk.symm⟩
  refine ⟨by unfold isPl regL; simp, fun m hm => ?_, fun m hm => ?_, ?_⟩
  · obtain ⟨k, l, hk, hl, rfl⟩ := mem m hm
    have := place_near h.sl.2 (h.pp l hl)
    exact ⟨this.2.1, this.2.2.1⟩
  · obtain ⟨k, l, hk, _, rfl⟩ := mem m hm
    exact ⟨by unfold isPl regL; simp, by simp [regL]; omega⟩
  · have e : (numbered F.params fun k l => (⟨l, regL k⟩ : Mv)).map Mv.to = F.params := by
      apply List.ext_getElem?; intro i
      rw [List.getElem?_map, numb_get]
      cases F.params[i]? <;> rfl
    rw [e]; exact h.pn
theorem near_par {F : AF} (h : FunOk F) : ∀ m ∈ numbered F.params (fun k l => (⟨l, regL k⟩ : Mv)), near m.to ∧ near m.from_ := fun m hm => by
  obtain ⟨k, hk⟩ := List.getElem?_of_mem hm
  rw [numb_get] at hk
  cases hl : F.params[k]? with
  | none => rw [hl] at hk; cases hk
  | some l =>
    rw [hl] at hk; simp only [Option.map_some, Option.some.injEq] at hk
    have h1 := (List.getElem?_eq_some_iff.1 hl).1
    have h2 := h.pl
    subst hk
    exact ⟨(place_near h.sl.2 (h.pp l (List.mem_of_getElem? hl))).1, by unfold near regL; simp only; omega⟩
/-! ### Blocks -/
theorem raw_zero (S : List Int) (F : AF) : rawC S F 0 = preC S F := by simp [rawC]
theorem raw_step {S : List Int} {F : AF} {k : Nat} {b : AB} (h : F.blocks[k]? = some b) : rawC S F (k + 1) = rawC S F k ++ blkC S k b := by
  have hlt := (List.getElem?_eq_some_iff.1 h).1
  unfold rawC
  rw [List.take_add_one, h, List.mapIdx_append]
  simp [List.length_take, Nat.min_eq_left (Nat.le_of_lt hlt)]
/-- the first j instructions' code -/
noncomputable def bodN (S : List Int) (b : AB) (j : Nat) : List RI := (b.body.take j).flatMap (insC S)
theorem bodN_step {S : List Int} {b : AB} {j : Nat} {x : AI} (h : b.body[j]? = some x) : bodN S b (j + 1) = bodN S b j ++ insC S x := by
  unfold bodN; rw [List.take_add_one, h]; simp
theorem blk_eq (S : List Int) (k : Nat) (b : AB) : blkC S k b = (bodN S b b.body.length).map (·, false) ++ termC S k b.term := by
  unfold blkC bodN; rw [List.take_length]
/-- what a jump's number becomes -/
noncomputable def patC (S : List Int) (F : AF) (first : Int) (q : RI × Bool) : RI := if q.2 then { q.1 with n := placeC S F first q.1.n } else q.1
theorem codeC_eq (S : List Int) (F : AF) (first : Int) : codeC S F first = (rawC S F F.blocks.length).map (patC S F first) := rfl
theorem jmp_split : ∀ {B : List (RI × Bool)} {n : Nat} {j : Int} {rest : List Int}, jmpI n B = j :: rest → ∃ (C : List (RI × Bool)) (x : RI) (D : List (RI × Bool)), B = C ++ (x, true) :: D ∧ (∀ c ∈ C, c.2 = false) ∧ j = ((n + C.length : Nat) : Int) ∧ rest = jmpI (n + C.length + 1) D
  | [], n, j, rest, h => by cases h
  | (x, true) :: B, n, j, rest, h => by
    simp only [jmpI, if_true, List.singleton_append, List.cons.injEq] at h
    exact ⟨[], x, B, rfl, by simp, by simp [h.1], by simp [h.2]⟩
  | (x, false) :: B, n, j, rest, h => by
    simp only [jmpI, Bool.false_eq_true, if_false, List.nil_append] at h
    obtain ⟨C, y, D, e1, e2, e3, e4⟩ := jmp_split h
    refine ⟨(x, false) :: C, y, D, by rw [e1]; rfl, fun c hc => ?_, by rw [e3]; simp only [List.length_cons]; congr 1; omega, by rw [e4]; simp only [List.length_cons]; congr 1; omega⟩
    rcases List.mem_cons.1 hc with rfl | hc
    · rfl
    · exact e2 c hc
theorem jmpI_len : ∀ (q : List (RI × Bool)) (n : Nat), (jmpI n q).length ≤ q.length
  | [], n => by simp [jmpI]
  | a :: q, n => by
    have := jmpI_len q (n + 1)
    simp only [jmpI, List.length_append, List.length_cons]
    split <;> simp <;> omega
theorem jmp_nil : ∀ {B : List (RI × Bool)} {n : Nat}, jmpI n B = [] → ∀ q ∈ B, q.2 = false
  | [], n, _, q, hq => by cases hq
  | (x, true) :: B, n, h, q, hq => by simp [jmpI] at h
  | (x, false) :: B, n, h, q, hq => by
    simp only [jmpI, Bool.false_eq_true, if_false, List.nil_append] at h
    rcases List.mem_cons.1 hq with rfl | hq
    · rfl
    · exact jmp_nil h q hq
theorem pat_none {S : List Int} {F : AF} {first : Int} {C : List (RI × Bool)} (h : ∀ c ∈ C, c.2 = false) : C.map (patC S F first) = C.map Prod.fst := by
  refine List.map_congr_left fun c hc => ?_
  unfold patC; rw [h c hc]; rfl
theorem term_flag {S : List Int} {k : Int} {t : AT} {q : RI × Bool} (h : q ∈ termC S k t) (hq : q.2 = true) : q.1.n ∈ t.to := by
  unfold termC at h
  split at h
  · split at h
    · rename_i b hb
      split at h
      · cases h
      · simp at h; rw [h, hb]; simp
    · cases h
  · split at h
    · split at h
      · rename_i b c hb
        rw [hb]
        rcases List.mem_append.1 h with h | h
        · obtain ⟨y, _, rfl⟩ := List.mem_map.1 h; cases hq
        · split at h
          · simp at h; rw [h]; simp
          · rcases List.mem_cons.1 h with h | h
            · rw [h]; simp
            · split at h
              · cases h
              · simp at h; rw [h]; simp
      · cases h
    · split at h
      · obtain ⟨y, _, rfl⟩ := List.mem_map.1 h; cases hq
      · obtain ⟨y, _, rfl⟩ := List.mem_map.1 h; cases hq
theorem raw_flag {S : List Int} {F : AF} (h : FunOk F) : ∀ k, k ≤ F.blocks.length → ∀ q ∈ rawC S F k, q.2 = true → 0 ≤ q.1.n ∧ q.1.n < (F.blocks.length : Int)
  | 0, _, q, hq, hf => by
    rw [raw_zero] at hq
    obtain ⟨y, _, rfl⟩ := List.mem_map.1 hq; cases hf
  | k + 1, hk, q, hq, hf => by
    obtain ⟨b, gb⟩ : ∃ b, F.blocks[k]? = some b := ⟨_, List.getElem?_eq_getElem (by omega)⟩
    rw [raw_step gb, List.mem_append, blk_eq, List.mem_append] at hq
    rcases hq with hq | hq | hq
    · exact raw_flag h k (by omega) q hq hf
    · obtain ⟨y, _, rfl⟩ := List.mem_map.1 hq; cases hf
    · exact (h.trm b (List.mem_of_getElem? gb)).2 _ (term_flag hq hf)
/-- the places of the first k blocks -/
noncomputable def plF (S : List Int) (F : AF) (first : Int) (k : Nat) : Int → Option Value := fun q => if 0 ≤ q ∧ q < (k : Int) then some (vI (placeC S F first q)) else none
theorem plF_zero (S : List Int) (F : AF) (first : Int) : plF S F first 0 = fun _ => none := by
  funext q; unfold plF; rw [if_neg (by omega)]
theorem plF_step (S : List Int) (F : AF) (first : Int) (k : Nat) : upd (plF S F first k) (k : Int) (vI (first + (rawC S F k).length)) = plF S F first (k + 1) := by
  funext q
  unfold upd plF
  by_cases e : q = (k : Int)
  · subst e
    rw [if_pos rfl, if_pos (by omega)]
    simp [placeC]
  · rw [if_neg e]
    by_cases h : 0 ≤ q ∧ q < (k : Int)
    · rw [if_pos h, if_pos (by omega)]
    · rw [if_neg h, if_neg (by omega)]
def sumB (F : AF) (k : Nat) : Nat := ((F.blocks.take k).map fun b => b.body.length).sum
theorem sumB_step {F : AF} {k : Nat} {b : AB} (h : F.blocks[k]? = some b) : sumB F (k + 1) = sumB F k + b.body.length := by
  unfold sumB; rw [List.take_add_one, h]; simp
theorem sumB_le (F : AF) (k : Nat) : sumB F k ≤ (F.blocks.map fun b => b.body.length).sum := by
  unfold sumB
  conv => rhs; rw [← List.take_append_drop k F.blocks]
  rw [List.map_append, List.sum_append]; omega
end Go.Proofs.Ytfaokbjpinlcaaa
end
section
/- The library's sort and its compaction of numbers, off the shelf, in the words of pieces. -/
namespace Go.Proofs
open Go.Shelf
def Try.lays189_ren : Go.Shelf.Ren := ⟨fun | 189 => 22 | 125 => 39 | 257 => 38 | 128 => 64 | 129 => 65 | 294 => 55 | 295 => 56 | 296 => 57 | 297 => 58 | 298 => 59 | 299 => 60 | 216 => 61 | 300 => 62 | 301 => 63 | 328 => 76 | 329 => 77 | 330 => 78 | 331 => 79 | 332 => 80 | 215 => 81 | 343 => 86 | n => n, fun | 28 => 45 | 3 => 3 | 46 => 104 | 0 => 0 | 51 => 126 | 53 => 128 | 4 => 4 | 183 => 119 | 182 => 118 | 131 => 65 | 5 => 5 | 9 => 9 | 218 => 142 | 222 => 146 | 228 => 160 | 229 => 161 | n => n, fun | n => n⟩
theorem Try.lays189 : Go.Proofs.Lays.n189 Try.prog Try.lays189_ren := {
  mixed := by kernel_rfl
  f125 := Try.func39.trans (congrArg some (by kernel_rfl))
  f128 := Try.func64.trans (congrArg some (by kernel_rfl))
  f129 := Try.func65.trans (congrArg some (by kernel_rfl))
  f189 := Try.func22.trans (congrArg some (by kernel_rfl))
  f215 := Try.func81.trans (congrArg some (by kernel_rfl))
  f216 := Try.func61.trans (congrArg some (by kernel_rfl))
  f257 := Try.func38.trans (congrArg some (by kernel_rfl))
  f294 := Try.func55.trans (congrArg some (by kernel_rfl))
  f295 := Try.func56.trans (congrArg some (by kernel_rfl))
  f296 := Try.func57.trans (congrArg some (by kernel_rfl))
  f297 := Try.func58.trans (congrArg some (by kernel_rfl))
  f298 := Try.func59.trans (congrArg some (by kernel_rfl))
  f299 := Try.func60.trans (congrArg some (by kernel_rfl))
  f300 := Try.func62.trans (congrArg some (by kernel_rfl))
  f301 := Try.func63.trans (congrArg some (by kernel_rfl))
  f328 := Try.func76.trans (congrArg some (by kernel_rfl))
  f329 := Try.func77.trans (congrArg some (by kernel_rfl))
  f330 := Try.func78.trans (congrArg some (by kernel_rfl))
  f331 := Try.func79.trans (congrArg some (by kernel_rfl))
  f332 := Try.func80.trans (congrArg some (by kernel_rfl))
  f343 := Try.func86.trans (congrArg some (by kernel_rfl))
  t0 := Try.underlying0
  a0 := Try.isAgg0
  z0 := Try.sizeOf0
  v0 := Try.zeroValue0
  t3 := Try.underlying3
  a3 := Try.isAgg3
  z3 := Try.sizeOf3
  v3 := Try.zeroValue3
  t4 := Try.underlying4
  a4 := Try.isAgg4
  z4 := Try.sizeOf4
  v4 := Try.zeroValue4
  t5 := Try.underlying5
  a5 := Try.isAgg5
  z5 := Try.sizeOf5
  v5 := Try.zeroValue5
  t9 := Try.underlying9
  a9 := Try.isAgg9
  z9 := Try.sizeOf9
  v9 := Try.zeroValue9
  t28 := Try.underlying45
  a28 := Try.isAgg45
  z28 := Try.sizeOf45
  v28 := Try.zeroValue45
  t46 := Try.underlying104
  a46 := Try.isAgg104
  z46 := Try.sizeOf104
  v46 := Try.zeroValue104
  t51 := Try.underlying126
  a51 := Try.isAgg126
  z51 := Try.sizeOf126
  v51 := Try.zeroValue126
  t53 := Try.underlying128
  a53 := Try.isAgg128
  z53 := Try.sizeOf128
  v53 := Try.zeroValue128
  t131 := Try.underlying65
  a131 := Try.isAgg65
  z131 := Try.sizeOf65
  v131 := Try.zeroValue65
  t182 := Try.underlying118
  a182 := Try.isAgg118
  z182 := Try.sizeOf118
  v182 := Try.zeroValue118
  t183 := Try.underlying119
  a183 := Try.isAgg119
  z183 := Try.sizeOf119
  v183 := Try.zeroValue119
  t218 := Try.underlying142
  a218 := Try.isAgg142
  z218 := Try.sizeOf142
  v218 := Try.zeroValue142
  t222 := Try.underlying146
  a222 := Try.isAgg146
  z222 := Try.sizeOf146
  v222 := Try.zeroValue146
  t228 := Try.underlying160
  a228 := Try.isAgg160
  z228 := Try.sizeOf160
  v228 := Try.zeroValue160
  t229 := Try.underlying161
  a229 := Try.isAgg161
  z229 := Try.sizeOf161
  v229 := Try.zeroValue161 }
def Try.laysNm220_ren : Go.Shelf.Ren := ⟨fun | 20 => 23 | n => n, fun | 22 => 45 | 3 => 3 | 4 => 4 | 0 => 0 | n => n, fun | n => n⟩
theorem Try.laysNm220 : Go.Proofs.Lays2.n20 Try.prog Try.laysNm220_ren := {
  mixed := by kernel_rfl
  f20 := Try.func23.trans (congrArg some (by kernel_rfl))
  t0 := Try.underlying0
  a0 := Try.isAgg0
  z0 := Try.sizeOf0
  v0 := Try.zeroValue0
  t3 := Try.underlying3
  a3 := Try.isAgg3
  z3 := Try.sizeOf3
  v3 := Try.zeroValue3
  t4 := Try.underlying4
  a4 := Try.isAgg4
  z4 := Try.sizeOf4
  v4 := Try.zeroValue4
  t22 := Try.underlying45
  a22 := Try.isAgg45
  z22 := Try.sizeOf45
  v22 := Try.zeroValue45
  i3 := by kernel_rfl }
end Go.Proofs
namespace Go.Proofs.Ytfaokbjpinlcaaa
open Go.Sep Go.Sort
set_option linter.unusedSimpArgs false
set_option linter.unusedVariables false
theorem hp_row {w : World} {b o n : Nat} {os : Array Obj} {T : TypeId} {pre X post : List Value} {ys : List Int} (hb : hp w b = some (.cells ⟨pre ++ X ++ post⟩ T (0, 0))) (ho : pre.length = o) (hl : ys.length = X.length) :
    hp (grow (putRow (Value.int .i64) (Sort.ahead w n) b o ys.toArray) os) b = some (.cells ⟨pre ++ ys.map (Value.int .i64) ++ post⟩ T (0, 0)) := by
  have hlt := hp_lt hb
  have hb' : w.heap[b]? = some (.cells ⟨pre ++ X ++ post⟩ T (0, 0)) := hb
  unfold hp grow putRow mapBlock Sort.ahead
  simp only
  rw [Array.getElem?_append_left (by simpa using hlt), Array.getElem?_modify, if_pos rfl, hb']
  simp only [Option.map_some, onCells]
  congr 2
  unfold putCells
  apply Array.ext_getElem?
  intro k
  rw [Array.getElem?_mapIdx]
  simp only [List.getElem?_toArray, List.size_toArray]
  by_cases h1 : o ≤ k ∧ k < o + ys.length
  · have e1 : (pre ++ X ++ post)[k]? = X[k - o]? := by rw [List.append_assoc, List.getElem?_append_right (by omega), List.getElem?_append_left (by omega), ho]
    have e2 : (pre ++ ys.map (Value.int .i64) ++ post)[k]? = (ys.map (Value.int .i64))[k - o]? := by rw [List.append_assoc, List.getElem?_append_right (by omega), List.getElem?_append_left (by simp; omega), ho]
    rw [e1, e2, List.getElem?_eq_getElem (by omega : k - o < X.length), List.getElem?_map, List.getElem?_eq_getElem (by omega : k - o < ys.length)]
    simp only [Option.map_some, h1, and_self, if_true]
    rw [getElem!_pos ys.toArray (k - o) (by simp; omega)]
    simp
  · have e : (pre ++ X ++ post)[k]? = (pre ++ ys.map (Value.int .i64) ++ post)[k]? := by
      rw [List.append_assoc, List.append_assoc]
      by_cases h2 : k < o
      · rw [List.getElem?_append_left (by omega), List.getElem?_append_left (by omega)]
      · rw [List.getElem?_append_right (by omega), List.getElem?_append_right (by omega), List.getElem?_append_right (by omega), List.getElem?_append_right (by simp; omega)]
        congr 1; simp; omega
    rw [← e]
    cases (pre ++ X ++ post)[k]? with
    | none => rfl
    | some x => simp [h1]
theorem hp_other {w : World} {b o n c : Nat} {os : Array Obj} {ys : List Int} (hc : c < w.heap.size) (hne : c ≠ b) : hp (grow (putRow (Value.int .i64) (Sort.ahead w n) b o ys.toArray) os) c = hp w c := by
  unfold hp grow putRow mapBlock Sort.ahead
  simp only
  rw [Array.getElem?_append_left (by simpa using hc), Array.getElem?_modify, if_neg (Ne.symm hne)]
theorem step_row {w : World} {h : Heap} {b o n : Nat} {os : Array Obj} {T : TypeId} {pre X post : List Value} {ys : List Int} (hh : h = put emp b (.cells ⟨pre ++ X ++ post⟩ T (0, 0))) (hs : Sub h (hp w)) (ho : pre.length = o) (hl : ys.length = X.length) :
    Step w h (grow (putRow (Value.int .i64) (Sort.ahead w n) b o ys.toArray) os) (put emp b (.cells ⟨pre ++ ys.map (Value.int .i64) ++ post⟩ T (0, 0))) := by
  subst hh
  have hb : hp w b = some (.cells ⟨pre ++ X ++ post⟩ T (0, 0)) := hs b _ put_emp_self
  refine ⟨fun c x hc => ?_, by simp [grow, putRow, mapBlock, Sort.ahead], fun c hc hn => ?_, fun c hc => ?_, ⟨rfl, rfl, rfl⟩⟩
  · unfold put at hc
    split at hc
    · rename_i e; subst e; cases hc; exact hp_row hb ho hl
    · cases hc
  · have e : c ≠ b := fun e => by subst e; simp [put] at hn
    exact hp_other hc e
  · left
    unfold put at hc ⊢
    split at hc
    · rename_i e; simp [e]
    · exact absurd rfl hc
theorem holds_of {w : World} {b o : Nat} {T : TypeId} {pre post : List Value} {xs : List Int} (hb : hp w b = some (.cells ⟨pre ++ xs.flatMap (Enc.int .i64).cells ++ post⟩ T (0, 0))) (ho : pre.length = o) : Holds (Value.int .i64) w b o xs.toArray := by
  intro j hj
  have hj' : j < xs.length := by simpa using hj
  refine ⟨?_, ?_⟩
  · refine cell?_of hb rfl ?_
    simp only [List.getElem?_toArray]
    have hfl := flat_len (Enc.int .i64) xs
    have hsz : (Enc.int .i64).sz = 1 := rfl
    rw [List.append_assoc, List.getElem?_append_right (by omega), List.getElem?_append_left (by rw [hfl, hsz]; omega)]
    have := flat_get (Enc.int .i64) xs j 0 xs[j] (List.getElem?_eq_getElem hj') (by decide)
    rw [hsz] at this
    have e : o + j - pre.length = j * 1 + 0 := by omega
    rw [e, this, getElem!_pos xs.toArray j hj]
    simp [Enc.int]
  · have hb' : w.heap[b]? = _ := hb
    simp [World.frozen?, hb']
theorem ints_map (xs : List Int) : xs.flatMap (Enc.int .i64).cells = xs.map (Value.int .i64) := by
  induction xs with
  | nil => rfl
  | cons x xs ih => rw [List.flatMap_cons, ih]; rfl
theorem sort_ok (hR : Heap) (sv : SV) (xs : List Int) (hl : xs.length ≤ 1000000000000000) :
    Tri Try.prog hR 22 #[sv.val] [slA 3 (Enc.int .i64) sv.val xs] fun _ Γ' => Γ' = [slA 3 (Enc.int .i64) sv.val (xs.mergeSort fun x y => decide (x ≤ y))] := by
  intro h w hs hf
  obtain ⟨h1, h2, g1, _, hd, rfl⟩ := hs
  have hml : (xs.mergeSort fun x y => decide (x ≤ y)).length = xs.length := List.length_mergeSort xs
  rcases g1 with ⟨hv, hx, hg⟩ | ⟨b, o, c, pre, post, hv, q1, q2, q3, q4⟩
  · rw [hv]
    refine (Any.slices_Sort_int_none Try.lays189 none 0 w).mono ?_
    rintro e w' ⟨rfl, rfl⟩
    refine ⟨_, un h1 h2, _, rfl, .refl hf.own, ?_, rfl⟩
    refine ⟨h1, h2, .inl ⟨rfl, List.length_eq_zero_iff.1 (by rw [hml, hx]; rfl), hg⟩, trivial, hd, rfl⟩
  · have hbw : hp w b = some (.cells ⟨pre ++ xs.flatMap (Enc.int .i64).cells ++ post⟩ 3 (0, 0)) := hf.own b _ (by subst q4; exact un_left_some put_emp_self)
    rw [hv]
    refine (Any.slices_Sort_int Try.lays189 b o c xs w (holds_of hbw q2) (hp_lt hbw) (by omega)).mono ?_
    rintro e w' ⟨rfl, n, os, rfl⟩
    have hst := step_row (n := n) (os := os) (ys := xs.mergeSort fun x y => decide (x ≤ y)) q4 (fun b o hb => hf.own b o (un_left_some hb)) q2 (by rw [hml, ints_map]; simp)
    have hst2 := hst.frame (fun b o hb => hf.own b o (by rw [un_comm hd]; exact un_left_some hb)) hd
    refine ⟨_, _, [slA 3 (Enc.int .i64) (.slice (some ⟨b, o, none⟩) xs.length c) (xs.mergeSort fun x y => decide (x ≤ y))], rfl, hst2.1, ⟨_, h2, .inr ⟨b, o, c, pre, post, by rw [hml], by rw [hml]; exact q1, q2, by rw [hml]; exact q3, by rw [ints_map]⟩, trivial, hst2.2, rfl⟩, rfl⟩
theorem compact_sorted (xs : List Int) (hs : xs.Pairwise (· ≤ ·)) : (Lib.compact xs).Pairwise (· < ·) ∧ ∀ r, r ∈ Lib.compact xs ↔ r ∈ xs := by
  have hget : ∀ j, j < xs.length → ∃ y, xs[j]? = some y ∧ xs.toArray[j]! = y := fun j hj => ⟨xs[j], List.getElem?_eq_getElem hj, by rw [getElem!_pos xs.toArray j (by simpa using hj)]; simp⟩
  have hle : ∀ j, 0 < j → j < xs.length → xs.toArray[j - 1]! ≤ xs.toArray[j]! := fun j h0 hj => by
    have := List.pairwise_iff_getElem.1 hs (j - 1) j (by omega) hj (by omega)
    rw [getElem!_pos xs.toArray j (by simpa using hj), getElem!_pos xs.toArray (j - 1) (by simp; omega)]
    simpa using this
  have main : ∀ m, m ≤ xs.length → (Lib.compactUpTo xs.toArray m).Pairwise (· < ·) ∧ (∀ r, r ∈ Lib.compactUpTo xs.toArray m ↔ ∃ j, j < m ∧ xs.toArray[j]! = r) ∧ (0 < m → ∀ r ∈ Lib.compactUpTo xs.toArray m, r ≤ xs.toArray[m - 1]!) := by
    intro m
    induction m with
    | zero => intro _; refine ⟨by simp [Lib.compactUpTo], fun r => ⟨fun h => by simp [Lib.compactUpTo] at h, fun ⟨j, h, _⟩ => by omega⟩, fun h => by omega⟩
    | succ m ih =>
      intro hm
      obtain ⟨h1, h2, h3⟩ := ih (by omega)
      rw [Lib.compactUpTo_succ]
      by_cases hk : Lib.keeps xs.toArray m = true
      · rw [if_pos hk]
        have hlt : ∀ r ∈ Lib.compactUpTo xs.toArray m, r < xs.toArray[m]! := fun r hr => by
          obtain ⟨j, hj, _⟩ := (h2 r).1 hr
          have a := h3 (by omega) r hr
          have b := hle m (by omega) (by omega)
          have c : m = 0 ∨ xs.toArray[m]! ≠ xs.toArray[m - 1]! := by simpa [Lib.keeps] using hk
          rcases c with c | c <;> omega
        refine ⟨List.pairwise_append.2 ⟨h1, by simp, fun r hr y hy => by rw [List.mem_singleton.1 hy]; exact hlt r hr⟩, fun r => ?_, fun _ r hr => ?_⟩
        · rw [List.mem_append, h2, List.mem_singleton]
          constructor
          · rintro (⟨j, hj, e⟩ | e)
            · exact ⟨j, by omega, e⟩
            · exact ⟨m, by omega, e.symm⟩
          · rintro ⟨j, hj, e⟩
            by_cases ej : j = m
            · subst ej; exact .inr e.symm
            · exact .inl ⟨j, by omega, e⟩
        · rw [Nat.add_sub_cancel]
          rcases List.mem_append.1 hr with hr | hr
          · exact Int.le_of_lt (hlt r hr)
          · rw [List.mem_singleton.1 hr]; exact Int.le_refl _
      · rw [if_neg hk, List.append_nil]
        have c : ¬ (m = 0 ∨ xs.toArray[m]! ≠ xs.toArray[m - 1]!) := by simpa [Lib.keeps] using hk
        have c1 : m ≠ 0 := fun e => c (.inl e)
        have c2 : xs.toArray[m]! = xs.toArray[m - 1]! := Decidable.not_not.1 fun e => c (.inr e)
        refine ⟨h1, fun r => ?_, fun _ r hr => ?_⟩
        · rw [h2]
          constructor
          · rintro ⟨j, hj, e⟩; exact ⟨j, by omega, e⟩
          · rintro ⟨j, hj, e⟩
            by_cases ej : j = m
            · subst ej; exact ⟨j - 1, by omega, by rw [← c2, e]⟩
            · exact ⟨j, by omega, e⟩
        · rw [Nat.add_sub_cancel, c2]; exact h3 (by omega) r hr
  obtain ⟨h1, h2, _⟩ := main xs.length (Nat.le_refl _)
  refine ⟨h1, fun r => (h2 r).trans ⟨?_, fun hr => ?_⟩⟩
  · rintro ⟨j, hj, e⟩
    obtain ⟨y, g1, g2⟩ := hget j hj
    rw [← e, g2]; exact List.mem_of_getElem? g1
  · obtain ⟨j, hj⟩ := List.getElem?_of_mem hr
    have hl := (List.getElem?_eq_some_iff.1 hj).1
    obtain ⟨y, g1, g2⟩ := hget j hl
    rw [hj] at g1; cases g1
    exact ⟨j, hl, g2⟩
theorem compact_ok (hR : Heap) (sv : SV) (xs : List Int) (hl : xs.length ≤ 1000000000000000) :
    Tri Try.prog hR 23 #[sv.val] [slA 3 (Enc.int .i64) sv.val xs] fun v Γ' => ∃ ys : SV, v = ys.val ∧ Γ' = [slA 3 (Enc.int .i64) ys.val (Lib.compact xs)] := by
  intro h w hs hf
  obtain ⟨h1, h2, g1, _, hd, rfl⟩ := hs
  rcases g1 with ⟨hv, hx, hg⟩ | ⟨b, o, c, pre, post, hv, q1, q2, q3, q4⟩
  · rw [hv]
    refine (Any.slices_Compact_int_empty Try.laysNm220 none 0 w).mono ?_
    rintro e w' ⟨rfl, rfl⟩
    subst hx
    exact ⟨_, un h1 h2, [slA 3 (Enc.int .i64) (.slice none 0 0) (Lib.compact [])], rfl, .refl hf.own, ⟨h1, h2, .inl ⟨rfl, rfl, hg⟩, trivial, hd, rfl⟩, ⟨none, 0, 0⟩, rfl, rfl⟩
  · have hbw : hp w b = some (.cells ⟨pre ++ xs.flatMap (Enc.int .i64).cells ++ post⟩ 3 (0, 0)) := hf.own b _ (by subst q4; exact un_left_some put_emp_self)
    rw [hv]
    refine (Any.slices_Compact_int Try.laysNm220 b o c xs w (holds_of hbw q2) (by omega) q1).mono ?_
    rintro e w' ⟨rfl, n, rfl⟩
    have hcl : (Lib.compact xs).length ≤ xs.length := by
      unfold Lib.compact Lib.compactUpTo
      rw [List.length_map]
      exact Nat.le_trans (List.length_filter_le _ _) (by simp)
    have hst := step_row (n := n) (os := #[]) (ys := Lib.compact xs ++ List.replicate (xs.length - (Lib.compact xs).length) 0) q4 (fun b o hb => hf.own b o (un_left_some hb)) q2 (by rw [ints_map]; simp; omega)
    have hst2 := hst.frame (fun b o hb => hf.own b o (by rw [un_comm hd]; exact un_left_some hb)) hd
    rw [grow_empty] at hst2
    refine ⟨_, _, [slA 3 (Enc.int .i64) (.slice (some ⟨b, o, none⟩) (Lib.compact xs).length c) (Lib.compact xs)], rfl, hst2.1, ⟨_, h2, .inr ⟨b, o, c, pre, (List.replicate (xs.length - (Lib.compact xs).length) (0 : Int)).map (Value.int .i64) ++ post, rfl, by omega, q2, ?_, ?_⟩, trivial, hst2.2, rfl⟩, ⟨some ⟨b, o, none⟩, (Lib.compact xs).length, c⟩, rfl, rfl⟩
    · simp only [Enc.int] at q3 ⊢
      rw [List.length_append, List.length_map, List.length_replicate]; omega
    · rw [ints_map, List.map_append]; simp only [List.append_assoc]
end Go.Proofs.Ytfaokbjpinlcaaa
end
section
/- All of a function's code; walked. -/
namespace Go.Proofs.Ytfaokbjpinlcaaa
open Go.Sep
set_option linter.unusedSimpArgs false
set_option linter.unusedVariables false
set_option maxRecDepth 100000
attribute [local irreducible] blk slA mp mpF rows rowsBut many mpK mpE
/-- what is saved in the first k blocks, in the first j instructions of one -/
def allN (F : AF) (k : Nat) : List Int := (F.blocks.take k).flatMap fun b => b.body.flatMap AI.saves
def bodS (b : AB) (j : Nat) : List Int := (b.body.take j).flatMap AI.saves
theorem allN_step {F : AF} {k : Nat} {b : AB} (h : F.blocks[k]? = some b) : allN F (k + 1) = allN F k ++ bodS b b.body.length := by
  unfold allN bodS; rw [List.take_add_one, h, List.take_length]; simp
theorem bodS_step {b : AB} {j : Nat} {x : AI} (h : b.body[j]? = some x) : bodS b (j + 1) = bodS b j ++ x.saves := by
  unfold bodS; rw [List.take_add_one, h]; simp
theorem bodS_len {F : AF} {b : AB} (h : FunOk F) (hb : b ∈ F.blocks) (j : Nat) : (bodS b j).length ≤ 8 * b.body.length := by
  unfold bodS
  have : ∀ l : List AI, (∀ x ∈ l, x ∈ b.body) → (l.flatMap AI.saves).length ≤ 8 * l.length := fun l => by
    induction l with
    | nil => intro _; simp
    | cons x l ih =>
      intro hl
      have h1 := ih fun y hy => hl y (by simp [hy])
      have h2 := (h.ins b hb x (hl x (by simp))).sl
      simp only [List.flatMap_cons, List.length_append, List.length_cons]; omega
  have h3 := this (b.body.take j) fun x hx => List.mem_of_mem_take hx
  rw [List.length_take] at h3; omega
theorem allN_len {F : AF} (h : FunOk F) : ∀ k, k ≤ F.blocks.length → (allN F k).length ≤ 8 * sumB F k
  | 0, _ => by simp [allN]
  | k + 1, hk => by
    obtain ⟨b, gb⟩ : ∃ b, F.blocks[k]? = some b := ⟨_, List.getElem?_eq_getElem (by omega)⟩
    have h1 := allN_len h k (by omega)
    have h2 := bodS_len h (List.mem_of_getElem? gb) b.body.length
    rw [allN_step gb, sumB_step gb, List.length_append]; omega
theorem bodN_len {F : AF} {b : AB} (hx : ∀ x ∈ b.body, (insC (savS F) x).length ≤ 100) (j : Nat) (hj : j ≤ b.body.length) : (bodN (savS F) b j).length ≤ 100 * j := by
  unfold bodN
  have : ∀ l : List AI, (∀ x ∈ l, x ∈ b.body) → (l.flatMap (insC (savS F))).length ≤ 100 * l.length := fun l => by
    induction l with
    | nil => intro _; simp
    | cons x l ih =>
      intro hl
      have h1 := ih fun y hy => hl y (by simp [hy])
      have h2 := hx x (hl x (by simp))
      simp only [List.flatMap_cons, List.length_append, List.length_cons]; omega
  have h3 := this (b.body.take j) fun x hx => List.mem_of_mem_take hx
  rw [List.length_take] at h3; omega
set_option maxHeartbeats 8000000 in
theorem function_ok (hR : Heap) (bm : Nat) (M : MF) (pu pv : SV) (hM1 : M.pu = pu.val) (hM2 : M.pv = pv.val) (hv : AFv hR M.F pu.val pv.val) (h : FunOk M.F) (hfi : 0 ≤ M.first ∧ M.first ≤ 2000000000) :
    Tri Try.prog hR 13 #[ptrV bm] [mkP bm M [] [] (fun _ => none) []] fun _ Γ' => (∃ pl js, Γ' = [mkP bm M (savS M.F) (codeC (savS M.F) M.F M.first) pl js]) ∧ (codeC (savS M.F) M.F M.first).length ≤ 3000000 := by
  obtain ⟨F, pu', pv', first, bp⟩ := M
  simp only at hM1 hM2 hv h hfi ⊢
  subst hM1 hM2
  have hu := hv.hu
  have hb := hv.hv
  have hsb := h.sm.sb
  have hst := h.sm.st
  refine Tri.ent (Tri.of (args := [ptrV bm]) Try.func13 rfl Try.ntmps13 (by simp) ?_)
  refine WP.trim [0] [0] ?_
  refine WP.meetC (α := Unit) (fun _ => True) (fun _ => []) (fun _ => [(0, mkP bm ⟨F, pu.val, pv.val, first, bp⟩ (allS F) [] (fun _ => none) [])]) ?_ ?_
  · refine WP.seq ?_
    refine WP.openX 0 ?_
    rintro ⟨iv, sv, jv⟩ _
    refine Zc ?_
    refine Zm ?_
    refine Zn ?_
    refine Zf fo_63_0 ?_
    refine Zf fo_41_4 ?_
    refine Zl 0 ag_39 ?_
    refine Zh sl_39 hb ?_
    refine Zm ?_
    refine Ze ?_
    refine WP.via (Γ' := [mkP bm ⟨F, pu.val, pv.val, first, bp⟩ [] [] (fun _ => none) []]) (mkP_shut ⟨iv, sv, jv⟩ []) ?_
    refine WP.block ?_
    refine WP.trim [0, 19, 20, 21] [0] ?_
    refine WP.loopC (α := Nat) (fun k => k ≤ F.blocks.length) (fun k => [(21, vI (k : Int))]) (fun k => [(0, mkP bm ⟨F, pu.val, pv.val, first, bp⟩ (allN F k) [] (fun _ => none) [])]) (fun k => F.blocks.length - k) 0 (Nat.zero_le _) ?_
    intro k hk
    refine WP.trim [0, 19, 20, 21] [0] ?_
    refine Zp ?_
    refine Zi ?_
    refine Ze ?_
    refine WP.seq ?_
    refine WP.ite rfl (fun hlt => ?_) (fun hge => ?_)
    · refine Zb ?_
      obtain ⟨b, gb⟩ : ∃ b, F.blocks[(k : Int).toNat]? = some b := ⟨_, List.getElem?_eq_getElem (by omega)⟩
      have gb' : F.blocks[k]? = some b := gb
      have hbm := List.mem_of_getElem? gb
      have hal := allN_len h k hk
      have hsl := sumB_le F k
      have hs2 := sumB_le F (k + 1)
      rw [sumB_step gb'] at hs2
      obtain ⟨_, ⟨bu0, bt0, rfl, hbu, hbt⟩, hrow⟩ := hb.at gb
      obtain ⟨bu, rfl, _, _⟩ := SlR.sv hbu
      obtain ⟨bt, rfl, _, _⟩ := SlR.sv hbt
      refine WP.seq ?_
      refine WP.block ?_
      refine Zp ?_
      refine Zx sl_39 hb ?_
      refine Run.loadRagg rfl rfl ag_49 rfl rfl hrow (by rfl) ?_
      refine Run.alloc rfl zr_49 rfl rfl rfl ?_
      intro b3
      refine Run.storeB 1 rfl rfl rfl rfl ag_49 rfl rfl rfl rfl rfl ?_
      refine Ze ?_
      refine Zp ?_
      refine Zf fo_49_0 ?_
      refine Zl 1 ag_42 ?_
      refine Zh sl_42 hbu ?_
      refine Zm ?_
      refine Ze ?_
      refine WP.block ?_
      refine WP.trim [0, 19, 20, 21, 26, 27, 28] [0] ?_
      refine WP.loopC (α := Nat) (fun j => j ≤ b.body.length) (fun j => [(28, vI (j : Int))]) (fun j => [(0, mkP bm ⟨F, pu.val, pv.val, first, bp⟩ (allN F k ++ bodS b j) [] (fun _ => none) [])]) (fun j => b.body.length - j) 0 (Nat.zero_le _) ?_ (he := by show ent _ (chgs [(0, mkP bm ⟨F, pu.val, pv.val, first, bp⟩ (allN F k ++ []) [] (fun _ => none) [])] _); rw [List.append_nil]; exact ent.gc)
      intro j hj
      refine WP.trim [0, 19, 20, 21, 26, 27, 28] [0] ?_
      refine Zp ?_
      refine Zi ?_
      refine Ze ?_
      refine WP.seq ?_
      refine WP.ite rfl (fun hlt2 => ?_) (fun hge2 => ?_)
      · refine Zb ?_
        obtain ⟨x, gx⟩ : ∃ x, b.body[(j : Int).toNat]? = some x := ⟨_, List.getElem?_eq_getElem (by omega)⟩
        have gx' : b.body[j]? = some x := gx
        have hI := h.ins b hbm x (List.mem_of_getElem? gx)
        have hbl := bodS_len h hbm j
        have hxs := hI.sl
        obtain ⟨_, ⟨xu0, xs0, rfl, hxu, hxv⟩, hxrow⟩ := hbu.at gx
        obtain ⟨xv, rfl, _, _⟩ := SlR.sv hxv
        obtain ⟨xu, rfl, _, _⟩ := SlR.sv hxu
        refine WP.seq ?_
        refine WP.block ?_
        refine Zp ?_
        refine Zx sl_42 hbu ?_
        refine Run.loadRagg rfl rfl ag_51 rfl rfl hxrow (by rfl) ?_
        refine Run.alloc rfl zr_51 rfl rfl rfl ?_
        intro b5
        refine Run.storeB 1 rfl rfl rfl rfl ag_51 rfl rfl rfl rfl rfl ?_
        refine Ze ?_
        refine WP.openX 0 ?_
        rintro ⟨iv, sv, jv⟩ _
        refine WP.drawn0 cf0 mixed rfl (by kernel_rfl) ?_
        refine Zm ?_
        refine Zm ?_
        refine Zn ?_
        refine Zf fo_63_3 ?_
        refine Zl 0 ag_45 ?_
        refine Zf fo_51_4 ?_
        refine Zl 5 ag_45 ?_
        refine Run.append (E := encI) (xs := allN F k ++ bodS b j) (ys := x.saves) 2 rfl rfl rfl rfl rfl rfl sl_45 zr_3 rfl (src_ro hxv) (by rw [List.length_append]; omega) (by rw [List.length_append]; omega) ?_
        intro sv39 hv39
        refine Zn ?_
        refine Zf fo_63_3 ?_
        refine Run.storeB 0 rfl rfl rfl rfl ag_45 rfl rfl rfl rfl rfl ?_
        refine Run.nil ?_
        refine blk_norm ?_; refine thn_next ?_
        refine Zc ?_
        refine Za ?_
        refine Zm ?_
        refine Run.nil ?_
        refine thn_next ⟨j + 1, by omega, by omega, Ko.go, ?_⟩
        rw [bodS_step gx', ← List.append_assoc]
        exact ent.trans (Δ := mkC bm ⟨F, pu.val, pv.val, first, bp⟩ (allN F k ++ bodS b j ++ x.saves) [] (fun _ => none) [] ⟨iv, sv39, jv⟩) ent.go (mkP_shut ⟨iv, sv39, jv⟩ [])
      · refine Zj ?_; refine blk_norm ?_; refine thn_next ?_
        refine Zc ?_
        refine Za ?_
        refine Zm ?_
        refine Run.nil ?_
        have e : j = b.body.length := by omega
        subst e
        refine thn_next ⟨k + 1, by omega, by omega, Ko.go, ?_⟩
        rw [allN_step gb']; exact ent.gc
    · refine Zj ?_
      have e : k = F.blocks.length := by omega
      subst e
      refine thn_next ⟨(), trivial, Ko.go, ?_⟩
      rw [show allN F F.blocks.length = allS F by unfold allN allS; rw [List.take_length]]; exact ent.gc
  intro _ _
  have hal := allN_len h F.blocks.length (Nat.le_refl _)
  rw [show allN F F.blocks.length = allS F by unfold allN allS; rw [List.take_length]] at hal
  have hsl := sumB_le F F.blocks.length
  refine WP.openX 0 ?_
  rintro ⟨iv, sv, jv⟩ _
  refine Zp ?_
  refine Zm ?_
  refine Zn ?_
  refine Zf fo_63_3 ?_
  refine Zl 0 ag_45 ?_
  refine Run.callP [2] ok_22 (sort_ok hR sv (allS F) (by omega)) ?_; rintro _ _ rfl
  refine Ze ?_
  have hml : ((allS F).mergeSort fun x y => decide (x ≤ y)).length = (allS F).length := List.length_mergeSort _
  have hmp : ((allS F).mergeSort fun x y => decide (x ≤ y)).Pairwise (· ≤ ·) := by
    have := List.pairwise_mergeSort (le := fun x y : Int => decide (x ≤ y)) (fun a b c h1 h2 => by simp at h1 h2 ⊢; omega) (fun a b => by simp; omega) (allS F)
    exact this.imp fun h => by simpa using h
  obtain ⟨hc1, hc2⟩ := compact_sorted _ hmp
  have hcs : Lib.compact ((allS F).mergeSort fun x y => decide (x ≤ y)) = savS F := lt_uniq hc1 (savS_lt F) fun r => (hc2 r).trans (List.mem_mergeSort.trans (savS_mem h.sv r).symm)
  refine WP.trim [0] [1, 2, 0, 3, 4] ?_
  refine Zp ?_
  refine Zm ?_
  refine Zm ?_
  refine Zn ?_
  refine Zf fo_63_3 ?_
  refine Zl 0 ag_45 ?_
  refine Run.callP [2] ok_23 (compact_ok hR sv _ (by rw [hml]; omega)) ?_; rintro _ _ ⟨ys, rfl, rfl⟩
  refine Zn ?_
  refine Zf fo_63_3 ?_
  refine Run.storeB 1 rfl rfl rfl rfl ag_45 rfl rfl rfl rfl rfl ?_
  refine Ze ?_
  rw [hcs]
  have hS8 := savS_len F
  generalize hSS : savS F = S at hS8 ⊢
  refine WP.trim [0] [1, 2, 0, 3, 4] ?_
  refine WP.via (Γ' := [mkP bm ⟨F, pu.val, pv.val, first, bp⟩ S [] (fun _ => none) []]) (mkP_shut ⟨iv, ys, jv⟩ []) ?_
  refine Zp ?_
  refine Zm ?_
  refine Ze ?_
  refine WP.via (Γ' := [mkP bm ⟨F, pu.val, pv.val, first, bp⟩ S [] (fun _ => none) [], slA 82 encMv nilS.val []]) ((slA_nil 82 encMv _).trans ent.go) ?_
  refine WP.trim [0, 6] [0, 1] ?_
  refine WP.meetC (α := SV) (fun _ => True) (fun sv => [(6, sv.val)]) (fun sv => [(1, slA 82 encMv sv.val (numbered F.params fun k l => ⟨l, regL k⟩))]) ?_ ?_
  · refine WP.seq ?_
    refine WP.openX 0 ?_
    rintro ⟨iv, sv, jv⟩ _
    refine Zc ?_
    refine Zm ?_
    refine Zn ?_
    refine Zf fo_63_0 ?_
    refine Zf fo_41_1 ?_
    refine Zl 0 ag_38 ?_
    refine Zh sl_38 hu ?_
    refine Zm ?_
    refine Ze ?_
    refine WP.via (Γ' := [mkP bm ⟨F, pu.val, pv.val, first, bp⟩ S [] (fun _ => none) [], slA 82 encMv nilS.val []]) (mkP_shut ⟨iv, sv, jv⟩ [slA 82 encMv nilS.val []]) ?_
    refine WP.block ?_
    refine WP.trim [0, 6, 61, 62, 63] [0, 1] ?_
    refine WP.loopC (α := Nat × SV) (fun z => z.1 ≤ F.params.length) (fun z => [(63, vI (z.1 : Int)), (6, z.2.val)]) (fun z => [(1, slA 82 encMv z.2.val ((numbered F.params fun k l => ⟨l, regL k⟩).take z.1))]) (fun z => F.params.length - z.1) (0, nilS) (Nat.zero_le _) ?_
    rintro ⟨i, lv⟩ hi
    simp only at hi ⊢
    have hpl := h.pl
    refine WP.trim [0, 6, 61, 62, 63] [0, 1] ?_
    refine Zp ?_
    refine Zi ?_
    refine Ze ?_
    refine WP.seq ?_
    refine WP.ite rfl (fun hlt => ?_) (fun hge => ?_)
    · refine Zb ?_
      obtain ⟨l, gl⟩ : ∃ x', F.params[(i : Int).toNat]? = some x' := ⟨_, List.getElem?_eq_getElem (by omega)⟩
      have gl' : F.params[i]? = some l := gl
      have hst2 : (numbered F.params fun k l => (⟨l, regL k⟩ : Mv)).take (i + 1) = (numbered F.params fun k l => (⟨l, regL k⟩ : Mv)).take i ++ [⟨l, regL i⟩] := by rw [List.take_add_one, numb_get, gl']; rfl
      refine WP.seq ?_
      refine WP.block ?_
      refine Zp ?_
      refine Zm ?_
      refine Zx sl_38 hu ?_
      refine Run.loadRagg rfl rfl ag_44 rfl rfl (SlR.row hu gl) rfl ?_
      refine Run.alloc rfl zr_44 rfl rfl rfl ?_
      intro b8
      refine Zm ?_
      refine Run.storeB 2 rfl rfl rfl rfl ag_44 rfl rfl rfl rfl rfl ?_
      refine Ze ?_
      refine WP.trim [0, 6, 7, 8, 61, 62, 63] [0, 1, 2] ?_
      refine Zc ?_
      refine Zm ?_
      refine Run.loadBagg 2 rfl rfl ag_44 rfl rfl rfl rfl rfl ?_
      refine Zm ?_
      refine Run.build rfl bd_44 rfl rfl rfl rfl ?_
      refine Run.build rfl bd_82 rfl rfl rfl rfl ?_
      refine Run.buildSlice (E := encMv) rfl sl_80 zr_82 ([(⟨l, regL i⟩ : Mv)]) rfl rfl rfl (by decide) rfl rfl ?_
      intro b73
      refine Run.append (E := encMv) (xs := (numbered F.params fun k l => ⟨l, regL k⟩).take i) (ys := [(⟨l, regL i⟩ : Mv)]) 1 rfl rfl rfl rfl rfl rfl sl_80 zr_82 rfl (src_own 3 rfl) (by rw [List.length_take, numb_len]; simp only [List.length_singleton]; omega) (by rw [List.length_take, numb_len]; simp only [List.length_singleton]; omega) ?_
      intro sv42 hv42
      refine Zm ?_
      refine Run.nil ?_
      refine blk_norm ?_; refine thn_next ?_
      refine Zc ?_
      refine Za ?_
      refine Zm ?_
      refine Run.nil ?_
      refine thn_next ⟨(i + 1, sv42), by simp only; omega, by simp only; omega, Ko.go, by simp only [hst2]; exact ent.gc⟩
    · refine Zj ?_
      have e : i = F.params.length := by omega
      subst e
      refine thn_next ⟨lv, trivial, Ko.go, ?_⟩
      rw [List.take_of_length_le (by rw [numb_len]; exact Nat.le_refl _)]; exact ent.gc
  intro lv _
  refine WP.trim [0, 6] [0, 1] ?_
  have hpl := h.pl
  refine Zp ?_
  refine Zm ?_
  refine Zm ?_
  refine Run.callL [0] [1] ok_24 (fun g hg hd => moves_ok (un hR g) bm ⟨F, pu.val, pv.val, first, bp⟩ S [] (fun _ => none) [] lv _ (lent_at 0 rfl hg hd) (by rw [numb_len]; omega) (good_par h) (near_par h) (by omega) (by simp)) ?_; rintro _ _ ⟨rfl, hml⟩
  refine Ze ?_
  rw [numb_len] at hml
  have hraw0 : movesC S (numbered F.params fun k l => ⟨l, regL k⟩) = (rawC S F 0).map Prod.fst := by rw [raw_zero]; unfold preC; rw [fst_none]
  have hjmp0 : jmpI 0 (rawC S F 0) = [] := by rw [raw_zero]; unfold preC; rw [jmpI_none]
  have hlen0 : (rawC S F 0).length ≤ 32 := by rw [raw_zero]; unfold preC; rw [List.length_map]; omega
  refine WP.trim [0] [0] ?_
  rw [List.nil_append, hraw0]
  -- block by block
  refine WP.meetC (α := Unit) (fun _ => (rawC S F F.blocks.length).length ≤ 32 + 100 * sumB F F.blocks.length + 5 * F.blocks.length) (fun _ => []) (fun _ => [(0, mkP bm ⟨F, pu.val, pv.val, first, bp⟩ S ((rawC S F F.blocks.length).map Prod.fst) (plF S F first F.blocks.length) (jmpI 0 (rawC S F F.blocks.length)))]) ?_ ?_
  · refine WP.seq ?_
    refine WP.openX 0 ?_
    rintro ⟨iv, sv, jv⟩ _
    refine Zc ?_
    refine Zm ?_
    refine Zn ?_
    refine Zf fo_63_0 ?_
    refine Zf fo_41_4 ?_
    refine Zl 0 ag_39 ?_
    refine Zh sl_39 hb ?_
    refine Zm ?_
    refine Ze ?_
    refine WP.via (Γ' := [mkP bm ⟨F, pu.val, pv.val, first, bp⟩ S ((rawC S F 0).map Prod.fst) (fun _ => none) []]) (mkP_shut ⟨iv, sv, jv⟩ []) ?_
    refine WP.block ?_
    refine WP.trim [0, 83, 84, 85] [0] ?_
    refine WP.loopC (α := Nat) (fun k => k ≤ F.blocks.length ∧ (rawC S F k).length ≤ 32 + 100 * sumB F k + 5 * k) (fun k => [(85, vI (k : Int))]) (fun k => [(0, mkP bm ⟨F, pu.val, pv.val, first, bp⟩ S ((rawC S F k).map Prod.fst) (plF S F first k) (jmpI 0 (rawC S F k)))]) (fun k => F.blocks.length - k) 0 ⟨Nat.zero_le _, by omega⟩ ?_ (he := by rw [plF_zero, hjmp0]; exact ent.gc)
    rintro k ⟨hk, hrl⟩
    refine WP.trim [0, 83, 84, 85] [0] ?_
    refine Zp ?_
    refine Zi ?_
    refine Ze ?_
    refine WP.seq ?_
    refine WP.ite rfl (fun hlt => ?_) (fun hge => ?_)
    · refine Zb ?_
      obtain ⟨b, gb⟩ : ∃ b, F.blocks[(k : Int).toNat]? = some b := ⟨_, List.getElem?_eq_getElem (by omega)⟩
      have gb' : F.blocks[k]? = some b := gb
      have hbm := List.mem_of_getElem? gb
      have hs2 := sumB_le F (k + 1)
      rw [sumB_step gb'] at hs2
      obtain ⟨hT, hTt⟩ := h.trm b hbm
      obtain ⟨_, ⟨bu0, bt0, rfl, hbu, hbt⟩, hrow⟩ := hb.at gb
      obtain ⟨bu, rfl, _, _⟩ := SlR.sv hbu
      obtain ⟨bt, rfl, _, _⟩ := SlR.sv hbt
      refine WP.seq ?_
      refine WP.block ?_
      refine Zp ?_
      refine Zm ?_
      refine Zx sl_39 hb ?_
      refine Run.loadRagg rfl rfl ag_49 rfl rfl hrow (by rfl) ?_
      refine Run.alloc rfl zr_49 rfl rfl rfl ?_
      intro b10
      refine Zm ?_
      refine Run.storeB 1 rfl rfl rfl rfl ag_49 rfl rfl rfl rfl rfl ?_
      refine Ze ?_
      refine WP.trim [0, 9, 10, 83, 84, 85] [0, 1] ?_
      refine WP.seq ?_
      refine WP.openX 0 ?_
      rintro ⟨iv, sv, jv⟩ _
      refine WP.drawn0 cf0 mixed rfl (by kernel_rfl) ?_
      refine Zm ?_
      refine Zn ?_
      refine Zf fo_63_4 ?_
      refine Zl 0 ag_61 ?_
      refine Zm ?_
      refine Zm ?_
      refine Zn ?_
      refine Zf fo_63_1 ?_
      refine Zl 0 ag_3 ?_
      refine Zm ?_
      refine Zn ?_
      refine Zf fo_63_2 ?_
      refine Zl 0 ag_29 ?_
      refine Run.lenO 1 rfl rfl sl_29 rfl rfl rfl ?_; refine Run.eqv (v' := vI ((rawC S F k).length : Int)) (by rw [List.length_map]) ?_
      refine Za ?_
      refine Run.mapUpdate 3 rfl rfl rfl rfl mt_61 ui_3 rfl rfl ?_
      refine Ze ?_
      rw [plF_step]
      refine WP.via (Γ' := [mkP bm ⟨F, pu.val, pv.val, first, bp⟩ S ((rawC S F k).map Prod.fst) (plF S F first (k + 1)) (jmpI 0 (rawC S F k)), blk b10 (abv b bu.val bt.val) 49]) (mkP_shut ⟨iv, sv, jv⟩ [blk b10 (abv b bu.val bt.val) 49]) ?_
      refine WP.trim [0, 9, 10, 83, 84, 85] [0, 1] ?_
      refine WP.meetC (α := Unit) (fun _ => (bodN S b b.body.length).length ≤ 100 * b.body.length) (fun _ => []) (fun _ => [(0, mkP bm ⟨F, pu.val, pv.val, first, bp⟩ S ((rawC S F k).map Prod.fst ++ bodN S b b.body.length) (plF S F first (k + 1)) (jmpI 0 (rawC S F k)))]) ?_ ?_
      · refine Zp ?_
        refine Zf fo_49_0 ?_
        refine Zl 1 ag_42 ?_
        refine Zh sl_42 hbu ?_
        refine Zm ?_
        refine Ze ?_
        refine WP.block ?_
        refine WP.trim [0, 9, 10, 83, 84, 85, 106, 107, 108] [0, 1] ?_
        refine WP.loopC (α := Nat) (fun j => j ≤ b.body.length ∧ (bodN S b j).length ≤ 100 * j) (fun j => [(108, vI (j : Int))]) (fun j => [(0, mkP bm ⟨F, pu.val, pv.val, first, bp⟩ S ((rawC S F k).map Prod.fst ++ bodN S b j) (plF S F first (k + 1)) (jmpI 0 (rawC S F k)))]) (fun j => b.body.length - j) 0 ⟨Nat.zero_le _, by simp [bodN]⟩ ?_ (he := by show ent _ (chgs [(0, mkP bm ⟨F, pu.val, pv.val, first, bp⟩ S ((rawC S F k).map Prod.fst ++ []) (plF S F first (k + 1)) (jmpI 0 (rawC S F k)))] _); rw [List.append_nil]; exact ent.gc)
        rintro j ⟨hj, hjl⟩
        refine WP.trim [0, 9, 10, 83, 84, 85, 106, 107, 108] [0, 1] ?_
        refine Zp ?_
        refine Zi ?_
        refine Ze ?_
        refine WP.seq ?_
        refine WP.ite rfl (fun hlt2 => ?_) (fun hge2 => ?_)
        · refine Zb ?_
          obtain ⟨x, gx⟩ : ∃ x, b.body[(j : Int).toNat]? = some x := ⟨_, List.getElem?_eq_getElem (by omega)⟩
          have gx' : b.body[j]? = some x := gx
          have hI := h.ins b hbm x (List.mem_of_getElem? gx)
          rw [hSS] at hI
          obtain ⟨_, ⟨xu0, xs0, rfl, hxu, hxv⟩, hxrow⟩ := hbu.at gx
          obtain ⟨xv, rfl, _, _⟩ := SlR.sv hxv
          obtain ⟨xu, rfl, _, _⟩ := SlR.sv hxu
          refine WP.seq ?_
          refine WP.block ?_
          refine Zp ?_
          refine Zx sl_42 hbu ?_
          refine Run.loadRagg rfl rfl ag_51 rfl rfl hxrow (by rfl) ?_
          refine Run.alloc rfl zr_51 rfl rfl rfl ?_
          intro b12
          refine Run.storeB 2 rfl rfl rfl rfl ag_51 rfl rfl rfl rfl rfl ?_
          refine Ze ?_
          refine Zc ?_
          refine Zm ?_
          refine Run.loadBagg 2 rfl rfl ag_51 rfl rfl rfl rfl rfl ?_
          refine Run.callP [0] ok_25 (instruction_ok hR bm ⟨F, pu.val, pv.val, first, bp⟩ S ((rawC S F k).map Prod.fst ++ bodN S b j) (plF S F first (k + 1)) (jmpI 0 (rawC S F k)) F x xu xv ⟨hxu, hxv⟩ h.sl.2 hI (by omega) (by rw [List.length_append, List.length_map]; omega)) ?_; rintro _ _ ⟨rfl, hil⟩
          refine Run.nil ?_
          refine blk_norm ?_; refine thn_next ?_
          refine Zc ?_
          refine Za ?_
          refine Zm ?_
          refine Run.nil ?_
          refine thn_next ⟨j + 1, ⟨by omega, by rw [bodN_step gx', List.length_append]; omega⟩, by omega, Ko.go, ?_⟩
          rw [bodN_step gx', ← List.append_assoc]; exact ent.go
        · refine Zj ?_
          have e : j = b.body.length := by omega
          subst e
          refine thn_next ⟨(), hjl, Ko.go, ent.gc⟩
      intro _ hbl
      refine WP.trim [0, 9, 10, 83, 84, 85] [0, 1] ?_
      have hisl : ((rawC S F k).map Prod.fst ++ bodN S b b.body.length).length = (rawC S F k).length + (bodN S b b.body.length).length := by rw [List.length_append, List.length_map]
      have hjl2 := jmpI_len (rawC S F k) 0
      refine Zc ?_
      refine Zm ?_
      refine Zm ?_
      refine Zf fo_49_1 ?_
      refine Run.loadBagg 1 rfl rfl ag_47 rfl rfl rfl rfl rfl ?_
      refine Run.callP [0] ok_26 (term_ok hR bm ⟨F, pu.val, pv.val, first, bp⟩ S ((rawC S F k).map Prod.fst ++ bodN S b b.body.length) (plF S F first (k + 1)) (jmpI 0 (rawC S F k)) k b.term bt hbt hT (by omega) (by omega) (by omega) (by omega)) ?_; rintro _ _ ⟨rfl, htl⟩
      refine Run.nil ?_
      refine blk_norm ?_; refine thn_next ?_
      refine Zc ?_
      refine Za ?_
      refine Zm ?_
      refine Run.nil ?_
      have e1 : (rawC S F (k + 1)).map Prod.fst = (rawC S F k).map Prod.fst ++ bodN S b b.body.length ++ (termC S k b.term).map Prod.fst := by
        rw [raw_step gb', blk_eq, List.map_append, List.map_append, fst_none, List.append_assoc]
      have e2 : jmpI 0 (rawC S F (k + 1)) = jmpI 0 (rawC S F k) ++ jmpI ((rawC S F k).map Prod.fst ++ bodN S b b.body.length).length (termC S k b.term) := by
        rw [raw_step gb', blk_eq, jmpI_app, jmpI_app, jmpI_none, List.nil_append, List.length_map, hisl, Nat.zero_add]
      have e3 : (rawC S F (k + 1)).length = (rawC S F k).length + ((bodN S b b.body.length).length + (termC S k b.term).length) := by
        rw [raw_step gb', blk_eq, List.length_append, List.length_append, List.length_map]
      refine thn_next ⟨k + 1, ⟨by omega, by rw [e3, sumB_step gb']; omega⟩, by omega, Ko.go, ?_⟩
      rw [e1, e2]; exact ent.go
    · refine Zj ?_
      have e : k = F.blocks.length := by omega
      subst e
      refine thn_next ⟨(), hrl, Ko.go, ent.gc⟩
  intro _ hrl
  have hcl : (codeC S F first).length = (rawC S F F.blocks.length).length := by rw [codeC_eq, List.length_map]
  have hflag := raw_flag (S := S) h F.blocks.length (Nat.le_refl _)
  rw [codeC_eq] at hcl ⊢
  generalize hraw : rawC S F F.blocks.length = raw at hrl hcl hflag ⊢
  -- the jumps
  have hjl := jmpI_len raw 0
  refine WP.trim [0] [0] ?_
  refine WP.openX 0 ?_
  rintro ⟨iv, sv, jv⟩ _
  refine Zp ?_
  refine Zm ?_
  refine Zn ?_
  refine Zf fo_63_5 ?_
  refine Zl 0 ag_45 ?_
  refine Run.lenO 4 rfl rfl sl_45 rfl rfl rfl ?_
  refine Zm ?_
  refine Ze ?_
  refine WP.block ?_
  refine WP.trim [0, 125, 126, 127] [0, 1, 2, 3, 4] ?_
  refine WP.loopC (α := Nat × List (RI × Bool) × List (RI × Bool)) (fun z => raw = z.2.1 ++ z.2.2 ∧ z.1 ≤ (jmpI 0 raw).length ∧ (jmpI 0 raw).drop z.1 = jmpI z.2.1.length z.2.2) (fun z => [(127, vI (z.1 : Int))]) (fun z => [(1, slA 56 encRI iv.val (z.2.1.map (patC S F first) ++ z.2.2.map Prod.fst))]) (fun z => (jmpI 0 raw).length - z.1) (0, [], raw) ⟨rfl, Nat.zero_le _, rfl⟩ ?_
  rintro ⟨i, A, B⟩ ⟨hAB, hi, hdrop⟩
  simp only at hAB hi hdrop ⊢
  refine WP.trim [0, 125, 126, 127] [0, 1, 2, 3, 4] ?_
  refine Zp ?_
  refine Zi ?_
  refine Ze ?_
  refine WP.seq ?_
  refine WP.ite rfl (fun hlt => ?_) (fun hge => ?_)
  · refine Zb ?_
    obtain ⟨j, gj⟩ : ∃ j, (jmpI 0 raw)[i]? = some j := ⟨_, List.getElem?_eq_getElem (by omega)⟩
    have hd : (jmpI 0 raw).drop i = j :: (jmpI 0 raw).drop (i + 1) := by
      obtain ⟨h1, h2⟩ := List.getElem?_eq_some_iff.1 gj
      rw [List.drop_eq_getElem_cons h1, h2]
    rw [hd] at hdrop
    obtain ⟨C, x, D, rfl, hC, rfl, hrest⟩ := jmp_split hdrop.symm
    have hxr : (x, true) ∈ raw := by rw [hAB]; simp
    obtain ⟨hn0, hn1⟩ := hflag _ hxr rfl
    simp only at hn0 hn1
    have gx : (A.map (patC S F first) ++ (C ++ (x, true) :: D).map Prod.fst)[A.length + C.length]? = some x := by
      rw [List.getElem?_append_right (by simp), List.map_append, List.length_map, Nat.add_sub_cancel_left, List.getElem?_append_right (by simp), List.length_map, Nat.sub_self]; rfl
    have hlt2 := (List.getElem?_eq_some_iff.1 gx).1
    have hpl : (plF S F first F.blocks.length) x.n = some (vI (placeC S F first x.n)) := by unfold plF; rw [if_pos ⟨hn0, hn1⟩]
    refine WP.seq ?_
    refine WP.block ?_
    refine Zp ?_
    refine Run.idxO 4 rfl rfl rfl sl_45 rfl rfl rfl rfl (by omega) (by omega) ?_
    refine Run.loadO 4 i 0 rfl rfl ag_3 rfl rfl rfl rfl gj rfl ?_
    refine Zm ?_
    refine Ze ?_
    refine WP.drawn0 cf0 mixed rfl (by kernel_rfl) ?_
    refine Zm ?_
    refine Zn ?_
    refine Zf fo_63_2 ?_
    refine Zl 0 ag_29 ?_
    refine Zm ?_
    refine Zm ?_
    refine Zn ?_
    refine Zf fo_63_4 ?_
    refine Zl 0 ag_61 ?_
    refine Zm ?_
    refine Zn ?_
    refine Zf fo_63_2 ?_
    refine Zl 0 ag_29 ?_
    refine Zm ?_
    refine Run.idxO 1 rfl rfl rfl sl_29 rfl rfl rfl rfl (by omega) (by omega) ?_
    refine Zf fo_56_4 ?_
    refine Run.loadO 1 (A.length + C.length) 4 rfl rfl ag_3 rfl rfl rfl rfl gx rfl ?_
    refine Run.lookup 3 rfl rfl rfl mt_61 ui_3 zr_3 rfl rfl rfl ?_; refine Run.eqv (v' := vI (placeC S F first x.n)) (by rw [hpl]; rfl) ?_
    refine Run.idxO 1 rfl rfl rfl sl_29 rfl rfl rfl rfl (by omega) (by omega) ?_
    refine Zf fo_56_4 ?_
    refine Run.storeO 1 (A.length + C.length) 4 rfl rfl rfl rfl ag_3 rfl rfl rfl rfl gx (y' := { x with n := placeC S F first x.n }) rfl rfl ?_
    refine Run.nil ?_
    refine blk_norm ?_; refine thn_next ?_
    refine Zc ?_
    refine Za ?_
    refine Zm ?_
    refine Run.nil ?_
    have e : (A.map (patC S F first) ++ (C ++ (x, true) :: D).map Prod.fst).set (A.length + C.length) { x with n := placeC S F first x.n } = (A ++ (C ++ [(x, true)])).map (patC S F first) ++ D.map Prod.fst := by
      rw [List.set_append_right _ _ (by simp), List.length_map, Nat.add_sub_cancel_left, List.map_append, List.set_append_right _ _ (by simp), List.length_map, Nat.sub_self]
      rw [List.map_append, List.map_append, pat_none hC]
      simp [patC]
    refine thn_next ⟨(i + 1, A ++ (C ++ [(x, true)]), D), ⟨by rw [hAB]; simp, by omega, ?_⟩, by omega, Ko.go, by simp only [← e]; exact ent.gc⟩
    simp only
    rw [hrest]; congr 1
    simp only [List.length_append, List.length_singleton]; omega
  · refine Zj ?_
    have hnil : jmpI A.length B = [] := by rw [← hdrop]; exact List.drop_eq_nil_of_le (by omega)
    have e : A.map (patC S F first) ++ B.map Prod.fst = raw.map (patC S F first) := by
      rw [hAB, List.map_append, pat_none (jmp_nil hnil)]
    rw [e]
    refine retN [] [] rfl rfl ⟨[mkP bm ⟨F, pu.val, pv.val, first, bp⟩ S (raw.map (patC S F first)) (plF S F first F.blocks.length) (jmpI 0 raw)], mkP_shut (bm := bm) (M := ⟨F, pu.val, pv.val, first, bp⟩) (S := S) (is := raw.map (patC S F first)) (pl := plF S F first F.blocks.length) (js := jmpI 0 raw) ⟨iv, sv, jv⟩ [], ⟨_, _, rfl⟩, ?_⟩
    rw [List.length_map]; omega
end Go.Proofs.Ytfaokbjpinlcaaa
end
section
/- How long a function's code may be; the places of its blocks as a list; plain. -/
namespace Go.Proofs.Ytfaokbjpinlcaaa
open Go.Sep
set_option linter.unusedVariables false
theorem Ord.length_le {temp : Lc} {l o : List Mv} (h : Ord temp l o) : o.length ≤ l.length + l.countP fun m => decide (m.from_ ≠ temp) := by
  induction h with
  | nil => simp
  | @put a b o m h1 h2 h ih =>
    simp only [List.countP_append, List.countP_cons, List.length_append, List.length_cons] at ih ⊢
    omega
  | @brk b o m h1 h ih =>
    by_cases e : m.from_ = temp
    · have em : (⟨m.to, temp⟩ : Mv) = m := by rw [← e]
      rw [em] at h
      have := congrArg List.length (h.uniq (Ord.brk h1 (by rw [em]; exact h)))
      simp only [List.length_cons] at this
      omega
    · simp only [List.countP_cons, List.length_cons] at ih ⊢
      simp only [e, ne_eq, not_true_eq_false, decide_false, decide_true, not_false_eq_true, if_true, Bool.false_eq_true, if_false] at ih ⊢
      omega
theorem ordF_len (temp : Lc) (l : List Mv) : (ordF temp l).length ≤ 2 * l.length := by
  by_cases h : ∃ o, Ord temp l o
  · obtain ⟨o, h⟩ := h
    rw [ordF_eq h]
    have h1 := h.length_le
    have h2 := List.countP_le_length (p := fun m : Mv => decide (m.from_ ≠ temp)) (l := l)
    omega
  · unfold ordF; rw [dif_neg h]; simp
theorem movesC_le (S : List Int) (l : List Mv) : (movesC S l).length ≤ 4 * l.length := by
  have h1 := moves_len S (ordF (regL 11) (l.filter fun m => decide (m.from_ ≠ m.to)))
  have h2 := ordF_len (regL 11) (l.filter fun m => decide (m.from_ ≠ m.to))
  have h3 := List.length_filter_le (fun m : Mv => decide (m.from_ ≠ m.to)) l
  unfold movesC; omega
theorem insC_le {F : AF} {S : List Int} {x : AI} (h : InsOk F S x) : (insC S x).length ≤ 100 := by
  have h1 := h.sl
  have h2 := h.al
  have hst := storeC_len S 8 x.dst
  by_cases h25 : x.op = 25
  · have hm := movesC_le S (numbered x.args fun k l => ⟨regL k, l⟩)
    rw [numb_len] at hm
    have e1 : (if noneB x.dst then [] else [(⟨2, 8, 0, 0, 0⟩ : RI)]).length ≤ 1 := by split <;> simp
    have e2 : (if noneB x.dst then [] else storeC S x.dst 8).length ≤ 1 := by split <;> first | (simp; done) | omega
    unfold insC; rw [if_pos h25, callC_eq]
    simp only [List.length_append, savC_len, List.length_singleton]; omega
  · by_cases h31 : x.op = 31
    · unfold insC; rw [if_neg h25, if_pos h31]
      split
      · rename_i l _ _
        have := moveC_len S x.dst l; omega
      · simp
    · have hr := readsC_len S x.args 0
      have e2 : (if x.dst.kind = 2 then storeC S x.dst 8 else []).length ≤ 1 := by split <;> first | (simp; done) | omega
      unfold insC; rw [if_neg h25, if_neg h31]
      simp only [List.length_append, List.length_singleton]; omega
theorem termC_le (S : List Int) (k : Int) (t : AT) : (termC S k t).length ≤ 5 := by
  have hr := readsC_len S [t.value] 0
  have hl := loadC_len S 0 t.value
  simp only [List.length_singleton] at hr
  unfold termC
  split
  · split
    · split <;> simp
    · simp
  · split
    · split
      · rw [List.length_append, List.length_map]
        split
        · simp; omega
        · simp only [List.length_cons]; split <;> simp <;> omega
      · simp
    · split
      · rw [List.length_map, List.length_append, List.length_singleton]
        split
        · simp
        · omega
      · rw [List.length_map, List.length_append, List.length_singleton]; omega
theorem raw_len {F : AF} (h : FunOk F) : ∀ k, k ≤ F.blocks.length → (rawC (savS F) F k).length ≤ 32 + 100 * sumB F k + 5 * k
  | 0, _ => by
    have hm := movesC_le (savS F) (numbered F.params fun k l => ⟨l, regL k⟩)
    have := h.pl
    rw [numb_len] at hm
    rw [raw_zero]; unfold preC; rw [List.length_map]; omega
  | k + 1, hk => by
    obtain ⟨b, gb⟩ : ∃ b, F.blocks[k]? = some b := ⟨_, List.getElem?_eq_getElem (by omega)⟩
    have h1 := raw_len h k (by omega)
    have h2 := bodN_len (F := F) (b := b) (fun x hx => insC_le (h.ins b (List.mem_of_getElem? gb) x hx)) b.body.length (Nat.le_refl _)
    have h3 := termC_le (savS F) k b.term
    rw [raw_step gb, blk_eq, sumB_step gb, List.length_append, List.length_append, List.length_map]; omega
end Go.Proofs.Ytfaokbjpinlcaaa
end
section
/- ALIR's check: places, shapes of operations, lists of places; walked. -/
namespace Go.Proofs.Ytfaokbjpinlcaaa
open Go.Sep
set_option linter.unusedSimpArgs false
set_option linter.unusedVariables false
set_option maxRecDepth 100000
attribute [local irreducible] blk slA mp mpF rows rowsBut many mpK mpE
theorem isPlace_ok (hR : Heap) (F : AF) (su sv : SV) (l : Lc) : Tri Try.prog hR 18 #[.agg ⟨afv F su.val sv.val⟩, encL l] [] fun v Γ' => v = .bool (placeB F l) ∧ Γ' = [] := by
  refine Tri.ent (Tri.of (args := [.agg ⟨afv F su.val sv.val⟩, .agg ⟨lcv l⟩]) Try.func18 rfl Try.ntmps18 (by simp) ?_)
  refine Zp ?_
  refine Run.box rfl rfl rfl rfl rfl ?_
  intro b2
  refine Run.box rfl rfl rfl rfl rfl ?_
  intro b3
  refine Zm ?_
  refine Ze ?_
  refine WP.seqCut [(4, .bool (placeB F l))] [] ?_ ?_
  · refine Zc ?_
    all_goals (first | refine Zf fo_44_0 ?_)
    all_goals (first | refine Zl 1 ag_3 ?_)
    all_goals (first | refine Zi ?_)
    all_goals (first | refine Run.tt (by first | assumption | omega) ?_ | refine Run.ff (by first | assumption | omega) ?_ | refine Run.split (fun hc7 => ?_) (fun hc7 => ?_) | refine Run.splitB (fun hc7 => ?_) (fun hc7 => ?_) | skip)
    all_goals (first | refine Zm ?_)
    all_goals (first | refine Zv ?_ | refine Zf fo_44_1 ?_)
    all_goals (first | refine Zv ?_ | refine Zl 1 ag_3 ?_)
    all_goals (first | refine Zv ?_ | refine Zi ?_)
    all_goals (first | refine Run.tt (by first | assumption | omega) ?_ | refine Run.ff (by first | assumption | omega) ?_ | refine Run.split (fun hc11 => ?_) (fun hc11 => ?_) | refine Run.splitB (fun hc11 => ?_) (fun hc11 => ?_) | skip)
    all_goals (first | refine Zq ?_)
    all_goals (first | refine Zm ?_)
    all_goals (first | refine Zv ?_ | refine Zf fo_44_1 ?_)
    all_goals (first | refine Zv ?_ | refine Zl 1 ag_3 ?_)
    all_goals (first | refine Zv ?_ | refine Zi ?_)
    all_goals (first | refine Run.tt (by first | assumption | omega) ?_ | refine Run.ff (by first | assumption | omega) ?_ | refine Run.split (fun hc16 => ?_) (fun hc16 => ?_) | refine Run.splitB (fun hc16 => ?_) (fun hc16 => ?_) | skip)
    all_goals (first | refine Zq ?_)
    all_goals (first | refine Zm ?_)
    all_goals (first | refine Zv ?_ | refine Zf fo_44_0 ?_)
    all_goals (first | refine Zv ?_ | refine Zl 1 ag_3 ?_)
    all_goals (first | refine Zv ?_ | refine Zi ?_)
    all_goals (first | refine Run.tt (by first | assumption | omega) ?_ | refine Run.ff (by first | assumption | omega) ?_ | refine Run.split (fun hc21 => ?_) (fun hc21 => ?_) | refine Run.splitB (fun hc21 => ?_) (fun hc21 => ?_) | skip)
    all_goals (first | refine Zv ?_ | refine Zm ?_)
    all_goals (first | refine Zv ?_ | refine Zf fo_44_1 ?_)
    all_goals (first | refine Zv ?_ | refine Zl 1 ag_3 ?_)
    all_goals (first | refine Zv ?_ | refine Zi ?_)
    all_goals (first | refine Run.tt (by first | assumption | omega) ?_ | refine Run.ff (by first | assumption | omega) ?_ | refine Run.split (fun hc25 => ?_) (fun hc25 => ?_) | refine Run.splitB (fun hc25 => ?_) (fun hc25 => ?_) | skip)
    all_goals (first | refine Zv ?_ | refine Zq ?_)
    all_goals (first | refine Zv ?_ | refine Zm ?_)
    all_goals (first | refine Zv ?_ | refine Zf fo_44_1 ?_)
    all_goals (first | refine Zv ?_ | refine Zl 1 ag_3 ?_)
    all_goals (first | refine Zv ?_ | refine Zf fo_41_3 ?_)
    all_goals (first | refine Zv ?_ | refine Zl 0 ag_3 ?_)
    all_goals (first | refine Zv ?_ | refine Zi ?_)
    all_goals (first | refine Zv ?_ | refine Zq ?_)
    all_goals (first | refine Zq ?_)
    all_goals (first | refine Zm ?_)
    all_goals (refine Run.nil ?_)
    all_goals refine thn_next ⟨⟨?_, trivial⟩, ent.none _⟩
    all_goals simp [Env.get, placeB, *]
    all_goals omega
  refine WP.ret ?_
  exact retT [4] _ rfl rfl ⟨_, ent.none _, rfl, rfl⟩
theorem lcEq_bool (a b : Lc) : (decide (a.kind = b.kind) && (decide (a.n = b.n) && true)) = decide (a = b) := by
  obtain ⟨a1, a2⟩ := a; obtain ⟨b1, b2⟩ := b
  by_cases h1 : a1 = b1 <;> by_cases h2 : a2 = b2 <;> simp [h1, h2]
theorem indexL_ok (hR : Heap) (av : Value) (l : List Lc) (p : Lc) (hl : SlR rdLc hR av l) (hlen : l.length ≤ 1000000) : Tri Try.prog hR 33 #[av, encL p] [] fun v Γ' => ∃ r : Int, v = .int .i64 r ∧ (0 ≤ r ↔ p ∈ l) ∧ Γ' = [] := by
  refine Tri.ent (Tri.of (args := [av, .agg ⟨lcv p⟩]) Try.func33 rfl Try.ntmps33 (by simp) ?_)
  refine Zp ?_
  refine Run.box rfl rfl rfl rfl rfl ?_
  intro b3
  refine Zm ?_
  refine Ze ?_
  refine WP.trim [0, 3, 4] [0] ?_
  refine WP.meetC (α := Unit) (fun _ => p ∉ l) (fun _ => []) (fun _ => []) ?_ ?_
  · refine Zp ?_
    refine Zm ?_
    refine Run.lenR rfl rfl sl_38 rfl rfl (by assumption) ?_
    refine Zm ?_
    refine Ze ?_
    refine WP.block ?_
    refine WP.trim [0, 3, 4, 7, 8] [0] ?_
    refine WP.loopC (α := Nat) (fun i => i ≤ l.length ∧ ∀ (j : Nat) (x : Lc), j < i → l[j]? = some x → x ≠ p) (fun i => [(8, .int .i64 (i : Int))]) (fun _ => []) (fun i => l.length - i) 0 ⟨Nat.zero_le _, fun j x h => by omega⟩ ?_
    rintro i ⟨hi, hno⟩
    refine WP.trim [0, 3, 4, 7, 8] [0] ?_
    refine Zp ?_
    refine Zi ?_
    refine Ze ?_
    refine WP.seq ?_
    refine WP.ite rfl (fun hlt => ?_) (fun hge => ?_)
    · refine Zb ?_
      obtain ⟨x, gx⟩ : ∃ y, l[(i : Int).toNat]? = some y := ⟨_, List.getElem?_eq_getElem (by omega)⟩
      have gx' : l[i]? = some x := gx
      refine WP.seq ?_
      refine WP.block ?_
      refine Zp ?_
      refine Zm ?_
      refine Zm ?_
      refine Ze ?_
      refine WP.seq ?_
      refine WP.drawn0 cf0 mixed rfl (by kernel_rfl) ?_
      refine Run.loadBagg 0 rfl rfl ag_44 rfl rfl rfl rfl rfl ?_
      refine Zm ?_
      refine Zm ?_
      refine Zx sl_38 hl ?_
      refine Run.loadRagg rfl rfl ag_44 rfl rfl (SlR.row hl gx) rfl ?_
      refine Run.eqS rfl rfl rfl is_44 nf_44 rfl rfl rfl rfl ?_
      refine Run.eqv (v' := .bool (decide (p = x))) (by rw [← lcEq_bool]) ?_
      refine Ze ?_
      refine WP.ite rfl (fun hy => ?_) (fun hy => ?_)
      · refine Zp ?_
        refine Zm ?_
        refine Zm ?_
        refine Ze ?_
        refine WP.ret ?_; refine blk_ret ?_; refine thn_ret ?_; refine thn_ret ?_; refine blk_ret ?_; refine thn_ret ?_
        exact retT [4] _ rfl rfl ⟨_, ent.none _, _, rfl, ⟨fun _ => by rw [hy]; exact List.mem_of_getElem? gx', fun _ => by omega⟩, rfl⟩
      · refine WP.skip ?_; refine blk_norm ?_; refine thn_next ?_
        refine Zc ?_
        refine Za ?_
        refine Zm ?_
        refine Run.nil ?_
        refine thn_next ⟨i + 1, ⟨by omega, fun j z hj hz => ?_⟩, by omega, Ko.go, ent.gc⟩
        by_cases e : j = i
        · subst e; rw [gx'] at hz; cases hz; exact fun e => hy e.symm
        · exact hno j z (by omega) hz
    · refine Zj ?_
      refine thn_next ⟨(), fun hm => ?_, Ko.go, ent.gc⟩
      obtain ⟨j, hj⟩ := List.getElem?_of_mem hm
      exact hno j p (by have := (List.getElem?_eq_some_iff.1 hj).1; omega) hj rfl
  intro _ hno
  refine Zp ?_
  refine Zm ?_
  refine Ze ?_
  refine WP.ret ?_
  exact retT [4] _ rfl rfl ⟨_, ent.none _, -1, rfl, ⟨fun h => by omega, fun h => absurd h hno⟩, rfl⟩
theorem containsL_ok (hR : Heap) (av : Value) (l : List Lc) (p : Lc) (hl : SlR rdLc hR av l) (hlen : l.length ≤ 1000000) : Tri Try.prog hR 19 #[av, encL p] [] fun v Γ' => v = .bool (decide (p ∈ l)) ∧ Γ' = [] := by
  refine Tri.ent (Tri.of (args := [av, .agg ⟨lcv p⟩]) Try.func19 rfl Try.ntmps19 (by simp) ?_)
  refine Zp ?_
  refine Run.box rfl rfl rfl rfl rfl ?_
  intro b3
  refine Zm ?_
  refine Ze ?_
  refine Zp ?_
  refine Zm ?_
  refine Run.loadBagg 0 rfl rfl ag_44 rfl rfl rfl rfl rfl ?_
  refine Run.callP [] ok_33 (indexL_ok hR av l p hl hlen) ?_; rintro _ _ ⟨r, rfl, hr, rfl⟩
  refine Zi ?_
  refine Run.eqv (v' := .bool (decide (p ∈ l))) (by congr 1; exact decide_eq_decide.2 hr) ?_
  refine Zm ?_
  refine Ze ?_
  refine WP.ret ?_
  exact retT [4] _ rfl rfl ⟨_, ent.none _, rfl, rfl⟩
theorem notPlace_ok (hR : Heap) (bf : Nat) (F : AF) (su sv : SV) (l : Lc) : Tri Try.prog hR 35 #[encL l, .pointer (some ⟨bf, 0, none⟩)] [blk bf (afv F su.val sv.val) 41] fun v Γ' => v = .bool (decide (placeB F l = false)) ∧ Γ' = [blk bf (afv F su.val sv.val) 41] := by
  refine Tri.ent (Tri.of (args := [.agg ⟨lcv l⟩, .pointer (some ⟨bf, 0, none⟩)]) Try.func35 rfl Try.ntmps35 (by simp) ?_)
  refine Zp ?_
  refine Run.box rfl rfl rfl rfl rfl ?_
  intro b2
  refine Zm ?_
  refine Ze ?_
  refine Zp ?_
  refine Run.loadBagg 0 rfl rfl ag_41 rfl rfl rfl rfl rfl ?_
  refine Run.loadBagg 1 rfl rfl ag_44 rfl rfl rfl rfl rfl ?_
  refine Run.callP [] ok_18 (isPlace_ok hR F su sv l) ?_; rintro _ _ ⟨rfl, rfl⟩
  refine Run.bnot rfl rfl rfl rfl ?_
  refine Run.eqv (v' := .bool (decide (placeB F l = false))) (by simp only [placeB, decide_eq_false_iff_not]) ?_
  refine Zm ?_
  refine Ze ?_
  refine WP.ret ?_
  exact retT [3] _ rfl rfl ⟨_, ent.go, rfl, rfl⟩
theorem ok_35 : calleeOk Try.prog 35 = true := by kernel_rfl
abbrev notPlF (bf : Nat) : Value := .func (.func 35) #[] #[.pointer (some ⟨bf, 0, none⟩)]
theorem indexF_ok (hR : Heap) (bf : Nat) (F : AF) (su sv : SV) (av : Value) (l : List Lc) (hl : SlR rdLc hR av l) (hlen : l.length ≤ 1000000) : Tri Try.prog hR 54 #[av, notPlF bf] [blk bf (afv F su.val sv.val) 41] fun v Γ' => ∃ r : Int, v = .int .i64 r ∧ (0 ≤ r ↔ l.all (placeB F) = false) ∧ Γ' = [blk bf (afv F su.val sv.val) 41] := by
  refine Tri.ent (Tri.of (args := [av, notPlF bf]) Try.func54 rfl Try.ntmps54 (by simp) ?_)
  refine Zp ?_
  refine Zm ?_
  refine Ze ?_
  refine WP.trim [0, 1, 4] [0] ?_
  refine WP.meetC (α := Unit) (fun _ => l.all (placeB F) = true) (fun _ => []) (fun _ => []) ?_ ?_
  · refine Zp ?_
    refine Zm ?_
    refine Run.lenR rfl rfl sl_38 rfl rfl (by assumption) ?_
    refine Zm ?_
    refine Ze ?_
    refine WP.block ?_
    refine WP.trim [0, 1, 4, 7, 8] [0] ?_
    refine WP.loopC (α := Nat) (fun i => i ≤ l.length ∧ ∀ (j : Nat) (x : Lc), j < i → l[j]? = some x → placeB F x = true) (fun i => [(8, .int .i64 (i : Int))]) (fun _ => []) (fun i => l.length - i) 0 ⟨Nat.zero_le _, fun j x h => by omega⟩ ?_
    rintro i ⟨hi, hno⟩
    refine WP.trim [0, 1, 4, 7, 8] [0] ?_
    refine Zp ?_
    refine Zi ?_
    refine Ze ?_
    refine WP.seq ?_
    refine WP.ite rfl (fun hlt => ?_) (fun hge => ?_)
    · refine Zb ?_
      obtain ⟨x, gx⟩ : ∃ y, l[(i : Int).toNat]? = some y := ⟨_, List.getElem?_eq_getElem (by omega)⟩
      have gx' : l[i]? = some x := gx
      refine WP.seq ?_
      refine WP.block ?_
      refine Zp ?_
      refine Zm ?_
      refine Zm ?_
      refine Ze ?_
      refine Zp ?_
      iterate 3 refine Zm ?_
      refine Zx sl_38 hl ?_
      refine Run.loadRagg rfl rfl ag_44 rfl rfl (SlR.row hl gx) rfl ?_
      refine Run.callP [0] ok_35 (notPlace_ok hR bf F su sv x) ?_; rintro _ _ ⟨rfl, rfl⟩
      refine Ze ?_
      refine WP.ite rfl (fun hy => ?_) (fun hy => ?_)
      · refine Zp ?_
        refine Zm ?_
        refine Zm ?_
        refine Ze ?_
        refine WP.ret ?_; refine blk_ret ?_; refine thn_ret ?_; refine thn_ret ?_; refine blk_ret ?_; refine thn_ret ?_
        exact retT [4] _ rfl rfl ⟨_, ent.go, _, rfl, ⟨fun _ => all_not gx' hy, fun _ => by omega⟩, rfl⟩
      · refine WP.skip ?_; refine blk_norm ?_; refine thn_next ?_
        refine Zc ?_
        refine Za ?_
        refine Zm ?_
        refine Run.nil ?_
        refine thn_next ⟨i + 1, ⟨by omega, fun j z hj hz => ?_⟩, by omega, Ko.go, ent.gc⟩
        by_cases e : j = i
        · subst e; rw [gx'] at hz; cases hz; simpa using hy
        · exact hno j z (by omega) hz
    · refine Zj ?_
      exact thn_next ⟨(), all_of fun j x hj hx => hno j x (by omega) hx, Ko.go, ent.gc⟩
  intro _ hall
  refine Zp ?_
  refine Zm ?_
  refine Ze ?_
  refine WP.ret ?_
  exact retT [4] _ rfl rfl ⟨_, ent.go, -1, rfl, ⟨fun h => by omega, fun h => by rw [hall] at h; cases h⟩, rfl⟩
theorem containsF_ok (hR : Heap) (bf : Nat) (F : AF) (su sv : SV) (av : Value) (l : List Lc) (hl : SlR rdLc hR av l) (hlen : l.length ≤ 1000000) : Tri Try.prog hR 34 #[av, notPlF bf] [blk bf (afv F su.val sv.val) 41] fun v Γ' => v = .bool (decide (l.all (placeB F) = false)) ∧ Γ' = [blk bf (afv F su.val sv.val) 41] := by
  refine Tri.ent (Tri.of (args := [av, notPlF bf]) Try.func34 rfl Try.ntmps34 (by simp) ?_)
  refine Zp ?_
  refine Zm ?_
  refine Ze ?_
  refine Zp ?_
  refine Zm ?_
  refine Zm ?_
  refine Run.callP [0] ok_54 (indexF_ok hR bf F su sv av l hl hlen) ?_; rintro _ _ ⟨r, rfl, hr, rfl⟩
  refine Zi ?_
  refine Run.eqv (v' := .bool (decide (l.all (placeB F) = false))) (by congr 1; exact decide_eq_decide.2 hr) ?_
  refine Zm ?_
  refine Ze ?_
  refine WP.ret ?_
  exact retT [4] _ rfl rfl ⟨_, ent.go, rfl, rfl⟩
/-- a shape is told of just the operations that have one -/
def ShapeIs (op : Int) (v : Value) : Prop := ∃ (a : Int) (s ok : Bool), v = .tuple #[.agg ⟨[.int .i64 a, .bool s]⟩, .bool ok] ∧ (ok = decide (0 ≤ argsN op)) ∧ (ok = true → a = argsN op ∧ s = setsB op)
set_option maxHeartbeats 2000000 in
theorem shapeOf_ok (hR : Heap) (op : Int) : Tri Try.prog hR 37 #[.int .i64 op] [] fun v Γ' => ShapeIs op v ∧ Γ' = [] := by
  refine Tri.ent (Tri.of (args := [.int .i64 op]) Try.func37 rfl Try.ntmps37 (by simp) ?_)
  refine Zp ?_
  refine Run.alloc rfl zr_99 rfl rfl rfl ?_
  intro b2
  refine Zm ?_
  refine Ze ?_
  refine WP.trim [0, 2, 3] [0] ?_
  refine WP.meetC (α := Unit) (fun _ => argsN op = -1) (fun _ => []) (fun _ => []) ?_ ?_
  · refine WP.block ?_
    refine WP.seqCut [(0, .int .i64 op), (2, .pointer (some ⟨b2, 0, none⟩)), (3, .bool false), (4, .bool (decide (op = 1 ∨ op = 24)))] [blk b2 [.int .i64 0, .bool false] 99] ?_ ?_
    · refine Zc ?_
      all_goals (first | refine Zm ?_)
      all_goals (first | refine Zi ?_)
      all_goals (first | refine Run.tt (by first | assumption | omega) ?_ | refine Run.ff (by first | assumption | omega) ?_ | refine Run.split (fun hc6 => ?_) (fun hc6 => ?_) | refine Run.splitB (fun hc6 => ?_) (fun hc6 => ?_) | skip)
      all_goals (first | refine Zm ?_)
      all_goals (first | refine Zv ?_ | refine Zm ?_)
      all_goals (first | refine Zv ?_ | refine Zi ?_)
      all_goals (first | refine Zq ?_)
      all_goals (first | refine Zm ?_)
      all_goals (refine Run.nil ?_)
      all_goals refine thn_next ⟨⟨rfl, rfl, rfl, ?_, trivial⟩, ent.go⟩
      all_goals (simp [Env.get, *] <;> omega)
    refine WP.ite rfl (fun h1 => ?_) (fun h1 => ?_)
    · refine Zp ?_
      refine Run.build rfl bd_99 rfl rfl rfl rfl ?_
      refine Run.storeB 0 rfl rfl rfl rfl ag_99 rfl rfl rfl rfl rfl ?_
      refine Zm ?_
      refine Ze ?_
      refine WP.ret ?_; refine blk_ret ?_; refine thn_ret ?_
      exact retCT 2 0 3 ag_99 rfl rfl rfl rfl rfl ⟨_, ent.none _, ⟨_, _, true, rfl, by unfold argsN; simp [*] <;> omega, fun _ => ⟨by unfold argsN; simp [*] <;> omega, by unfold setsB; simp [*] <;> omega⟩⟩, rfl⟩
    refine WP.seqCut [(0, .int .i64 op), (2, .pointer (some ⟨b2, 0, none⟩)), (3, .bool false), (12, .bool (decide ((2 ≤ op ∧ op ≤ 16) ∨ op = 21)))] [blk b2 [.int .i64 0, .bool false] 99] ?_ ?_
    · refine Zc ?_
      all_goals (first | refine Zm ?_)
      all_goals (first | refine Zi ?_)
      all_goals (first | refine Run.tt (by first | assumption | omega) ?_ | refine Run.ff (by first | assumption | omega) ?_ | refine Run.split (fun hc14 => ?_) (fun hc14 => ?_) | refine Run.splitB (fun hc14 => ?_) (fun hc14 => ?_) | skip)
      all_goals (first | refine Zm ?_)
      all_goals (first | refine Zv ?_ | refine Zm ?_)
      all_goals (first | refine Zv ?_ | refine Zi ?_)
      all_goals (first | refine Run.tt (by first | assumption | omega) ?_ | refine Run.ff (by first | assumption | omega) ?_ | refine Run.split (fun hc17 => ?_) (fun hc17 => ?_) | refine Run.splitB (fun hc17 => ?_) (fun hc17 => ?_) | skip)
      all_goals (first | refine Zq ?_)
      all_goals (first | refine Zm ?_)
      all_goals (first | refine Zv ?_ | refine Zm ?_)
      all_goals (first | refine Zv ?_ | refine Zi ?_)
      all_goals (first | refine Zq ?_)
      all_goals (first | refine Zm ?_)
      all_goals (refine Run.nil ?_)
      all_goals refine thn_next ⟨⟨rfl, rfl, rfl, ?_, trivial⟩, ent.go⟩
      all_goals (simp [Env.get, *] <;> omega)
    refine WP.ite rfl (fun h3 => ?_) (fun h3 => ?_)
    · refine Zp ?_
      refine Run.build rfl bd_99 rfl rfl rfl rfl ?_
      refine Run.storeB 0 rfl rfl rfl rfl ag_99 rfl rfl rfl rfl rfl ?_
      refine Zm ?_
      refine Ze ?_
      refine WP.ret ?_; refine blk_ret ?_; refine thn_ret ?_
      exact retCT 2 0 3 ag_99 rfl rfl rfl rfl rfl ⟨_, ent.none _, ⟨_, _, true, rfl, by unfold argsN; simp [*] <;> omega, fun _ => ⟨by unfold argsN; simp [*] <;> omega, by unfold setsB; simp [*] <;> omega⟩⟩, rfl⟩
    refine WP.seqCut [(0, .int .i64 op), (2, .pointer (some ⟨b2, 0, none⟩)), (3, .bool false), (24, .bool (decide ((17 ≤ op ∧ op ≤ 20) ∨ op = 23 ∨ op = 31)))] [blk b2 [.int .i64 0, .bool false] 99] ?_ ?_
    · refine Zc ?_
      all_goals (first | refine Zm ?_)
      all_goals (first | refine Zi ?_)
      all_goals (first | refine Run.tt (by first | assumption | omega) ?_ | refine Run.ff (by first | assumption | omega) ?_ | refine Run.split (fun hc26 => ?_) (fun hc26 => ?_) | refine Run.splitB (fun hc26 => ?_) (fun hc26 => ?_) | skip)
      all_goals (first | refine Zm ?_)
      all_goals (first | refine Zv ?_ | refine Zm ?_)
      all_goals (first | refine Zv ?_ | refine Zi ?_)
      all_goals (first | refine Run.tt (by first | assumption | omega) ?_ | refine Run.ff (by first | assumption | omega) ?_ | refine Run.split (fun hc29 => ?_) (fun hc29 => ?_) | refine Run.splitB (fun hc29 => ?_) (fun hc29 => ?_) | skip)
      all_goals (first | refine Zq ?_)
      all_goals (first | refine Zm ?_)
      all_goals (first | refine Zv ?_ | refine Zm ?_)
      all_goals (first | refine Zv ?_ | refine Zi ?_)
      all_goals (first | refine Run.tt (by first | assumption | omega) ?_ | refine Run.ff (by first | assumption | omega) ?_ | refine Run.split (fun hc33 => ?_) (fun hc33 => ?_) | refine Run.splitB (fun hc33 => ?_) (fun hc33 => ?_) | skip)
      all_goals (first | refine Zq ?_)
      all_goals (first | refine Zm ?_)
      all_goals (first | refine Zv ?_ | refine Zm ?_)
      all_goals (first | refine Zv ?_ | refine Zi ?_)
      all_goals (first | refine Zq ?_)
      all_goals (first | refine Zm ?_)
      all_goals (refine Run.nil ?_)
      all_goals refine thn_next ⟨⟨rfl, rfl, rfl, ?_, trivial⟩, ent.go⟩
      all_goals (simp [Env.get, *] <;> omega)
    refine WP.ite rfl (fun h5 => ?_) (fun h5 => ?_)
    · refine Zp ?_
      refine Run.build rfl bd_99 rfl rfl rfl rfl ?_
      refine Run.storeB 0 rfl rfl rfl rfl ag_99 rfl rfl rfl rfl rfl ?_
      refine Zm ?_
      refine Ze ?_
      refine WP.ret ?_; refine blk_ret ?_; refine thn_ret ?_
      exact retCT 2 0 3 ag_99 rfl rfl rfl rfl rfl ⟨_, ent.none _, ⟨_, _, true, rfl, by unfold argsN; simp [*] <;> omega, fun _ => ⟨by unfold argsN; simp [*] <;> omega, by unfold setsB; simp [*] <;> omega⟩⟩, rfl⟩
    refine WP.seqCut [(0, .int .i64 op), (2, .pointer (some ⟨b2, 0, none⟩)), (3, .bool false), (40, .bool (decide (op = 22)))] [blk b2 [.int .i64 0, .bool false] 99] ?_ ?_
    · refine Zc ?_
      all_goals (first | refine Zm ?_)
      all_goals (first | refine Zi ?_)
      all_goals (first | refine Zm ?_)
      all_goals (refine Run.nil ?_)
      all_goals refine thn_next ⟨⟨rfl, rfl, rfl, ?_, trivial⟩, ent.go⟩
      all_goals simp [Env.get, *]
    refine WP.ite rfl (fun h7 => ?_) (fun h7 => ?_)
    · refine Zp ?_
      refine Run.build rfl bd_99 rfl rfl rfl rfl ?_
      refine Run.storeB 0 rfl rfl rfl rfl ag_99 rfl rfl rfl rfl rfl ?_
      refine Zm ?_
      refine Ze ?_
      refine WP.ret ?_; refine blk_ret ?_; refine thn_ret ?_
      exact retCT 2 0 3 ag_99 rfl rfl rfl rfl rfl ⟨_, ent.none _, ⟨_, _, true, rfl, by unfold argsN; simp [*] <;> omega, fun _ => ⟨by unfold argsN; simp [*] <;> omega, by unfold setsB; simp [*] <;> omega⟩⟩, rfl⟩
    refine WP.seqCut [(0, .int .i64 op), (2, .pointer (some ⟨b2, 0, none⟩)), (3, .bool false), (44, .bool (decide (op = 26 ∨ op = 27 ∨ op = 28 ∨ op = 29)))] [blk b2 [.int .i64 0, .bool false] 99] ?_ ?_
    · refine Zc ?_
      all_goals (first | refine Zm ?_)
      all_goals (first | refine Zi ?_)
      all_goals (first | refine Run.tt (by first | assumption | omega) ?_ | refine Run.ff (by first | assumption | omega) ?_ | refine Run.split (fun hc46 => ?_) (fun hc46 => ?_) | refine Run.splitB (fun hc46 => ?_) (fun hc46 => ?_) | skip)
      all_goals (first | refine Zm ?_)
      all_goals (first | refine Zv ?_ | refine Zm ?_)
      all_goals (first | refine Zv ?_ | refine Zi ?_)
      all_goals (first | refine Run.tt (by first | assumption | omega) ?_ | refine Run.ff (by first | assumption | omega) ?_ | refine Run.split (fun hc49 => ?_) (fun hc49 => ?_) | refine Run.splitB (fun hc49 => ?_) (fun hc49 => ?_) | skip)
      all_goals (first | refine Zq ?_)
      all_goals (first | refine Zm ?_)
      all_goals (first | refine Zv ?_ | refine Zm ?_)
      all_goals (first | refine Zv ?_ | refine Zi ?_)
      all_goals (first | refine Run.tt (by first | assumption | omega) ?_ | refine Run.ff (by first | assumption | omega) ?_ | refine Run.split (fun hc53 => ?_) (fun hc53 => ?_) | refine Run.splitB (fun hc53 => ?_) (fun hc53 => ?_) | skip)
      all_goals (first | refine Zq ?_)
      all_goals (first | refine Zm ?_)
      all_goals (first | refine Zv ?_ | refine Zm ?_)
      all_goals (first | refine Zv ?_ | refine Zi ?_)
      all_goals (first | refine Zq ?_)
      all_goals (first | refine Zm ?_)
      all_goals (refine Run.nil ?_)
      all_goals refine thn_next ⟨⟨rfl, rfl, rfl, ?_, trivial⟩, ent.go⟩
      all_goals (simp [Env.get, *] <;> omega)
    refine WP.ite rfl (fun h9 => ?_) (fun h9 => ?_)
    · refine Zp ?_
      refine Run.build rfl bd_99 rfl rfl rfl rfl ?_
      refine Run.storeB 0 rfl rfl rfl rfl ag_99 rfl rfl rfl rfl rfl ?_
      refine Zm ?_
      refine Ze ?_
      refine WP.ret ?_; refine blk_ret ?_; refine thn_ret ?_
      exact retCT 2 0 3 ag_99 rfl rfl rfl rfl rfl ⟨_, ent.none _, ⟨_, _, true, rfl, by unfold argsN; simp [*] <;> omega, fun _ => ⟨by unfold argsN; simp [*] <;> omega, by unfold setsB; simp [*] <;> omega⟩⟩, rfl⟩
    refine WP.seqCut [(0, .int .i64 op), (2, .pointer (some ⟨b2, 0, none⟩)), (3, .bool false), (60, .bool (decide (op = 30)))] [blk b2 [.int .i64 0, .bool false] 99] ?_ ?_
    · refine Zc ?_
      all_goals (first | refine Zm ?_)
      all_goals (first | refine Zi ?_)
      all_goals (first | refine Zm ?_)
      all_goals (refine Run.nil ?_)
      all_goals refine thn_next ⟨⟨rfl, rfl, rfl, ?_, trivial⟩, ent.go⟩
      all_goals simp [Env.get, *]
    refine WP.ite rfl (fun h11 => ?_) (fun h11 => ?_)
    · refine Zp ?_
      refine Run.build rfl bd_99 rfl rfl rfl rfl ?_
      refine Run.storeB 0 rfl rfl rfl rfl ag_99 rfl rfl rfl rfl rfl ?_
      refine Zm ?_
      refine Ze ?_
      refine WP.ret ?_; refine blk_ret ?_; refine thn_ret ?_
      exact retCT 2 0 3 ag_99 rfl rfl rfl rfl rfl ⟨_, ent.none _, ⟨_, _, true, rfl, by unfold argsN; simp [*] <;> omega, fun _ => ⟨by unfold argsN; simp [*] <;> omega, by unfold setsB; simp [*] <;> omega⟩⟩, rfl⟩
    refine WP.skip ?_; refine blk_norm ?_
    refine thn_next ⟨(), ?_, Ko.go, ent.gc⟩
    unfold argsN
    rw [if_neg (by omega), if_neg (by omega), if_neg (by omega), if_neg (by omega)]
  intro _ hneg
  refine Zp ?_
  refine Run.build rfl bd_99 rfl rfl rfl rfl ?_
  refine Run.storeB 0 rfl rfl rfl rfl ag_99 rfl rfl rfl rfl rfl ?_
  refine Zm ?_
  refine Ze ?_
  refine WP.ret ?_
  exact retCT 2 0 3 ag_99 rfl rfl rfl rfl rfl ⟨_, ent.none _, ⟨_, _, false, rfl, by rw [hneg]; rfl, fun h => by cases h⟩, rfl⟩
end Go.Proofs.Ytfaokbjpinlcaaa
end
