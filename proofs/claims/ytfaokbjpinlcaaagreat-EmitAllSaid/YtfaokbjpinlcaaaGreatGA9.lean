/- A function's code, block by block, and its jumps; plain. -/
import Derived.Test.YtfaokbjpinlcaaaGreatGA8
import Derived.Test.YtfaokbjpinlcaaaGreatGA4
import Derived.Test.YtfaokbjpinlcaaaGreatGA6
section
/- A function's code, block by block, and its jumps; plain. -/
namespace Go.Proofs.YtfaokbjpinlcaaaGreat
open Go.Sep
set_option linter.unusedVariables false
def allS (F : AF) : List Int := F.blocks.flatMap fun b => b.body.flatMap AI.saves
/-- the registers that are saved, rising -/
def savS (F : AF) : List Int := ((List.range 8).map fun i : Nat => (i : Int)).filter fun r => decide (r ∈ allS F)
theorem range8 : ((List.range 8).map fun i : Nat => (i : Int)) = [0, 1, 2, 3, 4, 5, 6, 7] := rfl
theorem savS_mem {F : AF} (h : ∀ r ∈ allS F, 0 ≤ r ∧ r < 8) (r : Int) : r ∈ savS F ↔ r ∈ allS F := by
  unfold savS
  rw [List.mem_filter, range8]
  constructor
  · intro h2; simpa using h2.2
  · intro h2
    have := h r h2
    refine ⟨?_, by simpa using h2⟩
    have : r = 0 ∨ r = 1 ∨ r = 2 ∨ r = 3 ∨ r = 4 ∨ r = 5 ∨ r = 6 ∨ r = 7 := by omega
    simpa using this
theorem savS_lt (F : AF) : (savS F).Pairwise (· < ·) := by
  unfold savS
  rw [range8]
  exact List.Pairwise.filter _ (by decide)
theorem savS_len (F : AF) : (savS F).length ≤ 8 := by
  unfold savS
  exact Nat.le_trans (List.length_filter_le _ _) (by simp)
theorem lt_uniq : ∀ {a b : List Int}, a.Pairwise (· < ·) → b.Pairwise (· < ·) → (∀ r, r ∈ a ↔ r ∈ b) → a = b
  | [], [], _, _, _ => rfl
  | [], y :: b, _, _, h => by have := (h y).2 (by simp); cases this
  | x :: a, [], _, _, h => by have := (h x).1 (by simp); cases this
  | x :: a, y :: b, ha, hb, h => by
    rw [List.pairwise_cons] at ha hb
    have e : x = y := by
      rcases List.mem_cons.1 ((h x).1 (by simp)) with e | e
      · exact e
      · rcases List.mem_cons.1 ((h y).2 (by simp)) with e2 | e2
        · exact e2.symm
        · have := ha.1 y e2; have := hb.1 x e; omega
    subst e
    rw [lt_uniq ha.2 hb.2 fun r => ?_]
    constructor
    · intro hr
      rcases List.mem_cons.1 ((h r).1 (by simp [hr])) with e | e
      · have := ha.1 r hr; omega
      · exact e
    · intro hr
      rcases List.mem_cons.1 ((h r).2 (by simp [hr])) with e | e
      · have := hb.1 r hr; omega
      · exact e
/-- what is asked of a function -/
structure FunOk (F : AF) : Prop where
  sm : SmallF F
  sl : 0 ≤ F.slots ∧ F.slots ≤ 262144
  pl : F.params.length ≤ 8
  pp : ∀ l ∈ F.params, placeB F l = true
  pn : F.params.Nodup
  ins : ∀ b ∈ F.blocks, ∀ x ∈ b.body, InsOk F (savS F) x
  trm : ∀ b ∈ F.blocks, TermOk b.term ∧ ∀ t ∈ b.term.to, 0 ≤ t ∧ t < (F.blocks.length : Int)
  sv : ∀ r ∈ allS F, 0 ≤ r ∧ r < 8
theorem good_par {F : AF} (h : FunOk F) : GoodL (regL 11) (numbered F.params fun k l => ⟨l, regL k⟩) := by
  have mem : ∀ m ∈ numbered F.params (fun k l => (⟨l, regL k⟩ : Mv)), ∃ (k : Nat) (l : Lc), k < 8 ∧ l ∈ F.params ∧ m = ⟨l, regL k⟩ := fun m hm => by
    obtain ⟨k, hk⟩ := List.getElem?_of_mem hm
    rw [numb_get] at hk
    cases hl : F.params[k]? with
    | none => rw [hl] at hk; cases hk
    | some l =>
      rw [hl] at hk; simp only [Option.map_some, Option.some.injEq] at hk
      have := (List.getElem?_eq_some_iff.1 hl).1
      have := h.pl
      exact ⟨k, l, by omega, List.mem_of_getElem? hl, hk.symm⟩
  refine ⟨by unfold isPl regL; simp, fun m hm => ?_, fun m hm => ?_, ?_⟩
  · obtain ⟨k, l, hk, hl, rfl⟩ := mem m hm
    have := place_near h.sl.2 (h.pp l hl)
    exact ⟨this.2.1, this.2.2.1⟩
  · obtain ⟨k, l, hk, _, rfl⟩ := mem m hm
    exact ⟨by unfold isPl regL; simp, by simp [regL]; omega⟩
  · have e : (numbered F.params fun k l => (⟨l, regL k⟩ : Mv)).map Mv.to = F.params := by
      apply List.ext_getElem?; intro i
      rw [List.getElem?_map, numb_get]
      cases F.params[i]? <;> rfl
    rw [e]; exact h.pn
theorem near_par {F : AF} (h : FunOk F) : ∀ m ∈ numbered F.params (fun k l => (⟨l, regL k⟩ : Mv)), near m.to ∧ near m.from_ := fun m hm => by
  obtain ⟨k, hk⟩ := List.getElem?_of_mem hm
  rw [numb_get] at hk
  cases hl : F.params[k]? with
  | none => rw [hl] at hk; cases hk
  | some l =>
    rw [hl] at hk; simp only [Option.map_some, Option.some.injEq] at hk
    have h1 := (List.getElem?_eq_some_iff.1 hl).1
    have h2 := h.pl
    subst hk
    exact ⟨(place_near h.sl.2 (h.pp l (List.mem_of_getElem? hl))).1, by unfold near regL; simp only; omega⟩
/-! ### Blocks -/
theorem raw_zero (S : List Int) (F : AF) : rawC S F 0 = preC S F := by simp [rawC]
theorem raw_step {S : List Int} {F : AF} {k : Nat} {b : AB} (h : F.blocks[k]? = some b) : rawC S F (k + 1) = rawC S F k ++ blkC S k b := by
  have hlt := (List.getElem?_eq_some_iff.1 h).1
  unfold rawC
  rw [List.take_add_one, h, List.mapIdx_append]
  simp [List.length_take, Nat.min_eq_left (Nat.le_of_lt hlt)]
/-- the first j instructions' code -/
noncomputable def bodN (S : List Int) (b : AB) (j : Nat) : List RI := (b.body.take j).flatMap (insC S)
theorem bodN_step {S : List Int} {b : AB} {j : Nat} {x : AI} (h : b.body[j]? = some x) : bodN S b (j + 1) = bodN S b j ++ insC S x := by
  unfold bodN; rw [List.take_add_one, h]; simp
theorem blk_eq (S : List Int) (k : Nat) (b : AB) : blkC S k b = (bodN S b b.body.length).map (·, false) ++ termC S k b.term := by
  unfold blkC bodN; rw [List.take_length]
/-- what a jump's number becomes -/
noncomputable def patC (S : List Int) (F : AF) (first : Int) (q : RI × Bool) : RI := if q.2 then { q.1 with n := placeC S F first q.1.n } else q.1
theorem codeC_eq (S : List Int) (F : AF) (first : Int) : codeC S F first = (rawC S F F.blocks.length).map (patC S F first) := rfl
theorem jmp_split : ∀ {B : List (RI × Bool)} {n : Nat} {j : Int} {rest : List Int}, jmpI n B = j :: rest → ∃ (C : List (RI × Bool)) (x : RI) (D : List (RI × Bool)), B = C ++ (x, true) :: D ∧ (∀ c ∈ C, c.2 = false) ∧ j = ((n + C.length : Nat) : Int) ∧ rest = jmpI (n + C.length + 1) D
  | [], n, j, rest, h => by cases h
  | (x, true) :: B, n, j, rest, h => by
    simp only [jmpI, if_true, List.singleton_append, List.cons.injEq] at h
    exact ⟨[], x, B, rfl, by simp, by simp [h.1], by simp [h.2]⟩
  | (x, false) :: B, n, j, rest, h => by
    simp only [jmpI, Bool.false_eq_true, if_false, List.nil_append] at h
    obtain ⟨C, y, D, e1, e2, e3, e4⟩ := jmp_split h
    refine ⟨(x, false) :: C, y, D, by rw [e1]; rfl, fun c hc => ?_, by rw [e3]; simp only [List.length_cons]; congr 1; omega, by rw [e4]; simp only [List.length_cons]; congr 1; omega⟩
    rcases List.mem_cons.1 hc with rfl | hc
    · rfl
    · exact e2 c hc
theorem jmpI_len : ∀ (q : List (RI × Bool)) (n : Nat), (jmpI n q).length ≤ q.length
  | [], n => by simp [jmpI]
  | a :: q, n => by
    have := jmpI_len q (n + 1)
    simp only [jmpI, List.length_append, List.length_cons]
    split <;> simp <;> omega
theorem jmp_nil : ∀ {B : List (RI × Bool)} {n : Nat}, jmpI n B = [] → ∀ q ∈ B, q.2 = false
  | [], n, _, q, hq => by cases hq
  | (x, true) :: B, n, h, q, hq => by simp [jmpI] at h
  | (x, false) :: B, n, h, q, hq => by
    simp only [jmpI, Bool.false_eq_true, if_false, List.nil_append] at h
    rcases List.mem_cons.1 hq with rfl | hq
    · rfl
    · exact jmp_nil h q hq
theorem pat_none {S : List Int} {F : AF} {first : Int} {C : List (RI × Bool)} (h : ∀ c ∈ C, c.2 = false) : C.map (patC S F first) = C.map Prod.fst := by
  refine List.map_congr_left fun c hc => ?_
  unfold patC; rw [h c hc]; rfl
theorem term_flag {S : List Int} {k : Int} {t : AT} {q : RI × Bool} (h : q ∈ termC S k t) (hq : q.2 = true) : q.1.n ∈ t.to := by
  unfold termC at h
  split at h
  · split at h
    · rename_i b hb
      split at h
      · cases h
      · simp at h; rw [h, hb]; simp
    · cases h
  · split at h
    · split at h
      · rename_i b c hb
        rw [hb]
        rcases List.mem_append.1 h with h | h
        · obtain ⟨y, _, rfl⟩ := List.mem_map.1 h; cases hq
        · split at h
          · simp at h; rw [h]; simp
          · rcases List.mem_cons.1 h with h | h
            · rw [h]; simp
            · split at h
              · cases h
              · simp at h; rw [h]; simp
      · cases h
    · split at h
      · obtain ⟨y, _, rfl⟩ := List.mem_map.1 h; cases hq
      · obtain ⟨y, _, rfl⟩ := List.mem_map.1 h; cases hq
theorem raw_flag {S : List Int} {F : AF} (h : FunOk F) : ∀ k, k ≤ F.blocks.length → ∀ q ∈ rawC S F k, q.2 = true → 0 ≤ q.1.n ∧ q.1.n < (F.blocks.length : Int)
  | 0, _, q, hq, hf => by
    rw [raw_zero] at hq
    obtain ⟨y, _, rfl⟩ := List.mem_map.1 hq; cases hf
  | k + 1, hk, q, hq, hf => by
    obtain ⟨b, gb⟩ : ∃ b, F.blocks[k]? = some b := ⟨_, List.getElem?_eq_getElem (by omega)⟩
    rw [raw_step gb, List.mem_append, blk_eq, List.mem_append] at hq
    rcases hq with hq | hq | hq
    · exact raw_flag h k (by omega) q hq hf
    · obtain ⟨y, _, rfl⟩ := List.mem_map.1 hq; cases hf
    · exact (h.trm b (List.mem_of_getElem? gb)).2 _ (term_flag hq hf)
/-- the places of the first k blocks -/
noncomputable def plF (S : List Int) (F : AF) (first : Int) (k : Nat) : Int → Option Value := fun q => if 0 ≤ q ∧ q < (k : Int) then some (vI (placeC S F first q)) else none
theorem plF_zero (S : List Int) (F : AF) (first : Int) : plF S F first 0 = fun _ => none := by
  funext q; unfold plF; rw [if_neg (by omega)]
theorem plF_step (S : List Int) (F : AF) (first : Int) (k : Nat) : upd (plF S F first k) (k : Int) (vI (first + (rawC S F k).length)) = plF S F first (k + 1) := by
  funext q
  unfold upd plF
  by_cases e : q = (k : Int)
  · subst e
    rw [if_pos rfl, if_pos (by omega)]
    simp [placeC]
  · rw [if_neg e]
    by_cases h : 0 ≤ q ∧ q < (k : Int)
    · rw [if_pos h, if_pos (by omega)]
    · rw [if_neg h, if_neg (by omega)]
def sumB (F : AF) (k : Nat) : Nat := ((F.blocks.take k).map fun b => b.body.length).sum
theorem sumB_step {F : AF} {k : Nat} {b : AB} (h : F.blocks[k]? = some b) : sumB F (k + 1) = sumB F k + b.body.length := by
  unfold sumB; rw [List.take_add_one, h]; simp
theorem sumB_le (F : AF) (k : Nat) : sumB F k ≤ (F.blocks.map fun b => b.body.length).sum := by
  unfold sumB
  conv => rhs; rw [← List.take_append_drop k F.blocks]
  rw [List.map_append, List.sum_append]; omega
end Go.Proofs.YtfaokbjpinlcaaaGreat
end
section
/- ALIR's check: places, shapes of operations, lists of places; walked. -/
namespace Go.Proofs.YtfaokbjpinlcaaaGreat
open Go.Sep
set_option linter.unusedSimpArgs false
set_option linter.unusedVariables false
set_option maxRecDepth 100000
attribute [local irreducible] blk slA mp mpF rows rowsBut many mpK mpE
theorem isPlace_ok (hR : Heap) (F : AF) (su sv : SV) (l : Lc) : Tri Tryz.prog hR 91 #[.agg ⟨afv F su.val sv.val⟩, encL l] [] fun v Γ' => v = .bool (placeB F l) ∧ Γ' = [] := by
  refine Tri.ent (Tri.of (args := [.agg ⟨afv F su.val sv.val⟩, .agg ⟨lcv l⟩]) Tryz.func91 rfl Tryz.ntmps91 (by simp) ?_)
  refine Zp ?_
  refine Run.box rfl rfl rfl rfl rfl ?_
  intro b2
  refine Run.box rfl rfl rfl rfl rfl ?_
  intro b3
  refine Zm ?_
  refine Ze ?_
  refine WP.seqCut [(4, .bool (placeB F l))] [] ?_ ?_
  · refine Zc ?_
    all_goals (first | refine Zf fo_46_0 ?_)
    all_goals (first | refine Zl 1 ag_3 ?_)
    all_goals (first | refine Zi ?_)
    all_goals (first | refine Run.tt (by first | assumption | omega) ?_ | refine Run.ff (by first | assumption | omega) ?_ | refine Run.split (fun hc7 => ?_) (fun hc7 => ?_) | refine Run.splitB (fun hc7 => ?_) (fun hc7 => ?_) | skip)
    all_goals (first | refine Zm ?_)
    all_goals (first | refine Zv ?_ | refine Zf fo_46_1 ?_)
    all_goals (first | refine Zv ?_ | refine Zl 1 ag_3 ?_)
    all_goals (first | refine Zv ?_ | refine Zi ?_)
    all_goals (first | refine Run.tt (by first | assumption | omega) ?_ | refine Run.ff (by first | assumption | omega) ?_ | refine Run.split (fun hc11 => ?_) (fun hc11 => ?_) | refine Run.splitB (fun hc11 => ?_) (fun hc11 => ?_) | skip)
    all_goals (first | refine Zq ?_)
    all_goals (first | refine Zm ?_)
    all_goals (first | refine Zv ?_ | refine Zf fo_46_1 ?_)
    all_goals (first | refine Zv ?_ | refine Zl 1 ag_3 ?_)
    all_goals (first | refine Zv ?_ | refine Zi ?_)
    all_goals (first | refine Run.tt (by first | assumption | omega) ?_ | refine Run.ff (by first | assumption | omega) ?_ | refine Run.split (fun hc16 => ?_) (fun hc16 => ?_) | refine Run.splitB (fun hc16 => ?_) (fun hc16 => ?_) | skip)
    all_goals (first | refine Zq ?_)
    all_goals (first | refine Zm ?_)
    all_goals (first | refine Zv ?_ | refine Zf fo_46_0 ?_)
    all_goals (first | refine Zv ?_ | refine Zl 1 ag_3 ?_)
    all_goals (first | refine Zv ?_ | refine Zi ?_)
    all_goals (first | refine Run.tt (by first | assumption | omega) ?_ | refine Run.ff (by first | assumption | omega) ?_ | refine Run.split (fun hc21 => ?_) (fun hc21 => ?_) | refine Run.splitB (fun hc21 => ?_) (fun hc21 => ?_) | skip)
    all_goals (first | refine Zv ?_ | refine Zm ?_)
    all_goals (first | refine Zv ?_ | refine Zf fo_46_1 ?_)
    all_goals (first | refine Zv ?_ | refine Zl 1 ag_3 ?_)
    all_goals (first | refine Zv ?_ | refine Zi ?_)
    all_goals (first | refine Run.tt (by first | assumption | omega) ?_ | refine Run.ff (by first | assumption | omega) ?_ | refine Run.split (fun hc25 => ?_) (fun hc25 => ?_) | refine Run.splitB (fun hc25 => ?_) (fun hc25 => ?_) | skip)
    all_goals (first | refine Zv ?_ | refine Zq ?_)
    all_goals (first | refine Zv ?_ | refine Zm ?_)
    all_goals (first | refine Zv ?_ | refine Zf fo_46_1 ?_)
    all_goals (first | refine Zv ?_ | refine Zl 1 ag_3 ?_)
    all_goals (first | refine Zv ?_ | refine Zf fo_51_3 ?_)
    all_goals (first | refine Zv ?_ | refine Zl 0 ag_3 ?_)
    all_goals (first | refine Zv ?_ | refine Zi ?_)
    all_goals (first | refine Zv ?_ | refine Zq ?_)
    all_goals (first | refine Zq ?_)
    all_goals (first | refine Zm ?_)
    all_goals (refine Run.nil ?_)
    all_goals refine thn_next ⟨⟨?_, trivial⟩, ent.none _⟩
    all_goals simp [Env.get, placeB, *]
    all_goals omega
  refine WP.ret ?_
  exact retT [4] _ rfl rfl ⟨_, ent.none _, rfl, rfl⟩
theorem lcEq_bool (a b : Lc) : (decide (a.kind = b.kind) && (decide (a.n = b.n) && true)) = decide (a = b) := by
  obtain ⟨a1, a2⟩ := a; obtain ⟨b1, b2⟩ := b
  by_cases h1 : a1 = b1 <;> by_cases h2 : a2 = b2 <;> simp [h1, h2]
theorem indexL_ok (hR : Heap) (av : Value) (l : List Lc) (p : Lc) (hl : SlR rdLc hR av l) (hlen : l.length ≤ 1000000) : Tri Tryz.prog hR 130 #[av, encL p] [] fun v Γ' => ∃ r : Int, v = .int .i64 r ∧ (0 ≤ r ↔ p ∈ l) ∧ Γ' = [] := by
  refine Tri.ent (Tri.of (args := [av, .agg ⟨lcv p⟩]) Tryz.func130 rfl Tryz.ntmps130 (by simp) ?_)
  refine Zp ?_
  refine Run.box rfl rfl rfl rfl rfl ?_
  intro b3
  refine Zm ?_
  refine Ze ?_
  refine WP.trim [0, 3, 4] [0] ?_
  refine WP.meetC (α := Unit) (fun _ => p ∉ l) (fun _ => []) (fun _ => []) ?_ ?_
  · refine Zp ?_
    refine Zm ?_
    refine Run.lenR rfl rfl sl_48 rfl rfl (by assumption) ?_
    refine Zm ?_
    refine Ze ?_
    refine WP.block ?_
    refine WP.trim [0, 3, 4, 7, 8] [0] ?_
    refine WP.loopC (α := Nat) (fun i => i ≤ l.length ∧ ∀ (j : Nat) (x : Lc), j < i → l[j]? = some x → x ≠ p) (fun i => [(8, .int .i64 (i : Int))]) (fun _ => []) (fun i => l.length - i) 0 ⟨Nat.zero_le _, fun j x h => by omega⟩ ?_
    rintro i ⟨hi, hno⟩
    refine WP.trim [0, 3, 4, 7, 8] [0] ?_
    refine Zp ?_
    refine Zi ?_
    refine Ze ?_
    refine WP.seq ?_
    refine WP.ite rfl (fun hlt => ?_) (fun hge => ?_)
    · refine Zb ?_
      obtain ⟨x, gx⟩ : ∃ y, l[(i : Int).toNat]? = some y := ⟨_, List.getElem?_eq_getElem (by omega)⟩
      have gx' : l[i]? = some x := gx
      refine WP.seq ?_
      refine WP.block ?_
      refine Zp ?_
      refine Zm ?_
      refine Zm ?_
      refine Ze ?_
      refine WP.seq ?_
      refine WP.drawn0 cf0 mixed rfl (by kernel_rfl) ?_
      refine Run.loadBagg 0 rfl rfl ag_46 rfl rfl rfl rfl rfl ?_
      refine Zm ?_
      refine Zm ?_
      refine Zx sl_48 hl ?_
      refine Run.loadRagg rfl rfl ag_46 rfl rfl (SlR.row hl gx) rfl ?_
      refine Run.eqS rfl rfl rfl is_46 nf_46 rfl rfl rfl rfl ?_
      refine Run.eqv (v' := .bool (decide (p = x))) (by rw [← lcEq_bool]) ?_
      refine Ze ?_
      refine WP.ite rfl (fun hy => ?_) (fun hy => ?_)
      · refine Zp ?_
        refine Zm ?_
        refine Zm ?_
        refine Ze ?_
        refine WP.ret ?_; refine blk_ret ?_; refine thn_ret ?_; refine thn_ret ?_; refine blk_ret ?_; refine thn_ret ?_
        exact retT [4] _ rfl rfl ⟨_, ent.none _, _, rfl, ⟨fun _ => by rw [hy]; exact List.mem_of_getElem? gx', fun _ => by omega⟩, rfl⟩
      · refine WP.skip ?_; refine blk_norm ?_; refine thn_next ?_
        refine Zc ?_
        refine Za ?_
        refine Zm ?_
        refine Run.nil ?_
        refine thn_next ⟨i + 1, ⟨by omega, fun j z hj hz => ?_⟩, by omega, Ko.go, ent.gc⟩
        by_cases e : j = i
        · subst e; rw [gx'] at hz; cases hz; exact fun e => hy e.symm
        · exact hno j z (by omega) hz
    · refine Zj ?_
      refine thn_next ⟨(), fun hm => ?_, Ko.go, ent.gc⟩
      obtain ⟨j, hj⟩ := List.getElem?_of_mem hm
      exact hno j p (by have := (List.getElem?_eq_some_iff.1 hj).1; omega) hj rfl
  intro _ hno
  refine Zp ?_
  refine Zm ?_
  refine Ze ?_
  refine WP.ret ?_
  exact retT [4] _ rfl rfl ⟨_, ent.none _, -1, rfl, ⟨fun h => by omega, fun h => absurd h hno⟩, rfl⟩
theorem containsL_ok (hR : Heap) (av : Value) (l : List Lc) (p : Lc) (hl : SlR rdLc hR av l) (hlen : l.length ≤ 1000000) : Tri Tryz.prog hR 92 #[av, encL p] [] fun v Γ' => v = .bool (decide (p ∈ l)) ∧ Γ' = [] := by
  refine Tri.ent (Tri.of (args := [av, .agg ⟨lcv p⟩]) Tryz.func92 rfl Tryz.ntmps92 (by simp) ?_)
  refine Zp ?_
  refine Run.box rfl rfl rfl rfl rfl ?_
  intro b3
  refine Zm ?_
  refine Ze ?_
  refine Zp ?_
  refine Zm ?_
  refine Run.loadBagg 0 rfl rfl ag_46 rfl rfl rfl rfl rfl ?_
  refine Run.callP [] ok_130 (indexL_ok hR av l p hl hlen) ?_; rintro _ _ ⟨r, rfl, hr, rfl⟩
  refine Zi ?_
  refine Run.eqv (v' := .bool (decide (p ∈ l))) (by congr 1; exact decide_eq_decide.2 hr) ?_
  refine Zm ?_
  refine Ze ?_
  refine WP.ret ?_
  exact retT [4] _ rfl rfl ⟨_, ent.none _, rfl, rfl⟩
theorem notPlace_ok (hR : Heap) (bf : Nat) (F : AF) (su sv : SV) (l : Lc) : Tri Tryz.prog hR 132 #[encL l, .pointer (some ⟨bf, 0, none⟩)] [blk bf (afv F su.val sv.val) 51] fun v Γ' => v = .bool (decide (placeB F l = false)) ∧ Γ' = [blk bf (afv F su.val sv.val) 51] := by
  refine Tri.ent (Tri.of (args := [.agg ⟨lcv l⟩, .pointer (some ⟨bf, 0, none⟩)]) Tryz.func132 rfl Tryz.ntmps132 (by simp) ?_)
  refine Zp ?_
  refine Run.box rfl rfl rfl rfl rfl ?_
  intro b2
  refine Zm ?_
  refine Ze ?_
  refine Zp ?_
  refine Run.loadBagg 0 rfl rfl ag_51 rfl rfl rfl rfl rfl ?_
  refine Run.loadBagg 1 rfl rfl ag_46 rfl rfl rfl rfl rfl ?_
  refine Run.callP [] ok_91 (isPlace_ok hR F su sv l) ?_; rintro _ _ ⟨rfl, rfl⟩
  refine Run.bnot rfl rfl rfl rfl ?_
  refine Run.eqv (v' := .bool (decide (placeB F l = false))) (by simp only [placeB, decide_eq_false_iff_not]) ?_
  refine Zm ?_
  refine Ze ?_
  refine WP.ret ?_
  exact retT [3] _ rfl rfl ⟨_, ent.go, rfl, rfl⟩
theorem ok_132 : calleeOk Tryz.prog 132 = true := by kernel_rfl
abbrev notPlF (bf : Nat) : Value := .func (.func 132) #[] #[.pointer (some ⟨bf, 0, none⟩)]
theorem indexF_ok (hR : Heap) (bf : Nat) (F : AF) (su sv : SV) (av : Value) (l : List Lc) (hl : SlR rdLc hR av l) (hlen : l.length ≤ 1000000) : Tri Tryz.prog hR 167 #[av, notPlF bf] [blk bf (afv F su.val sv.val) 51] fun v Γ' => ∃ r : Int, v = .int .i64 r ∧ (0 ≤ r ↔ l.all (placeB F) = false) ∧ Γ' = [blk bf (afv F su.val sv.val) 51] := by
  refine Tri.ent (Tri.of (args := [av, notPlF bf]) Tryz.func167 rfl Tryz.ntmps167 (by simp) ?_)
  refine Zp ?_
  refine Zm ?_
  refine Ze ?_
  refine WP.trim [0, 1, 4] [0] ?_
  refine WP.meetC (α := Unit) (fun _ => l.all (placeB F) = true) (fun _ => []) (fun _ => []) ?_ ?_
  · refine Zp ?_
    refine Zm ?_
    refine Run.lenR rfl rfl sl_48 rfl rfl (by assumption) ?_
    refine Zm ?_
    refine Ze ?_
    refine WP.block ?_
    refine WP.trim [0, 1, 4, 7, 8] [0] ?_
    refine WP.loopC (α := Nat) (fun i => i ≤ l.length ∧ ∀ (j : Nat) (x : Lc), j < i → l[j]? = some x → placeB F x = true) (fun i => [(8, .int .i64 (i : Int))]) (fun _ => []) (fun i => l.length - i) 0 ⟨Nat.zero_le _, fun j x h => by omega⟩ ?_
    rintro i ⟨hi, hno⟩
    refine WP.trim [0, 1, 4, 7, 8] [0] ?_
    refine Zp ?_
    refine Zi ?_
    refine Ze ?_
    refine WP.seq ?_
    refine WP.ite rfl (fun hlt => ?_) (fun hge => ?_)
    · refine Zb ?_
      obtain ⟨x, gx⟩ : ∃ y, l[(i : Int).toNat]? = some y := ⟨_, List.getElem?_eq_getElem (by omega)⟩
      have gx' : l[i]? = some x := gx
      refine WP.seq ?_
      refine WP.block ?_
      refine Zp ?_
      refine Zm ?_
      refine Zm ?_
      refine Ze ?_
      refine Zp ?_
      iterate 3 refine Zm ?_
      refine Zx sl_48 hl ?_
      refine Run.loadRagg rfl rfl ag_46 rfl rfl (SlR.row hl gx) rfl ?_
      refine Run.callP [0] ok_132 (notPlace_ok hR bf F su sv x) ?_; rintro _ _ ⟨rfl, rfl⟩
      refine Ze ?_
      refine WP.ite rfl (fun hy => ?_) (fun hy => ?_)
      · refine Zp ?_
        refine Zm ?_
        refine Zm ?_
        refine Ze ?_
        refine WP.ret ?_; refine blk_ret ?_; refine thn_ret ?_; refine thn_ret ?_; refine blk_ret ?_; refine thn_ret ?_
        exact retT [4] _ rfl rfl ⟨_, ent.go, _, rfl, ⟨fun _ => all_not gx' hy, fun _ => by omega⟩, rfl⟩
      · refine WP.skip ?_; refine blk_norm ?_; refine thn_next ?_
        refine Zc ?_
        refine Za ?_
        refine Zm ?_
        refine Run.nil ?_
        refine thn_next ⟨i + 1, ⟨by omega, fun j z hj hz => ?_⟩, by omega, Ko.go, ent.gc⟩
        by_cases e : j = i
        · subst e; rw [gx'] at hz; cases hz; simpa using hy
        · exact hno j z (by omega) hz
    · refine Zj ?_
      exact thn_next ⟨(), all_of fun j x hj hx => hno j x (by omega) hx, Ko.go, ent.gc⟩
  intro _ hall
  refine Zp ?_
  refine Zm ?_
  refine Ze ?_
  refine WP.ret ?_
  exact retT [4] _ rfl rfl ⟨_, ent.go, -1, rfl, ⟨fun h => by omega, fun h => by rw [hall] at h; cases h⟩, rfl⟩
theorem containsF_ok (hR : Heap) (bf : Nat) (F : AF) (su sv : SV) (av : Value) (l : List Lc) (hl : SlR rdLc hR av l) (hlen : l.length ≤ 1000000) : Tri Tryz.prog hR 131 #[av, notPlF bf] [blk bf (afv F su.val sv.val) 51] fun v Γ' => v = .bool (decide (l.all (placeB F) = false)) ∧ Γ' = [blk bf (afv F su.val sv.val) 51] := by
  refine Tri.ent (Tri.of (args := [av, notPlF bf]) Tryz.func131 rfl Tryz.ntmps131 (by simp) ?_)
  refine Zp ?_
  refine Zm ?_
  refine Ze ?_
  refine Zp ?_
  refine Zm ?_
  refine Zm ?_
  refine Run.callP [0] ok_167 (indexF_ok hR bf F su sv av l hl hlen) ?_; rintro _ _ ⟨r, rfl, hr, rfl⟩
  refine Zi ?_
  refine Run.eqv (v' := .bool (decide (l.all (placeB F) = false))) (by congr 1; exact decide_eq_decide.2 hr) ?_
  refine Zm ?_
  refine Ze ?_
  refine WP.ret ?_
  exact retT [4] _ rfl rfl ⟨_, ent.go, rfl, rfl⟩
/-- a shape is told of just the operations that have one -/
def ShapeIs (op : Int) (v : Value) : Prop := ∃ (a : Int) (s ok : Bool), v = .tuple #[.agg ⟨[.int .i64 a, .bool s]⟩, .bool ok] ∧ (ok = decide (0 ≤ argsN op)) ∧ (ok = true → a = argsN op ∧ s = setsB op)
set_option maxHeartbeats 2000000 in
theorem shapeOf_ok (hR : Heap) (op : Int) : Tri Tryz.prog hR 134 #[.int .i64 op] [] fun v Γ' => ShapeIs op v ∧ Γ' = [] := by
  refine Tri.ent (Tri.of (args := [.int .i64 op]) Tryz.func134 rfl Tryz.ntmps134 (by simp) ?_)
  refine Zp ?_
  refine Run.alloc rfl zr_181 rfl rfl rfl ?_
  intro b2
  refine Zm ?_
  refine Ze ?_
  refine WP.trim [0, 2, 3] [0] ?_
  refine WP.meetC (α := Unit) (fun _ => argsN op = -1) (fun _ => []) (fun _ => []) ?_ ?_
  · refine WP.block ?_
    refine WP.seqCut [(0, .int .i64 op), (2, .pointer (some ⟨b2, 0, none⟩)), (3, .bool false), (4, .bool (decide (op = 1 ∨ op = 24)))] [blk b2 [.int .i64 0, .bool false] 181] ?_ ?_
    · refine Zc ?_
      all_goals (first | refine Zm ?_)
      all_goals (first | refine Zi ?_)
      all_goals (first | refine Run.tt (by first | assumption | omega) ?_ | refine Run.ff (by first | assumption | omega) ?_ | refine Run.split (fun hc6 => ?_) (fun hc6 => ?_) | refine Run.splitB (fun hc6 => ?_) (fun hc6 => ?_) | skip)
      all_goals (first | refine Zm ?_)
      all_goals (first | refine Zv ?_ | refine Zm ?_)
      all_goals (first | refine Zv ?_ | refine Zi ?_)
      all_goals (first | refine Zq ?_)
      all_goals (first | refine Zm ?_)
      all_goals (refine Run.nil ?_)
      all_goals refine thn_next ⟨⟨rfl, rfl, rfl, ?_, trivial⟩, ent.go⟩
      all_goals (simp [Env.get, *] <;> omega)
    refine WP.ite rfl (fun h1 => ?_) (fun h1 => ?_)
    · refine Zp ?_
      refine Run.build rfl bd_181 rfl rfl rfl rfl ?_
      refine Run.storeB 0 rfl rfl rfl rfl ag_181 rfl rfl rfl rfl rfl ?_
      refine Zm ?_
      refine Ze ?_
      refine WP.ret ?_; refine blk_ret ?_; refine thn_ret ?_
      exact retCT 2 0 3 ag_181 rfl rfl rfl rfl rfl ⟨_, ent.none _, ⟨_, _, true, rfl, by unfold argsN; simp [*] <;> omega, fun _ => ⟨by unfold argsN; simp [*] <;> omega, by unfold setsB; simp [*] <;> omega⟩⟩, rfl⟩
    refine WP.seqCut [(0, .int .i64 op), (2, .pointer (some ⟨b2, 0, none⟩)), (3, .bool false), (12, .bool (decide ((2 ≤ op ∧ op ≤ 16) ∨ op = 21)))] [blk b2 [.int .i64 0, .bool false] 181] ?_ ?_
    · refine Zc ?_
      all_goals (first | refine Zm ?_)
      all_goals (first | refine Zi ?_)
      all_goals (first | refine Run.tt (by first | assumption | omega) ?_ | refine Run.ff (by first | assumption | omega) ?_ | refine Run.split (fun hc14 => ?_) (fun hc14 => ?_) | refine Run.splitB (fun hc14 => ?_) (fun hc14 => ?_) | skip)
      all_goals (first | refine Zm ?_)
      all_goals (first | refine Zv ?_ | refine Zm ?_)
      all_goals (first | refine Zv ?_ | refine Zi ?_)
      all_goals (first | refine Run.tt (by first | assumption | omega) ?_ | refine Run.ff (by first | assumption | omega) ?_ | refine Run.split (fun hc17 => ?_) (fun hc17 => ?_) | refine Run.splitB (fun hc17 => ?_) (fun hc17 => ?_) | skip)
      all_goals (first | refine Zq ?_)
      all_goals (first | refine Zm ?_)
      all_goals (first | refine Zv ?_ | refine Zm ?_)
      all_goals (first | refine Zv ?_ | refine Zi ?_)
      all_goals (first | refine Zq ?_)
      all_goals (first | refine Zm ?_)
      all_goals (refine Run.nil ?_)
      all_goals refine thn_next ⟨⟨rfl, rfl, rfl, ?_, trivial⟩, ent.go⟩
      all_goals (simp [Env.get, *] <;> omega)
    refine WP.ite rfl (fun h3 => ?_) (fun h3 => ?_)
    · refine Zp ?_
      refine Run.build rfl bd_181 rfl rfl rfl rfl ?_
      refine Run.storeB 0 rfl rfl rfl rfl ag_181 rfl rfl rfl rfl rfl ?_
      refine Zm ?_
      refine Ze ?_
      refine WP.ret ?_; refine blk_ret ?_; refine thn_ret ?_
      exact retCT 2 0 3 ag_181 rfl rfl rfl rfl rfl ⟨_, ent.none _, ⟨_, _, true, rfl, by unfold argsN; simp [*] <;> omega, fun _ => ⟨by unfold argsN; simp [*] <;> omega, by unfold setsB; simp [*] <;> omega⟩⟩, rfl⟩
    refine WP.seqCut [(0, .int .i64 op), (2, .pointer (some ⟨b2, 0, none⟩)), (3, .bool false), (24, .bool (decide ((17 ≤ op ∧ op ≤ 20) ∨ op = 23 ∨ op = 31)))] [blk b2 [.int .i64 0, .bool false] 181] ?_ ?_
    · refine Zc ?_
      all_goals (first | refine Zm ?_)
      all_goals (first | refine Zi ?_)
      all_goals (first | refine Run.tt (by first | assumption | omega) ?_ | refine Run.ff (by first | assumption | omega) ?_ | refine Run.split (fun hc26 => ?_) (fun hc26 => ?_) | refine Run.splitB (fun hc26 => ?_) (fun hc26 => ?_) | skip)
      all_goals (first | refine Zm ?_)
      all_goals (first | refine Zv ?_ | refine Zm ?_)
      all_goals (first | refine Zv ?_ | refine Zi ?_)
      all_goals (first | refine Run.tt (by first | assumption | omega) ?_ | refine Run.ff (by first | assumption | omega) ?_ | refine Run.split (fun hc29 => ?_) (fun hc29 => ?_) | refine Run.splitB (fun hc29 => ?_) (fun hc29 => ?_) | skip)
      all_goals (first | refine Zq ?_)
      all_goals (first | refine Zm ?_)
      all_goals (first | refine Zv ?_ | refine Zm ?_)
      all_goals (first | refine Zv ?_ | refine Zi ?_)
      all_goals (first | refine Run.tt (by first | assumption | omega) ?_ | refine Run.ff (by first | assumption | omega) ?_ | refine Run.split (fun hc33 => ?_) (fun hc33 => ?_) | refine Run.splitB (fun hc33 => ?_) (fun hc33 => ?_) | skip)
      all_goals (first | refine Zq ?_)
      all_goals (first | refine Zm ?_)
      all_goals (first | refine Zv ?_ | refine Zm ?_)
      all_goals (first | refine Zv ?_ | refine Zi ?_)
      all_goals (first | refine Zq ?_)
      all_goals (first | refine Zm ?_)
      all_goals (refine Run.nil ?_)
      all_goals refine thn_next ⟨⟨rfl, rfl, rfl, ?_, trivial⟩, ent.go⟩
      all_goals (simp [Env.get, *] <;> omega)
    refine WP.ite rfl (fun h5 => ?_) (fun h5 => ?_)
    · refine Zp ?_
      refine Run.build rfl bd_181 rfl rfl rfl rfl ?_
      refine Run.storeB 0 rfl rfl rfl rfl ag_181 rfl rfl rfl rfl rfl ?_
      refine Zm ?_
      refine Ze ?_
      refine WP.ret ?_; refine blk_ret ?_; refine thn_ret ?_
      exact retCT 2 0 3 ag_181 rfl rfl rfl rfl rfl ⟨_, ent.none _, ⟨_, _, true, rfl, by unfold argsN; simp [*] <;> omega, fun _ => ⟨by unfold argsN; simp [*] <;> omega, by unfold setsB; simp [*] <;> omega⟩⟩, rfl⟩
    refine WP.seqCut [(0, .int .i64 op), (2, .pointer (some ⟨b2, 0, none⟩)), (3, .bool false), (40, .bool (decide (op = 22)))] [blk b2 [.int .i64 0, .bool false] 181] ?_ ?_
    · refine Zc ?_
      all_goals (first | refine Zm ?_)
      all_goals (first | refine Zi ?_)
      all_goals (first | refine Zm ?_)
      all_goals (refine Run.nil ?_)
      all_goals refine thn_next ⟨⟨rfl, rfl, rfl, ?_, trivial⟩, ent.go⟩
      all_goals simp [Env.get, *]
    refine WP.ite rfl (fun h7 => ?_) (fun h7 => ?_)
    · refine Zp ?_
      refine Run.build rfl bd_181 rfl rfl rfl rfl ?_
      refine Run.storeB 0 rfl rfl rfl rfl ag_181 rfl rfl rfl rfl rfl ?_
      refine Zm ?_
      refine Ze ?_
      refine WP.ret ?_; refine blk_ret ?_; refine thn_ret ?_
      exact retCT 2 0 3 ag_181 rfl rfl rfl rfl rfl ⟨_, ent.none _, ⟨_, _, true, rfl, by unfold argsN; simp [*] <;> omega, fun _ => ⟨by unfold argsN; simp [*] <;> omega, by unfold setsB; simp [*] <;> omega⟩⟩, rfl⟩
    refine WP.seqCut [(0, .int .i64 op), (2, .pointer (some ⟨b2, 0, none⟩)), (3, .bool false), (44, .bool (decide (op = 26 ∨ op = 27 ∨ op = 28 ∨ op = 29)))] [blk b2 [.int .i64 0, .bool false] 181] ?_ ?_
    · refine Zc ?_
      all_goals (first | refine Zm ?_)
      all_goals (first | refine Zi ?_)
      all_goals (first | refine Run.tt (by first | assumption | omega) ?_ | refine Run.ff (by first | assumption | omega) ?_ | refine Run.split (fun hc46 => ?_) (fun hc46 => ?_) | refine Run.splitB (fun hc46 => ?_) (fun hc46 => ?_) | skip)
      all_goals (first | refine Zm ?_)
      all_goals (first | refine Zv ?_ | refine Zm ?_)
      all_goals (first | refine Zv ?_ | refine Zi ?_)
      all_goals (first | refine Run.tt (by first | assumption | omega) ?_ | refine Run.ff (by first | assumption | omega) ?_ | refine Run.split (fun hc49 => ?_) (fun hc49 => ?_) | refine Run.splitB (fun hc49 => ?_) (fun hc49 => ?_) | skip)
      all_goals (first | refine Zq ?_)
      all_goals (first | refine Zm ?_)
      all_goals (first | refine Zv ?_ | refine Zm ?_)
      all_goals (first | refine Zv ?_ | refine Zi ?_)
      all_goals (first | refine Run.tt (by first | assumption | omega) ?_ | refine Run.ff (by first | assumption | omega) ?_ | refine Run.split (fun hc53 => ?_) (fun hc53 => ?_) | refine Run.splitB (fun hc53 => ?_) (fun hc53 => ?_) | skip)
      all_goals (first | refine Zq ?_)
      all_goals (first | refine Zm ?_)
      all_goals (first | refine Zv ?_ | refine Zm ?_)
      all_goals (first | refine Zv ?_ | refine Zi ?_)
      all_goals (first | refine Zq ?_)
      all_goals (first | refine Zm ?_)
      all_goals (refine Run.nil ?_)
      all_goals refine thn_next ⟨⟨rfl, rfl, rfl, ?_, trivial⟩, ent.go⟩
      all_goals (simp [Env.get, *] <;> omega)
    refine WP.ite rfl (fun h9 => ?_) (fun h9 => ?_)
    · refine Zp ?_
      refine Run.build rfl bd_181 rfl rfl rfl rfl ?_
      refine Run.storeB 0 rfl rfl rfl rfl ag_181 rfl rfl rfl rfl rfl ?_
      refine Zm ?_
      refine Ze ?_
      refine WP.ret ?_; refine blk_ret ?_; refine thn_ret ?_
      exact retCT 2 0 3 ag_181 rfl rfl rfl rfl rfl ⟨_, ent.none _, ⟨_, _, true, rfl, by unfold argsN; simp [*] <;> omega, fun _ => ⟨by unfold argsN; simp [*] <;> omega, by unfold setsB; simp [*] <;> omega⟩⟩, rfl⟩
    refine WP.seqCut [(0, .int .i64 op), (2, .pointer (some ⟨b2, 0, none⟩)), (3, .bool false), (60, .bool (decide (op = 30)))] [blk b2 [.int .i64 0, .bool false] 181] ?_ ?_
    · refine Zc ?_
      all_goals (first | refine Zm ?_)
      all_goals (first | refine Zi ?_)
      all_goals (first | refine Zm ?_)
      all_goals (refine Run.nil ?_)
      all_goals refine thn_next ⟨⟨rfl, rfl, rfl, ?_, trivial⟩, ent.go⟩
      all_goals simp [Env.get, *]
    refine WP.ite rfl (fun h11 => ?_) (fun h11 => ?_)
    · refine Zp ?_
      refine Run.build rfl bd_181 rfl rfl rfl rfl ?_
      refine Run.storeB 0 rfl rfl rfl rfl ag_181 rfl rfl rfl rfl rfl ?_
      refine Zm ?_
      refine Ze ?_
      refine WP.ret ?_; refine blk_ret ?_; refine thn_ret ?_
      exact retCT 2 0 3 ag_181 rfl rfl rfl rfl rfl ⟨_, ent.none _, ⟨_, _, true, rfl, by unfold argsN; simp [*] <;> omega, fun _ => ⟨by unfold argsN; simp [*] <;> omega, by unfold setsB; simp [*] <;> omega⟩⟩, rfl⟩
    refine WP.skip ?_; refine blk_norm ?_
    refine thn_next ⟨(), ?_, Ko.go, ent.gc⟩
    unfold argsN
    rw [if_neg (by omega), if_neg (by omega), if_neg (by omega), if_neg (by omega)]
  intro _ hneg
  refine Zp ?_
  refine Run.build rfl bd_181 rfl rfl rfl rfl ?_
  refine Run.storeB 0 rfl rfl rfl rfl ag_181 rfl rfl rfl rfl rfl ?_
  refine Zm ?_
  refine Ze ?_
  refine WP.ret ?_
  exact retCT 2 0 3 ag_181 rfl rfl rfl rfl rfl ⟨_, ent.none _, ⟨_, _, false, rfl, by rw [hneg]; rfl, fun h => by cases h⟩, rfl⟩
end Go.Proofs.YtfaokbjpinlcaaaGreat
end
section
/- ALIR's check: calls, instructions, ends of blocks; walked. -/
namespace Go.Proofs.YtfaokbjpinlcaaaGreat
open Go.Sep
set_option linter.unusedSimpArgs false
set_option linter.unusedVariables false
set_option maxRecDepth 100000
attribute [local irreducible] blk slA mp mpF rows rowsBut many mpK mpE
theorem ub_4 : Tryz.prog.underlying 4 = some .bool := by kernel_rfl
theorem noneB_eq (l : Lc) : (decide (l.kind = 0) && (decide (l.n = 0) && true)) = noneB l := by
  unfold noneB
  by_cases h1 : l.kind = 0 <;> by_cases h2 : l.n = 0 <;> simp [h1, h2]
theorem rising_iff : ∀ (l : List Int), risingB l = true ↔ ∀ (i : Nat) (a b : Int), l[i]? = some a → l[i + 1]? = some b → a < b
  | [] => by simp [risingB]
  | [x] => by simp [risingB]
  | x :: y :: l => by
    have ih := rising_iff (y :: l)
    simp only [risingB, Bool.and_eq_true, decide_eq_true_eq]
    rw [ih]
    constructor
    · rintro ⟨h1, h2⟩ i a b ha hb
      cases i with
      | zero => simp at ha hb; omega
      | succ i => exact h2 i a b (by simpa using ha) (by simpa using hb)
    · intro h
      exact ⟨h 0 x y rfl rfl, fun i a b ha hb => h (i + 1) a b (by simpa using ha) (by simpa using hb)⟩
abbrev alv (A : AL) (fv : SV) : List Value := [fv.val, .int .i64 A.main]
set_option maxHeartbeats 2000000 in
theorem chkCall_ok (hR : Heap) (A : AL) (fv : SV) (x : AI) (u v : SV) (hA : SlR rdAF hR fv.val A.funcs) (hx : AIv hR x u.val v.val) (hl1 : A.funcs.length ≤ 1000000) (hl2 : x.args.length ≤ 1000000) (hl3 : x.saves.length ≤ 1000000) (hl4 : ∀ F ∈ A.funcs, F.params.length ≤ 1000000) :
    Tri Tryz.prog hR 133 #[.agg ⟨alv A fv⟩, .agg ⟨aiv x u.val v.val⟩, .bool (noneB x.dst)] [] fun r Γ' => r = .bool (callB A x) ∧ Γ' = [] := by
  have hu := hx.hu
  have hv := hx.hv
  refine Tri.ent (Tri.of (args := [.agg ⟨alv A fv⟩, .agg ⟨aiv x u.val v.val⟩, .bool (noneB x.dst)]) Tryz.func133 rfl Tryz.ntmps133 (by simp) ?_)
  refine Zp ?_
  refine Run.box rfl rfl rfl rfl rfl ?_
  intro b3
  refine Run.box rfl rfl rfl rfl rfl ?_
  intro b4
  refine Zm ?_
  refine Ze ?_
  refine WP.seq ?_
  refine WP.seqCut [(2, .bool (noneB x.dst)), (3, .pointer (some ⟨b3, 0, none⟩)), (4, .pointer (some ⟨b4, 0, none⟩)), (6, .bool false), (20, .bool (decide (¬ (0 ≤ x.imm ∧ x.imm < (A.funcs.length : Int)))))] [blk b3 (alv A fv) 24, blk b4 (aiv x u.val v.val) 53] ?_ ?_
  · refine Zc ?_
    all_goals (first | refine Zf fo_53_1 ?_)
    all_goals (first | refine Zl 1 ag_3 ?_)
    all_goals (first | refine Zi ?_)
    all_goals (first | refine Run.tt (by first | assumption | omega) ?_ | refine Run.ff (by first | assumption | omega) ?_ | refine Run.split (fun hc12 => ?_) (fun hc12 => ?_) | refine Run.splitB (fun hc12 => ?_) (fun hc12 => ?_) | skip)
    all_goals (first | refine Zm ?_)
    all_goals (first | refine Zv ?_ | refine Zf fo_53_1 ?_)
    all_goals (first | refine Zv ?_ | refine Zl 1 ag_3 ?_)
    all_goals (first | refine Zv ?_ | refine Zf fo_24_0 ?_)
    all_goals (first | refine Zv ?_ | refine Zl 0 ag_22 ?_)
    all_goals (first | refine Zv ?_ | refine Zh sl_22 hA ?_)
    all_goals (first | refine Zv ?_ | refine Zi ?_)
    all_goals (first | refine Zq ?_)
    all_goals (refine Run.nil ?_)
    all_goals refine thn_next ⟨⟨rfl, rfl, rfl, rfl, ?_, trivial⟩, ent.go⟩
    all_goals simp [Env.get]
    all_goals omega
  refine WP.ite rfl (fun hbad => ?_) (fun hgood => ?_)
  · refine Zp ?_
    refine Zm ?_
    refine Ze ?_
    refine WP.ret ?_; refine thn_ret ?_
    refine retT [6] _ rfl rfl ⟨_, ent.none _, ?_, rfl⟩
    unfold callB; rw [decide_eq_false hbad]; rfl
  refine Zb ?_
  have him : 0 ≤ x.imm ∧ x.imm < (A.funcs.length : Int) := Decidable.not_not.1 hgood
  obtain ⟨G, gG⟩ : ∃ G, A.funcs[x.imm.toNat]? = some G := ⟨_, List.getElem?_eq_getElem (by omega)⟩
  have hGl := hl4 G (List.mem_of_getElem? gG)
  obtain ⟨_, ⟨gu0, gv0, rfl, hgu, hgv⟩, hrow⟩ := hA.at gG
  obtain ⟨gu, rfl, _, _⟩ := SlR.sv hgu
  obtain ⟨gv, rfl, _, _⟩ := SlR.sv hgv
  have eC : callB A x = (decide (x.args.length = G.params.length) && (decide (G.result ≠ 0) || noneB x.dst) && x.saves.all (fun r => decide (0 ≤ r ∧ r < 8)) && risingB x.saves) := by
    unfold callB; rw [decide_eq_true him, gG]; rfl
  refine Zp ?_
  refine Zf fo_24_0 ?_
  refine Zl 0 ag_22 ?_
  refine Zf fo_53_1 ?_
  refine Zl 1 ag_3 ?_
  refine Zx sl_22 hA ?_
  refine Run.loadRagg rfl rfl ag_51 rfl rfl hrow (by rfl) ?_
  refine Run.alloc rfl zr_51 rfl rfl rfl ?_
  intro b7
  refine Run.storeB 2 rfl rfl rfl rfl ag_51 rfl rfl rfl rfl rfl ?_
  refine Ze ?_
  refine WP.trim [2, 4, 6, 7] [1, 2] ?_
  refine WP.seq ?_
  refine WP.seqCut [(4, .pointer (some ⟨b4, 0, none⟩)), (6, .bool false), (42, .bool (decide (¬ (x.args.length = G.params.length ∧ (G.result ≠ 0 ∨ noneB x.dst = true)))))] [blk b4 (aiv x u.val v.val) 53] ?_ ?_
  · cases hn : noneB x.dst
    all_goals
      refine Zc ?_
      all_goals (first | refine Zf fo_53_3 ?_)
      all_goals (first | refine Zl 0 ag_48 ?_)
      all_goals (first | refine Zh sl_48 hu ?_)
      all_goals (first | refine Zf fo_51_1 ?_)
      all_goals (first | refine Zl 1 ag_48 ?_)
      all_goals (first | refine Zh sl_48 hgu ?_)
      all_goals (first | refine Zi ?_)
      all_goals (first | refine Run.tt (by first | assumption | omega) ?_ | refine Run.ff (by first | assumption | omega) ?_ | refine Run.split (fun hc33 => ?_) (fun hc33 => ?_) | refine Run.splitB (fun hc33 => ?_) (fun hc33 => ?_) | skip)
      all_goals (first | refine Zm ?_)
      all_goals (first | refine Zv ?_ | refine Zf fo_51_2 ?_)
      all_goals (first | refine Zv ?_ | refine Zl 1 ag_3 ?_)
      all_goals (first | refine Zv ?_ | refine Zi ?_)
      all_goals (first | refine Run.tt (by first | assumption | omega) ?_ | refine Run.ff (by first | assumption | omega) ?_ | refine Run.split (fun hc37 => ?_) (fun hc37 => ?_) | refine Run.splitB (fun hc37 => ?_) (fun hc37 => ?_) | skip)
      all_goals (first | refine Zv ?_ | refine Zm ?_)
      all_goals (first | refine Zv ?_ | refine Zm ?_)
      all_goals (first | refine Zv ?_ | refine Run.bnotB rfl rfl rfl rfl ?_)
      all_goals (first | refine Zv ?_ | refine Zq ?_)
      all_goals (first | refine Zq ?_)
      all_goals (refine Run.nil ?_)
      all_goals refine thn_next ⟨⟨rfl, rfl, ?_, trivial⟩, ent.go⟩
      all_goals simp [Env.get]
      all_goals omega
  refine WP.ite rfl (fun hbad => ?_) (fun hgood2 => ?_)
  · refine Zp ?_
    refine Zm ?_
    refine Ze ?_
    refine WP.ret ?_; refine thn_ret ?_
    refine retT [6] _ rfl rfl ⟨_, ent.none _, ?_, rfl⟩
    rw [eC]
    have e : (decide (x.args.length = G.params.length) && (decide (G.result ≠ 0) || noneB x.dst)) = false := by
      cases hh : (decide (x.args.length = G.params.length) && (decide (G.result ≠ 0) || noneB x.dst)) with
      | false => rfl
      | true => exact absurd (by simpa using hh) hbad
    rw [e]; rfl
  refine Zb ?_
  have e1 : (decide (x.args.length = G.params.length) && (decide (G.result ≠ 0) || noneB x.dst)) = true := by simpa using Decidable.not_not.1 hgood2
  rw [e1, Bool.true_and] at eC
  refine WP.trim [4, 6] [0] ?_
  refine WP.meetC (α := Unit) (fun _ => callB A x = true) (fun _ => []) (fun _ => []) ?_ ?_
  · refine Zp ?_
    refine Zf fo_53_4 ?_
    refine Zl 0 ag_44 ?_
    refine Zh sl_44 hv ?_
    refine Zm ?_
    refine Ze ?_
    refine WP.block ?_
    refine WP.trim [4, 6, 44, 45, 46] [0] ?_
    refine WP.loopC (α := Nat) (fun i => i ≤ x.saves.length ∧ ∀ (j : Nat) (r : Int), j < i → x.saves[j]? = some r → (0 ≤ r ∧ r < 8) ∧ (0 < j → x.saves.getD (j - 1) 0 < r)) (fun i => [(46, .int .i64 (i : Int))]) (fun _ => []) (fun i => x.saves.length - i) 0 ⟨Nat.zero_le _, fun j r h => by omega⟩ ?_
    rintro i ⟨hi, hok⟩
    refine WP.trim [4, 6, 44, 45, 46] [0] ?_
    refine Zp ?_
    refine Zi ?_
    refine Ze ?_
    refine WP.seq ?_
    refine WP.ite rfl (fun hlt => ?_) (fun hge => ?_)
    · refine Zb ?_
      obtain ⟨r, gr⟩ : ∃ y, x.saves[(i : Int).toNat]? = some y := ⟨_, List.getElem?_eq_getElem (by omega)⟩
      have gr' : x.saves[i]? = some r := gr
      refine WP.seq ?_
      refine WP.block ?_
      refine Zp ?_
      refine Zm ?_
      refine Zx sl_44 hv ?_
      refine Zr ag_3 (SlR.cell0 hv gr rfl) ?_
      refine Zm ?_
      refine Zm ?_
      refine Ze ?_
      refine WP.seqCut [(4, .pointer (some ⟨b4, 0, none⟩)), (6, .bool false), (44, v.val), (45, .int .i64 (x.saves.length : Int)), (46, .int .i64 (i : Int)), (70, .bool (decide (¬ ((0 ≤ r ∧ r < 8) ∧ (0 < i → x.saves.getD (i - 1) 0 < r)))))] [blk b4 (aiv x u.val v.val) 53] ?_ ?_
      · by_cases h0 : 0 < i
        · obtain ⟨q, gq⟩ : ∃ y, x.saves[((i : Int) - 1).toNat]? = some y := ⟨_, List.getElem?_eq_getElem (by omega)⟩
          have gq' : x.saves.getD (i - 1) 0 = q := by rw [List.getD_eq_getElem?_getD, show i - 1 = ((i : Int) - 1).toNat by omega, gq]; rfl
          rw [gq']
          refine Zc ?_
          all_goals (first | refine Zm ?_)
          all_goals (first | refine Zi ?_)
          all_goals (first | refine Run.tt (by first | assumption | omega) ?_ | refine Run.ff (by first | assumption | omega) ?_ | refine Run.split (fun hc52 => ?_) (fun hc52 => ?_) | refine Run.splitB (fun hc52 => ?_) (fun hc52 => ?_) | skip)
          all_goals (first | refine Zm ?_)
          all_goals (first | refine Zv ?_ | refine Zm ?_)
          all_goals (first | refine Zv ?_ | refine Zi ?_)
          all_goals (first | refine Run.tt (by first | assumption | omega) ?_ | refine Run.ff (by first | assumption | omega) ?_ | refine Run.split (fun hc55 => ?_) (fun hc55 => ?_) | refine Run.splitB (fun hc55 => ?_) (fun hc55 => ?_) | skip)
          all_goals (first | refine Zq ?_)
          all_goals (first | refine Zm ?_)
          all_goals (first | refine Zv ?_ | refine Zm ?_)
          all_goals (first | refine Zv ?_ | refine Zi ?_)
          all_goals (first | refine Run.tt (by first | assumption | omega) ?_ | refine Run.ff (by first | assumption | omega) ?_ | refine Run.split (fun hc59 => ?_) (fun hc59 => ?_) | refine Run.splitB (fun hc59 => ?_) (fun hc59 => ?_) | skip)
          all_goals (first | refine Zv ?_ | refine Zm ?_)
          all_goals (first | refine Zv ?_ | refine Zf fo_53_4 ?_)
          all_goals (first | refine Zv ?_ | refine Zl 0 ag_44 ?_)
          all_goals (first | refine Zv ?_ | refine Zm ?_)
          all_goals (first | refine Zv ?_ | refine Zs ?_)
          all_goals (first | refine Zv ?_ | refine Zx sl_44 hv ?_)
          all_goals (first | refine Zv ?_ | refine Zr ag_3 (SlR.cell0 hv gq rfl) ?_)
          all_goals (first | refine Zv ?_ | refine Zm ?_)
          all_goals (first | refine Zv ?_ | refine Zi ?_)
          all_goals (first | refine Zv ?_ | refine Zq ?_)
          all_goals (first | refine Zq ?_)
          all_goals (refine Run.nil ?_)
          all_goals refine thn_next ⟨⟨rfl, rfl, rfl, rfl, rfl, ?_, trivial⟩, ent.go⟩
          all_goals simp [Env.get]
          all_goals (first | omega | (rw [decide_eq_true (show 0 ≤ r by omega), decide_eq_true (show r < 8 by omega), decide_eq_true h0]; rfl))
        · obtain rfl : i = 0 := by omega
          refine Zc ?_
          all_goals (first | refine Zm ?_)
          all_goals (first | refine Zi ?_)
          all_goals (first | refine Run.tt (by first | assumption | omega) ?_ | refine Run.ff (by first | assumption | omega) ?_ | refine Run.split (fun hc52 => ?_) (fun hc52 => ?_) | refine Run.splitB (fun hc52 => ?_) (fun hc52 => ?_) | skip)
          all_goals (first | refine Zm ?_)
          all_goals (first | refine Zv ?_ | refine Zm ?_)
          all_goals (first | refine Zv ?_ | refine Zi ?_)
          all_goals (first | refine Run.tt (by first | assumption | omega) ?_ | refine Run.ff (by first | assumption | omega) ?_ | refine Run.split (fun hc55 => ?_) (fun hc55 => ?_) | refine Run.splitB (fun hc55 => ?_) (fun hc55 => ?_) | skip)
          all_goals (first | refine Zq ?_)
          all_goals (first | refine Zm ?_)
          all_goals (first | refine Zv ?_ | refine Zm ?_)
          all_goals (first | refine Zv ?_ | refine Zi ?_)
          all_goals (first | refine Run.tt (by first | assumption | omega) ?_ | refine Run.ff (by first | assumption | omega) ?_ | refine Run.split (fun hc59 => ?_) (fun hc59 => ?_) | refine Run.splitB (fun hc59 => ?_) (fun hc59 => ?_) | skip)
          all_goals (first | refine Zv ?_ | refine Zm ?_)
          all_goals (first | refine Zv ?_ | refine Zf fo_53_4 ?_)
          all_goals (first | refine Zv ?_ | refine Zl 0 ag_44 ?_ | refine Run.loadO 0 _ 0 rfl rfl ag_44 rfl rfl rfl rfl (by assumption) rfl ?_ | refine Run.loadO 0 _ _ rfl rfl ag_44 rfl rfl rfl rfl (by assumption) rfl ?_ | refine Zl 1 ag_44 ?_ | refine Run.loadO 1 _ 0 rfl rfl ag_44 rfl rfl rfl rfl (by assumption) rfl ?_ | refine Run.loadO 1 _ _ rfl rfl ag_44 rfl rfl rfl rfl (by assumption) rfl ?_ | refine Zl 2 ag_44 ?_ | refine Run.loadO 2 _ 0 rfl rfl ag_44 rfl rfl rfl rfl (by assumption) rfl ?_ | refine Run.loadO 2 _ _ rfl rfl ag_44 rfl rfl rfl rfl (by assumption) rfl ?_ | refine Zl 3 ag_44 ?_ | refine Run.loadO 3 _ 0 rfl rfl ag_44 rfl rfl rfl rfl (by assumption) rfl ?_ | refine Run.loadO 3 _ _ rfl rfl ag_44 rfl rfl rfl rfl (by assumption) rfl ?_ | refine Zl 4 ag_44 ?_ | refine Run.loadO 4 _ 0 rfl rfl ag_44 rfl rfl rfl rfl (by assumption) rfl ?_ | refine Run.loadO 4 _ _ rfl rfl ag_44 rfl rfl rfl rfl (by assumption) rfl ?_ | refine Zl 5 ag_44 ?_ | refine Run.loadO 5 _ 0 rfl rfl ag_44 rfl rfl rfl rfl (by assumption) rfl ?_ | refine Run.loadO 5 _ _ rfl rfl ag_44 rfl rfl rfl rfl (by assumption) rfl ?_ | refine Run.loadR rfl rfl ag_44 rfl rfl (by first | assumption | exact SlR.cell0 (by assumption) (by assumption) rfl | exact SlR.cell (by assumption) (by assumption) rfl) ?_)
          all_goals (first | refine Zv ?_ | refine Zm ?_)
          all_goals (first | refine Zv ?_ | refine Zs ?_)
          all_goals (first | refine Zv ?_ | fail)
          all_goals (first | refine Zv ?_ | fail)
          all_goals (first | refine Zv ?_ | refine Zm ?_)
          all_goals (first | refine Zv ?_ | refine Zi ?_)
          all_goals (first | refine Zv ?_ | refine Zq ?_)
          all_goals (first | refine Zq ?_)
          all_goals (refine Run.nil ?_)
          all_goals refine thn_next ⟨⟨rfl, rfl, rfl, rfl, rfl, ?_, trivial⟩, ent.go⟩
          all_goals simp [Env.get]
          all_goals omega
      refine WP.ite rfl (fun hbad => ?_) (fun hg => ?_)
      · refine Zp ?_
        refine Zm ?_
        refine Ze ?_
        refine WP.ret ?_; refine blk_ret ?_; refine thn_ret ?_; refine thn_ret ?_; refine blk_ret ?_; refine thn_ret ?_
        refine retT [6] _ rfl rfl ⟨_, ent.none _, ?_, rfl⟩
        rw [eC]
        cases h1 : x.saves.all (fun r => decide (0 ≤ r ∧ r < 8)) with
        | false => rfl
        | true =>
          cases h2 : risingB x.saves with
          | false => rfl
          | true =>
            exfalso; apply hbad
            refine ⟨by simpa using List.all_eq_true.1 h1 r (List.mem_of_getElem? gr'), fun h0 => ?_⟩
            obtain ⟨q, gq⟩ : ∃ y, x.saves[i - 1]? = some y := ⟨_, List.getElem?_eq_getElem (by omega)⟩
            have := (rising_iff _).1 h2 (i - 1) q r gq (by rw [show i - 1 + 1 = i by omega]; exact gr')
            rw [List.getD_eq_getElem?_getD, gq]; exact this
      · refine WP.skip ?_; refine blk_norm ?_; refine thn_next ?_
        refine Zc ?_
        refine Za ?_
        refine Zm ?_
        refine Run.nil ?_
        refine thn_next ⟨i + 1, ⟨by omega, fun j z hj hz => ?_⟩, by omega, Ko.go, ent.gc⟩
        by_cases e : j = i
        · subst e; rw [gr'] at hz; cases hz; exact Decidable.not_not.1 hg
        · exact hok j z (by omega) hz
    · refine Zj ?_
      refine thn_next ⟨(), ?_, Ko.go, ent.gc⟩
      rw [eC, Bool.and_eq_true]
      refine ⟨all_of fun j r hj hr => ?_, (rising_iff _).2 fun j a b ha hb => ?_⟩
      · exact decide_eq_true (hok j r (by omega) hr).1
      · have := (List.getElem?_eq_some_iff.1 hb).1
        have h2 := (hok (j + 1) b (by omega) hb).2 (by omega)
        rw [Nat.add_sub_cancel, List.getD_eq_getElem?_getD, ha] at h2; exact h2
  intro _ hT
  refine Zp ?_
  refine Zm ?_
  refine Ze ?_
  refine WP.ret ?_
  exact retT [6] _ rfl rfl ⟨_, ent.none _, by rw [hT]; rfl, rfl⟩
end Go.Proofs.YtfaokbjpinlcaaaGreat
end
section
/- ALIR's check: instructions, ends of blocks; walked. -/
namespace Go.Proofs.YtfaokbjpinlcaaaGreat
open Go.Sep
set_option linter.unusedSimpArgs false
set_option linter.unusedVariables false
set_option maxRecDepth 100000
attribute [local irreducible] blk slA mp mpF rows rowsBut many mpK mpE placeB noneB
theorem btrue {b : Bool} (h : ¬ b = false) : b = true := by cases b <;> simp_all
set_option maxHeartbeats 4000000 in
theorem chkIns_ok (hR : Heap) (A : AL) (fv : SV) (F : AF) (su sv : SV) (x : AI) (u v : SV) (hA : SlR rdAF hR fv.val A.funcs) (hx : AIv hR x u.val v.val) (hl1 : A.funcs.length ≤ 1000000) (hl2 : x.args.length ≤ 1000000) (hl3 : x.saves.length ≤ 1000000) (hl4 : ∀ F ∈ A.funcs, F.params.length ≤ 1000000) :
    Tri Tryz.prog hR 93 #[.agg ⟨alv A fv⟩, .agg ⟨afv F su.val sv.val⟩, .agg ⟨aiv x u.val v.val⟩] [] fun r Γ' => r = .bool (insB A F x) ∧ Γ' = [] := by
  have hu := hx.hu
  have hv := hx.hv
  refine Tri.ent (Tri.of (args := [.agg ⟨alv A fv⟩, .agg ⟨afv F su.val sv.val⟩, .agg ⟨aiv x u.val v.val⟩]) Tryz.func93 rfl Tryz.ntmps93 (by simp) ?_)
  refine Zp ?_
  refine Run.box rfl rfl rfl rfl rfl ?_
  intro b3
  refine Run.box rfl rfl rfl rfl rfl ?_
  intro b4
  refine Run.box rfl rfl rfl rfl rfl ?_
  intro b5
  refine Zm ?_
  refine Ze ?_
  refine Zp ?_
  refine Zf fo_53_2 ?_
  refine Run.loadBagg 2 rfl rfl ag_46 rfl rfl rfl rfl rfl ?_
  refine Run.build rfl bd_46 rfl rfl rfl rfl ?_
  refine Run.eqS rfl rfl rfl is_46 nf_46 rfl rfl rfl rfl ?_
  refine Run.eqv (v' := .bool (noneB x.dst)) (by rw [← noneB_eq]) ?_
  refine Zm ?_
  refine Ze ?_
  refine WP.seq ?_
  refine WP.seqCut [(3, .pointer (some ⟨b3, 0, none⟩)), (4, .pointer (some ⟨b4, 0, none⟩)), (5, .pointer (some ⟨b5, 0, none⟩)), (6, .bool false), (7, .bool (noneB x.dst)), (28, .bool (decide (((noneB x.dst || placeB F x.dst) && x.args.all (placeB F)) = false)))] [blk b3 (alv A fv) 24, blk b4 (afv F su.val sv.val) 51, blk b5 (aiv x u.val v.val) 53] ?_ ?_
  · cases hn : noneB x.dst
    · refine Zc ?_
      all_goals (first | refine Zm ?_)
      all_goals (first | refine Run.bnotB rfl rfl rfl rfl ?_)
      all_goals (first | refine Zm ?_)
      all_goals (first | refine Zv ?_ | refine Run.loadBagg 1 rfl rfl ag_51 rfl rfl rfl rfl rfl ?_)
      all_goals (first | refine Zv ?_ | refine Zf fo_53_2 ?_)
      all_goals (first | refine Zv ?_ | refine Run.loadBagg 2 rfl rfl ag_46 rfl rfl rfl rfl rfl ?_)
      all_goals (first | refine Zv ?_ | refine Run.callP [] ok_91 (isPlace_ok hR F su sv x.dst) ?_; rintro _ _ ⟨rfl, rfl⟩)
      all_goals (first | refine Run.tt (by first | assumption | omega) ?_ | refine Run.ff (by first | assumption | omega) ?_ | refine Run.split (fun hc20 => ?_) (fun hc20 => ?_) | refine Run.splitB (fun hc20 => ?_) (fun hc20 => ?_) | skip)
      all_goals (first | refine Zv ?_ | refine Run.bnotB rfl rfl rfl rfl ?_)
      all_goals (first | refine Zq ?_)
      all_goals (first | refine Zm ?_)
      all_goals (first | refine Zv ?_ | refine Zf fo_53_3 ?_)
      all_goals (first | refine Zv ?_ | refine Zl 2 ag_48 ?_)
      all_goals (first | refine Zv ?_ | refine Run.makeFunc rfl (fs := _) rfl (cs := _) rfl rfl rfl ?_)
      all_goals (first | refine Zv ?_ | refine Run.callP [1] ok_131 (containsF_ok hR b4 F su sv u.val x.args hu hl2) ?_; rintro _ _ ⟨rfl, rfl⟩)
      all_goals (first | refine Zq ?_)
      all_goals (refine Run.nil ?_)
      all_goals refine thn_next ⟨⟨rfl, rfl, rfl, rfl, rfl, ?_, trivial⟩, ent.go⟩
      all_goals simp [Env.get, *]
    · refine Zc ?_
      all_goals (first | refine Zm ?_)
      all_goals (first | refine Run.bnotB rfl rfl rfl rfl ?_)
      all_goals (first | refine Zm ?_)
      all_goals (first | refine Zv ?_ | refine Run.loadOagg 0 _ rfl rfl ag_51 rfl rfl rfl rfl rfl (by assumption) ?_ | refine Run.loadBagg 0 rfl rfl ag_51 rfl rfl rfl rfl rfl ?_ | refine Run.loadOagg 1 _ rfl rfl ag_51 rfl rfl rfl rfl rfl (by assumption) ?_ | refine Run.loadBagg 1 rfl rfl ag_51 rfl rfl rfl rfl rfl ?_ | refine Run.loadOagg 2 _ rfl rfl ag_51 rfl rfl rfl rfl rfl (by assumption) ?_ | refine Run.loadBagg 2 rfl rfl ag_51 rfl rfl rfl rfl rfl ?_ | refine Run.loadOagg 3 _ rfl rfl ag_51 rfl rfl rfl rfl rfl (by assumption) ?_ | refine Run.loadBagg 3 rfl rfl ag_51 rfl rfl rfl rfl rfl ?_ | refine Run.loadOagg 4 _ rfl rfl ag_51 rfl rfl rfl rfl rfl (by assumption) ?_ | refine Run.loadBagg 4 rfl rfl ag_51 rfl rfl rfl rfl rfl ?_ | refine Run.loadOagg 5 _ rfl rfl ag_51 rfl rfl rfl rfl rfl (by assumption) ?_ | refine Run.loadBagg 5 rfl rfl ag_51 rfl rfl rfl rfl rfl ?_ | refine Run.loadRagg rfl rfl ag_51 rfl rfl (by first | assumption | exact SlR.row (by assumption) (by assumption)) (by rfl) ?_)
      all_goals (first | refine Zv ?_ | refine Zf fo_53_2 ?_)
      all_goals (first | refine Zv ?_ | refine Run.loadOagg 0 _ rfl rfl ag_46 rfl rfl rfl rfl rfl (by assumption) ?_ | refine Run.loadBagg 0 rfl rfl ag_46 rfl rfl rfl rfl rfl ?_ | refine Run.loadOagg 1 _ rfl rfl ag_46 rfl rfl rfl rfl rfl (by assumption) ?_ | refine Run.loadBagg 1 rfl rfl ag_46 rfl rfl rfl rfl rfl ?_ | refine Run.loadOagg 2 _ rfl rfl ag_46 rfl rfl rfl rfl rfl (by assumption) ?_ | refine Run.loadBagg 2 rfl rfl ag_46 rfl rfl rfl rfl rfl ?_ | refine Run.loadOagg 3 _ rfl rfl ag_46 rfl rfl rfl rfl rfl (by assumption) ?_ | refine Run.loadBagg 3 rfl rfl ag_46 rfl rfl rfl rfl rfl ?_ | refine Run.loadOagg 4 _ rfl rfl ag_46 rfl rfl rfl rfl rfl (by assumption) ?_ | refine Run.loadBagg 4 rfl rfl ag_46 rfl rfl rfl rfl rfl ?_ | refine Run.loadOagg 5 _ rfl rfl ag_46 rfl rfl rfl rfl rfl (by assumption) ?_ | refine Run.loadBagg 5 rfl rfl ag_46 rfl rfl rfl rfl rfl ?_ | refine Run.loadRagg rfl rfl ag_46 rfl rfl (by first | assumption | exact SlR.row (by assumption) (by assumption)) (by rfl) ?_)
      all_goals (first | refine Zv ?_ | refine Zv ?_)
      all_goals (first | refine Run.tt (by first | assumption | omega) ?_ | refine Run.ff (by first | assumption | omega) ?_ | refine Run.split (fun hc20 => ?_) (fun hc20 => ?_) | refine Run.splitB (fun hc20 => ?_) (fun hc20 => ?_) | skip)
      all_goals (first | refine Zv ?_ | refine Run.bnot rfl rfl rfl rfl ?_ | refine Run.bnotB rfl rfl rfl rfl ?_ | refine Run.neg rfl rfl rfl rfl ?_)
      all_goals (first | refine Zq ?_)
      all_goals (first | refine Zm ?_)
      all_goals (first | refine Zv ?_ | refine Zf fo_53_3 ?_)
      all_goals (first | refine Zv ?_ | refine Zl 2 ag_48 ?_)
      all_goals (first | refine Zv ?_ | refine Run.makeFunc rfl (fs := _) rfl (cs := _) rfl rfl rfl ?_)
      all_goals (first | refine Zv ?_ | refine Run.callP [1] ok_131 (containsF_ok hR b4 F su sv u.val x.args hu hl2) ?_; rintro _ _ ⟨rfl, rfl⟩)
      all_goals (first | refine Zq ?_)
      all_goals (refine Run.nil ?_)
      all_goals refine thn_next ⟨⟨rfl, rfl, rfl, rfl, rfl, ?_, trivial⟩, ent.go⟩
      all_goals simp [Env.get]
  refine WP.ite rfl (fun hbad => ?_) (fun hgood => ?_)
  · refine Zp ?_
    refine Zm ?_
    refine Ze ?_
    refine WP.ret ?_; refine thn_ret ?_
    refine retT [6] _ rfl rfl ⟨_, ent.none _, ?_, rfl⟩
    unfold insB; rw [hbad]; rfl
  refine Zb ?_
  have hP : ((noneB x.dst || placeB F x.dst) && x.args.all (placeB F)) = true := btrue hgood
  have eI : insB A F x = (if x.op = 25 then callB A x else decide ((x.args.length : Int) = argsN x.op) && (setsB x.op != noneB x.dst) && x.saves.isEmpty && if 28 ≤ x.op ∧ x.op ≤ 30 then decide (1 ≤ x.imm ∧ x.imm ≤ 5) else decide (x.op = 1 ∨ x.imm = 0)) := by
    unfold insB; rw [hP]; rfl
  refine WP.seq ?_
  refine Zp ?_
  refine Zf fo_53_0 ?_
  refine Zl 2 ag_3 ?_
  refine Zi ?_
  refine Ze ?_
  refine WP.ite rfl (fun h25 => ?_) (fun h25 => ?_)
  · refine Zp ?_
    refine Run.loadBagg 0 rfl rfl ag_24 rfl rfl rfl rfl rfl ?_
    refine Run.loadBagg 2 rfl rfl ag_53 rfl rfl rfl rfl rfl ?_
    refine Zm ?_
    refine Run.callP [] ok_133 (chkCall_ok hR A fv x u v hA hx hl1 hl2 hl3 hl4) ?_; rintro _ _ ⟨rfl, rfl⟩
    refine Zm ?_
    refine Ze ?_
    refine WP.ret ?_; refine thn_ret ?_
    exact retT [6] _ rfl rfl ⟨_, ent.none _, by rw [eI, if_pos h25]; rfl, rfl⟩
  refine Zb ?_
  rw [if_neg h25] at eI
  refine WP.trim [5, 6, 7] [2] ?_
  refine Zp ?_
  refine Zf fo_53_0 ?_
  refine Zl 0 ag_3 ?_
  refine Run.callP [] ok_134 (shapeOf_ok hR x.op) ?_; rintro _ _ ⟨⟨a, s, ok, rfl, hok, has⟩, rfl⟩
  refine Zm ?_
  refine Run.extract rfl rfl rfl rfl rfl ?_
  refine Run.extract rfl rfl rfl rfl rfl ?_
  refine Run.alloc rfl zr_181 rfl rfl rfl ?_
  intro b8
  refine Run.storeB 1 rfl rfl rfl rfl ag_181 rfl rfl rfl rfl rfl ?_
  refine Zm ?_
  refine Ze ?_
  refine WP.seq ?_
  refine WP.seqCut [(5, .pointer (some ⟨b5, 0, none⟩)), (6, .bool false), (63, .bool (decide ((decide ((x.args.length : Int) = argsN x.op) && (setsB x.op != noneB x.dst) && x.saves.isEmpty) = false)))] [blk b5 (aiv x u.val v.val) 53] ?_ ?_
  · have hsl : x.saves.isEmpty = decide ((x.saves.length : Int) = 0) := by cases x.saves <;> simp; omega
    cases ok with
    | false =>
      have hneg : ¬ (x.args.length : Int) = argsN x.op := fun e => by
        have h0 : ¬ 0 ≤ argsN x.op := by simpa using hok.symm
        omega
      refine Zc ?_
      all_goals (first | refine Zm ?_)
      all_goals (first | refine Run.bnotB rfl rfl rfl rfl ?_)
      all_goals (first | refine Zm ?_)
      all_goals (first | refine Zv ?_ | refine Zf fo_53_3 ?_)
      all_goals (first | refine Zv ?_ | refine Zl 0 ag_48 ?_ | refine Run.loadO 0 _ 0 rfl rfl ag_48 rfl rfl rfl rfl (by assumption) rfl ?_ | refine Run.loadO 0 _ _ rfl rfl ag_48 rfl rfl rfl rfl (by assumption) rfl ?_ | refine Zl 1 ag_48 ?_ | refine Run.loadO 1 _ 0 rfl rfl ag_48 rfl rfl rfl rfl (by assumption) rfl ?_ | refine Run.loadO 1 _ _ rfl rfl ag_48 rfl rfl rfl rfl (by assumption) rfl ?_ | refine Zl 2 ag_48 ?_ | refine Run.loadO 2 _ 0 rfl rfl ag_48 rfl rfl rfl rfl (by assumption) rfl ?_ | refine Run.loadO 2 _ _ rfl rfl ag_48 rfl rfl rfl rfl (by assumption) rfl ?_ | refine Zl 3 ag_48 ?_ | refine Run.loadO 3 _ 0 rfl rfl ag_48 rfl rfl rfl rfl (by assumption) rfl ?_ | refine Run.loadO 3 _ _ rfl rfl ag_48 rfl rfl rfl rfl (by assumption) rfl ?_ | refine Zl 4 ag_48 ?_ | refine Run.loadO 4 _ 0 rfl rfl ag_48 rfl rfl rfl rfl (by assumption) rfl ?_ | refine Run.loadO 4 _ _ rfl rfl ag_48 rfl rfl rfl rfl (by assumption) rfl ?_ | refine Zl 5 ag_48 ?_ | refine Run.loadO 5 _ 0 rfl rfl ag_48 rfl rfl rfl rfl (by assumption) rfl ?_ | refine Run.loadO 5 _ _ rfl rfl ag_48 rfl rfl rfl rfl (by assumption) rfl ?_ | refine Run.loadR rfl rfl ag_48 rfl rfl (by first | assumption | exact SlR.cell0 (by assumption) (by assumption) rfl | exact SlR.cell (by assumption) (by assumption) rfl) ?_)
      all_goals (first | refine Zv ?_ | refine Zv ?_)
      all_goals (first | refine Zv ?_ | refine Zf fo_181_0 ?_)
      all_goals (first | refine Zv ?_ | refine Zl 0 ag_3 ?_ | refine Run.loadO 0 _ 0 rfl rfl ag_3 rfl rfl rfl rfl (by assumption) rfl ?_ | refine Run.loadO 0 _ _ rfl rfl ag_3 rfl rfl rfl rfl (by assumption) rfl ?_ | refine Zl 1 ag_3 ?_ | refine Run.loadO 1 _ 0 rfl rfl ag_3 rfl rfl rfl rfl (by assumption) rfl ?_ | refine Run.loadO 1 _ _ rfl rfl ag_3 rfl rfl rfl rfl (by assumption) rfl ?_ | refine Zl 2 ag_3 ?_ | refine Run.loadO 2 _ 0 rfl rfl ag_3 rfl rfl rfl rfl (by assumption) rfl ?_ | refine Run.loadO 2 _ _ rfl rfl ag_3 rfl rfl rfl rfl (by assumption) rfl ?_ | refine Zl 3 ag_3 ?_ | refine Run.loadO 3 _ 0 rfl rfl ag_3 rfl rfl rfl rfl (by assumption) rfl ?_ | refine Run.loadO 3 _ _ rfl rfl ag_3 rfl rfl rfl rfl (by assumption) rfl ?_ | refine Zl 4 ag_3 ?_ | refine Run.loadO 4 _ 0 rfl rfl ag_3 rfl rfl rfl rfl (by assumption) rfl ?_ | refine Run.loadO 4 _ _ rfl rfl ag_3 rfl rfl rfl rfl (by assumption) rfl ?_ | refine Zl 5 ag_3 ?_ | refine Run.loadO 5 _ 0 rfl rfl ag_3 rfl rfl rfl rfl (by assumption) rfl ?_ | refine Run.loadO 5 _ _ rfl rfl ag_3 rfl rfl rfl rfl (by assumption) rfl ?_ | refine Run.loadR rfl rfl ag_3 rfl rfl (by first | assumption | exact SlR.cell0 (by assumption) (by assumption) rfl | exact SlR.cell (by assumption) (by assumption) rfl) ?_)
      all_goals (first | refine Zv ?_ | refine Zi ?_)
      all_goals (first | refine Run.tt (by first | assumption | omega) ?_ | refine Run.ff (by first | assumption | omega) ?_ | refine Run.split (fun hc50 => ?_) (fun hc50 => ?_) | refine Run.splitB (fun hc50 => ?_) (fun hc50 => ?_) | skip)
      all_goals (first | refine Zq ?_)
      all_goals (first | refine Zm ?_)
      all_goals (first | refine Zv ?_ | refine Zf fo_181_1 ?_)
      all_goals (first | refine Zv ?_ | refine Zl 0 ag_4 ?_ | refine Run.loadO 0 _ 0 rfl rfl ag_4 rfl rfl rfl rfl (by assumption) rfl ?_ | refine Run.loadO 0 _ _ rfl rfl ag_4 rfl rfl rfl rfl (by assumption) rfl ?_ | refine Zl 1 ag_4 ?_ | refine Run.loadO 1 _ 0 rfl rfl ag_4 rfl rfl rfl rfl (by assumption) rfl ?_ | refine Run.loadO 1 _ _ rfl rfl ag_4 rfl rfl rfl rfl (by assumption) rfl ?_ | refine Zl 2 ag_4 ?_ | refine Run.loadO 2 _ 0 rfl rfl ag_4 rfl rfl rfl rfl (by assumption) rfl ?_ | refine Run.loadO 2 _ _ rfl rfl ag_4 rfl rfl rfl rfl (by assumption) rfl ?_ | refine Zl 3 ag_4 ?_ | refine Run.loadO 3 _ 0 rfl rfl ag_4 rfl rfl rfl rfl (by assumption) rfl ?_ | refine Run.loadO 3 _ _ rfl rfl ag_4 rfl rfl rfl rfl (by assumption) rfl ?_ | refine Zl 4 ag_4 ?_ | refine Run.loadO 4 _ 0 rfl rfl ag_4 rfl rfl rfl rfl (by assumption) rfl ?_ | refine Run.loadO 4 _ _ rfl rfl ag_4 rfl rfl rfl rfl (by assumption) rfl ?_ | refine Zl 5 ag_4 ?_ | refine Run.loadO 5 _ 0 rfl rfl ag_4 rfl rfl rfl rfl (by assumption) rfl ?_ | refine Run.loadO 5 _ _ rfl rfl ag_4 rfl rfl rfl rfl (by assumption) rfl ?_ | refine Run.loadR rfl rfl ag_4 rfl rfl (by first | assumption | exact SlR.cell0 (by assumption) (by assumption) rfl | exact SlR.cell (by assumption) (by assumption) rfl) ?_)
      all_goals (first | refine Zv ?_ | refine Zm ?_)
      all_goals (first | refine Zv ?_ | refine Zv ?_)
      all_goals (first | refine Run.tt (by first | assumption | omega) ?_ | refine Run.ff (by first | assumption | omega) ?_ | refine Run.split (fun hc56 => ?_) (fun hc56 => ?_) | refine Run.splitB (fun hc56 => ?_) (fun hc56 => ?_) | skip)
      all_goals (first | refine Zq ?_)
      all_goals (first | refine Zm ?_)
      all_goals (first | refine Zv ?_ | refine Zf fo_53_4 ?_)
      all_goals (first | refine Zv ?_ | refine Zl 0 ag_44 ?_ | refine Run.loadO 0 _ 0 rfl rfl ag_44 rfl rfl rfl rfl (by assumption) rfl ?_ | refine Run.loadO 0 _ _ rfl rfl ag_44 rfl rfl rfl rfl (by assumption) rfl ?_ | refine Zl 1 ag_44 ?_ | refine Run.loadO 1 _ 0 rfl rfl ag_44 rfl rfl rfl rfl (by assumption) rfl ?_ | refine Run.loadO 1 _ _ rfl rfl ag_44 rfl rfl rfl rfl (by assumption) rfl ?_ | refine Zl 2 ag_44 ?_ | refine Run.loadO 2 _ 0 rfl rfl ag_44 rfl rfl rfl rfl (by assumption) rfl ?_ | refine Run.loadO 2 _ _ rfl rfl ag_44 rfl rfl rfl rfl (by assumption) rfl ?_ | refine Zl 3 ag_44 ?_ | refine Run.loadO 3 _ 0 rfl rfl ag_44 rfl rfl rfl rfl (by assumption) rfl ?_ | refine Run.loadO 3 _ _ rfl rfl ag_44 rfl rfl rfl rfl (by assumption) rfl ?_ | refine Zl 4 ag_44 ?_ | refine Run.loadO 4 _ 0 rfl rfl ag_44 rfl rfl rfl rfl (by assumption) rfl ?_ | refine Run.loadO 4 _ _ rfl rfl ag_44 rfl rfl rfl rfl (by assumption) rfl ?_ | refine Zl 5 ag_44 ?_ | refine Run.loadO 5 _ 0 rfl rfl ag_44 rfl rfl rfl rfl (by assumption) rfl ?_ | refine Run.loadO 5 _ _ rfl rfl ag_44 rfl rfl rfl rfl (by assumption) rfl ?_ | refine Run.loadR rfl rfl ag_44 rfl rfl (by first | assumption | exact SlR.cell0 (by assumption) (by assumption) rfl | exact SlR.cell (by assumption) (by assumption) rfl) ?_)
      all_goals (first | refine Zv ?_ | refine Zv ?_)
      all_goals (first | refine Zv ?_ | refine Zi ?_)
      all_goals (first | refine Zq ?_)
      all_goals (refine Run.nil ?_)
      all_goals refine thn_next ⟨⟨rfl, rfl, ?_, trivial⟩, ent.go⟩
      all_goals simp [Env.get, hneg]
    | true =>
      obtain ⟨rfl, rfl⟩ := has rfl
      clear hok has
      rw [hsl]
      refine Zc ?_
      all_goals (first | refine Zm ?_)
      all_goals (first | refine Run.bnotB rfl rfl rfl rfl ?_)
      all_goals (first | refine Zm ?_)
      all_goals (first | refine Zv ?_ | refine Zf fo_53_3 ?_)
      all_goals (first | refine Zv ?_ | refine Zl 0 ag_48 ?_)
      all_goals (first | refine Zv ?_ | refine Zh sl_48 hu ?_)
      all_goals (first | refine Zv ?_ | refine Zf fo_181_0 ?_)
      all_goals (first | refine Zv ?_ | refine Zl 1 ag_3 ?_)
      all_goals (first | refine Zv ?_ | refine Zi ?_)
      all_goals (first | refine Run.tt (by first | assumption | omega) ?_ | refine Run.ff (by first | assumption | omega) ?_ | refine Run.split (fun hc50 => ?_) (fun hc50 => ?_) | refine Run.splitB (fun hc50 => ?_) (fun hc50 => ?_) | skip)
      all_goals (first | refine Zq ?_)
      all_goals (first | refine Zm ?_)
      all_goals (first | refine Zv ?_ | refine Zf fo_181_1 ?_)
      all_goals (first | refine Zv ?_ | refine Zl 1 ag_4 ?_)
      all_goals (first | refine Zv ?_ | refine Zm ?_)
      all_goals (first | refine Zv ?_ | refine Run.eqB rfl rfl rfl ub_4 rfl rfl ?_)
      all_goals (first | refine Run.tt (by first | assumption | omega) ?_ | refine Run.ff (by first | assumption | omega) ?_ | refine Run.split (fun hc56 => ?_) (fun hc56 => ?_) | refine Run.splitB (fun hc56 => ?_) (fun hc56 => ?_) | skip)
      all_goals (first | refine Zq ?_)
      all_goals (first | refine Zm ?_)
      all_goals (first | refine Zv ?_ | refine Zf fo_53_4 ?_)
      all_goals (first | refine Zv ?_ | refine Zl 0 ag_44 ?_)
      all_goals (first | refine Zv ?_ | refine Zh sl_44 hv ?_)
      all_goals (first | refine Zv ?_ | refine Zi ?_)
      all_goals (first | refine Zq ?_)
      all_goals (refine Run.nil ?_)
      all_goals refine thn_next ⟨⟨rfl, rfl, ?_, trivial⟩, ent.go⟩
      all_goals simp [Env.get, *]
      all_goals (first | omega | (have e : (x.args.length : Int) = argsN x.op := by omega); by_cases hz : x.saves = [] <;> simp [hz, e, List.length_pos_iff])
  refine WP.ite rfl (fun hbad => ?_) (fun hgood2 => ?_)
  · refine Zp ?_
    refine Zm ?_
    refine Ze ?_
    refine WP.ret ?_; refine thn_ret ?_
    exact retT [6] _ rfl rfl ⟨_, ent.none _, by rw [eI, hbad]; rfl, rfl⟩
  refine Zb ?_
  rw [show (decide ((x.args.length : Int) = argsN x.op) && (setsB x.op != noneB x.dst) && x.saves.isEmpty) = true from btrue hgood2, Bool.true_and] at eI
  refine WP.trim [5, 6] [0] ?_
  refine WP.meetC (α := Unit) (fun _ => insB A F x = decide (x.imm = 0)) (fun _ => []) (fun _ => []) ?_ ?_
  · refine Zp ?_
    refine Zf fo_53_0 ?_
    refine Zl 0 ag_3 ?_
    refine Ze ?_
    refine WP.block ?_
    refine Zp ?_
    refine Zi ?_
    refine Zm ?_
    refine Ze ?_
    refine WP.ite rfl (fun h1 => ?_) (fun h1 => ?_)
    · refine Zp ?_
      refine Zm ?_
      refine Ze ?_
      refine WP.ret ?_; refine blk_ret ?_; refine thn_ret ?_
      exact retT [6] _ rfl rfl ⟨_, ent.none _, by rw [eI, if_neg (by omega)]; simp [h1, tupV], rfl⟩
    refine WP.seqCut [(5, .pointer (some ⟨b5, 0, none⟩)), (6, .bool false), (68, .bool (decide (28 ≤ x.op ∧ x.op ≤ 30)))] [blk b5 (aiv x u.val v.val) 53] ?_ ?_
    · refine Zp ?_
      refine Zi ?_
      refine Zm ?_
      refine Ze ?_
      refine WP.ite rfl (fun h28 => ?_) (fun h28 => ?_)
      · refine WP.skip ?_
        refine thn_next ⟨⟨rfl, rfl, ?_, trivial⟩, ent.go⟩
        simp [Env.get, h28]
      refine Zp ?_
      refine Zi ?_
      refine Zm ?_
      refine Ze ?_
      refine WP.ite rfl (fun h29 => ?_) (fun h29 => ?_)
      · refine WP.skip ?_
        refine thn_next ⟨⟨rfl, rfl, ?_, trivial⟩, ent.go⟩
        simp [Env.get, h29]
      refine Zc ?_
      refine Zi ?_
      refine Zm ?_
      refine Run.nil ?_
      refine thn_next ⟨⟨rfl, rfl, ?_, trivial⟩, ent.go⟩
      show some (Value.bool (decide (x.op = 30))) = some (Value.bool (decide (28 ≤ x.op ∧ x.op ≤ 30)))
      congr 2
      exact decide_eq_decide.2 ⟨fun _ => by omega, fun _ => by omega⟩
    refine WP.ite rfl (fun h28 => ?_) (fun h28 => ?_)
    · refine WP.seqCut [(6, .bool (decide (1 ≤ x.imm ∧ x.imm ≤ 5)))] [] ?_ ?_
      · refine Zc ?_
        all_goals (first | refine Zf fo_53_1 ?_)
        all_goals (first | refine Zl 0 ag_3 ?_)
        all_goals (first | refine Zi ?_)
        all_goals (first | refine Run.tt (by first | assumption | omega) ?_ | refine Run.ff (by first | assumption | omega) ?_ | refine Run.split (fun hc74 => ?_) (fun hc74 => ?_) | refine Run.splitB (fun hc74 => ?_) (fun hc74 => ?_) | skip)
        all_goals (first | refine Zm ?_)
        all_goals (first | refine Zv ?_ | refine Zf fo_53_1 ?_)
        all_goals (first | refine Zv ?_ | refine Zl 0 ag_3 ?_)
        all_goals (first | refine Zv ?_ | refine Zi ?_)
        all_goals (first | refine Zq ?_)
        all_goals (first | refine Zm ?_)
        all_goals (refine Run.nil ?_)
        all_goals refine thn_next ⟨⟨?_, trivial⟩, ent.none _⟩
        all_goals simp [Env.get]
        all_goals omega
      refine WP.ret ?_; refine blk_ret ?_; refine thn_ret ?_
      exact retT [6] _ rfl rfl ⟨_, ent.none _, by rw [eI, if_pos h28]; rfl, rfl⟩
    · refine WP.skip ?_; refine blk_norm ?_
      refine thn_next ⟨(), ?_, Ko.go, ent.gc⟩
      rw [eI, if_neg h28]; simp [h1]
  intro _ hT
  refine Zp ?_
  refine Zf fo_53_1 ?_
  refine Zl 0 ag_3 ?_
  refine Zi ?_
  refine Zm ?_
  refine Ze ?_
  refine WP.ret ?_
  exact retT [6] _ rfl rfl ⟨_, ent.none _, by rw [hT]; rfl, rfl⟩
set_option maxHeartbeats 4000000 in
theorem chkTerm_ok (hR : Heap) (F : AF) (su sv : SV) (t : AT) (v : SV) (hb : SlR rdAB hR sv.val F.blocks) (hv : SlR rdI hR v.val t.to) (hl1 : F.blocks.length ≤ 1000000) (hl2 : t.to.length ≤ 1000000) :
    Tri Tryz.prog hR 94 #[.agg ⟨afv F su.val sv.val⟩, .agg ⟨atv t v.val⟩] [] fun r Γ' => r = .bool (termB F t) ∧ Γ' = [] := by
  refine Tri.ent (Tri.of (args := [.agg ⟨afv F su.val sv.val⟩, .agg ⟨atv t v.val⟩]) Tryz.func94 rfl Tryz.ntmps94 (by simp) ?_)
  refine Zp ?_
  refine Run.box rfl rfl rfl rfl rfl ?_
  intro b2
  refine Run.box rfl rfl rfl rfl rfl ?_
  intro b3
  refine Zm ?_
  refine Ze ?_
  refine Zp ?_
  refine Zf fo_56_1 ?_
  refine Run.loadBagg 1 rfl rfl ag_46 rfl rfl rfl rfl rfl ?_
  refine Run.build rfl bd_46 rfl rfl rfl rfl ?_
  refine Run.eqS rfl rfl rfl is_46 nf_46 rfl rfl rfl rfl ?_
  refine Run.eqv (v' := .bool (noneB t.value)) (by rw [← noneB_eq]) ?_
  refine Zm ?_
  refine Ze ?_
  refine WP.seq ?_
  refine WP.seqCut [(2, .pointer (some ⟨b2, 0, none⟩)), (3, .pointer (some ⟨b3, 0, none⟩)), (4, .bool false), (5, .bool (noneB t.value)), (20, .bool (decide ((noneB t.value || placeB F t.value) = false)))] [blk b2 (afv F su.val sv.val) 51, blk b3 (atv t v.val) 56] ?_ ?_
  · cases hn : noneB t.value
    · refine Zc ?_
      all_goals (first | refine Zm ?_)
      all_goals (first | refine Run.bnotB rfl rfl rfl rfl ?_)
      all_goals (first | refine Zm ?_)
      all_goals (first | refine Zv ?_ | refine Run.loadBagg 0 rfl rfl ag_51 rfl rfl rfl rfl rfl ?_)
      all_goals (first | refine Zv ?_ | refine Zf fo_56_1 ?_)
      all_goals (first | refine Zv ?_ | refine Run.loadBagg 1 rfl rfl ag_46 rfl rfl rfl rfl rfl ?_)
      all_goals (first | refine Zv ?_ | refine Run.callP [] ok_91 (isPlace_ok hR F su sv t.value) ?_; rintro _ _ ⟨rfl, rfl⟩)
      all_goals (first | refine Zv ?_ | refine Run.bnotB rfl rfl rfl rfl ?_)
      all_goals (first | refine Zq ?_)
      all_goals (refine Run.nil ?_)
      all_goals refine thn_next ⟨⟨rfl, rfl, rfl, rfl, ?_, trivial⟩, ent.go⟩
      all_goals simp [Env.get, *]
    · refine Zc ?_
      all_goals (first | refine Zm ?_)
      all_goals (first | refine Run.bnotB rfl rfl rfl rfl ?_)
      all_goals (first | refine Zm ?_)
      all_goals (first | refine Zv ?_ | refine Run.loadOagg 0 _ rfl rfl ag_51 rfl rfl rfl rfl rfl (by assumption) ?_ | refine Run.loadBagg 0 rfl rfl ag_51 rfl rfl rfl rfl rfl ?_ | refine Run.loadOagg 1 _ rfl rfl ag_51 rfl rfl rfl rfl rfl (by assumption) ?_ | refine Run.loadBagg 1 rfl rfl ag_51 rfl rfl rfl rfl rfl ?_ | refine Run.loadOagg 2 _ rfl rfl ag_51 rfl rfl rfl rfl rfl (by assumption) ?_ | refine Run.loadBagg 2 rfl rfl ag_51 rfl rfl rfl rfl rfl ?_ | refine Run.loadOagg 3 _ rfl rfl ag_51 rfl rfl rfl rfl rfl (by assumption) ?_ | refine Run.loadBagg 3 rfl rfl ag_51 rfl rfl rfl rfl rfl ?_ | refine Run.loadOagg 4 _ rfl rfl ag_51 rfl rfl rfl rfl rfl (by assumption) ?_ | refine Run.loadBagg 4 rfl rfl ag_51 rfl rfl rfl rfl rfl ?_ | refine Run.loadOagg 5 _ rfl rfl ag_51 rfl rfl rfl rfl rfl (by assumption) ?_ | refine Run.loadBagg 5 rfl rfl ag_51 rfl rfl rfl rfl rfl ?_ | refine Run.loadRagg rfl rfl ag_51 rfl rfl (by first | assumption | exact SlR.row (by assumption) (by assumption)) (by rfl) ?_)
      all_goals (first | refine Zv ?_ | refine Zf fo_56_1 ?_)
      all_goals (first | refine Zv ?_ | refine Run.loadOagg 0 _ rfl rfl ag_46 rfl rfl rfl rfl rfl (by assumption) ?_ | refine Run.loadBagg 0 rfl rfl ag_46 rfl rfl rfl rfl rfl ?_ | refine Run.loadOagg 1 _ rfl rfl ag_46 rfl rfl rfl rfl rfl (by assumption) ?_ | refine Run.loadBagg 1 rfl rfl ag_46 rfl rfl rfl rfl rfl ?_ | refine Run.loadOagg 2 _ rfl rfl ag_46 rfl rfl rfl rfl rfl (by assumption) ?_ | refine Run.loadBagg 2 rfl rfl ag_46 rfl rfl rfl rfl rfl ?_ | refine Run.loadOagg 3 _ rfl rfl ag_46 rfl rfl rfl rfl rfl (by assumption) ?_ | refine Run.loadBagg 3 rfl rfl ag_46 rfl rfl rfl rfl rfl ?_ | refine Run.loadOagg 4 _ rfl rfl ag_46 rfl rfl rfl rfl rfl (by assumption) ?_ | refine Run.loadBagg 4 rfl rfl ag_46 rfl rfl rfl rfl rfl ?_ | refine Run.loadOagg 5 _ rfl rfl ag_46 rfl rfl rfl rfl rfl (by assumption) ?_ | refine Run.loadBagg 5 rfl rfl ag_46 rfl rfl rfl rfl rfl ?_ | refine Run.loadRagg rfl rfl ag_46 rfl rfl (by first | assumption | exact SlR.row (by assumption) (by assumption)) (by rfl) ?_)
      all_goals (first | refine Zv ?_ | fail)
      all_goals (first | refine Zv ?_ | refine Run.bnot rfl rfl rfl rfl ?_ | refine Run.bnotB rfl rfl rfl rfl ?_ | refine Run.neg rfl rfl rfl rfl ?_)
      all_goals (first | refine Zq ?_)
      all_goals (refine Run.nil ?_)
      all_goals refine thn_next ⟨⟨rfl, rfl, rfl, rfl, ?_, trivial⟩, ent.go⟩
      all_goals simp [Env.get]
  refine WP.ite rfl (fun hbad => ?_) (fun hgood => ?_)
  · refine Zp ?_
    refine Zm ?_
    refine Ze ?_
    refine WP.ret ?_; refine thn_ret ?_
    refine retT [4] _ rfl rfl ⟨_, ent.none _, ?_, rfl⟩
    unfold termB; rw [hbad]; rfl
  refine Zb ?_
  have hP : (noneB t.value || placeB F t.value) = true := btrue hgood
  refine WP.meetC (α := Unit) (fun _ => t.to.all (fun b => decide (0 ≤ b ∧ b < F.blocks.length)) = true) (fun _ => []) (fun _ => []) ?_ ?_
  · refine Zp ?_
    refine Zf fo_56_2 ?_
    refine Zl 1 ag_44 ?_
    refine Zh sl_44 hv ?_
    refine Zm ?_
    refine Ze ?_
    refine WP.block ?_
    refine WP.trim [2, 3, 4, 5, 20, 22, 23, 24] [0, 1] ?_
    refine WP.loopC (α := Nat) (fun i => i ≤ t.to.length ∧ ∀ (j : Nat) (r : Int), j < i → t.to[j]? = some r → 0 ≤ r ∧ r < (F.blocks.length : Int)) (fun i => [(24, .int .i64 (i : Int))]) (fun _ => []) (fun i => t.to.length - i) 0 ⟨Nat.zero_le _, fun j r h => by omega⟩ ?_
    rintro i ⟨hi, hok⟩
    refine WP.trim [2, 3, 4, 5, 20, 22, 23, 24] [0, 1] ?_
    refine Zp ?_
    refine Zi ?_
    refine Ze ?_
    refine WP.seq ?_
    refine WP.ite rfl (fun hlt => ?_) (fun hge => ?_)
    · refine Zb ?_
      obtain ⟨r, gr⟩ : ∃ y, t.to[(i : Int).toNat]? = some y := ⟨_, List.getElem?_eq_getElem (by omega)⟩
      have gr' : t.to[i]? = some r := gr
      refine WP.seq ?_
      refine WP.block ?_
      refine Zp ?_
      refine Zx sl_44 hv ?_
      refine Zr ag_3 (SlR.cell0 hv gr rfl) ?_
      refine Zm ?_
      refine Ze ?_
      refine WP.seqCut [(2, .pointer (some ⟨b2, 0, none⟩)), (3, .pointer (some ⟨b3, 0, none⟩)), (4, .bool false), (5, .bool (noneB t.value)), (20, .bool (decide ((noneB t.value || placeB F t.value) = false))), (22, v.val), (23, .int .i64 (t.to.length : Int)), (24, .int .i64 (i : Int)), (36, .bool (decide (¬ (0 ≤ r ∧ r < (F.blocks.length : Int)))))] [blk b2 (afv F su.val sv.val) 51, blk b3 (atv t v.val) 56] ?_ ?_
      · refine Zc ?_
        all_goals (first | refine Zm ?_)
        all_goals (first | refine Zi ?_)
        all_goals (first | refine Run.tt (by first | assumption | omega) ?_ | refine Run.ff (by first | assumption | omega) ?_ | refine Run.split (fun hc29 => ?_) (fun hc29 => ?_) | refine Run.splitB (fun hc29 => ?_) (fun hc29 => ?_) | skip)
        all_goals (first | refine Zm ?_)
        all_goals (first | refine Zv ?_ | refine Zm ?_)
        all_goals (first | refine Zv ?_ | refine Zf fo_51_4 ?_)
        all_goals (first | refine Zv ?_ | refine Zl 0 ag_49 ?_)
        all_goals (first | refine Zv ?_ | refine Zh sl_49 hb ?_)
        all_goals (first | refine Zv ?_ | refine Zi ?_)
        all_goals (first | refine Zq ?_)
        all_goals (refine Run.nil ?_)
        all_goals refine thn_next ⟨⟨rfl, rfl, rfl, rfl, rfl, rfl, rfl, rfl, ?_, trivial⟩, ent.go⟩
        all_goals simp [Env.get]
        all_goals omega
      refine WP.ite rfl (fun hbad => ?_) (fun hg => ?_)
      · refine Zp ?_
        refine Zm ?_
        refine Ze ?_
        refine WP.ret ?_; refine blk_ret ?_; refine thn_ret ?_; refine thn_ret ?_; refine blk_ret ?_; refine thn_ret ?_
        refine retT [4] _ rfl rfl ⟨_, ent.none _, ?_, rfl⟩
        unfold termB; rw [hP, all_not gr' (decide_eq_false hbad)]; rfl
      · refine WP.skip ?_; refine blk_norm ?_; refine thn_next ?_
        refine Zc ?_
        refine Za ?_
        refine Zm ?_
        refine Run.nil ?_
        refine thn_next ⟨i + 1, ⟨by omega, fun j z hj hz => ?_⟩, by omega, Ko.go, ent.gc⟩
        by_cases e : j = i
        · subst e; rw [gr'] at hz; cases hz; exact Decidable.not_not.1 hg
        · exact hok j z (by omega) hz
    · refine Zj ?_
      exact thn_next ⟨(), all_of fun j r hj hr => decide_eq_true (hok j r (by omega) hr), Ko.go, ent.gc⟩
  intro _ hall
  have eT : termB F t = (if t.kind = 1 then noneB t.value && decide (t.to.length = 1)
      else if t.kind = 2 then !noneB t.value && decide (t.to.length = 2)
      else if t.kind = 3 then (noneB t.value == decide (F.result = 0)) && t.to.isEmpty
      else if t.kind = 4 then !noneB t.value && t.to.isEmpty else false) := by unfold termB; rw [hP, hall]; rfl
  have hte : t.to.isEmpty = decide (t.to.length = 0) := by cases t.to <;> simp
  rw [hte] at eT
  refine WP.trim [2, 3, 4, 5] [0, 1] ?_
  refine WP.meetC (α := Unit) (fun _ => termB F t = false) (fun _ => []) (fun _ => []) ?_ ?_
  · refine Zp ?_
    refine Zf fo_56_0 ?_
    refine Zl 1 ag_3 ?_
    refine Ze ?_
    refine WP.block ?_
    refine Zp ?_
    refine Zi ?_
    refine Zm ?_
    refine Ze ?_
    refine WP.ite rfl (fun h1 => ?_) (fun h1 => ?_)
    · refine WP.seqCut [(4, .bool (termB F t))] [] ?_ ?_
      · rw [eT, if_pos h1]
        cases hn : noneB t.value
        all_goals
          refine Zc ?_
          all_goals (first | refine Zm ?_)
          all_goals (first | refine Zm ?_)
          all_goals (first | refine Zv ?_ | refine Zf fo_56_2 ?_)
          all_goals (first | refine Zv ?_ | refine Zl 1 ag_44 ?_)
          all_goals (first | refine Zv ?_ | refine Zh sl_44 hv ?_)
          all_goals (first | refine Zv ?_ | refine Zi ?_)
          all_goals (first | refine Zq ?_)
          all_goals (first | refine Zm ?_)
          all_goals (refine Run.nil ?_)
          all_goals refine thn_next ⟨⟨?_, trivial⟩, ent.none _⟩
          all_goals simp [Env.get]
          all_goals omega
      refine WP.ret ?_; refine blk_ret ?_; refine thn_ret ?_
      exact retT [4] _ rfl rfl ⟨_, ent.none _, rfl, rfl⟩
    refine Zp ?_
    refine Zi ?_
    refine Zm ?_
    refine Ze ?_
    refine WP.ite rfl (fun h2 => ?_) (fun h2 => ?_)
    · refine WP.seqCut [(4, .bool (termB F t))] [] ?_ ?_
      · rw [eT, if_neg h1, if_pos h2]
        cases hn : noneB t.value
        all_goals
          refine Zc ?_
          all_goals (first | refine Zm ?_)
          all_goals (first | refine Run.bnotB rfl rfl rfl rfl ?_)
          all_goals (first | refine Zm ?_)
          all_goals (first | refine Zv ?_ | refine Zf fo_56_2 ?_)
          all_goals (first | refine Zv ?_ | refine Zl 1 ag_44 ?_)
          all_goals (first | refine Zv ?_ | refine Zh sl_44 hv ?_)
          all_goals (first | refine Zv ?_ | refine Zi ?_)
          all_goals (first | refine Zq ?_)
          all_goals (first | refine Zm ?_)
          all_goals (refine Run.nil ?_)
          all_goals refine thn_next ⟨⟨?_, trivial⟩, ent.none _⟩
          all_goals simp [Env.get]
          all_goals omega
      refine WP.ret ?_; refine blk_ret ?_; refine thn_ret ?_
      exact retT [4] _ rfl rfl ⟨_, ent.none _, rfl, rfl⟩
    refine Zp ?_
    refine Zi ?_
    refine Zm ?_
    refine Ze ?_
    refine WP.ite rfl (fun h3 => ?_) (fun h3 => ?_)
    · refine WP.seqCut [(4, .bool (termB F t))] [] ?_ ?_
      · rw [eT, if_neg h1, if_neg h2, if_pos h3]
        cases hn : noneB t.value
        all_goals
          refine Zc ?_
          all_goals (first | refine Zm ?_)
          all_goals (first | refine Zf fo_51_2 ?_)
          all_goals (first | refine Zl 0 ag_3 ?_)
          all_goals (first | refine Zi ?_)
          all_goals (first | refine Run.eqB rfl rfl rfl ub_4 rfl rfl ?_)
          all_goals (first | refine Run.tt (by first | assumption | omega) ?_ | refine Run.ff (by first | assumption | omega) ?_ | refine Run.split (fun hc65 => ?_) (fun hc65 => ?_) | refine Run.splitB (fun hc65 => ?_) (fun hc65 => ?_) | skip)
          all_goals (first | refine Zm ?_)
          all_goals (first | refine Zv ?_ | refine Zf fo_56_2 ?_)
          all_goals (first | refine Zv ?_ | refine Zl 1 ag_44 ?_)
          all_goals (first | refine Zv ?_ | refine Zh sl_44 hv ?_)
          all_goals (first | refine Zv ?_ | refine Zi ?_)
          all_goals (first | refine Zq ?_)
          all_goals (first | refine Zm ?_)
          all_goals (refine Run.nil ?_)
          all_goals refine thn_next ⟨⟨?_, trivial⟩, ent.none _⟩
          all_goals simp [Env.get] at *
          all_goals (first | omega | simp [*])
      refine WP.ret ?_; refine blk_ret ?_; refine thn_ret ?_
      exact retT [4] _ rfl rfl ⟨_, ent.none _, rfl, rfl⟩
    refine Zp ?_
    refine Zi ?_
    refine Zm ?_
    refine Ze ?_
    refine WP.ite rfl (fun h4 => ?_) (fun h4 => ?_)
    · refine WP.seqCut [(4, .bool (termB F t))] [] ?_ ?_
      · rw [eT, if_neg h1, if_neg h2, if_neg h3, if_pos h4]
        cases hn : noneB t.value
        all_goals
          refine Zc ?_
          all_goals (first | refine Zm ?_)
          all_goals (first | refine Run.bnotB rfl rfl rfl rfl ?_)
          all_goals (first | refine Zm ?_)
          all_goals (first | refine Zv ?_ | refine Zf fo_56_2 ?_)
          all_goals (first | refine Zv ?_ | refine Zl 1 ag_44 ?_)
          all_goals (first | refine Zv ?_ | refine Zh sl_44 hv ?_)
          all_goals (first | refine Zv ?_ | refine Zi ?_)
          all_goals (first | refine Zq ?_)
          all_goals (first | refine Zm ?_)
          all_goals (refine Run.nil ?_)
          all_goals refine thn_next ⟨⟨?_, trivial⟩, ent.none _⟩
          all_goals simp [Env.get]
          all_goals omega
      refine WP.ret ?_; refine blk_ret ?_; refine thn_ret ?_
      exact retT [4] _ rfl rfl ⟨_, ent.none _, rfl, rfl⟩
    refine WP.skip ?_; refine blk_norm ?_
    refine thn_next ⟨(), ?_, Ko.go, ent.gc⟩
    rw [eT, if_neg h1, if_neg h2, if_neg h3, if_neg h4]
  intro _ hF
  refine Zp ?_
  refine Zm ?_
  refine Ze ?_
  refine WP.ret ?_
  exact retT [4] _ rfl rfl ⟨_, ent.none _, by rw [hF]; rfl, rfl⟩
end Go.Proofs.YtfaokbjpinlcaaaGreat
end
