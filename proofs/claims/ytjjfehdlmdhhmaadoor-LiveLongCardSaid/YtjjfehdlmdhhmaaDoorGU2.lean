/- A chain of blocks: what is live, and its interval; plain. -/
import Derived.Test.YtjjfehdlmdhhmaaDoorGU1
section
/- A chain of blocks: what is live, and its interval; plain. -/
namespace Go.Proofs.YtjjfehdlmdhhmaaDoor
open Go.Sep
set_option linter.unusedSimpArgs false
set_option linter.unusedVariables false

def longB (n i : Nat) : LBlk := ⟨if i = 0 then [⟨1, 0, 0, []⟩] else [], if i + 1 = n then 4 else 1, if i + 1 = n then 0 else -1, if i + 1 = n then [] else [((i + 1 : Nat) : Int)]⟩
def longF (n : Nat) : LFun := ⟨⟨#[102]⟩, [], 1, 0, (List.range n).map (longB n)⟩
theorem long_len (n : Nat) : (longF n).blocks.length = n := by simp [longF]
theorem long_blk {n i : Nat} {b : LBlk} (h : (longF n).blocks[i]? = some b) : i < n ∧ b = longB n i := by
  have hlt := (List.getElem?_eq_some_iff.1 h).1
  rw [long_len] at hlt
  refine ⟨hlt, ?_⟩
  simp only [longF, List.getElem?_map, List.getElem?_range hlt, Option.map_some, Option.some.injEq] at h
  exact h.symm
theorem long_get {n i : Nat} (h : i < n) : (longF n).blocks[i]? = some (longB n i) := by
  simp only [longF, List.getElem?_map, List.getElem?_range h, Option.map_some]
theorem long_form {n : Nat} (h2 : 2 ≤ n) : formB (longF n) = true := by
  unfold formB headB
  have hl := long_len n
  have h1 : (longF n).regs = 1 := rfl
  have h3 : (longF n).params = [] := rfl
  have h4 : (longF n).res = 0 := rfl
  rw [h1, h3, h4, hl]
  simp only [Bool.and_eq_true, List.all_nil, true_and]
  refine ⟨⟨by simp; omega, by simp⟩, ?_⟩
  rw [List.all_eq_true]
  intro b hb
  obtain ⟨i, hi⟩ := List.getElem?_of_mem hb
  obtain ⟨hin, rfl⟩ := long_blk hi
  unfold blkB
  rw [Bool.and_eq_true]
  refine ⟨?_, ?_⟩
  · unfold longB
    simp only
    split
    · simp [insB, insR, regB, longF]
    · simp
  · unfold longB termB termR wayB regB
    simp only [hl]
    by_cases e : i + 1 = n
    · simp [e, h1]
    · simp [e]; omega
theorem long_small {n : Nat} (h : n ≤ 2000) : SmallF (longF n) := by
  refine ⟨fun b hb => ?_, fun b hb => ?_, fun b hb x hx => ?_⟩ <;> obtain ⟨i, hi⟩ := List.getElem?_of_mem hb <;> obtain ⟨hin, rfl⟩ := long_blk hi
  · unfold longB; simp only; split <;> simp
  · unfold longB; simp only; split <;> simp
  · unfold longB at hx; simp only at hx
    split at hx
    · simp at hx; subst hx; simp
    · cases hx

theorem long_live {n : Nat} (h2 : 2 ≤ n) : (∀ i, LiveIn (longF n) 0 i ↔ 1 ≤ i ∧ i < n) ∧ ∀ i, LiveOut (longF n) 0 i ↔ i + 1 < n := by
  have h1 : ∀ (i : Nat) (b : LBlk) (c : Int), (longF n).blocks[i]? = some b → c ∈ b.to → 1 ≤ c.toNat ∧ c.toNat < n → i + 1 < n := by
    intro i b c hb hc _
    obtain ⟨hin, rfl⟩ := long_blk hb
    unfold longB at hc
    simp only at hc
    split at hc
    · cases hc
    · omega
  have h3 : ∀ (i : Nat) (b : LBlk) (q : Bool), (longF n).blocks[i]? = some b → (q = true → i + 1 < n) → needB 0 b.body (decide (b.value = 0) || q) = true → 1 ≤ i ∧ i < n := by
    intro i b q hb hq hn
    obtain ⟨hin, rfl⟩ := long_blk hb
    refine ⟨?_, hin⟩
    rcases Nat.eq_zero_or_pos i with e | e
    · subst e; simp [longB, needB] at hn
    · exact e
  have hin : ∀ m i : Nat, i + m + 1 = n → 1 ≤ i → LiveIn (longF n) 0 i := by
    intro m
    induction m with
    | zero =>
      intro i hi h1
      refine .here (long_get (by omega)) ?_
      have e : i + 1 = n := by omega
      have e0 : i ≠ 0 := by omega
      simp [longB, e, e0, needB]
    | succ m ih =>
      intro i hi h1
      have e : i + 1 ≠ n := by omega
      have e0 : i ≠ 0 := by omega
      refine .on (c := ((i + 1 : Nat) : Int)) (long_get (by omega)) ?_ ?_ ?_
      · simp [longB, e]
      · simp [longB, e0, needB]
      · rw [Int.toNat_natCast]; exact ih (i + 1) (by omega) (by omega)
  refine ⟨fun i => ⟨live_sub (A := fun i => 1 ≤ i ∧ i < n) (B := fun i => i + 1 < n) h1 h3 i, fun h => hin (n - 1 - i) i (by omega) h.1⟩, fun i => ⟨liveOut_sub (A := fun i => 1 ≤ i ∧ i < n) (B := fun i => i + 1 < n) h1 h3 i, fun h => ?_⟩⟩
  have e : i + 1 ≠ n := by omega
  refine ⟨longB n i, ((i + 1 : Nat) : Int), long_get (by omega), by simp [longB, e], ?_⟩
  rw [Int.toNat_natCast]; exact hin (n - 1 - (i + 1)) (i + 1) (by omega) (by omega)
theorem long_list {n : Nat} {p : Int → Prop} : (p 0 → listOf (longF n) p = [0]) ∧ (¬ p 0 → listOf (longF n) p = []) := by
  have h1 : (longF n).regs = 1 := rfl
  refine ⟨fun h => (listOf_uniq (by simp) fun r => ?_).symm, fun h => (listOf_uniq (by simp) fun r => ?_).symm⟩
  · rw [h1]
    constructor
    · intro hr; simp at hr; subst hr; exact ⟨by omega, by omega, h⟩
    · rintro ⟨r0, r1, _⟩; simp; omega
  · rw [h1]
    constructor
    · intro hr; cases hr
    · rintro ⟨r0, r1, hp⟩
      have : r = 0 := by omega
      subst this; exact absurd hp h
theorem long_ahead {n i : Nat} (h2 : 2 ≤ n) (hi : i < n) : aheadOf (longF n) i = if i = 0 then [] else [0] := by
  split
  · exact long_list.2 fun h => by have := (long_live h2).1 i |>.1 h; omega
  · exact long_list.1 ((long_live h2).1 i |>.2 ⟨by omega, hi⟩)
theorem long_behind {n i : Nat} (h2 : 2 ≤ n) : behindOf (longF n) i = if i + 1 < n then [0] else [] := by
  split
  · rename_i h; exact long_list.1 ((long_live h2).2 i |>.2 h)
  · rename_i h; exact long_list.2 fun h3 => h ((long_live h2).2 i |>.1 h3)

def fromI (i m : Nat) : List Int := (List.range' i m).map fun j : Nat => (j : Int)
theorem fromI_succ (i m : Nat) : fromI i (m + 1) = (i : Int) :: fromI (i + 1) m := rfl
theorem meetI_03 {t p : Int} (h : 3 ≤ p) : meetI ⟨0, 3, t⟩ 0 p = ⟨0, 3, max t p⟩ := by
  unfold meetI; rw [if_neg (by simp)]; congr 1; simp only; omega
theorem meetS_one (x : Iv) (p : Int) : meetS [x] 0 p = [meetI x 0 p] := rfl
theorem long_spans_tail {n : Nat} (h2 : 2 ≤ n) : ∀ m i : Nat, i + m + 1 = n → 1 ≤ i → lineS (longF n) ((i : Int) + 1) [⟨0, 3, 2 * (i : Int) + 3⟩] (fromI i (m + 1)) = [⟨0, 3, 2 * (n : Int) + 2⟩] := by
  intro m
  induction m with
  | zero =>
    intro i hi h1
    have hin : i < n := by omega
    have e : i + 1 = n := by omega
    have e0 : i ≠ 0 := by omega
    rw [fromI_succ, lineS, Int.toNat_natCast, long_get hin]
    simp only
    rw [long_ahead h2 hin, long_behind h2, if_neg e0, if_neg (by omega)]
    have eb : longB n i = ⟨[], 4, 0, []⟩ := by simp [longB, e0, e]
    rw [eb]
    show lineS _ _ (meetsS (termS (bodyS _ (meetsS [_] _ [0]) []) 0 _) _ []) [] = _
    rw [lineS]
    simp only [meetsS, List.foldl_cons, List.foldl_nil, bodyS, termS, meetS_one, List.length_nil, Int.le_refl, if_true]
    rw [meetI_03 (by omega), meetI_03 (by simp; omega)]
    congr 2
    simp; omega
  | succ m ih =>
    intro i hi h1
    have hin : i < n := by omega
    have e : i + 1 ≠ n := by omega
    have e0 : i ≠ 0 := by omega
    rw [fromI_succ, lineS, Int.toNat_natCast, long_get hin]
    simp only
    rw [long_ahead h2 hin, long_behind h2, if_neg e0, if_pos (by omega)]
    have eb : longB n i = ⟨[], 1, -1, [((i + 1 : Nat) : Int)]⟩ := by simp [longB, e0, e]
    rw [eb]
    have hx : blockS [0] [0] ⟨[], 1, -1, [((i + 1 : Nat) : Int)]⟩ ((i : Int) + 1) [⟨0, 3, 2 * (i : Int) + 3⟩] = [⟨0, 3, 2 * ((i + 1 : Nat) : Int) + 3⟩] := by
      unfold blockS
      simp only [meetsS, List.foldl_cons, List.foldl_nil, bodyS, termS, meetS_one, List.length_nil]
      rw [if_neg (by decide), meetS_one, meetI_03 (by omega), meetI_03 (by simp; omega)]
      congr 2
      simp; omega
    rw [hx]
    have hk : (i : Int) + 1 + (((⟨[], 1, -1, [((i + 1 : Nat) : Int)]⟩ : LBlk).body.length : Int) + 1) = ((i + 1 : Nat) : Int) + 1 := by simp <;> omega
    rw [hk]
    exact ih (i + 1) (by omega) (by omega)
theorem long_spans {n : Nat} (h2 : 2 ≤ n) : (spansF (longF n) (fromI 0 n)).filter keepB = [⟨0, 3, 2 * (n : Int) + 2⟩] := by
  obtain ⟨m, rfl⟩ : ∃ m, n = m + 2 := ⟨n - 2, by omega⟩
  have e : spansF (longF (m + 2)) (fromI 0 (m + 2)) = lineS (longF (m + 2)) 0 [⟨-1, 0, 0⟩] (fromI 0 (m + 2)) := rfl
  have h0 : (longF (m + 2)).blocks[((0 : Nat) : Int).toNat]? = some (longB (m + 2) 0) := long_get (by omega)
  rw [e, fromI_succ, lineS, h0]
  simp only
  rw [show ((0 : Nat) : Int).toNat = 0 from rfl, long_ahead h2 (by omega), long_behind h2, if_pos rfl, if_pos (by omega)]
  have eb : longB (m + 2) 0 = ⟨[⟨1, 0, 0, []⟩], 1, -1, [1]⟩ := by simp [longB]
  rw [eb]
  have hx : blockS [] [0] ⟨[⟨1, 0, 0, []⟩], 1, -1, [1]⟩ 0 [⟨-1, 0, 0⟩] = [⟨0, 3, 2 * ((1 : Nat) : Int) + 3⟩] := by decide
  rw [hx]
  have := long_spans_tail h2 m 1 (by omega) (by omega)
  have hk : (0 : Int) + (((⟨[⟨1, 0, 0, []⟩], 1, -1, [1]⟩ : LBlk).body.length : Int) + 1) = ((1 : Nat) : Int) + 1 := by decide
  rw [hk]
  rw [this]
  simp [keepB]
theorem fromI_get {i m j : Nat} (h : j < m) : (fromI i m)[j]? = some ((i + j : Nat) : Int) := by
  unfold fromI
  rw [List.getElem?_map, List.getElem?_range' h]; simp
theorem fromI_len (i m : Nat) : (fromI i m).length = m := by simp [fromI]
theorem fromI_sorted (i m : Nat) : (fromI i m).Pairwise (· < ·) := by
  unfold fromI
  rw [List.pairwise_map]
  exact List.Pairwise.imp (fun h => by omega) (List.pairwise_lt_range' (s := i) (n := m) (step := 1))
theorem long_line {n : Nat} (h2 : 2 ≤ n) : lineB (fromI 0 n) n = true := by
  have hs : sortI (fromI 0 n) = fromI 0 n := List.mergeSort_of_pairwise ((fromI_sorted 0 n).imp fun h => by simp; omega)
  have hc : (Lib.compact (fromI 0 n)).length = n := by
    unfold Lib.compact
    rw [Lib.compactUpTo_all]
    · simp [fromI_len]
    · intro j hj
      rw [fromI_len] at hj
      rcases Nat.eq_zero_or_pos j with e | e
      · subst e; exact Lib.keeps_lt_one _ 0 (by omega)
      · refine Lib.keeps_pos ?_
        have g1 : (fromI 0 n).toArray[j]! = (j : Int) := by
          have := fromI_get (i := 0) hj
          rw [getElem!_pos _ j (by simp [fromI_len]; omega)]
          obtain ⟨a, b⟩ := List.getElem?_eq_some_iff.1 this
          simp [b]
        have g2 : (fromI 0 n).toArray[j - 1]! = ((j - 1 : Nat) : Int) := by
          have := fromI_get (i := 0) (show j - 1 < n by omega)
          rw [getElem!_pos _ (j - 1) (by simp [fromI_len]; omega)]
          obtain ⟨a, b⟩ := List.getElem?_eq_some_iff.1 this
          simp [b]
        rw [g1, g2]; omega
  unfold lineB
  rw [hs, hc, fromI_len, fromI_get (by omega), fromI_get (by omega)]
  simp; omega
end Go.Proofs.YtjjfehdlmdhhmaaDoor
end

section
/- A chain of blocks: the law is walked. -/
namespace Go.Proofs.YtjjfehdlmdhhmaaDoor
open Go.Sep
set_option linter.unusedSimpArgs false
set_option linter.unusedVariables false
attribute [local irreducible] blk slA mp mpF rows rowsBut many

theorem fromI_snoc (n : Nat) : fromI 0 n ++ [(n : Int)] = fromI 0 (n + 1) := by
  unfold fromI
  rw [← List.range_eq_range', ← List.range_eq_range', List.range_succ, List.map_append]; rfl
/-- the blocks' raw form, at the end -/
def longR (n : Nat) (bb : SV) (p : List (SV × List Int)) : List RBlk := ((p.map fun q => ((nilS, 1, -1, q.1) : RBlk)).set 0 (bb, 1, -1, (p.map Prod.fst).headD nilS)).set (n - 1) (nilS, 4, 0, nilS)
theorem long_read {h : Heap} {n : Nat} {bv bb : SV} {p : List (SV × List Int)} (h2 : 2 ≤ n) (H : SlR encBlk.rd h bv.val (longR n bb p)) (hp : p.map Prod.snd = (List.range n).map fun i => [((i + 1 : Nat) : Int)]) (hr : ∀ (i : Nat) (u : SV) (x : List Int), p[i]? = some (u, x) → SlR rdI h u.val x) (hb : SlR encIns.rd h bb.val [((1, 0, 0, nilS) : RIns)]) :
    SlR rdBlk h bv.val (longF n).blocks := by
  have hpl : p.length = n := by have := congrArg List.length hp; simpa using this
  refine blk_read H (by rw [long_len]; simp [longR, hpl]) fun i r x hri hx => ?_
  obtain ⟨hin, rfl⟩ := long_blk hx
  obtain ⟨⟨u, l⟩, gp⟩ : ∃ y, p[i]? = some y := ⟨_, List.getElem?_eq_getElem (by omega)⟩
  have hl : l = [((i + 1 : Nat) : Int)] := by
    have := congrArg (fun q : List (List Int) => q[i]?) hp
    simp only [List.getElem?_map, gp, Option.map_some, List.getElem?_range hin, Option.some.injEq] at this
    exact this
  have hu := hr i u l gp
  have hbody : SlR rdIns h bb.val [⟨1, 0, 0, []⟩] := ins_read hb rfl fun j r x hr hx => by
    match j, hr, hx with
    | 0, hr, hx => simp at hr hx; subst hr hx; exact ⟨rfl, rfl, rfl, nil_read _ _⟩
    | j + 1, hr, hx => simp at hr
  unfold longR at hri
  by_cases e : i + 1 = n
  · have ei : i = n - 1 := by omega
    have ei0 : i ≠ 0 := by omega
    rw [ei, List.getElem?_set_self (by simp; omega)] at hri
    cases hri
    have eb : longB n i = ⟨[], 4, 0, []⟩ := by simp [longB, e, ei0]
    rw [eb]
    exact ⟨nil_read _ _, rfl, rfl, nil_read _ _⟩
  · rw [List.getElem?_set_ne (by omega)] at hri
    by_cases e0 : i = 0
    · subst e0
      rw [List.getElem?_set_self (by simp; omega)] at hri
      cases hri
      have eh : (p.map Prod.fst).headD nilS = u := by cases p with
        | nil => simp at gp
        | cons q p => simp at gp; subst gp; rfl
      have eb : longB n 0 = ⟨[⟨1, 0, 0, []⟩], 1, -1, [((0 + 1 : Nat) : Int)]⟩ := by simp [longB]; omega
      rw [eb]
      refine ⟨hbody, rfl, rfl, ?_⟩
      rw [eh, ← hl]; exact hu
    · rw [List.getElem?_set_ne (fun h => e0 h.symm), List.getElem?_map, gp] at hri
      cases hri
      have eb : longB n i = ⟨[], 1, -1, [((i + 1 : Nat) : Int)]⟩ := by simp [longB, e, e0]
      rw [eb]
      refine ⟨nil_read _ _, rfl, rfl, ?_⟩
      rw [← hl]; exact hu
theorem long_res {n : Nat} (h2 : 2 ≤ n) {x : Value} {Γ : List HProp} (h : LiveRes (longF n) x Γ) : ∃ (o1 o2 : SV) (P Q : List (SV × List Int)), x = .tuple #[o1.val, o2.val, .int .i64 0] ∧ P.map Prod.snd = (List.range n).map (aheadOf (longF n)) ∧ Q.map Prod.snd = (List.range n).map (behindOf (longF n)) ∧ Γ = [slA 22 Enc.slice o1.val (P.map Prod.fst), rows 3 (Enc.int .i64) P, slA 22 Enc.slice o2.val (Q.map Prod.fst), rows 3 (Enc.int .i64) Q] := by
  rcases h with h | ⟨_, o1, o2, P, Q, h1, h2', h3, h4⟩
  · have := h.1; rw [long_form h2] at this; cases this
  · rw [long_len] at h2' h3
    exact ⟨o1, o2, P, Q, h1, h2', h3, h4⟩
theorem long_iv {n : Nat} (h2 : 2 ≤ n) {x : Value} {Γ : List HProp} (h : IvRes (longF n) (fromI 0 n) x Γ) : ∃ ov : SV, x = .tuple #[ov.val, .int .i64 0] ∧ Γ = [slA 62 encIv ov.val [⟨0, 3, 2 * (n : Int) + 2⟩]] := by
  rcases h with h | h | ⟨_, _, sv, ys, h1, h2', _, h4⟩
  · have := h.1; rw [long_form h2] at this; cases this
  · have := h.2.1; rw [long_len, long_line h2] at this; cases this
  · rw [long_spans h2] at h2'
    have e : ys = [⟨0, 3, 2 * (n : Int) + 2⟩] := List.perm_singleton.1 h2'
    subst e
    exact ⟨sv, h1, h4⟩

set_option maxHeartbeats 2000000 in
set_option maxRecDepth 100000 in
theorem long_ok (hR : Heap) (hT : TabH hR) (many : Int) : Tri Tryd.prog hR 7 #[.int .i64 many] [] fun u Γ' => u = .bool true ∧ Γ' = [] := by
  refine Tri.ent (Tri.of (args := [.int .i64 many]) Tryd.func7 rfl Tryd.ntmps7 (by simp) ?_)
  refine WP.seq ?_
  refine WP.plain cf0 rfl ?_
  refine Run.mv rfl rfl rfl rfl ?_
  refine Run.nil ?_
  refine thn_next ?_
  refine WP.seq ?_
  refine WP.plain cf0 rfl ?_
  refine Run.call (Δ := []) (Θ := []) rfl rfl rfl rfl ok_9 rfl rfl (by repeat first | exact ent.none _ | refine ent.at 0 rfl ?_ | refine ent.at 1 rfl ?_ | refine ent.at 2 rfl ?_ | refine ent.at 3 rfl ?_ | refine ent.at 4 rfl ?_ | refine ent.at 5 rfl ?_ | refine ent.at 6 rfl ?_ | refine ent.at 7 rfl ?_ | refine ent.at 8 rfl ?_ | refine ent.at 9 rfl ?_ | refine ent.at 10 rfl ?_ | refine ent.at 11 rfl ?_ | refine ent.at 12 rfl ?_ | refine ent.at 13 rfl ?_ | refine ent.at 14 rfl ?_ | refine ent.at 15 rfl ?_ | refine ent.at 16 rfl ?_ | refine ent.at 17 rfl ?_) (alive_ok hR hT) ?_; rintro _ _ ⟨rfl, rfl⟩
  refine Run.mv rfl rfl rfl rfl ?_
  refine Run.nil ?_
  refine thn_next ?_
  refine WP.meetK (α := Unit) (fun _ => 2 ≤ many ∧ many ≤ 2000) (fun _ => []) (fun _ => []) ?_ ?_
  · refine WP.seq ?_
    by_cases h1 : many < 2
    · refine WP.plain cf0 rfl ?_
      refine Run.mv rfl rfl rfl rfl ?_
      refine Run.int2 rfl rfl rfl rfl rfl rfl ?_
      refine Run.tt h1 ?_
      refine Run.mv rfl rfl rfl rfl ?_
      refine Run.not rfl rfl ?_
      refine Run.not rfl rfl ?_
      refine Run.pick rfl rfl rfl rfl rfl ?_
      refine Run.nil ?_
      refine thn_next ?_
      refine WP.cond (t := true) rfl (fun _ => ?_) (fun h => by cases h)
      refine WP.seq ?_
      refine WP.plain cf0 rfl ?_
      refine Run.mv rfl rfl rfl rfl ?_
      refine Run.mv rfl rfl rfl rfl ?_
      refine Run.nil ?_
      refine thn_next ?_
      refine WP.ret ?_; refine thn_ret ?_
      exact retT [2] _ rfl rfl ⟨[], (by repeat first | exact ent.none _ | refine ent.at 0 rfl ?_ | refine ent.at 1 rfl ?_ | refine ent.at 2 rfl ?_ | refine ent.at 3 rfl ?_ | refine ent.at 4 rfl ?_ | refine ent.at 5 rfl ?_ | refine ent.at 6 rfl ?_ | refine ent.at 7 rfl ?_ | refine ent.at 8 rfl ?_ | refine ent.at 9 rfl ?_ | refine ent.at 10 rfl ?_ | refine ent.at 11 rfl ?_ | refine ent.at 12 rfl ?_ | refine ent.at 13 rfl ?_ | refine ent.at 14 rfl ?_ | refine ent.at 15 rfl ?_ | refine ent.at 16 rfl ?_ | refine ent.at 17 rfl ?_), rfl, rfl⟩
    · refine WP.plain cf0 rfl ?_
      refine Run.mv rfl rfl rfl rfl ?_
      refine Run.int2 rfl rfl rfl rfl rfl rfl ?_
      refine Run.ff h1 ?_
      refine Run.mv rfl rfl rfl rfl ?_
      refine Run.mv rfl rfl rfl rfl ?_
      refine Run.int2 rfl rfl rfl rfl rfl rfl ?_
      refine Run.pick rfl rfl rfl rfl rfl ?_
      refine Run.nil ?_
      refine thn_next ?_
      refine WP.ite rfl (fun h => ?_) (fun h => ?_)
      · refine WP.seq ?_
        refine WP.plain cf0 rfl ?_
        refine Run.mv rfl rfl rfl rfl ?_
        refine Run.mv rfl rfl rfl rfl ?_
        refine Run.nil ?_
        refine thn_next ?_
        refine WP.ret ?_; refine thn_ret ?_
        exact retT [2] _ rfl rfl ⟨[], (by repeat first | exact ent.none _ | refine ent.at 0 rfl ?_ | refine ent.at 1 rfl ?_ | refine ent.at 2 rfl ?_ | refine ent.at 3 rfl ?_ | refine ent.at 4 rfl ?_ | refine ent.at 5 rfl ?_ | refine ent.at 6 rfl ?_ | refine ent.at 7 rfl ?_ | refine ent.at 8 rfl ?_ | refine ent.at 9 rfl ?_ | refine ent.at 10 rfl ?_ | refine ent.at 11 rfl ?_ | refine ent.at 12 rfl ?_ | refine ent.at 13 rfl ?_ | refine ent.at 14 rfl ?_ | refine ent.at 15 rfl ?_ | refine ent.at 16 rfl ?_ | refine ent.at 17 rfl ?_), rfl, rfl⟩
      · refine WP.skip ?_
        exact thn_next ⟨(), ⟨by omega, by omega⟩, ⟨(by repeat first | exact trivial | refine ⟨rfl, ?_⟩), rfl, rfl⟩, (by repeat first | exact ent.none _ | refine ent.at 0 rfl ?_ | refine ent.at 1 rfl ?_ | refine ent.at 2 rfl ?_ | refine ent.at 3 rfl ?_ | refine ent.at 4 rfl ?_ | refine ent.at 5 rfl ?_ | refine ent.at 6 rfl ?_ | refine ent.at 7 rfl ?_ | refine ent.at 8 rfl ?_ | refine ent.at 9 rfl ?_ | refine ent.at 10 rfl ?_ | refine ent.at 11 rfl ?_ | refine ent.at 12 rfl ?_ | refine ent.at 13 rfl ?_ | refine ent.at 14 rfl ?_ | refine ent.at 15 rfl ?_ | refine ent.at 16 rfl ?_ | refine ent.at 17 rfl ?_)⟩
  rintro _ ⟨hm2, hm3⟩
  obtain ⟨n, rfl⟩ : ∃ n : Nat, many = (n : Int) := ⟨many.toNat, by omega⟩
  have h2 : 2 ≤ n := by omega
  have h3 : n ≤ 2000 := by omega
  refine WP.seq ?_
  refine WP.plain cf0 rfl ?_
  refine Run.build rfl bd_25 rfl rfl rfl rfl ?_
  refine Run.alloc rfl zr_25 rfl rfl rfl ?_
  intro b4
  refine Run.storeB 0 rfl rfl rfl rfl ag_25 rfl rfl rfl rfl rfl ?_
  refine Run.nil ?_
  refine thn_next ?_
  refine WP.seq ?_
  refine WP.plain cf0 rfl ?_
  refine Run.mv rfl rfl rfl rfl ?_
  refine Run.nil ?_
  refine thn_next ?_
  refine WP.sup (ρ' := [(3, .bool true), (0, .int .i64 (n : Int)), (4, .pointer (some ⟨b4, 0, none⟩)), (5, .slice none 0 0)]) (Γ' := [blk b4 [.string ⟨#[102]⟩, .slice none 0 0, .int .i64 1, .int .i64 0, nilS.val] 25, slA 56 encBlk nilS.val [], rows 3 (Enc.int .i64) [], slA 3 (Enc.int .i64) nilS.val (fromI 0 0)]) (covers_get ⟨rfl, rfl, rfl, rfl, trivial⟩) ?_ ?_
  · refine ent.trans (Δ := [blk b4 [.string ⟨#[102]⟩, .slice none 0 0, .int .i64 1, .int .i64 0, nilS.val] 25]) (by (try simp only [List.set_cons_zero, List.set_cons_succ, List.cons_append, List.nil_append]); repeat first | exact ent.none _ | refine ent.at 0 rfl ?_ | refine ent.at 1 rfl ?_ | refine ent.at 2 rfl ?_ | refine ent.at 3 rfl ?_ | refine ent.at 4 rfl ?_ | refine ent.at 5 rfl ?_ | refine ent.at 6 rfl ?_ | refine ent.at 7 rfl ?_ | refine ent.at 8 rfl ?_ | refine ent.at 9 rfl ?_ | refine ent.at 10 rfl ?_ | refine ent.at 11 rfl ?_ | refine ent.at 12 rfl ?_ | refine ent.at 13 rfl ?_ | refine ent.at 14 rfl ?_ | refine ent.at 15 rfl ?_ | refine ent.at 16 rfl ?_ | refine ent.at 17 rfl ?_) ?_
    refine (slA_nil 56 encBlk _).trans ((slA_nil 3 (Enc.int .i64) _).trans ?_)
    exact (rows_new (T := 3) (E := Enc.int .i64) _).trans (by repeat first | exact ent.none _ | refine ent.at 0 rfl ?_ | refine ent.at 1 rfl ?_ | refine ent.at 2 rfl ?_ | refine ent.at 3 rfl ?_ | refine ent.at 4 rfl ?_ | refine ent.at 5 rfl ?_ | refine ent.at 6 rfl ?_ | refine ent.at 7 rfl ?_ | refine ent.at 8 rfl ?_ | refine ent.at 9 rfl ?_ | refine ent.at 10 rfl ?_ | refine ent.at 11 rfl ?_ | refine ent.at 12 rfl ?_ | refine ent.at 13 rfl ?_ | refine ent.at 14 rfl ?_ | refine ent.at 15 rfl ?_ | refine ent.at 16 rfl ?_ | refine ent.at 17 rfl ?_)
  refine WP.meetK (α := SV × SV × List (SV × List Int)) (fun z => z.2.2.map Prod.snd = (List.range n).map fun i => [((i + 1 : Nat) : Int)]) (fun z => [(5, z.2.1.val)]) (fun z => [blk b4 [.string ⟨#[102]⟩, .slice none 0 0, .int .i64 1, .int .i64 0, z.1.val] 25, slA 56 encBlk z.1.val (z.2.2.map fun q => ((nilS, 1, -1, q.1) : RBlk)), rows 3 (Enc.int .i64) z.2.2, slA 3 (Enc.int .i64) z.2.1.val (fromI 0 n)]) ?_ ?_
  · refine WP.seq ?_
    refine WP.plain cf0 rfl ?_
    refine Run.mv rfl rfl rfl rfl ?_
    refine Run.nil ?_
    refine thn_next ?_
    refine WP.block ?_
    refine WP.loopK (α := Nat × SV × SV × List (SV × List Int)) (fun z => z.1 ≤ n ∧ z.2.2.2.map Prod.snd = (List.range z.1).map fun i => [((i + 1 : Nat) : Int)]) (fun z => [(5, z.2.2.1.val), (6, .int .i64 (z.1 : Int))]) (fun z => [blk b4 [.string ⟨#[102]⟩, .slice none 0 0, .int .i64 1, .int .i64 0, z.2.1.val] 25, slA 56 encBlk z.2.1.val (z.2.2.2.map fun q => ((nilS, 1, -1, q.1) : RBlk)), rows 3 (Enc.int .i64) z.2.2.2, slA 3 (Enc.int .i64) z.2.2.1.val (fromI 0 z.1)]) (fun z => n - z.1) (0, nilS, nilS, []) ⟨Nat.zero_le _, rfl⟩ ⟨(by repeat first | exact trivial | refine ⟨rfl, ?_⟩), rfl, rfl⟩ (by repeat first | exact ent.none _ | refine ent.at 0 rfl ?_ | refine ent.at 1 rfl ?_ | refine ent.at 2 rfl ?_ | refine ent.at 3 rfl ?_ | refine ent.at 4 rfl ?_ | refine ent.at 5 rfl ?_ | refine ent.at 6 rfl ?_ | refine ent.at 7 rfl ?_ | refine ent.at 8 rfl ?_ | refine ent.at 9 rfl ?_ | refine ent.at 10 rfl ?_ | refine ent.at 11 rfl ?_ | refine ent.at 12 rfl ?_ | refine ent.at 13 rfl ?_ | refine ent.at 14 rfl ?_ | refine ent.at 15 rfl ?_ | refine ent.at 16 rfl ?_ | refine ent.at 17 rfl ?_) ?_
    rintro ⟨i, bs, ls, p⟩ ⟨hi, hp⟩
    simp only at hi hp ⊢
    refine WP.seq ?_
    refine WP.seq ?_
    refine WP.plain cf0 rfl ?_
    refine Run.mv rfl rfl rfl rfl ?_
    refine Run.mv rfl rfl rfl rfl ?_
    refine Run.int2 rfl rfl rfl rfl rfl rfl ?_
    refine Run.nil ?_
    refine thn_next ?_
    refine WP.ite rfl (fun hlt => ?_) (fun hge => ?_)
    · refine WP.skip ?_; refine thn_next ?_
      have hpl : p.length = i := by have := congrArg List.length hp; simpa using this
      have hfl := fromI_len 0 i
      have h1l : [(i : Int)].length = 1 := rfl
      refine WP.seq ?_
      refine WP.block ?_
      refine WP.seq ?_
      refine WP.plain cf0 rfl ?_
      refine Run.fieldAddr rfl rfl fo_25_4 rfl rfl ?_
      refine Run.loadB 0 rfl rfl ag_23 rfl rfl rfl rfl rfl ?_
      refine Run.mv rfl rfl rfl rfl ?_
      refine Run.add64 rfl rfl rfl rfl rfl (by first | omega | (simp <;> omega)) (by first | omega | (simp <;> omega)) ?_
      refine Run.buildSlice (E := (Enc.int .i64)) rfl sl_22 zr_3 ([(i : Int) + 1]) rfl rfl rfl (by decide) rfl rfl ?_
      intro b31
      refine Run.build rfl bd_54 rfl rfl rfl rfl ?_
      refine Run.build rfl bd_56 rfl rfl rfl rfl ?_
      refine Run.buildSlice (E := encBlk) rfl sl_23 zr_56 ([((nilS, 1, -1, ⟨some ⟨b31, 0, none⟩, 1, 1⟩) : RBlk)]) rfl rfl rfl (by decide) rfl rfl ?_
      intro b34
      refine Run.append 1 rfl rfl rfl rfl rfl rfl sl_23 zr_56 rfl (src_own 5 rfl) (by first | omega | (simp <;> omega)) (by first | omega | (simp <;> omega)) ?_
      intro sv35 hv35
      refine Run.fieldAddr rfl rfl fo_25_4 rfl rfl ?_
      refine Run.storeB 0 rfl rfl rfl rfl ag_23 rfl rfl rfl rfl rfl ?_
      refine Run.nil ?_
      refine thn_next ?_
      refine WP.sup (ρ' := [(6, .int .i64 (i : Int)), (5, ls.val), (6, .int .i64 0), (3, .bool true), (0, .int .i64 (n : Int)), (4, .pointer (some ⟨b4, 0, none⟩)), (5, .slice none 0 0)]) (Γ' := [blk b4 [.string ⟨#[102]⟩, .slice none 0 0, .int .i64 1, .int .i64 0, sv35.val] 25, slA 56 encBlk sv35.val ((p ++ [((⟨some ⟨b31, 0, none⟩, 1, 1⟩, [(i : Int) + 1]) : SV × List Int)]).map fun q => ((nilS, 1, -1, q.1) : RBlk)), rows 3 (Enc.int .i64) (p ++ [((⟨some ⟨b31, 0, none⟩, 1, 1⟩, [(i : Int) + 1]) : SV × List Int)]), slA 3 (Enc.int .i64) ls.val (fromI 0 i)]) (Kp.sup (car := [(6, .int .i64 (i : Int)), (5, ls.val)]) (ρ := [(6, .int .i64 0), (3, .bool true), (0, .int .i64 (n : Int)), (4, .pointer (some ⟨b4, 0, none⟩)), (5, .slice none 0 0)]) ⟨(by repeat first | exact trivial | refine ⟨rfl, ?_⟩), rfl, rfl⟩) ?_ ?_
      · refine ent.trans (Δ := rows 3 (Enc.int .i64) p :: slA 3 (Enc.int .i64) (⟨some ⟨b31, 0, none⟩, 1, 1⟩ : SV).val [(i : Int) + 1] :: [blk b4 [.string ⟨#[102]⟩, .slice none 0 0, .int .i64 1, .int .i64 0, sv35.val] 25, slA 56 encBlk sv35.val ((p.map fun q => ((nilS, 1, -1, q.1) : RBlk)) ++ [((nilS, 1, -1, ⟨some ⟨b31, 0, none⟩, 1, 1⟩) : RBlk)]), slA 3 (Enc.int .i64) ls.val (fromI 0 i)]) (by (try simp only [List.set_cons_zero, List.set_cons_succ, List.cons_append, List.nil_append]); repeat first | exact ent.none _ | refine ent.at 0 rfl ?_ | refine ent.at 1 rfl ?_ | refine ent.at 2 rfl ?_ | refine ent.at 3 rfl ?_ | refine ent.at 4 rfl ?_ | refine ent.at 5 rfl ?_ | refine ent.at 6 rfl ?_ | refine ent.at 7 rfl ?_ | refine ent.at 8 rfl ?_ | refine ent.at 9 rfl ?_ | refine ent.at 10 rfl ?_ | refine ent.at 11 rfl ?_ | refine ent.at 12 rfl ?_ | refine ent.at 13 rfl ?_ | refine ent.at 14 rfl ?_ | refine ent.at 15 rfl ?_ | refine ent.at 16 rfl ?_ | refine ent.at 17 rfl ?_) ?_
        refine (rows_snoc _).trans ?_
        simp only [List.map_append, List.map_cons, List.map_nil]
        exact (by repeat first | exact ent.none _ | refine ent.at 0 rfl ?_ | refine ent.at 1 rfl ?_ | refine ent.at 2 rfl ?_ | refine ent.at 3 rfl ?_ | refine ent.at 4 rfl ?_ | refine ent.at 5 rfl ?_ | refine ent.at 6 rfl ?_ | refine ent.at 7 rfl ?_ | refine ent.at 8 rfl ?_ | refine ent.at 9 rfl ?_ | refine ent.at 10 rfl ?_ | refine ent.at 11 rfl ?_ | refine ent.at 12 rfl ?_ | refine ent.at 13 rfl ?_ | refine ent.at 14 rfl ?_ | refine ent.at 15 rfl ?_ | refine ent.at 16 rfl ?_ | refine ent.at 17 rfl ?_)
      refine WP.plain cf0 rfl ?_
      refine Run.mv rfl rfl rfl rfl ?_
      refine Run.mv rfl rfl rfl rfl ?_
      refine Run.buildSlice (E := (Enc.int .i64)) rfl sl_22 zr_3 ([(i : Int)]) rfl rfl rfl (by decide) rfl rfl ?_
      intro b39
      refine Run.append 3 rfl rfl rfl rfl rfl rfl sl_22 zr_3 rfl (src_own 4 rfl) (by first | omega | (simp <;> omega)) (by first | omega | (simp <;> omega)) ?_
      intro sv40 hv40
      refine Run.mv rfl rfl rfl rfl ?_
      refine Run.nil ?_
      refine blk_norm ?_; refine thn_next ?_
      refine WP.plain cf0 rfl ?_
      refine Run.mv rfl rfl rfl rfl ?_
      refine Run.add64 rfl rfl rfl rfl rfl (by first | omega | (simp <;> omega)) (by first | omega | (simp <;> omega)) ?_
      refine Run.mv rfl rfl rfl rfl ?_
      refine Run.nil ?_
      refine thn_next ⟨(i + 1, sv35, sv40, p ++ [(⟨some ⟨b31, 0, none⟩, 1, 1⟩, [(i : Int) + 1])]), ⟨by simp only; omega, by rw [range_map_succ, ← hp]; simp⟩, by simp only; omega, ⟨(by repeat first | exact trivial | refine ⟨rfl, ?_⟩), rfl, rfl⟩, ?_⟩
      simp only
      rw [← fromI_snoc]; exact (by (try simp only [List.set_cons_zero, List.set_cons_succ, List.cons_append, List.nil_append]); repeat first | exact ent.none _ | refine ent.at 0 rfl ?_ | refine ent.at 1 rfl ?_ | refine ent.at 2 rfl ?_ | refine ent.at 3 rfl ?_ | refine ent.at 4 rfl ?_ | refine ent.at 5 rfl ?_ | refine ent.at 6 rfl ?_ | refine ent.at 7 rfl ?_ | refine ent.at 8 rfl ?_ | refine ent.at 9 rfl ?_ | refine ent.at 10 rfl ?_ | refine ent.at 11 rfl ?_ | refine ent.at 12 rfl ?_ | refine ent.at 13 rfl ?_ | refine ent.at 14 rfl ?_ | refine ent.at 15 rfl ?_ | refine ent.at 16 rfl ?_ | refine ent.at 17 rfl ?_)
    · refine WP.exit ?_; refine thn_exit ?_; refine thn_exit ?_; refine blk_hit ?_
      have e : i = n := by omega
      subst e
      exact thn_next ⟨(bs, ls, p), hp, ⟨(by repeat first | exact trivial | refine ⟨rfl, ?_⟩), rfl, rfl⟩, (by repeat first | exact ent.none _ | refine ent.at 0 rfl ?_ | refine ent.at 1 rfl ?_ | refine ent.at 2 rfl ?_ | refine ent.at 3 rfl ?_ | refine ent.at 4 rfl ?_ | refine ent.at 5 rfl ?_ | refine ent.at 6 rfl ?_ | refine ent.at 7 rfl ?_ | refine ent.at 8 rfl ?_ | refine ent.at 9 rfl ?_ | refine ent.at 10 rfl ?_ | refine ent.at 11 rfl ?_ | refine ent.at 12 rfl ?_ | refine ent.at 13 rfl ?_ | refine ent.at 14 rfl ?_ | refine ent.at 15 rfl ?_ | refine ent.at 16 rfl ?_ | refine ent.at 17 rfl ?_)⟩
  rintro ⟨bs, ls, p⟩ hp
  simp only at hp ⊢
  have hpl : p.length = n := by have := congrArg List.length hp; simpa using this
  obtain ⟨⟨u0, l0⟩, gp0⟩ : ∃ y, p[0]? = some y := ⟨_, List.getElem?_eq_getElem (by omega)⟩
  have g0 : (p.map fun q => ((nilS, 1, -1, q.1) : RBlk))[0]? = some ((nilS, 1, -1, u0) : RBlk) := by rw [List.getElem?_map, gp0]; rfl
  have eh : (p.map Prod.fst).headD nilS = u0 := by cases p with
    | nil => simp at gp0
    | cons q p => simp at gp0; subst gp0; rfl
  refine WP.sup (ρ' := [(5, ls.val), (3, .bool true), (0, .int .i64 (n : Int)), (4, .pointer (some ⟨b4, 0, none⟩))]) (Γ' := [blk b4 [.string ⟨#[102]⟩, .slice none 0 0, .int .i64 1, .int .i64 0, bs.val] 25, slA 56 encBlk bs.val (p.map fun q => ((nilS, 1, -1, q.1) : RBlk)), rows 3 (Enc.int .i64) p, slA 3 (Enc.int .i64) ls.val (fromI 0 n)]) (covers_get ⟨rfl, rfl, rfl, rfl, trivial⟩) (by repeat first | exact ent.none _ | refine ent.at 0 rfl ?_ | refine ent.at 1 rfl ?_ | refine ent.at 2 rfl ?_ | refine ent.at 3 rfl ?_ | refine ent.at 4 rfl ?_ | refine ent.at 5 rfl ?_ | refine ent.at 6 rfl ?_ | refine ent.at 7 rfl ?_ | refine ent.at 8 rfl ?_ | refine ent.at 9 rfl ?_ | refine ent.at 10 rfl ?_ | refine ent.at 11 rfl ?_ | refine ent.at 12 rfl ?_ | refine ent.at 13 rfl ?_ | refine ent.at 14 rfl ?_ | refine ent.at 15 rfl ?_ | refine ent.at 16 rfl ?_ | refine ent.at 17 rfl ?_) ?_
  refine WP.seq ?_
  refine WP.plain cf0 rfl ?_
  refine Run.fieldAddr rfl rfl fo_25_4 rfl rfl ?_
  refine Run.loadB 0 rfl rfl ag_23 rfl rfl rfl rfl rfl ?_
  refine Run.build rfl bd_67 rfl rfl rfl rfl ?_
  refine Run.buildSlice (E := encIns) rfl sl_52 zr_67 ([((1, 0, 0, nilS) : RIns)]) rfl rfl rfl (by decide) rfl rfl ?_
  intro b44
  refine Run.idxO 1 rfl rfl rfl sl_23 rfl rfl rfl rfl (by omega) (by simp; omega) ?_
  refine Run.fieldAddr rfl rfl fo_56_0 rfl rfl ?_
  refine Run.storeO 1 0 0 (y' := ((⟨some ⟨b44, 0, none⟩, 1, 1⟩, 1, -1, u0) : RBlk)) rfl rfl rfl rfl ag_52 rfl rfl rfl rfl g0 rfl rfl ?_
  refine Run.nil ?_
  refine thn_next ?_
  refine WP.seq ?_
  obtain ⟨⟨un1, ln1⟩, gpn⟩ : ∃ y, p[n - 1]? = some y := ⟨_, List.getElem?_eq_getElem (by omega)⟩
  have gn : ((p.map fun q => ((nilS, 1, -1, q.1) : RBlk)).set 0 ((⟨some ⟨b44, 0, none⟩, 1, 1⟩, 1, -1, u0) : RBlk))[n - 1]? = some ((nilS, 1, -1, un1) : RBlk) := by rw [List.getElem?_set_ne (by omega), List.getElem?_map, gpn]; rfl
  refine WP.plain cf0 rfl ?_
  refine Run.fieldAddr rfl rfl fo_25_4 rfl rfl ?_
  refine Run.loadB 0 rfl rfl ag_23 rfl rfl rfl rfl rfl ?_
  refine Run.mv rfl rfl rfl rfl ?_
  refine Run.sub64 rfl rfl rfl rfl rfl (by first | omega | (simp <;> omega)) (by first | omega | (simp <;> omega)) ?_
  refine Run.eqv (v' := .int .i64 ((n - 1 : Nat) : Int)) (by congr 1; omega) ?_
  refine Run.build rfl bd_54 rfl rfl rfl rfl ?_
  refine Run.idxO 1 rfl rfl rfl sl_23 rfl rfl rfl rfl (by omega) (by simp; omega) ?_
  refine Run.fieldAddr rfl rfl fo_56_1 rfl rfl ?_
  refine Run.storeO 1 (n - 1) 1 (y' := ((nilS, 4, 0, nilS) : RBlk)) rfl rfl rfl rfl ag_54 rfl rfl rfl rfl gn rfl rfl ?_
  refine Run.nil ?_
  refine thn_next ?_
  refine WP.sup (ρ' := [(5, ls.val), (3, .bool true), (0, .int .i64 (n : Int)), (4, .pointer (some ⟨b4, 0, none⟩))]) (Γ' := [blk b4 [.string ⟨#[102]⟩, .slice none 0 0, .int .i64 1, .int .i64 0, bs.val] 25, slA 56 encBlk bs.val (longR n (⟨some ⟨b44, 0, none⟩, 1, 1⟩ : SV) p), rows 3 (Enc.int .i64) p, slA 3 (Enc.int .i64) ls.val (fromI 0 n), slA 67 encIns (⟨some ⟨b44, 0, none⟩, 1, 1⟩ : SV).val [((1, 0, 0, nilS) : RIns)]]) (covers_get ⟨rfl, rfl, rfl, rfl, trivial⟩) (by unfold longR; rw [eh]; exact (by (try simp only [List.set_cons_zero, List.set_cons_succ, List.cons_append, List.nil_append]); repeat first | exact ent.none _ | refine ent.at 0 rfl ?_ | refine ent.at 1 rfl ?_ | refine ent.at 2 rfl ?_ | refine ent.at 3 rfl ?_ | refine ent.at 4 rfl ?_ | refine ent.at 5 rfl ?_ | refine ent.at 6 rfl ?_ | refine ent.at 7 rfl ?_ | refine ent.at 8 rfl ?_ | refine ent.at 9 rfl ?_ | refine ent.at 10 rfl ?_ | refine ent.at 11 rfl ?_ | refine ent.at 12 rfl ?_ | refine ent.at 13 rfl ?_ | refine ent.at 14 rfl ?_ | refine ent.at 15 rfl ?_ | refine ent.at 16 rfl ?_ | refine ent.at 17 rfl ?_)) ?_
  refine WP.seq ?_
  refine WP.plain cf0 rfl ?_
  refine Run.loadBagg 0 rfl rfl ag_25 rfl rfl rfl rfl rfl ?_
  refine Run.callLend (Δ := []) (Θ := [blk b4 [.string ⟨#[102]⟩, .slice none 0 0, .int .i64 1, .int .i64 0, bs.val] 25, slA 56 encBlk bs.val (longR n (⟨some ⟨b44, 0, none⟩, 1, 1⟩ : SV) p), rows 3 (Enc.int .i64) p, slA 3 (Enc.int .i64) ls.val (fromI 0 n), slA 67 encIns (⟨some ⟨b44, 0, none⟩, 1, 1⟩ : SV).val [((1, 0, 0, nilS) : RIns)]]) (Ξ := []) rfl rfl rfl rfl ok_12 rfl rfl (by repeat first | exact ent.none _ | refine ent.at 0 rfl ?_ | refine ent.at 1 rfl ?_ | refine ent.at 2 rfl ?_ | refine ent.at 3 rfl ?_ | refine ent.at 4 rfl ?_ | refine ent.at 5 rfl ?_ | refine ent.at 6 rfl ?_ | refine ent.at 7 rfl ?_ | refine ent.at 8 rfl ?_ | refine ent.at 9 rfl ?_ | refine ent.at 10 rfl ?_ | refine ent.at 11 rfl ?_ | refine ent.at 12 rfl ?_ | refine ent.at 13 rfl ?_ | refine ent.at 14 rfl ?_ | refine ent.at 15 rfl ?_ | refine ent.at 16 rfl ?_ | refine ent.at 17 rfl ?_) (fun g hg hd => live_ok (un hR g) (hT.mono (sub_un_left hR g)) (longF n) nilS bs ⟨nil_read _ _, long_read h2 (lent_at 1 rfl hg hd) hp (fun i u x hi => lent_row 2 rfl hi hg hd) (lent_at 4 rfl hg hd), by simp [longF], by rw [long_len]; omega⟩ (long_small h3)) ?_; rintro _ _ hres; obtain ⟨o1, o2, P, Q, rfl, hP, hQ, rfl⟩ := long_res h2 hres
  refine Run.mv rfl rfl rfl rfl ?_
  refine Run.extract rfl rfl rfl rfl rfl ?_
  refine Run.extract rfl rfl rfl rfl rfl ?_
  refine Run.extract rfl rfl rfl rfl rfl ?_
  refine Run.mv rfl rfl rfl rfl ?_
  refine Run.mv rfl rfl rfl rfl ?_
  refine Run.mv rfl rfl rfl rfl ?_
  refine Run.nil ?_
  refine thn_next ?_
  refine WP.sup (ρ' := [(7, o1.val), (8, o2.val), (9, .int .i64 0), (5, ls.val), (3, .bool true), (0, .int .i64 (n : Int)), (4, .pointer (some ⟨b4, 0, none⟩))]) (Γ' := [blk b4 [.string ⟨#[102]⟩, .slice none 0 0, .int .i64 1, .int .i64 0, bs.val] 25, slA 56 encBlk bs.val (longR n (⟨some ⟨b44, 0, none⟩, 1, 1⟩ : SV) p), rows 3 (Enc.int .i64) p, slA 3 (Enc.int .i64) ls.val (fromI 0 n), slA 67 encIns (⟨some ⟨b44, 0, none⟩, 1, 1⟩ : SV).val [((1, 0, 0, nilS) : RIns)], slA 22 Enc.slice o1.val (P.map Prod.fst), rows 3 (Enc.int .i64) P, slA 22 Enc.slice o2.val (Q.map Prod.fst), rows 3 (Enc.int .i64) Q]) (covers_get ⟨rfl, rfl, rfl, rfl, rfl, rfl, rfl, trivial⟩) (by (try simp only [List.set_cons_zero, List.set_cons_succ, List.cons_append, List.nil_append]); repeat first | exact ent.none _ | refine ent.at 0 rfl ?_ | refine ent.at 1 rfl ?_ | refine ent.at 2 rfl ?_ | refine ent.at 3 rfl ?_ | refine ent.at 4 rfl ?_ | refine ent.at 5 rfl ?_ | refine ent.at 6 rfl ?_ | refine ent.at 7 rfl ?_ | refine ent.at 8 rfl ?_ | refine ent.at 9 rfl ?_ | refine ent.at 10 rfl ?_ | refine ent.at 11 rfl ?_ | refine ent.at 12 rfl ?_ | refine ent.at 13 rfl ?_ | refine ent.at 14 rfl ?_ | refine ent.at 15 rfl ?_ | refine ent.at 16 rfl ?_ | refine ent.at 17 rfl ?_) ?_
  refine WP.seq ?_
  refine WP.plain cf0 rfl ?_
  refine Run.loadBagg 0 rfl rfl ag_25 rfl rfl rfl rfl rfl ?_
  refine Run.mv rfl rfl rfl rfl ?_
  refine Run.callLend (Δ := []) (Θ := [blk b4 [.string ⟨#[102]⟩, .slice none 0 0, .int .i64 1, .int .i64 0, bs.val] 25, slA 56 encBlk bs.val (longR n (⟨some ⟨b44, 0, none⟩, 1, 1⟩ : SV) p), rows 3 (Enc.int .i64) p, slA 3 (Enc.int .i64) ls.val (fromI 0 n), slA 67 encIns (⟨some ⟨b44, 0, none⟩, 1, 1⟩ : SV).val [((1, 0, 0, nilS) : RIns)]]) (Ξ := [slA 22 Enc.slice o1.val (P.map Prod.fst), rows 3 (Enc.int .i64) P, slA 22 Enc.slice o2.val (Q.map Prod.fst), rows 3 (Enc.int .i64) Q]) rfl rfl rfl rfl ok_17 rfl rfl (by repeat first | exact ent.none _ | refine ent.at 0 rfl ?_ | refine ent.at 1 rfl ?_ | refine ent.at 2 rfl ?_ | refine ent.at 3 rfl ?_ | refine ent.at 4 rfl ?_ | refine ent.at 5 rfl ?_ | refine ent.at 6 rfl ?_ | refine ent.at 7 rfl ?_ | refine ent.at 8 rfl ?_ | refine ent.at 9 rfl ?_ | refine ent.at 10 rfl ?_ | refine ent.at 11 rfl ?_ | refine ent.at 12 rfl ?_ | refine ent.at 13 rfl ?_ | refine ent.at 14 rfl ?_ | refine ent.at 15 rfl ?_ | refine ent.at 16 rfl ?_ | refine ent.at 17 rfl ?_) (fun g hg hd => intervals_ok 20 (fun hR sv xs h1 h2 h3 => sortStable20_ok hR sv xs h1 h2 h3) (un hR g) (hT.mono (sub_un_left hR g)) (longF n) nilS bs ls (fromI 0 n) ⟨nil_read _ _, long_read h2 (lent_at 1 rfl hg hd) hp (fun i u x hi => lent_row 2 rfl hi hg hd) (lent_at 4 rfl hg hd), by simp [longF], by rw [long_len]; omega⟩ (long_small h3) (lent_at 3 rfl hg hd) (by rw [fromI_len]; omega) (fun _ => by show (1 : Int) ≤ 20; omega)) ?_; rintro _ _ hres; obtain ⟨ov, rfl, rfl⟩ := long_iv h2 hres
  refine Run.mv rfl rfl rfl rfl ?_
  refine Run.extract rfl rfl rfl rfl rfl ?_
  refine Run.extract rfl rfl rfl rfl rfl ?_
  refine Run.mv rfl rfl rfl rfl ?_
  refine Run.mv rfl rfl rfl rfl ?_
  refine Run.nil ?_
  refine thn_next ?_
  refine WP.sup (ρ' := [(7, o1.val), (8, o2.val), (9, .int .i64 0), (10, ov.val), (11, .int .i64 0), (3, .bool true), (0, .int .i64 (n : Int)), (4, .pointer (some ⟨b4, 0, none⟩))]) (Γ' := [slA 22 Enc.slice o1.val (P.map Prod.fst), rows 3 (Enc.int .i64) P, slA 22 Enc.slice o2.val (Q.map Prod.fst), rows 3 (Enc.int .i64) Q, slA 62 encIv ov.val [(⟨0, 3, 2 * (n : Int) + 2⟩ : Iv)]]) (covers_get ⟨rfl, rfl, rfl, rfl, rfl, rfl, rfl, rfl, trivial⟩) (by (try simp only [List.set_cons_zero, List.set_cons_succ, List.cons_append, List.nil_append]); repeat first | exact ent.none _ | refine ent.at 0 rfl ?_ | refine ent.at 1 rfl ?_ | refine ent.at 2 rfl ?_ | refine ent.at 3 rfl ?_ | refine ent.at 4 rfl ?_ | refine ent.at 5 rfl ?_ | refine ent.at 6 rfl ?_ | refine ent.at 7 rfl ?_ | refine ent.at 8 rfl ?_ | refine ent.at 9 rfl ?_ | refine ent.at 10 rfl ?_ | refine ent.at 11 rfl ?_ | refine ent.at 12 rfl ?_ | refine ent.at 13 rfl ?_ | refine ent.at 14 rfl ?_ | refine ent.at 15 rfl ?_ | refine ent.at 16 rfl ?_ | refine ent.at 17 rfl ?_) ?_
  have hPl : P.length = n := by have := congrArg List.length hP; simpa using this
  have hQl : Q.length = n := by have := congrArg List.length hQ; simpa using this
  have hPm : (P.map Prod.fst).length = n := by simp [hPl]
  have hQm : (Q.map Prod.fst).length = n := by simp [hQl]
  refine WP.know (rows_know 1 rfl) ?_
  intro hPn
  refine WP.know (rows_know 3 rfl) ?_
  intro hQn
  refine WP.seq ?_
  refine WP.seq ?_
  refine WP.plain cf0 rfl ?_
  refine Run.mv rfl rfl rfl rfl ?_
  refine Run.int2 rfl rfl rfl rfl rfl rfl ?_
  refine Run.ff (by omega) ?_
  refine Run.mv rfl rfl rfl rfl ?_
  refine Run.mv rfl rfl rfl rfl ?_
  refine Run.int2 rfl rfl rfl rfl rfl rfl ?_
  refine Run.ff (by omega) ?_
  refine Run.pick rfl rfl rfl rfl rfl ?_
  refine Run.mv rfl rfl rfl rfl ?_
  refine Run.mv rfl rfl rfl rfl ?_
  refine Run.lenO 0 rfl rfl sl_30 rfl rfl rfl ?_
  refine Run.mv rfl rfl rfl rfl ?_
  refine Run.int2 rfl rfl rfl rfl rfl rfl ?_
  refine Run.ff (by omega) ?_
  refine Run.pick rfl rfl rfl rfl rfl ?_
  refine Run.mv rfl rfl rfl rfl ?_
  refine Run.mv rfl rfl rfl rfl ?_
  refine Run.lenO 2 rfl rfl sl_30 rfl rfl rfl ?_
  refine Run.mv rfl rfl rfl rfl ?_
  refine Run.int2 rfl rfl rfl rfl rfl rfl ?_
  refine Run.ff (by omega) ?_
  refine Run.pick rfl rfl rfl rfl rfl ?_
  refine Run.nil ?_
  refine thn_next ?_
  refine WP.cond (t := false) rfl (fun h => by cases h) (fun _ => ?_)
  refine WP.skip ?_; refine thn_next ?_
  refine WP.sup (ρ' := [(7, o1.val), (8, o2.val), (10, ov.val), (3, .bool true), (0, .int .i64 (n : Int)), (4, .pointer (some ⟨b4, 0, none⟩))]) (Γ' := [slA 22 Enc.slice o1.val (P.map Prod.fst), rows 3 (Enc.int .i64) P, slA 22 Enc.slice o2.val (Q.map Prod.fst), rows 3 (Enc.int .i64) Q, slA 62 encIv ov.val [(⟨0, 3, 2 * (n : Int) + 2⟩ : Iv)]]) (covers_get ⟨rfl, rfl, rfl, rfl, rfl, rfl, trivial⟩) (by (try simp only [List.set_cons_zero, List.set_cons_succ, List.cons_append, List.nil_append]); repeat first | exact ent.none _ | refine ent.at 0 rfl ?_ | refine ent.at 1 rfl ?_ | refine ent.at 2 rfl ?_ | refine ent.at 3 rfl ?_ | refine ent.at 4 rfl ?_ | refine ent.at 5 rfl ?_ | refine ent.at 6 rfl ?_ | refine ent.at 7 rfl ?_ | refine ent.at 8 rfl ?_ | refine ent.at 9 rfl ?_ | refine ent.at 10 rfl ?_ | refine ent.at 11 rfl ?_ | refine ent.at 12 rfl ?_ | refine ent.at 13 rfl ?_ | refine ent.at 14 rfl ?_ | refine ent.at 15 rfl ?_ | refine ent.at 16 rfl ?_ | refine ent.at 17 rfl ?_) ?_
  refine WP.meetK (α := Unit) (fun _ => True) (fun _ => []) (fun _ => [slA 22 Enc.slice o1.val (P.map Prod.fst), rows 3 (Enc.int .i64) P, slA 22 Enc.slice o2.val (Q.map Prod.fst), rows 3 (Enc.int .i64) Q, slA 62 encIv ov.val [(⟨0, 3, 2 * (n : Int) + 2⟩ : Iv)]]) ?_ ?_
  · refine WP.seq ?_
    refine WP.plain cf0 rfl ?_
    refine Run.mv rfl rfl rfl rfl ?_
    refine Run.nil ?_
    refine thn_next ?_
    refine WP.block ?_
    refine WP.loopK (α := Nat) (fun z => z ≤ n) (fun z => [(12, .int .i64 (z : Int))]) (fun _ => [slA 22 Enc.slice o1.val (P.map Prod.fst), rows 3 (Enc.int .i64) P, slA 22 Enc.slice o2.val (Q.map Prod.fst), rows 3 (Enc.int .i64) Q, slA 62 encIv ov.val [(⟨0, 3, 2 * (n : Int) + 2⟩ : Iv)]]) (fun z => n - z) 0 (Nat.zero_le _) ⟨(by repeat first | exact trivial | refine ⟨rfl, ?_⟩), rfl, rfl⟩ (ent.refl _) ?_
    rintro i hi
    refine WP.seq ?_
    refine WP.seq ?_
    refine WP.plain cf0 rfl ?_
    refine Run.mv rfl rfl rfl rfl ?_
    refine Run.mv rfl rfl rfl rfl ?_
    refine Run.int2 rfl rfl rfl rfl rfl rfl ?_
    refine Run.nil ?_
    refine thn_next ?_
    refine WP.ite rfl (fun hlt => ?_) (fun hge => ?_)
    · refine WP.skip ?_; refine thn_next ?_
      obtain ⟨⟨su, x⟩, gx⟩ : ∃ y, P[i]? = some y := ⟨_, List.getElem?_eq_getElem (by omega)⟩
      obtain ⟨⟨sw, y⟩, gy⟩ : ∃ y, Q[i]? = some y := ⟨_, List.getElem?_eq_getElem (by omega)⟩
      have gx1 : (P.map Prod.fst)[i]? = some su := by rw [List.getElem?_map, gx]; rfl
      have gy1 : (Q.map Prod.fst)[i]? = some sw := by rw [List.getElem?_map, gy]; rfl
      have ex : x = aheadOf (longF n) i := by
        have := congrArg (fun q : List (List Int) => q[i]?) hP
        simp only [List.getElem?_map, gx, Option.map_some, List.getElem?_range (show i < n by omega), Option.some.injEq] at this
        exact this
      have ey : y = behindOf (longF n) i := by
        have := congrArg (fun q : List (List Int) => q[i]?) hQ
        simp only [List.getElem?_map, gy, Option.map_some, List.getElem?_range (show i < n by omega), Option.some.injEq] at this
        exact this
      have nx := hPn i su x gx
      have ny := hQn i sw y gy
      rw [ex, long_ahead h2 (by omega)] at nx
      rw [ey, long_behind h2] at ny
      have nx' : (su.n : Int) = min (i : Int) 1 := by split at nx <;> simp at nx <;> omega
      have ny' : (sw.n : Int) = min ((n : Int) - 1 - (i : Int)) 1 := by split at ny <;> simp at ny <;> omega
      refine WP.seq ?_
      refine WP.block ?_
      refine WP.seq ?_
      refine WP.plain cf0 rfl ?_
      refine Run.mv rfl rfl rfl rfl ?_
      refine Run.mv rfl rfl rfl rfl ?_
      refine Run.idxO 0 rfl rfl rfl sl_30 rfl rfl rfl rfl (by omega) (by omega) ?_
      refine Run.loadO 0 i 0 rfl rfl ag_22 rfl rfl rfl rfl gx1 rfl ?_
      refine Run.len rfl rfl sl_22 rfl rfl ?_
      refine Run.mv rfl rfl rfl rfl ?_
      refine Run.min2 rfl rfl rfl rfl rfl ?_
      refine Run.int2 rfl rfl rfl rfl rfl rfl ?_
      refine Run.ff (fun h => h nx') ?_
      refine Run.mv rfl rfl rfl rfl ?_
      refine Run.mv rfl rfl rfl rfl ?_
      refine Run.mv rfl rfl rfl rfl ?_
      refine Run.idxO 2 rfl rfl rfl sl_30 rfl rfl rfl rfl (by omega) (by omega) ?_
      refine Run.loadO 2 i 0 rfl rfl ag_22 rfl rfl rfl rfl gy1 rfl ?_
      refine Run.len rfl rfl sl_22 rfl rfl ?_
      refine Run.mv rfl rfl rfl rfl ?_
      refine Run.sub64 rfl rfl rfl rfl rfl (by first | omega | (simp <;> omega)) (by first | omega | (simp <;> omega)) ?_
      refine Run.mv rfl rfl rfl rfl ?_
      refine Run.sub64 rfl rfl rfl rfl rfl (by first | omega | (simp <;> omega)) (by first | omega | (simp <;> omega)) ?_
      refine Run.min2 rfl rfl rfl rfl rfl ?_
      refine Run.int2 rfl rfl rfl rfl rfl rfl ?_
      refine Run.ff (fun h => h ny') ?_
      refine Run.pick rfl rfl rfl rfl rfl ?_
      refine Run.nil ?_
      refine thn_next ?_
      refine WP.cond (t := false) rfl (fun h => by cases h) (fun _ => ?_)
      refine WP.skip ?_; refine blk_norm ?_; refine thn_next ?_
      refine WP.plain cf0 rfl ?_
      refine Run.mv rfl rfl rfl rfl ?_
      refine Run.add64 rfl rfl rfl rfl rfl (by first | omega | (simp <;> omega)) (by first | omega | (simp <;> omega)) ?_
      refine Run.mv rfl rfl rfl rfl ?_
      refine Run.nil ?_
      exact thn_next ⟨i + 1, by omega, by omega, ⟨(by repeat first | exact trivial | refine ⟨rfl, ?_⟩), rfl, rfl⟩, (by repeat first | exact ent.none _ | refine ent.at 0 rfl ?_ | refine ent.at 1 rfl ?_ | refine ent.at 2 rfl ?_ | refine ent.at 3 rfl ?_ | refine ent.at 4 rfl ?_ | refine ent.at 5 rfl ?_ | refine ent.at 6 rfl ?_ | refine ent.at 7 rfl ?_ | refine ent.at 8 rfl ?_ | refine ent.at 9 rfl ?_ | refine ent.at 10 rfl ?_ | refine ent.at 11 rfl ?_ | refine ent.at 12 rfl ?_ | refine ent.at 13 rfl ?_ | refine ent.at 14 rfl ?_ | refine ent.at 15 rfl ?_ | refine ent.at 16 rfl ?_ | refine ent.at 17 rfl ?_)⟩
    · refine WP.exit ?_; refine thn_exit ?_; refine thn_exit ?_; refine blk_hit ?_
      exact thn_next ⟨(), trivial, ⟨(by repeat first | exact trivial | refine ⟨rfl, ?_⟩), rfl, rfl⟩, (by repeat first | exact ent.none _ | refine ent.at 0 rfl ?_ | refine ent.at 1 rfl ?_ | refine ent.at 2 rfl ?_ | refine ent.at 3 rfl ?_ | refine ent.at 4 rfl ?_ | refine ent.at 5 rfl ?_ | refine ent.at 6 rfl ?_ | refine ent.at 7 rfl ?_ | refine ent.at 8 rfl ?_ | refine ent.at 9 rfl ?_ | refine ent.at 10 rfl ?_ | refine ent.at 11 rfl ?_ | refine ent.at 12 rfl ?_ | refine ent.at 13 rfl ?_ | refine ent.at 14 rfl ?_ | refine ent.at 15 rfl ?_ | refine ent.at 16 rfl ?_ | refine ent.at 17 rfl ?_)⟩
  rintro _ _
  refine WP.seq ?_
  refine WP.plain cf0 rfl ?_
  refine Run.mv rfl rfl rfl rfl ?_
  refine Run.mv rfl rfl rfl rfl ?_
  refine Run.mv rfl rfl rfl rfl ?_
  refine Run.mv rfl rfl rfl rfl ?_
  refine Run.mul64 rfl rfl rfl rfl rfl (by first | omega | (simp <;> omega)) (by first | omega | (simp <;> omega)) ?_
  refine Run.add64 rfl rfl rfl rfl rfl (by first | omega | (simp <;> omega)) (by first | omega | (simp <;> omega)) ?_
  refine Run.build rfl bd_62 rfl rfl rfl rfl ?_
  refine Run.buildSlice (E := encIv) rfl sl_44 zr_62 ([(⟨0, 3, 2 * (n : Int) + 2⟩ : Iv)]) rfl rfl rfl (by decide) rfl rfl ?_
  intro b117
  refine Run.callLend (Δ := []) (Θ := [slA 62 encIv ov.val [(⟨0, 3, 2 * (n : Int) + 2⟩ : Iv)], slA 62 encIv (⟨some ⟨b117, 0, none⟩, 1, 1⟩ : SV).val [(⟨0, 3, 2 * (n : Int) + 2⟩ : Iv)]]) (Ξ := [slA 22 Enc.slice o1.val (P.map Prod.fst), rows 3 (Enc.int .i64) P, slA 22 Enc.slice o2.val (Q.map Prod.fst), rows 3 (Enc.int .i64) Q]) rfl rfl rfl rfl ok_19 rfl rfl (by repeat first | exact ent.none _ | refine ent.at 0 rfl ?_ | refine ent.at 1 rfl ?_ | refine ent.at 2 rfl ?_ | refine ent.at 3 rfl ?_ | refine ent.at 4 rfl ?_ | refine ent.at 5 rfl ?_ | refine ent.at 6 rfl ?_ | refine ent.at 7 rfl ?_ | refine ent.at 8 rfl ?_ | refine ent.at 9 rfl ?_ | refine ent.at 10 rfl ?_ | refine ent.at 11 rfl ?_ | refine ent.at 12 rfl ?_ | refine ent.at 13 rfl ?_ | refine ent.at 14 rfl ?_ | refine ent.at 15 rfl ?_ | refine ent.at 16 rfl ?_ | refine ent.at 17 rfl ?_) (fun g hg hd => sameSpans_ok (un hR g) ov.val _ [⟨0, 3, 2 * (n : Int) + 2⟩] [⟨0, 3, 2 * (n : Int) + 2⟩] (lent_at 0 rfl hg hd) (lent_at 1 rfl hg hd) (by simp)) ?_; rintro _ _ ⟨rfl, rfl⟩; refine Run.tt rfl ?_
  refine Run.pick rfl rfl rfl rfl rfl ?_
  refine Run.mv rfl rfl rfl rfl ?_
  refine Run.nil ?_
  refine thn_next ?_
  refine WP.ret ?_
  exact retT [2] _ rfl rfl ⟨[], (by repeat first | exact ent.none _ | refine ent.at 0 rfl ?_ | refine ent.at 1 rfl ?_ | refine ent.at 2 rfl ?_ | refine ent.at 3 rfl ?_ | refine ent.at 4 rfl ?_ | refine ent.at 5 rfl ?_ | refine ent.at 6 rfl ?_ | refine ent.at 7 rfl ?_ | refine ent.at 8 rfl ?_ | refine ent.at 9 rfl ?_ | refine ent.at 10 rfl ?_ | refine ent.at 11 rfl ?_ | refine ent.at 12 rfl ?_ | refine ent.at 13 rfl ?_ | refine ent.at 14 rfl ?_ | refine ent.at 15 rfl ?_ | refine ent.at 16 rfl ?_ | refine ent.at 17 rfl ?_), rfl, rfl⟩
end Go.Proofs.YtjjfehdlmdhhmaaDoor
end
