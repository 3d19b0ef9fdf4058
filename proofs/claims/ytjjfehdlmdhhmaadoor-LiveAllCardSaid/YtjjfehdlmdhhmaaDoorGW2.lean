/- The places at which a register is met along a line; plain. -/
import Derived.Test.YtjjfehdlmdhhmaaDoorGT9
import Derived.Test.YtjjfehdlmdhhmaaDoorGV5
section
/- The places at which a register is met along a line; plain. -/
namespace Go.Proofs.YtjjfehdlmdhhmaaDoor
open Go.Sep
set_option linter.unusedSimpArgs false
set_option linter.unusedVariables false
/-- what is met, and where, in order -/
def evAt (p : Int) (rs : List Int) : List (Int × Int) := rs.map fun r => (r, p)
def evIns (k : Int) (x : LIns) : List (Int × Int) := evAt (2 * k) x.args ++ if 0 ≤ x.dst then [(x.dst, 2 * k + 1)] else []
def evBody : Int → List LIns → List (Int × Int)
  | _, [] => []
  | k, x :: xs => evIns (k + 1) x ++ evBody (k + 1) xs
def evBlk (ah be : List Int) (b : LBlk) (k : Int) : List (Int × Int) :=
  evAt (2 * (k + 1)) ah ++ (evBody k b.body ++ ((if 0 ≤ b.value then [(b.value, 2 * (k + b.body.length + 1))] else []) ++ evAt (2 * (k + b.body.length + 1) + 1) be))
noncomputable def evLine (F : LFun) : Int → List Int → List (Int × Int)
  | _, [] => []
  | k, i :: is => match F.blocks[i.toNat]? with
    | some b => evBlk (aheadOf F i.toNat) (behindOf F i.toNat) b k ++ evLine F (k + (b.body.length + 1)) is
    | none => []
noncomputable def evF (F : LFun) (line : List Int) : List (Int × Int) := evAt 0 F.params ++ evLine F 0 line
def meetAll (s : List Iv) (es : List (Int × Int)) : List Iv := es.foldl (fun s e => meetS s e.1 e.2) s
theorem meetAll_append (s : List Iv) (a b : List (Int × Int)) : meetAll s (a ++ b) = meetAll (meetAll s a) b := List.foldl_append
theorem meetAll_at (s : List Iv) (p : Int) (rs : List Int) : meetAll s (evAt p rs) = meetsS s p rs := by
  unfold meetAll evAt meetsS
  rw [List.foldl_map]
theorem meetAll_ins (k : Int) (s : List Iv) (x : LIns) : meetAll s (evIns k x) = insS k s x := by
  unfold evIns insS
  rw [meetAll_append, meetAll_at]
  split <;> rfl
theorem meetAll_body : ∀ (xs : List LIns) (k : Int) (s : List Iv), meetAll s (evBody k xs) = bodyS k s xs
  | [], _, _ => rfl
  | x :: xs, k, s => by rw [evBody, bodyS, meetAll_append, meetAll_ins, meetAll_body xs]
theorem meetAll_blk (ah be : List Int) (b : LBlk) (k : Int) (s : List Iv) : meetAll s (evBlk ah be b k) = blockS ah be b k s := by
  unfold evBlk blockS termS
  rw [meetAll_append, meetAll_append, meetAll_append, meetAll_at, meetAll_body, meetAll_at]
  congr 1
  split <;> rfl
theorem meetAll_line (F : LFun) : ∀ (is : List Int) (k : Int) (s : List Iv), meetAll s (evLine F k is) = lineS F k s is
  | [], _, _ => rfl
  | i :: is, k, s => by
    cases h : F.blocks[i.toNat]? with
    | some b => simp only [evLine, lineS, h]; rw [meetAll_append, meetAll_blk, meetAll_line F is]
    | none => simp only [evLine, lineS, h]; rfl
theorem meetAll_F (F : LFun) (line : List Int) : meetAll (List.replicate F.regs.toNat ⟨-1, 0, 0⟩) (evF F line) = spansF F line := by
  unfold evF spansF
  rw [meetAll_append, meetAll_at, meetAll_line]
/-- the interval of the places of r -/
def IsSpan (r : Int) (A : Int → Prop) (y : Iv) : Prop := (y.reg = -1 ∧ ∀ p, ¬ A p) ∨ (y.reg = r ∧ A y.fr ∧ A y.to ∧ ∀ p, A p → y.fr ≤ p ∧ p ≤ y.to)
theorem IsSpan.meet {r : Int} {A : Int → Prop} {y : Iv} (hr : 0 ≤ r) (h : IsSpan r A y) (p : Int) : IsSpan r (fun q => A q ∨ q = p) (meetI y r p) := by
  unfold meetI
  rcases h with ⟨h1, h2⟩ | ⟨h1, h2, h3, h4⟩
  · rw [if_pos (by omega)]
    exact .inr ⟨rfl, .inr rfl, .inr rfl, fun q hq => by rcases hq with hq | rfl; exact absurd hq (h2 q); exact ⟨Int.le_refl _, Int.le_refl _⟩⟩
  · rw [if_neg (by omega)]
    refine .inr ⟨h1, ?_, ?_, fun q hq => ?_⟩
    · simp only; rcases Int.le_total y.fr p with h | h
      · rw [Int.min_eq_left h]; exact .inl h2
      · rw [Int.min_eq_right h]; exact .inr rfl
    · simp only; rcases Int.le_total y.to p with h | h
      · rw [Int.max_eq_right h]; exact .inr rfl
      · rw [Int.max_eq_left h]; exact .inl h3
    · simp only; rcases hq with hq | rfl
      · have := h4 q hq; omega
      · omega
theorem IsSpan.iff {r : Int} {A B : Int → Prop} {y : Iv} (h : IsSpan r A y) (e : ∀ q, A q ↔ B q) : IsSpan r B y := by
  have : A = B := funext fun q => propext (e q)
  rw [← this]; exact h
theorem meetAll_span {r : Int} (hr : 0 ≤ r) : ∀ (es : List (Int × Int)) (s : List Iv) (A : Int → Prop) (x : Iv), (∀ e ∈ es, 0 ≤ e.1) → s[r.toNat]? = some x → IsSpan r A x → ∃ y, (meetAll s es)[r.toNat]? = some y ∧ IsSpan r (fun q => A q ∨ (r, q) ∈ es) y
  | [], s, A, x, _, hx, hA => ⟨x, hx, hA.iff fun q => by simp⟩
  | (e, p) :: es, s, A, x, he, hx, hA => by
    have he0 : 0 ≤ e := he (e, p) (by simp)
    have hes : ∀ d ∈ es, 0 ≤ d.1 := fun d hd => he d (by simp [hd])
    show ∃ y, (meetAll (meetS s e p) es)[r.toNat]? = some y ∧ _
    by_cases h : e = r
    · subst h
      have h1 : (meetS s e p)[e.toNat]? = some (meetI x e p) := by
        unfold meetS; rw [hx]
        exact List.getElem?_set_self (List.getElem?_eq_some_iff.1 hx).1
      obtain ⟨y, hy, hS⟩ := meetAll_span hr es _ _ _ hes h1 (hA.meet hr p)
      refine ⟨y, hy, hS.iff fun q => ?_⟩
      simp only [List.mem_cons, Prod.mk.injEq, true_and]
      constructor
      · rintro ((h | h) | h)
        · exact .inl h
        · exact .inr (.inl h)
        · exact .inr (.inr h)
      · rintro (h | h | h)
        · exact .inl (.inl h)
        · exact .inl (.inr h)
        · exact .inr h
    · have h1 : (meetS s e p)[r.toNat]? = some x := by
        unfold meetS
        split
        · rw [List.getElem?_set_ne (by omega)]; exact hx
        · exact hx
      obtain ⟨y, hy, hS⟩ := meetAll_span hr es _ _ _ hes h1 hA
      refine ⟨y, hy, hS.iff fun q => ?_⟩
      simp only [List.mem_cons, Prod.mk.injEq]
      constructor
      · rintro (h2 | h2)
        · exact .inl h2
        · exact .inr (.inr h2)
      · rintro (h2 | ⟨h2, _⟩ | h2)
        · exact .inl h2
        · exact absurd h2.symm h
        · exact .inr h2
end Go.Proofs.YtjjfehdlmdhhmaaDoor
end
section
/- The places that are counted by ways: the same least, the same greatest; plain. -/
namespace Go.Proofs.YtjjfehdlmdhhmaaDoor
open Go.Sep
set_option linter.unusedSimpArgs false
set_option linter.unusedVariables false
theorem mem_evIns {r p k : Int} {x : LIns} : (r, p) ∈ evIns k x ↔ (r ∈ x.args ∧ p = 2 * k) ∨ (x.dst = r ∧ 0 ≤ r ∧ p = 2 * k + 1) := by
  unfold evIns evAt
  rw [List.mem_append, List.mem_map]
  constructor
  · rintro (⟨a, h1, h2⟩ | h)
    · cases h2; exact .inl ⟨h1, rfl⟩
    · split at h
      · rename_i h0; simp at h; obtain ⟨rfl, rfl⟩ := h; exact .inr ⟨rfl, h0, rfl⟩
      · cases h
  · rintro (⟨h1, rfl⟩ | ⟨rfl, h0, rfl⟩)
    · exact .inl ⟨r, h1, rfl⟩
    · exact .inr (by rw [if_pos h0]; simp)
theorem mem_evBody {r p : Int} : ∀ (xs : List LIns) (k : Int), (r, p) ∈ evBody k xs ↔ ∃ (i : Nat) (x : LIns), xs[i]? = some x ∧ ((r ∈ x.args ∧ p = 2 * (k + 1 + i)) ∨ (x.dst = r ∧ 0 ≤ r ∧ p = 2 * (k + 1 + i) + 1))
  | [], k => by simp [evBody]
  | x :: xs, k => by
    rw [evBody, List.mem_append, mem_evIns, mem_evBody xs (k + 1)]
    constructor
    · rintro (h | ⟨i, y, h1, h2⟩)
      · exact ⟨0, x, rfl, by simpa using h⟩
      · exact ⟨i + 1, y, by simpa using h1, h2.imp (fun h => ⟨h.1, by omega⟩) (fun h => ⟨h.1, h.2.1, by omega⟩)⟩
    · rintro ⟨i, y, h1, h2⟩
      cases i with
      | zero => simp at h1; subst h1; exact .inl (by simpa using h2)
      | succ i => exact .inr ⟨i, y, by simpa using h1, h2.imp (fun h => ⟨h.1, by omega⟩) (fun h => ⟨h.1, h.2.1, by omega⟩)⟩
theorem mem_evAt {r p q : Int} {rs : List Int} : (r, p) ∈ evAt q rs ↔ r ∈ rs ∧ p = q := by
  unfold evAt
  rw [List.mem_map]
  constructor
  · rintro ⟨a, h1, h2⟩; cases h2; exact ⟨h1, rfl⟩
  · rintro ⟨h1, rfl⟩; exact ⟨r, h1, rfl⟩
theorem mem_evBlk {r p k : Int} {ah be : List Int} {b : LBlk} : (r, p) ∈ evBlk ah be b k ↔ (r ∈ ah ∧ p = 2 * (k + 1)) ∨ (r, p) ∈ evBody k b.body ∨ (b.value = r ∧ 0 ≤ r ∧ p = 2 * (k + b.body.length + 1)) ∨ (r ∈ be ∧ p = 2 * (k + b.body.length + 1) + 1) := by
  unfold evBlk
  rw [List.mem_append, List.mem_append, List.mem_append, mem_evAt, mem_evAt]
  constructor
  · rintro (h | h | h | h)
    · exact .inl h
    · exact .inr (.inl h)
    · split at h
      · rename_i h0; simp at h; obtain ⟨rfl, rfl⟩ := h; exact .inr (.inr (.inl ⟨rfl, h0, rfl⟩))
      · cases h
    · exact .inr (.inr (.inr h))
  · rintro (h | h | ⟨rfl, h0, rfl⟩ | h)
    · exact .inl h
    · exact .inr (.inl h)
    · exact .inr (.inr (.inl (by rw [if_pos h0]; simp)))
    · exact .inr (.inr (.inr h))
/-- how many places lie ahead -/
def baseL (F : LFun) : List Int → Int
  | [] => 0
  | i :: is => bodyLen F i + 1 + baseL F is
theorem mem_evLine {F : LFun} {r p : Int} : ∀ (is : List Int) (k : Int), (∀ i ∈ is, F.blocks[i.toNat]? ≠ none) → ((r, p) ∈ evLine F k is ↔ ∃ (n : Nat) (i : Int) (b : LBlk), is[n]? = some i ∧ F.blocks[i.toNat]? = some b ∧ (r, p) ∈ evBlk (aheadOf F i.toNat) (behindOf F i.toNat) b (k + baseL F (is.take n)))
  | [], k, _ => by simp [evLine]
  | i :: is, k, h => by
    cases hb : F.blocks[i.toNat]? with
    | none => exact absurd hb (h i (by simp))
    | some b =>
      have hl : bodyLen F i = b.body.length := by unfold bodyLen; rw [hb]
      simp only [evLine, hb]
      rw [List.mem_append, mem_evLine is _ (fun j hj => h j (by simp [hj]))]
      constructor
      · rintro (h1 | ⟨n, j, c, h1, h2, h3⟩)
        · exact ⟨0, i, b, rfl, hb, by simpa [baseL] using h1⟩
        · exact ⟨n + 1, j, c, by simpa using h1, h2, by
            rw [List.take_succ_cons, baseL, hl]
            rw [show k + ((b.body.length : Int) + 1 + baseL F (is.take n)) = k + ((b.body.length : Int) + 1) + baseL F (is.take n) by omega]
            exact h3⟩
      · rintro ⟨n, j, c, h1, h2, h3⟩
        cases n with
        | zero => simp at h1; subst h1; rw [hb] at h2; cases h2; exact .inl (by simpa [baseL] using h3)
        | succ n =>
          refine .inr ⟨n, j, c, by simpa using h1, h2, ?_⟩
          rw [List.take_succ_cons, baseL, hl] at h3
          rw [show k + ((b.body.length : Int) + 1) + baseL F (is.take n) = k + ((b.body.length : Int) + 1 + baseL F (is.take n)) by omega]
          exact h3
/-! ### What is counted by ways -/
def BehP (F : LFun) (r : Int) (i : Nat) (b : LBlk) (j : Nat) : Prop := if j < b.body.length then (∃ x, b.body[j]? = some x ∧ x.dst = r) ∨ AtP F r i (j + 1) else ∃ c ∈ b.to, AtP F r c.toNat 0
def StepP (F : LFun) (r : Int) (i : Nat) (b : LBlk) (j : Nat) (k p : Int) : Prop := (AtP F r i j ∧ p = 2 * k) ∨ (BehP F r i b j ∧ p = 2 * k + 1)
def BlkP (F : LFun) (r : Int) (i : Nat) (b : LBlk) (k : Int) (m : Nat) (p : Int) : Prop := ∃ j, j < m ∧ StepP F r i b j (k + 1 + j) p
def LineP (F : LFun) (r : Int) (line : List Int) (n : Nat) (p : Int) : Prop := ∃ (q : Nat) (i : Int) (b : LBlk), q < n ∧ line[q]? = some i ∧ F.blocks[i.toNat]? = some b ∧ BlkP F r i.toNat b (baseL F (line.take q)) (b.body.length + 1) p
/-- the least and the greatest that are told, of places up to 2 * k + 1 -/
structure PI (B : Int → Prop) (fr to k : Int) : Prop where
  rng : ∀ p, B p → 0 ≤ p ∧ p ≤ 2 * k + 1
  val : (fr = -1 ∧ to = -1 ∧ ∀ p, ¬ B p) ∨ (0 ≤ fr ∧ B fr ∧ B to ∧ ∀ p, B p → fr ≤ p ∧ p ≤ to)
theorem PI.iff {B C : Int → Prop} {fr to k : Int} (h : PI B fr to k) (e : ∀ q, B q ↔ C q) : PI C fr to k := by
  have : B = C := funext fun q => propext (e q)
  rw [← this]; exact h
theorem PI.add {B : Int → Prop} {fr to k p : Int} (h : PI B fr to k) (hp : 2 * k + 1 ≤ p) (hk : 0 ≤ k) (h1 : ∀ q, B q → q < p) (K : Int) (hK : p ≤ 2 * K + 1) : PI (fun q => B q ∨ q = p) (if fr < 0 then p else fr) p K := by
  refine ⟨fun q hq => ?_, .inr ?_⟩
  · rcases hq with hq | rfl
    · have := h.rng q hq; have := h1 q hq; omega
    · omega
  · rcases h.val with ⟨a, b, c⟩ | ⟨a, b, c, d⟩
    · rw [if_pos (by omega)]
      exact ⟨by omega, .inr rfl, .inr rfl, fun q hq => by rcases hq with hq | rfl; exact absurd hq (c q); omega⟩
    · rw [if_neg (by omega)]
      exact ⟨a, .inl b, .inr rfl, fun q hq => by
        rcases hq with hq | rfl
        · have := d q hq; have := h1 q hq; omega
        · have := d fr b; have := h1 fr b; omega⟩
theorem PI.wide {B : Int → Prop} {fr to k K : Int} (h : PI B fr to k) (hK : k ≤ K) : PI B fr to K := ⟨fun p hp => by have := h.rng p hp; omega, h.val⟩
theorem PI.at {B : Int → Prop} {fr to k : Int} {a b : Prop} [Decidable a] [Decidable b] (h : PI B fr to k) (hk : 0 ≤ k) :
    PI (fun q => B q ∨ (a ∧ q = 2 * (k + 1)) ∨ (b ∧ q = 2 * (k + 1) + 1))
      (if b ∧ (if a ∧ fr < 0 then 2 * (k + 1) else fr) < 0 then 2 * (k + 1) + 1 else (if a ∧ fr < 0 then 2 * (k + 1) else fr))
      (if b then 2 * (k + 1) + 1 else if a then 2 * (k + 1) else to) (k + 1) := by
  have h1 : PI (fun q => B q ∨ (a ∧ q = 2 * (k + 1))) (if a ∧ fr < 0 then 2 * (k + 1) else fr) (if a then 2 * (k + 1) else to) (k + 1) := by
    by_cases ha : a
    · have := (h.add (p := 2 * (k + 1)) (by omega) hk (fun q hq => by have := h.rng q hq; omega) (k + 1) (by omega)).iff (C := fun q => B q ∨ (a ∧ q = 2 * (k + 1))) (fun q => by simp [ha])
      simpa [ha] using this
    · have := (h.wide (K := k + 1) (by omega)).iff (C := fun q => B q ∨ (a ∧ q = 2 * (k + 1))) (fun q => by simp [ha])
      simpa [ha] using this
  have hlt : ∀ q, (B q ∨ (a ∧ q = 2 * (k + 1))) → q < 2 * (k + 1) + 1 := fun q hq => by
    rcases hq with hq | ⟨_, rfl⟩
    · have := h.rng q hq; omega
    · omega
  generalize (if a ∧ fr < 0 then 2 * (k + 1) else fr) = fr1 at h1 ⊢
  generalize (if a then 2 * (k + 1) else to) = to1 at h1 ⊢
  by_cases hb : b
  · have := h1.val
    have h2 : PI (fun q => (B q ∨ (a ∧ q = 2 * (k + 1))) ∨ q = 2 * (k + 1) + 1) (if fr1 < 0 then 2 * (k + 1) + 1 else fr1) (2 * (k + 1) + 1) (k + 1) := by
      refine ⟨fun q hq => ?_, .inr ?_⟩
      · rcases hq with hq | rfl
        · have := h1.rng q hq; omega
        · omega
      · rcases h1.val with ⟨a1, b1, c1⟩ | ⟨a1, b1, c1, d1⟩
        · rw [if_pos (by omega)]
          exact ⟨by omega, .inr rfl, .inr rfl, fun q hq => by rcases hq with hq | rfl; exact absurd hq (c1 q); omega⟩
        · rw [if_neg (by omega)]
          exact ⟨a1, .inl b1, .inr rfl, fun q hq => by
            rcases hq with hq | rfl
            · have := d1 q hq; have := hlt q hq; omega
            · have := d1 fr1 b1; have := hlt fr1 b1; omega⟩
    have := h2.iff (C := fun q => B q ∨ (a ∧ q = 2 * (k + 1)) ∨ (b ∧ q = 2 * (k + 1) + 1)) (fun q => by simp [hb, or_assoc])
    simpa [hb] using this
  · have := h1.iff (C := fun q => B q ∨ (a ∧ q = 2 * (k + 1)) ∨ (b ∧ q = 2 * (k + 1) + 1)) (fun q => by simp [hb])
    simpa [hb] using this
theorem BlkP.succ {F : LFun} {r : Int} {i : Nat} {b : LBlk} {k : Int} {m : Nat} {p : Int} : BlkP F r i b k (m + 1) p ↔ BlkP F r i b k m p ∨ StepP F r i b m (k + 1 + m) p := by
  constructor
  · rintro ⟨j, hj, h⟩
    by_cases e : j = m
    · subst e; exact .inr h
    · exact .inl ⟨j, by omega, h⟩
  · rintro (⟨j, hj, h⟩ | h)
    · exact ⟨j, by omega, h⟩
    · exact ⟨m, by omega, h⟩
theorem LineP.succ {F : LFun} {r : Int} {line : List Int} {n : Nat} {i : Int} {b : LBlk} (hi : line[n]? = some i) (hb : F.blocks[i.toNat]? = some b) {p : Int} : LineP F r line (n + 1) p ↔ LineP F r line n p ∨ BlkP F r i.toNat b (baseL F (line.take n)) (b.body.length + 1) p := by
  constructor
  · rintro ⟨q, i', b', hq, h1, h2, h3⟩
    by_cases e : q = n
    · subst e; rw [hi] at h1; cases h1; rw [hb] at h2; cases h2; exact .inr h3
    · exact .inl ⟨q, i', b', by omega, h1, h2, h3⟩
  · rintro (⟨q, i', b', hq, h1, h2, h3⟩ | h)
    · exact ⟨q, i', b', by omega, h1, h2, h3⟩
    · exact ⟨n, i, b, by omega, hi, hb, h⟩
theorem baseL_take {F : LFun} {i : Int} {b : LBlk} : ∀ {line : List Int} {n : Nat}, line[n]? = some i → F.blocks[i.toNat]? = some b → baseL F (line.take (n + 1)) = baseL F (line.take n) + (b.body.length + 1)
  | x :: xs, 0, h, hb => by simp at h; subst h; simp [baseL, bodyLen, hb]
  | x :: xs, n + 1, h, hb => by
    have := baseL_take (line := xs) (n := n) (by simpa using h) hb
    simp only [List.take_succ_cons, baseL] at this ⊢
    omega
theorem baseL_pos (F : LFun) : ∀ (l : List Int), 0 ≤ baseL F l
  | [] => by simp [baseL]
  | i :: is => by have := baseL_pos F is; have : 0 ≤ bodyLen F i := (by unfold bodyLen; split <;> omega); simp only [baseL]; omega
theorem baseL_le {F : LFun} (hS : SmallF F) : ∀ (l : List Int), baseL F l ≤ 1000001 * l.length
  | [] => by simp [baseL]
  | i :: is => by
    have h1 := baseL_le hS is
    have h2 : bodyLen F i ≤ 1000000 := by
      unfold bodyLen
      split
      · rename_i b hb; have := hS.bodies b (List.mem_of_getElem? hb); omega
      · omega
    simp only [baseL, List.length_cons]; omega
/-! ### It is the span -/
section
variable {F : LFun} {r : Int} {line : List Int}
end
end Go.Proofs.YtjjfehdlmdhhmaaDoor
end
section
/- LiveSpans, plain: the line that is turned, and what stands in the intervals. -/
namespace Go.Proofs.YtjjfehdlmdhhmaaDoor
open Go.Sep
set_option linter.unusedSimpArgs false
set_option linter.unusedVariables false
theorem rise_add {l : List Int} (hs : l.Pairwise (· < ·)) {i : Nat} {x : Int} (hi : l[i]? = some x) : ∀ (d : Nat) (y : Int), l[i + d]? = some y → x + d ≤ y
  | 0, y, h => by rw [Nat.add_zero, hi] at h; cases h; simp
  | d + 1, y, h => by
    have hlt := (List.getElem?_eq_some_iff.1 h).1
    have h1 := rise_add hs hi d l[i + d] (List.getElem?_eq_getElem (by omega))
    have h2 := List.pairwise_iff_getElem.1 hs (i + d) (i + (d + 1)) (by omega) hlt (by omega)
    have h3 := (List.getElem?_eq_some_iff.1 h).2
    omega
theorem rise_range {l : List Int} {n : Nat} (hs : l.Pairwise (· < ·)) (hl : l.length = n) (hin : ∀ x ∈ l, 0 ≤ x ∧ x < (n : Int)) {i : Nat} (hi : i < n) : l[i]? = some (i : Int) := by
  obtain ⟨x, hx⟩ : ∃ x, l[i]? = some x := ⟨_, List.getElem?_eq_getElem (by omega)⟩
  obtain ⟨a, ha⟩ : ∃ x, l[0]? = some x := ⟨_, List.getElem?_eq_getElem (by omega)⟩
  obtain ⟨b, hb⟩ : ∃ x, l[n - 1]? = some x := ⟨_, List.getElem?_eq_getElem (by omega)⟩
  have h1 := rise_add hs ha i x (by simpa using hx)
  have h2 := rise_add hs hx (n - 1 - i) b (by rw [show i + (n - 1 - i) = n - 1 by omega]; exact hb)
  have h3 := hin a (List.mem_of_getElem? ha)
  have h4 := hin b (List.mem_of_getElem? hb)
  rw [hx]; congr 1; omega
theorem lineB_of {line : List Int} {n : Nat} (hn : 0 < n) (hl : line.length = n) (hd : line.Nodup) (hin : ∀ x ∈ line, 0 ≤ x ∧ x < (n : Int)) : lineB line n = true := by
  have hp : (sortI line).Perm line := List.mergeSort_perm _ _
  have hlen : (sortI line).length = n := by rw [hp.length_eq]; exact hl
  have hdn : (sortI line).Nodup := hp.nodup_iff.2 hd
  have hs : (sortI line).Pairwise (· < ·) := by
    refine List.Pairwise.imp ?_ ((sortI_sorted line).and hdn)
    rintro a b ⟨h1, h2⟩
    have h2 : a ≠ b := h2
    omega
  have hg : ∀ i, i < n → (sortI line)[i]? = some (i : Int) := fun i hi => rise_range hs hlen (fun x hx => hin x (hp.mem_iff.1 hx)) hi
  have hc : (Lib.compact (sortI line)).length = n := by
    generalize sortI line = z at hlen hg
    unfold Lib.compact
    rw [Lib.compactUpTo_all]
    · simp [hlen]
    · intro j hj
      rw [hlen] at hj
      rcases Nat.eq_zero_or_pos j with e | e
      · subst e; exact Lib.keeps_lt_one _ 0 (by omega)
      · refine Lib.keeps_pos ?_
        have g : ∀ k, k < n → z.toArray[k]! = (k : Int) := fun k hk => by
          have := hg k hk
          rw [getElem!_pos _ k (by simp; omega)]
          obtain ⟨a, b⟩ := List.getElem?_eq_some_iff.1 this
          simp [b]
        rw [g j hj, g (j - 1) (by omega)]; omega
  unfold lineB
  rw [hc, hg 0 hn, hg (n - 1) (by omega), hl]
  simp; omega
/-! ### What stands in the intervals -/
theorem isSpan_new (r : Int) : IsSpan r (fun _ => False) (⟨-1, 0, 0⟩ : Iv) := .inl ⟨rfl, fun _ h => h⟩
theorem evF_pos {F : LFun} (hQ : FormQ F) {line : List Int} (hline : ∀ i ∈ line, F.blocks[i.toNat]? ≠ none) : ∀ e ∈ evF F line, 0 ≤ e.1 := by
  rintro ⟨r, p⟩ h
  unfold evF at h
  rw [List.mem_append, mem_evAt, mem_evLine line 0 hline] at h
  rcases h with h | ⟨q, i, b, h1, h2, h3⟩
  · exact (hQ.ps r h.1).1
  · rw [mem_evBlk, mem_evBody] at h3
    rcases h3 with ⟨h, e⟩ | ⟨j, x, hx, ⟨h, e⟩ | ⟨h, h0, e⟩⟩ | ⟨h, h0, e⟩ | ⟨h, e⟩
    · exact (mem_listOf.1 h).1
    · exact (hQ.regs.args b (List.mem_of_getElem? h2) x (List.mem_of_getElem? hx) r h).1
    · exact h0
    · exact h0
    · exact (mem_listOf.1 h).1
end Go.Proofs.YtjjfehdlmdhhmaaDoor
end
