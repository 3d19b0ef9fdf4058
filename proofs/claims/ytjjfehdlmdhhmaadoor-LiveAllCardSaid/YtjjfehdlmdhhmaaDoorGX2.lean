/- The document's intervals, plain. -/
import Derived.Test.YtjjfehdlmdhhmaaDoorGW2
import Derived.Test.YtjjfehdlmdhhmaaDoorGT7
import Derived.Test.YtjjfehdlmdhhmaaDoorGL7
import Derived.Test.YtjjfehdlmdhhmaaDoorGX1
section
/- The document's intervals, plain. -/
namespace Go.Proofs.YtjjfehdlmdhhmaaDoor
open Go.Sep
set_option linter.unusedSimpArgs false
set_option linter.unusedVariables false
def wideI (x : Iv) (p : Int) : Iv := ⟨x.reg, if x.fr < 0 ∨ p < x.fr then p else x.fr, if p > x.to then p else x.to⟩
def wideS (l : List Iv) (r p : Int) : List Iv := match l[r.toNat]? with
  | some x => l.set r.toNat (wideI x p)
  | none => l
def wideAll (l : List Iv) (es : List (Int × Int)) : List Iv := es.foldl (fun l e => wideS l e.1 e.2) l
theorem wideAll_append (l : List Iv) (a b : List (Int × Int)) : wideAll l (a ++ b) = wideAll (wideAll l a) b := List.foldl_append
theorem wideS_len (l : List Iv) (r p : Int) : (wideS l r p).length = l.length := by unfold wideS; split <;> simp
theorem wideAll_len : ∀ (es : List (Int × Int)) (l : List Iv), (wideAll l es).length = l.length
  | [], _ => rfl
  | e :: es, l => by show (wideAll (wideS l e.1 e.2) es).length = _; rw [wideAll_len es, wideS_len]
/-- the interval of the places of r, as the document keeps it -/
def IsW (r : Int) (A : Int → Prop) (x : Iv) : Prop := x.reg = r ∧ ((x.fr = -1 ∧ x.to = -1 ∧ ∀ p, ¬ A p) ∨ (A x.fr ∧ A x.to ∧ ∀ p, A p → x.fr ≤ p ∧ p ≤ x.to))
theorem IsW.wide {r : Int} {A : Int → Prop} {x : Iv} (h : IsW r A x) (h0 : ∀ q, A q → 0 ≤ q) {p : Int} (hp : 0 ≤ p) : IsW r (fun q => A q ∨ q = p) (wideI x p) := by
  obtain ⟨e, h⟩ := h
  refine ⟨e, .inr ?_⟩
  unfold wideI
  rcases h with ⟨a, b, c⟩ | ⟨a, b, c⟩
  · simp only
    rw [if_pos (by omega), if_pos (by omega)]
    exact ⟨.inr rfl, .inr rfl, fun q hq => by rcases hq with hq | rfl; exact absurd hq (c q); omega⟩
  · have := h0 _ a
    have hft := c _ b
    simp only
    refine ⟨?_, ?_, fun q hq => ?_⟩
    · split
      · exact .inr rfl
      · exact .inl a
    · split
      · exact .inr rfl
      · exact .inl b
    · rcases hq with hq | rfl
      · have := c q hq; have := h0 q hq
        split <;> split <;> omega
      · split <;> split <;> omega
theorem IsW.iff {r : Int} {A B : Int → Prop} {x : Iv} (h : IsW r A x) (e : ∀ q, A q ↔ B q) : IsW r B x := by
  have : A = B := funext fun q => propext (e q)
  rw [← this]; exact h
theorem wideAll_span {r : Int} (hr : 0 ≤ r) : ∀ (es : List (Int × Int)) (l : List Iv) (A : Int → Prop) (x : Iv), (∀ e ∈ es, 0 ≤ e.1 ∧ 0 ≤ e.2) → (∀ q, A q → 0 ≤ q) → l[r.toNat]? = some x → IsW r A x → ∃ y, (wideAll l es)[r.toNat]? = some y ∧ IsW r (fun q => A q ∨ (r, q) ∈ es) y
  | [], l, A, x, _, _, hx, hA => ⟨x, hx, hA.iff fun q => by simp⟩
  | (e, p) :: es, l, A, x, he, h0, hx, hA => by
    have he0 := he (e, p) (by simp)
    have hes : ∀ d ∈ es, 0 ≤ d.1 ∧ 0 ≤ d.2 := fun d hd => he d (by simp [hd])
    show ∃ y, (wideAll (wideS l e p) es)[r.toNat]? = some y ∧ _
    by_cases h : e = r
    · subst h
      have h1 : (wideS l e p)[e.toNat]? = some (wideI x p) := by
        unfold wideS; rw [hx]
        exact List.getElem?_set_self (List.getElem?_eq_some_iff.1 hx).1
      obtain ⟨y, hy, hS⟩ := wideAll_span hr es _ _ _ hes (fun q hq => by rcases hq with hq | rfl; exact h0 q hq; exact he0.2) h1 (hA.wide h0 he0.2)
      refine ⟨y, hy, hS.iff fun q => ?_⟩
      simp only [List.mem_cons, Prod.mk.injEq, true_and, or_assoc]
    · have h1 : (wideS l e p)[r.toNat]? = some x := by
        unfold wideS
        split
        · rw [List.getElem?_set_ne (by omega)]; exact hx
        · exact hx
      obtain ⟨y, hy, hS⟩ := wideAll_span hr es _ _ _ hes h0 h1 hA
      refine ⟨y, hy, hS.iff fun q => ?_⟩
      simp only [List.mem_cons, Prod.mk.injEq]
      constructor
      · rintro (h2 | h2)
        · exact .inl h2
        · exact .inr (.inr h2)
      · rintro (h2 | ⟨h2, _⟩ | h2)
        · exact .inl h2
        · exact absurd h2.symm h
        · exact .inr h2
/-! ### The document's order of places -/
def headE (a b : List Bool) (k m : Int) (t : Nat) : List (Int × Int) := (List.range t).flatMap fun r : Nat => (if a[r]? = some true then [((r : Int), 2 * (k + 1))] else []) ++ (if b[r]? = some true then [((r : Int), 2 * (k + m + 1) + 1)] else [])
theorem headE_succ (a b : List Bool) (k m : Int) (t : Nat) : headE a b k m (t + 1) = headE a b k m t ++ ((if a[t]? = some true then [((t : Int), 2 * (k + 1))] else []) ++ (if b[t]? = some true then [((t : Int), 2 * (k + m + 1) + 1)] else [])) := by
  unfold headE; rw [List.range_succ, List.flatMap_append]; simp
def refBlk (a b : List Bool) (x : LBlk) (k : Int) (R : Nat) : List (Int × Int) :=
  headE a b k x.body.length R ++ (evBody k x.body ++ if 0 ≤ x.value then [(x.value, 2 * (k + x.body.length + 1))] else [])
def refLine (F : LFun) (A B : List (List Bool)) (R : Nat) : Int → List Int → List (Int × Int)
  | _, [] => []
  | k, i :: is => match F.blocks[i.toNat]? with
    | some b => refBlk (A.getD i.toNat []) (B.getD i.toNat []) b k R ++ refLine F A B R (k + (b.body.length + 1)) is
    | none => []
theorem mem_headE {a b : List Bool} {k m : Int} {t : Nat} {r p : Int} : (r, p) ∈ headE a b k m t ↔ 0 ≤ r ∧ r < t ∧ ((a[r.toNat]? = some true ∧ p = 2 * (k + 1)) ∨ (b[r.toNat]? = some true ∧ p = 2 * (k + m + 1) + 1)) := by
  unfold headE
  rw [List.mem_flatMap]
  constructor
  · rintro ⟨q, hq, h⟩
    rw [List.mem_range] at hq
    rw [List.mem_append] at h
    rcases h with h | h
    · split at h
      · rename_i ha; simp at h; obtain ⟨rfl, rfl⟩ := h; exact ⟨by omega, by omega, .inl ⟨by simpa using ha, rfl⟩⟩
      · cases h
    · split at h
      · rename_i ha; simp at h; obtain ⟨rfl, rfl⟩ := h; exact ⟨by omega, by omega, .inr ⟨by simpa using ha, rfl⟩⟩
      · cases h
  · rintro ⟨h0, h1, h⟩
    refine ⟨r.toNat, by rw [List.mem_range]; omega, ?_⟩
    have e : ((r.toNat : Nat) : Int) = r := by omega
    rw [List.mem_append, e]
    rcases h with ⟨ha, rfl⟩ | ⟨ha, rfl⟩
    · left; rw [if_pos ha]; simp
    · right; rw [if_pos ha]; simp
/-- both orders name the same places -/
theorem mem_refBlk {F : LFun} {i : Nat} {a b : List Bool} {x : LBlk} {k : Int} {R : Nat} (hR : (R : Int) = F.regs) (ha : ∀ r : Nat, r < R → (a[r]? = some true ↔ LiveIn F (r : Int) i)) (hb : ∀ r : Nat, r < R → (b[r]? = some true ↔ LiveOut F (r : Int) i)) {r p : Int} :
    (r, p) ∈ refBlk a b x k R ↔ (r, p) ∈ evBlk (aheadOf F i) (behindOf F i) x k := by
  unfold refBlk
  rw [mem_evBlk, List.mem_append, List.mem_append, mem_headE]
  have e1 : (r, p) ∈ (if 0 ≤ x.value then [(x.value, 2 * (k + x.body.length + 1))] else []) ↔ (x.value = r ∧ 0 ≤ r ∧ p = 2 * (k + x.body.length + 1)) := by
    split
    · rename_i h; simp; constructor
      · rintro ⟨rfl, rfl⟩; exact ⟨rfl, h, rfl⟩
      · rintro ⟨rfl, _, rfl⟩; exact ⟨rfl, rfl⟩
    · rename_i h; simp; rintro rfl h2; omega
  have e2 : r ∈ aheadOf F i ↔ 0 ≤ r ∧ r < R ∧ a[r.toNat]? = some true := by
    unfold aheadOf; rw [mem_listOf]
    constructor
    · rintro ⟨h0, h1, h⟩; exact ⟨h0, by omega, (ha r.toNat (by omega)).2 (by rw [Int.toNat_of_nonneg h0]; exact h)⟩
    · rintro ⟨h0, h1, h⟩; exact ⟨h0, by omega, by have := (ha r.toNat (by omega)).1 h; rw [Int.toNat_of_nonneg h0] at this; exact this⟩
  have e3 : r ∈ behindOf F i ↔ 0 ≤ r ∧ r < R ∧ b[r.toNat]? = some true := by
    unfold behindOf; rw [mem_listOf]
    constructor
    · rintro ⟨h0, h1, h⟩; exact ⟨h0, by omega, (hb r.toNat (by omega)).2 (by rw [Int.toNat_of_nonneg h0]; exact h)⟩
    · rintro ⟨h0, h1, h⟩; exact ⟨h0, by omega, by have := (hb r.toNat (by omega)).1 h; rw [Int.toNat_of_nonneg h0] at this; exact this⟩
  rw [e1, e2, e3]
  constructor
  · rintro (⟨h0, h1, ⟨h, e⟩ | ⟨h, e⟩⟩ | h | h)
    · exact .inl ⟨⟨h0, h1, h⟩, e⟩
    · exact .inr (.inr (.inr ⟨⟨h0, h1, h⟩, e⟩))
    · exact .inr (.inl h)
    · exact .inr (.inr (.inl h))
  · rintro (⟨⟨h0, h1, h⟩, e⟩ | h | h | ⟨⟨h0, h1, h⟩, e⟩)
    · exact .inl ⟨h0, h1, .inl ⟨h, e⟩⟩
    · exact .inr (.inl h)
    · exact .inr (.inr h)
    · exact .inl ⟨h0, h1, .inr ⟨h, e⟩⟩
structure Tells (F : LFun) (A B : List (List Bool)) (R : Nat) : Prop where
  regs : (R : Int) = F.regs
  a : ∀ (i : Nat) (b : LBlk) (r : Nat), F.blocks[i]? = some b → r < R → ((A.getD i [])[r]? = some true ↔ LiveIn F (r : Int) i)
  b : ∀ (i : Nat) (b : LBlk) (r : Nat), F.blocks[i]? = some b → r < R → ((B.getD i [])[r]? = some true ↔ LiveOut F (r : Int) i)
theorem mem_refLine {F : LFun} {A B : List (List Bool)} {R : Nat} (hT : Tells F A B R) {r p : Int} : ∀ (is : List Int) (k : Int), ((r, p) ∈ refLine F A B R k is ↔ (r, p) ∈ evLine F k is)
  | [], k => by simp [refLine, evLine]
  | i :: is, k => by
    cases hb : F.blocks[i.toNat]? with
    | none => simp only [refLine, evLine, hb]
    | some b =>
      simp only [refLine, evLine, hb]
      rw [List.mem_append, List.mem_append, mem_refLine hT is, mem_refBlk hT.regs (fun r hr => hT.a _ b r hb hr) (fun r hr => hT.b _ b r hb hr)]
/-- all places along a line -/
theorem ev_range {F : LFun} {r p : Int} : ∀ (is : List Int) (k : Int), 0 ≤ k → (r, p) ∈ evLine F k is → 0 ≤ p ∧ p ≤ 2 * (k + baseL F is) + 1
  | [], k, _, h => by simp [evLine] at h
  | i :: is, k, hk, h => by
    cases hb : F.blocks[i.toNat]? with
    | none => simp only [evLine, hb] at h; cases h
    | some b =>
      have hl : bodyLen F i = b.body.length := by unfold bodyLen; rw [hb]
      simp only [evLine, hb] at h
      have hp := baseL_pos F is
      simp only [baseL, hl]
      rw [List.mem_append, mem_evBlk, mem_evBody] at h
      rcases h with (⟨_, e⟩ | ⟨j, x, hx, ⟨_, e⟩ | ⟨_, _, e⟩⟩ | ⟨_, _, e⟩ | ⟨_, e⟩) | h
      · omega
      · have := (List.getElem?_eq_some_iff.1 hx).1; omega
      · have := (List.getElem?_eq_some_iff.1 hx).1; omega
      · omega
      · omega
      · have := ev_range is (k + (b.body.length + 1)) (by omega) h; omega
def initR (R : Nat) : List Iv := (List.range R).map fun r : Nat => ⟨(r : Int), -1, -1⟩
def refAll (F : LFun) (A B : List (List Bool)) (R : Nat) (line : List Int) : List Iv := wideAll (initR R) (evAt 0 F.params ++ refLine F A B R 0 line)
def inB (x : Iv) : Bool := decide (0 ≤ x.fr)
/-- the places that are kept, by From: the registers rise -/
def outR (l : List Iv) (p : Nat) : List Iv := (List.range p).flatMap fun q : Nat => l.filter fun x => decide (x.fr = (q : Int))
theorem outR_succ (l : List Iv) (p : Nat) : outR l (p + 1) = outR l p ++ l.filter fun x => decide (x.fr = (p : Int)) := by unfold outR; rw [List.range_succ, List.flatMap_append]; simp
theorem outR_perm (l : List Iv) : ∀ p : Nat, (outR l p).Perm (l.filter fun x => decide (0 ≤ x.fr ∧ x.fr < (p : Int)))
  | 0 => by
    have : (l.filter fun x => decide (0 ≤ x.fr ∧ x.fr < ((0 : Nat) : Int))) = [] := by
      rw [List.filter_eq_nil_iff]; intro x _ h; have := of_decide_eq_true h; omega
    rw [this]; exact List.Perm.refl _
  | p + 1 => by
    rw [outR_succ]
    have h1 := (outR_perm l p).append_right (l.filter fun x => decide (x.fr = (p : Int)))
    refine h1.trans ?_
    have h2 := List.filter_append_perm (fun x : Iv => decide (x.fr < (p : Int))) (l.filter fun x => decide (0 ≤ x.fr ∧ x.fr < ((p + 1 : Nat) : Int)))
    rw [List.filter_filter, List.filter_filter] at h2
    have e1 : (l.filter fun x => decide (x.fr < (p : Int)) && decide (0 ≤ x.fr ∧ x.fr < ((p + 1 : Nat) : Int))) = l.filter fun x => decide (0 ≤ x.fr ∧ x.fr < (p : Int)) :=
      List.filter_congr fun x _ => by rw [← Bool.decide_and]; exact decide_eq_decide.2 (by omega)
    have e2 : (l.filter fun x => !decide (x.fr < (p : Int)) && decide (0 ≤ x.fr ∧ x.fr < ((p + 1 : Nat) : Int))) = l.filter fun x => decide (x.fr = (p : Int)) :=
      List.filter_congr fun x _ => by rw [← decide_not, ← Bool.decide_and]; exact decide_eq_decide.2 (by omega)
    rw [e1, e2] at h2
    exact h2
theorem outR_sorted {l : List Iv} (hr : l.Pairwise fun x y => x.reg < y.reg) : ∀ p : Nat, (outR l p).Pairwise ltV
  | 0 => by simp [outR]
  | p + 1 => by
    rw [outR_succ, List.pairwise_append]
    refine ⟨outR_sorted hr p, ?_, fun a ha b hb => ?_⟩
    · refine List.Pairwise.imp_of_mem ?_ (hr.sublist List.filter_sublist)
      intro a b ha hb hab
      have h1 := (List.mem_filter.1 ha).2
      have h2 := (List.mem_filter.1 hb).2
      simp at h1 h2
      exact .inr ⟨by omega, hab⟩
    · have h1 := (outR_perm l p).mem_iff.1 ha
      have h1 := (List.mem_filter.1 h1).2
      have h2 := (List.mem_filter.1 hb).2
      simp at h1 h2
      exact .inl (by omega)
theorem filter_two {α : Type} {p q : α → Bool} : ∀ {l m : List α}, l.length = m.length → (∀ (i : Nat) (x y : α), l[i]? = some x → m[i]? = some y → (p x = false ∧ q y = false) ∨ (p x = true ∧ q y = true ∧ x = y)) → l.filter p = m.filter q
  | [], [], _, _ => rfl
  | [], _ :: _, h, _ => by simp at h
  | _ :: _, [], h, _ => by simp at h
  | x :: l, y :: m, h, H => by
    have ih := filter_two (p := p) (q := q) (l := l) (m := m) (by simpa using h) (fun i x y hx hy => H (i + 1) x y (by simpa using hx) (by simpa using hy))
    rcases H 0 x y rfl rfl with ⟨a, b⟩ | ⟨a, b, rfl⟩
    · rw [List.filter_cons_of_neg (by simp [a]), List.filter_cons_of_neg (by simp [b]), ih]
    · rw [List.filter_cons_of_pos a, List.filter_cons_of_pos b, ih]
section
variable {F : LFun} {A B : List (List Bool)} {R : Nat} {line : List Int}
theorem initR_get {R r : Nat} (h : r < R) : (initR R)[r]? = some ⟨(r : Int), -1, -1⟩ := by unfold initR; rw [List.getElem?_map, List.getElem?_range h]; rfl
theorem initR_len (R : Nat) : (initR R).length = R := by simp [initR]
theorem refAll_slot (hQ : FormQ F) (hT : Tells F A B R) (hline : ∀ i ∈ line, F.blocks[i.toNat]? ≠ none) {r : Nat} (hr : r < R) : ∃ x, (refAll F A B R line)[r]? = some x ∧ IsW (r : Int) (fun q => (((r : Nat) : Int), q) ∈ evF F line) x := by
  have hiff : ∀ e : Int × Int, e ∈ evAt 0 F.params ++ refLine F A B R 0 line ↔ e ∈ evF F line := fun ⟨r, p⟩ => by
    unfold evF; rw [List.mem_append, List.mem_append, mem_refLine hT]
  have hpos := evF_pos hQ hline
  have hp2 : ∀ e ∈ evF F line, 0 ≤ e.2 := fun ⟨r, p⟩ he => by
    unfold evF at he
    rw [List.mem_append, mem_evAt] at he
    rcases he with ⟨_, e⟩ | he
    · simp only; omega
    · exact (ev_range line 0 (Int.le_refl _) he).1
  obtain ⟨y, hy, hs⟩ := wideAll_span (r := (r : Int)) (by omega) (evAt 0 F.params ++ refLine F A B R 0 line) (initR R) (fun _ => False) ⟨(r : Int), -1, -1⟩ (fun e he => ⟨hpos e ((hiff e).1 he), hp2 e ((hiff e).1 he)⟩) (fun _ h => h.elim) (initR_get hr) ⟨rfl, .inl ⟨rfl, rfl, fun _ h => h⟩⟩
  exact ⟨y, hy, hs.iff fun q => by simp only [false_or]; exact hiff _⟩
theorem refAll_len : (refAll F A B R line).length = R := by unfold refAll; rw [wideAll_len, initR_len]
theorem refAll_regs (hQ : FormQ F) (hT : Tells F A B R) (hline : ∀ i ∈ line, F.blocks[i.toNat]? ≠ none) : (refAll F A B R line).Pairwise fun x y => x.reg < y.reg := by
  rw [List.pairwise_iff_getElem]
  intro i j hi hj hij
  rw [refAll_len] at hi hj
  obtain ⟨x, gx, hx⟩ := refAll_slot hQ hT hline hi
  obtain ⟨y, gy, hy⟩ := refAll_slot hQ hT hline hj
  rw [(List.getElem?_eq_some_iff.1 gx).2, (List.getElem?_eq_some_iff.1 gy).2, hx.1, hy.1]
  omega
/-- what the document keeps is what is kept -/
theorem refAll_kept (hQ : FormQ F) (hT : Tells F A B R) (hline : ∀ i ∈ line, F.blocks[i.toNat]? ≠ none) (hlen : (spansF F line).length = R) :
    (refAll F A B R line).filter inB = (spansF F line).filter keepB := by
  refine filter_two (by rw [refAll_len, hlen]) fun i x y gx gy => ?_
  have hi := (List.getElem?_eq_some_iff.1 gx).1
  rw [refAll_len] at hi
  obtain ⟨x', gx', hx⟩ := refAll_slot hQ hT hline hi
  rw [gx] at gx'; cases gx'
  have h0 : (List.replicate F.regs.toNat (⟨-1, 0, 0⟩ : Iv))[((i : Nat) : Int).toNat]? = some ⟨-1, 0, 0⟩ := by
    rw [List.getElem?_replicate, if_pos (by have := hT.regs; omega)]
  obtain ⟨y', gy', hy⟩ := meetAll_span (r := ((i : Nat) : Int)) (by omega) (evF F line) _ _ _ (evF_pos hQ hline) h0 (isSpan_new i)
  rw [meetAll_F] at gy'
  rw [show ((i : Nat) : Int).toNat = i by simp, gy] at gy'
  cases gy'
  have hy := hy.iff (B := fun q => (((i : Nat) : Int), q) ∈ evF F line) fun q => by simp
  have hnn : ∀ q, (((i : Nat) : Int), q) ∈ evF F line → 0 ≤ q := fun q he => by
    unfold evF at he
    rw [List.mem_append, mem_evAt] at he
    rcases he with ⟨_, e⟩ | he
    · omega
    · exact (ev_range line 0 (Int.le_refl _) he).1
  obtain ⟨a, b, c⟩ := x
  obtain ⟨d, e, f⟩ := y
  obtain ⟨e0, hx⟩ := hx
  simp only at e0 hx
  unfold inB keepB
  rcases hx with ⟨h1, h2, h3⟩ | ⟨h1, h2, h3⟩
  · rcases hy with ⟨g1, _⟩ | ⟨_, g2, _⟩
    · simp only at g1
      left; simp only [h1, g1]; decide
    · exact absurd g2 (h3 _)
  · rcases hy with ⟨_, g2⟩ | ⟨g1, g2, g3, g4⟩
    · exact absurd h1 (g2 _)
    · simp only at g1 g2 g3 g4
      have := hnn _ h1
      have := h3 e g2
      have := h3 f g3
      have := g4 b h1
      have := g4 c h2
      right
      simp only [decide_eq_true_eq, Iv.mk.injEq]
      omega
/-- the document's list -/
theorem outR_all (hQ : FormQ F) (hT : Tells F A B R) (hline : ∀ i ∈ line, F.blocks[i.toNat]? ≠ none) (hlen : (spansF F line).length = R) {most : Nat} (hm : 2 * baseL F line + 1 = (most : Int)) :
    (outR (refAll F A B R line) (most + 1)).Perm ((spansF F line).filter keepB) ∧ (outR (refAll F A B R line) (most + 1)).Pairwise ltV := by
  refine ⟨?_, outR_sorted (refAll_regs hQ hT hline) _⟩
  rw [← refAll_kept hQ hT hline hlen]
  refine (outR_perm _ _).trans ?_
  have : (refAll F A B R line).filter (fun x => decide (0 ≤ x.fr ∧ x.fr < ((most + 1 : Nat) : Int))) = (refAll F A B R line).filter inB := by
    refine List.filter_congr fun x hx => ?_
    obtain ⟨i, gi⟩ := List.getElem?_of_mem hx
    have hi := (List.getElem?_eq_some_iff.1 gi).1
    rw [refAll_len] at hi
    obtain ⟨x', gx', hx'⟩ := refAll_slot hQ hT hline hi
    rw [gi] at gx'; cases gx'
    unfold inB
    refine decide_eq_decide.2 ⟨fun h => h.1, fun h => ⟨h, ?_⟩⟩
    obtain ⟨_, ⟨h1, _⟩ | ⟨h1, _, _⟩⟩ := hx'
    · omega
    · unfold evF at h1
      rw [List.mem_append, mem_evAt] at h1
      have hb := baseL_pos F line
      rcases h1 with ⟨_, e⟩ | h1
      · omega
      · have := (ev_range line 0 (Int.le_refl _) h1).2; omega
  rw [this]
end
theorem ltV_uniq {xs ys : List Iv} (hp : xs.Perm ys) (h1 : xs.Pairwise ltV) (h2 : ys.Pairwise ltV) : xs = ys :=
  hp.eq_of_pairwise (le := ltV) (fun a b _ _ h3 h4 => by unfold ltV at h3 h4; omega) h1 h2
end Go.Proofs.YtjjfehdlmdhhmaaDoor
end
section
/- The document's intervals: lines, one place, one block; walked. -/
namespace Go.Proofs.YtjjfehdlmdhhmaaDoor
open Go.Sep
set_option linter.unusedSimpArgs false
set_option linter.unusedVariables false
attribute [local irreducible] blk slA mp mpF rows rowsBut many
theorem compact_nodup {l : List Int} (hs : l.Pairwise (· ≤ ·)) (h : (Lib.compact l).length = l.length) : l.Nodup := by
  unfold Lib.compact Lib.compactUpTo at h
  rw [List.length_map] at h
  have h2 := (List.length_filter_eq_length_iff (p := Lib.keeps l.toArray) (l := List.range l.length)).1 (by rw [h, List.length_range])
  have adj : ∀ j, j + 1 < l.length → l[j]? ≠ l[j + 1]? := fun j hj e => by
    have h3 := h2 (j + 1) (List.mem_range.2 hj)
    rw [Lib.keeps_neg (by omega)] at h3
    · cases h3
    · rw [getElem!_pos _ (j + 1) (by simpa using hj), getElem!_pos _ (j + 1 - 1) (by simp; omega)]
      rw [List.getElem?_eq_getElem (by omega), List.getElem?_eq_getElem hj] at e
      simp only [List.getElem_toArray, Nat.add_sub_cancel]
      exact (Option.some.inj e).symm
  have hlt : ∀ (d i : Nat) (a b : Int), l[i]? = some a → l[i + d + 1]? = some b → a < b := fun d => by
    induction d with
    | zero =>
      intro i a b ha hb
      have h3 := adj i (List.getElem?_eq_some_iff.1 hb).1
      obtain ⟨i1, e1⟩ := List.getElem?_eq_some_iff.1 ha
      obtain ⟨i2, e2⟩ := List.getElem?_eq_some_iff.1 hb
      have h4 := List.pairwise_iff_getElem.1 hs i (i + 0 + 1) i1 i2 (by omega)
      have h5 : a ≠ b := fun e => h3 (by rw [ha]; rw [show i + 1 = i + 0 + 1 by omega, hb, e])
      omega
    | succ d ih =>
      intro i a b ha hb
      have hl := (List.getElem?_eq_some_iff.1 hb).1
      obtain ⟨c, hc⟩ : ∃ c, l[i + 1]? = some c := ⟨_, List.getElem?_eq_getElem (by omega)⟩
      have h3 := ih (i + 1) c b hc (by rw [show i + 1 + d + 1 = i + (d + 1) + 1 by omega]; exact hb)
      obtain ⟨i1, e1⟩ := List.getElem?_eq_some_iff.1 ha
      obtain ⟨i2, e2⟩ := List.getElem?_eq_some_iff.1 hc
      have h4 := List.pairwise_iff_getElem.1 hs i (i + 1) i1 i2 (by omega)
      omega
  refine List.pairwise_iff_getElem.2 fun i j hi hj hij => ?_
  have := hlt (j - i - 1) i _ _ (List.getElem?_eq_getElem hi) (by rw [show i + (j - i - 1) + 1 = j by omega]; exact List.getElem?_eq_getElem hj)
  omega
theorem lineB_iff {line : List Int} {n : Nat} (hn : 0 < n) : lineB line n = true ↔ line.length = n ∧ line.Nodup ∧ ∀ x ∈ line, 0 ≤ x ∧ x < (n : Int) := by
  constructor
  · intro h
    obtain ⟨h1, h2⟩ := line_in h
    refine ⟨h1, ?_, h2⟩
    unfold lineB at h
    simp only [Bool.and_eq_true, decide_eq_true_eq] at h
    have hp : (sortI line).Perm line := List.mergeSort_perm _ _
    exact hp.nodup_iff.1 (compact_nodup (sortI_sorted line) (by rw [h.2, hp.length_eq, h1]))
  · rintro ⟨h1, h2, h3⟩
    exact lineB_of hn h1 h2 h3
theorem not_line {line : List Int} {n : Nat} (hn : 0 < n) (h : ¬ (line.length = n ∧ line.Nodup ∧ ∀ x ∈ line, 0 ≤ x ∧ x < (n : Int))) : lineB line n = false := by
  cases e : lineB line n with
  | false => rfl
  | true => exact absurd ((lineB_iff hn).1 e) h
set_option maxHeartbeats 1000000 in
set_option maxRecDepth 100000 in
theorem isLine_ok (hR : Heap) (lv : SV) (line : List Int) (hl : SlR rdI hR lv.val line) (hll : line.length ≤ 100000000000000) (n : Nat) (hn0 : 0 < n) (hn : n ≤ 1000000) :
    Tri Tryd.prog hR 46 #[lv.val, .int .i64 (n : Int)] [] fun u Γ' => u = .bool (lineB line n) ∧ Γ' = [] := by
  refine Tri.ent (Tri.of (args := [lv.val, .int .i64 (n : Int)]) Tryd.func46 rfl Tryd.ntmps46 (by simp) ?_)
  refine Zp ?_
  refine Zm ?_
  refine Ze ?_
  refine Zp ?_
  refine Zm ?_
  refine Run.makeSlice (E := Enc.bool) (false) rfl rfl rfl sl_92 zr_4 rfl rfl rfl (by first | omega | (simp <;> omega)) (by first | omega | (simp <;> omega)) (by first | omega | (simp <;> omega)) (by first | omega | (simp <;> omega)) ?_
  intro b8
  refine Zm ?_
  refine Ze ?_
  refine WP.sup (ρ' := [(5, (⟨some ⟨b8, 0, none⟩, n, n⟩ : SV).val), (0, lv.val), (1, .int .i64 (n : Int))]) (Γ' := [slA 4 Enc.bool (⟨some ⟨b8, 0, none⟩, n, n⟩ : SV).val (List.replicate n false)]) (covers_get ⟨rfl, rfl, rfl, trivial⟩) ent.go ?_
  generalize (⟨some ⟨b8, 0, none⟩, n, n⟩ : SV) = mv
  refine WP.meetC (α := Nat × List Bool) (fun _ => line.Nodup ∧ ∀ x ∈ line, 0 ≤ x ∧ x < (n : Int)) (fun z => [(6, .int .i64 (z.1 : Int))]) (fun z => [(0, slA 4 Enc.bool mv.val z.2)]) ?_ ?_
  · refine Zp ?_
    refine Zm ?_
    refine Ze ?_
    refine WP.block ?_
    refine WP.loopC (α := Nat × List Bool) (fun z => z.1 ≤ line.length ∧ z.2.length = n ∧ (line.take z.1).Nodup ∧ (∀ x ∈ line.take z.1, 0 ≤ x ∧ x < (n : Int)) ∧ ∀ c : Nat, z.2[c]? = some true ↔ (c : Int) ∈ line.take z.1) (fun z => [(6, .int .i64 (z.1 : Int))]) (fun z => [(0, slA 4 Enc.bool mv.val z.2)]) (fun z => line.length - z.1) (0, List.replicate n false) ⟨Nat.zero_le _, by simp, by simp, by simp, fun c => ⟨fun h => (by rw [List.getElem?_replicate] at h; split at h <;> cases h), fun h => (by simp at h)⟩⟩ ?_
    rintro ⟨i, M⟩ ⟨hi, hM, hnd, hin, hmet⟩
    simp only at hi hM hnd hin hmet
    refine WP.trim [6, 5, 0, 1] [0] ?_
    try simp only
    refine WP.seq ?_
    refine Zp ?_
    refine Zm ?_
    refine Zm ?_
    refine Zh sl_22 hl ?_
    refine Zi ?_
    refine Ze ?_
    refine WP.ite rfl (fun hlt => ?_) (fun hge => ?_)
    · refine Zb ?_
      have hlt' : i < line.length := by omega
      obtain ⟨x, gx⟩ : ∃ x, line[(i : Int).toNat]? = some x := ⟨_, List.getElem?_eq_getElem hlt'⟩
      have gx' : line[i]? = some x := gx
      have hxm := List.mem_of_getElem? gx'
      have htk := take_at gx'
      refine WP.seq ?_
      refine WP.block ?_
      refine WP.meetC (α := Unit) (fun _ => 0 ≤ x ∧ x < (n : Int) ∧ M[x.toNat]? = some false) (fun _ => []) (fun _ => []) ?_ ?_
      · refine WP.seq ?_
        by_cases h1 : x < 0
        · refine Zc ?_
          refine Zm ?_
          refine Zm ?_
          refine Zx sl_22 hl ?_
          refine Zr ag_3 (SlR.cell0 hl gx rfl) ?_
          refine Zi ?_
          refine Run.tt h1 ?_
          refine Zm ?_
          iterate 6 refine Zv ?_
          refine Zq ?_
          refine Zm ?_
          iterate 7 refine Zv ?_
          refine Zq ?_
          refine Ze ?_
          refine Zyes ?_
          refine Zp ?_
          refine Zm ?_
          refine Ze ?_
          refine WP.ret ?_; refine thn_ret ?_; refine blk_ret ?_; refine thn_ret ?_; refine thn_ret ?_; refine blk_ret ?_; refine thn_ret ?_
          exact retT [4] _ rfl rfl ⟨_, ent.none _, by rw [not_line hn0 (fun h => by have := h.2.2 x hxm; omega)]; rfl, rfl⟩
        by_cases h2 : x ≥ (n : Int)
        · refine Zc ?_
          refine Zm ?_
          refine Zm ?_
          refine Zx sl_22 hl ?_
          refine Zr ag_3 (SlR.cell0 hl gx rfl) ?_
          refine Zi ?_
          refine Run.ff h1 ?_
          iterate 3 refine Zm ?_
          refine Zx sl_22 hl ?_
          refine Zr ag_3 (SlR.cell0 hl gx rfl) ?_
          refine Zm ?_
          refine Zi ?_
          refine Run.tt h2 ?_
          refine Zq ?_
          refine Zm ?_
          iterate 7 refine Zv ?_
          refine Zq ?_
          refine Ze ?_
          refine Zyes ?_
          refine Zp ?_
          refine Zm ?_
          refine Ze ?_
          refine WP.ret ?_; refine thn_ret ?_; refine blk_ret ?_; refine thn_ret ?_; refine thn_ret ?_; refine blk_ret ?_; refine thn_ret ?_
          exact retT [4] _ rfl rfl ⟨_, ent.none _, by rw [not_line hn0 (fun h => by have := h.2.2 x hxm; omega)]; rfl, rfl⟩
        obtain ⟨c, gc⟩ : ∃ y, M[x.toNat]? = some y := ⟨_, List.getElem?_eq_getElem (by omega)⟩
        refine Zc ?_
        refine Zm ?_
        refine Zm ?_
        refine Zx sl_22 hl ?_
        refine Zr ag_3 (SlR.cell0 hl gx rfl) ?_
        refine Zi ?_
        refine Run.ff h1 ?_
        iterate 3 refine Zm ?_
        refine Zx sl_22 hl ?_
        refine Zr ag_3 (SlR.cell0 hl gx rfl) ?_
        refine Zm ?_
        refine Zi ?_
        refine Run.ff h2 ?_
        refine Zq ?_
        iterate 4 refine Zm ?_
        refine Zx sl_22 hl ?_
        refine Zr ag_3 (SlR.cell0 hl gx rfl) ?_
        refine Run.idxO 0 rfl rfl rfl sl_92 rfl rfl rfl rfl (by omega) (by omega) ?_
        refine Run.loadO 0 x.toNat 0 rfl rfl ag_4 rfl rfl rfl rfl gc rfl ?_
        refine Zq ?_
        refine Ze ?_
        cases c with
        | true =>
          refine Zyes ?_
          refine Zp ?_
          refine Zm ?_
          refine Ze ?_
          refine WP.ret ?_; refine thn_ret ?_; refine blk_ret ?_; refine thn_ret ?_; refine thn_ret ?_; refine blk_ret ?_; refine thn_ret ?_
          have hm : x ∈ line.take i := by have := (hmet x.toNat).1 gc; rwa [Int.toNat_of_nonneg (by omega)] at this
          exact retT [4] _ rfl rfl ⟨_, ent.none _, by rw [not_line hn0 (fun h => by
            obtain ⟨q, hq, gq⟩ := mem_take_ix hm
            obtain ⟨q1, e1⟩ := List.getElem?_eq_some_iff.1 gq
            obtain ⟨q2, e2⟩ := List.getElem?_eq_some_iff.1 gx'
            exact List.pairwise_iff_getElem.1 h.2.1 q i q1 q2 hq (e1.trans e2.symm))]; rfl, rfl⟩
        | false =>
          refine Zno ?_
          refine WP.skip ?_
          exact thn_next ⟨(), ⟨by omega, by omega, gc⟩, Ko.go, ent.gc⟩
      rintro _ ⟨x0, x1, gc⟩
      refine WP.trim [6, 5, 0, 1] [0] ?_
      refine Zc ?_
      iterate 3 refine Zm ?_
      refine Zx sl_22 hl ?_
      refine Zr ag_3 (SlR.cell0 hl gx rfl) ?_
      refine Run.idxO 0 rfl rfl rfl sl_92 rfl rfl rfl rfl (by omega) (by omega) ?_
      refine Run.storeO 0 x.toNat 0 (y' := true) rfl rfl rfl rfl ag_4 rfl rfl rfl rfl gc rfl rfl ?_
      refine Run.nil ?_
      refine blk_norm ?_; refine thn_next ?_
      refine Zc ?_
      refine Zm ?_
      refine Za ?_
      refine Zm ?_
      refine Run.nil ?_
      have hnm : x ∉ line.take i := fun hm => by
        have := (hmet x.toNat).2 (by rw [Int.toNat_of_nonneg x0]; exact hm)
        rw [gc] at this; cases this
      refine thn_next ⟨(i + 1, M.set x.toNat true), ⟨hlt', by rw [List.length_set]; exact hM, ?_, fun y hy => ?_, fun c => ?_⟩, by simp only; omega, Ko.go, ent.gc⟩
      · simp only [htk]
        rw [List.nodup_append]
        exact ⟨hnd, by simp, fun a ha b hb => by rw [List.mem_singleton.1 hb]; exact fun e => hnm (e ▸ ha)⟩
      · simp only [htk] at hy
        rcases List.mem_append.1 hy with hy | hy
        · exact hin y hy
        · rw [List.mem_singleton.1 hy]; exact ⟨x0, x1⟩
      · simp only [htk]
        rw [List.mem_append, List.mem_singleton]
        by_cases e : x.toNat = c
        · subst e
          rw [List.getElem?_set_self (by omega)]
          exact ⟨fun _ => .inr (by omega), fun _ => rfl⟩
        · rw [List.getElem?_set_ne e, hmet c]
          exact ⟨.inl, fun h => h.elim id fun h => by omega⟩
    · refine Zj ?_
      have e : i = line.length := by omega
      subst e
      rw [List.take_length] at hnd hin
      exact thn_next ⟨(line.length, M), ⟨hnd, hin⟩, Ko.go, ent.gc⟩
  rintro z ⟨hnd, hin⟩
  refine WP.trim [0, 1] [] ?_
  refine Zp ?_
  refine Zm ?_
  refine Zh sl_22 hl ?_
  refine Zm ?_
  refine Zi ?_
  refine Run.eqv (v' := .bool (lineB line n)) (congrArg _ (Bool.eq_iff_iff.2 (by rw [decide_eq_true_iff, lineB_iff hn0]; exact ⟨fun h => ⟨by omega, hnd, hin⟩, fun h => (by have := h.1; omega)⟩))) ?_
  refine Zm ?_
  refine Ze ?_
  refine WP.ret ?_
  exact retT [4] _ rfl rfl ⟨_, ent.none _, rfl, rfl⟩
set_option maxHeartbeats 1000000 in
set_option maxRecDepth 100000 in
theorem wide_ok (hR : Heap) (sv : SV) (l : List Iv) (r p : Int) (r0 : 0 ≤ r) (r1 : r < (l.length : Int)) :
    Tri Tryd.prog hR 47 #[sv.val, .int .i64 r, .int .i64 p] [slA 62 encIv sv.val l] fun _ Γ' => Γ' = [slA 62 encIv sv.val (wideS l r p)] := by
  refine Tri.ent (Tri.of (args := [sv.val, .int .i64 r, .int .i64 p]) Tryd.func47 rfl Tryd.ntmps47 (by simp) ?_)
  obtain ⟨x, gx⟩ : ∃ x, l[r.toNat]? = some x := ⟨_, List.getElem?_eq_getElem (by omega)⟩
  have hself : l.set r.toNat x = l := by
    obtain ⟨a, b⟩ := List.getElem?_eq_some_iff.1 gx
    rw [← b]; exact List.set_getElem_self a
  refine Zp ?_
  refine Zm ?_
  refine Zm ?_
  refine Run.idxO 0 rfl rfl rfl sl_44 rfl rfl rfl rfl (by omega) (by omega) ?_
  refine Zm ?_
  refine Ze ?_
  refine WP.trim [6, 2] [0] ?_
  obtain ⟨f1, hf1⟩ : ∃ f1, f1 = if x.fr < 0 ∨ p < x.fr then p else x.fr := ⟨_, rfl⟩
  refine WP.meetC (α := Unit) (fun _ => True) (fun _ => []) (fun _ => [(0, slA 62 encIv sv.val (l.set r.toNat ⟨x.reg, f1, x.to⟩))]) ?_ ?_
  · refine WP.seq ?_
    by_cases h1 : x.fr < 0
    · rw [if_pos (.inl h1)] at hf1
      refine Zc ?_
      refine Zm ?_
      refine Zn ?_
      refine Zf fo_62_1 ?_
      refine Run.loadO 0 r.toNat 1 rfl rfl ag_3 rfl rfl rfl rfl gx rfl ?_
      refine Zi ?_
      refine Run.tt h1 ?_
      refine Zm ?_
      iterate 6 refine Zv ?_
      refine Zq ?_
      refine Ze ?_
      refine Zyes ?_
      refine Zc ?_
      refine Zm ?_
      refine Zm ?_
      refine Zn ?_
      refine Zf fo_62_1 ?_
      refine Run.storeO 0 r.toNat 1 (y' := (⟨x.reg, p, x.to⟩ : Iv)) rfl rfl rfl rfl ag_3 rfl rfl rfl rfl gx rfl rfl ?_
      refine Run.nil ?_
      exact thn_next ⟨(), trivial, Ko.go, by rw [hf1]; exact ent.gc⟩
    · by_cases h2 : p < x.fr
      · rw [if_pos (.inr h2)] at hf1
        refine Zc ?_
        refine Zm ?_
        refine Zn ?_
        refine Zf fo_62_1 ?_
        refine Run.loadO 0 r.toNat 1 rfl rfl ag_3 rfl rfl rfl rfl gx rfl ?_
        refine Zi ?_
        refine Run.ff h1 ?_
        iterate 3 refine Zm ?_
        refine Zn ?_
        refine Zf fo_62_1 ?_
        refine Run.loadO 0 r.toNat 1 rfl rfl ag_3 rfl rfl rfl rfl gx rfl ?_
        refine Zi ?_
        refine Run.tt h2 ?_
        refine Zq ?_
        refine Ze ?_
        refine Zyes ?_
        refine Zc ?_
        refine Zm ?_
        refine Zm ?_
        refine Zn ?_
        refine Zf fo_62_1 ?_
        refine Run.storeO 0 r.toNat 1 (y' := (⟨x.reg, p, x.to⟩ : Iv)) rfl rfl rfl rfl ag_3 rfl rfl rfl rfl gx rfl rfl ?_
        refine Run.nil ?_
        exact thn_next ⟨(), trivial, Ko.go, by rw [hf1]; exact ent.gc⟩
      · rw [if_neg (fun h => h.elim h1 h2)] at hf1
        refine Zc ?_
        refine Zm ?_
        refine Zn ?_
        refine Zf fo_62_1 ?_
        refine Run.loadO 0 r.toNat 1 rfl rfl ag_3 rfl rfl rfl rfl gx rfl ?_
        refine Zi ?_
        refine Run.ff h1 ?_
        iterate 3 refine Zm ?_
        refine Zn ?_
        refine Zf fo_62_1 ?_
        refine Run.loadO 0 r.toNat 1 rfl rfl ag_3 rfl rfl rfl rfl gx rfl ?_
        refine Zi ?_
        refine Run.ff h2 ?_
        refine Zq ?_
        refine Ze ?_
        refine Zno ?_
        refine WP.skip ?_
        exact thn_next ⟨(), trivial, Ko.go, by rw [hf1, show (⟨x.reg, x.fr, x.to⟩ : Iv) = x from rfl, hself]; exact ent.gc⟩
  rintro _ _
  refine WP.trim [6, 2] [0] ?_
  have gx1 : (l.set r.toNat (⟨x.reg, f1, x.to⟩ : Iv))[r.toNat]? = some ⟨x.reg, f1, x.to⟩ := List.getElem?_set_self (by omega)
  have hw : wideS l r p = (l.set r.toNat (⟨x.reg, f1, x.to⟩ : Iv)).set r.toNat ⟨x.reg, f1, if p > x.to then p else x.to⟩ := by
    unfold wideS wideI; rw [gx, List.set_set, hf1]
  have hw2 : ¬ p > x.to → wideS l r p = l.set r.toNat (⟨x.reg, f1, x.to⟩ : Iv) := fun h => by rw [hw, if_neg h, List.set_set]
  rw [hw]
  refine Zp ?_
  refine Zm ?_
  refine Zm ?_
  refine Zn ?_
  refine Zf fo_62_2 ?_
  refine Run.loadO 0 r.toNat 2 rfl rfl ag_3 rfl rfl rfl rfl gx1 rfl ?_
  refine Zi ?_
  refine Ze ?_
  refine WP.ite rfl (fun h => ?_) (fun h => ?_)
  · refine Zc ?_
    refine Zm ?_
    refine Zm ?_
    refine Zn ?_
    refine Zf fo_62_2 ?_
    refine Run.storeO 0 r.toNat 2 (y' := (⟨x.reg, f1, p⟩ : Iv)) rfl rfl rfl rfl ag_3 rfl rfl rfl rfl gx1 rfl rfl ?_
    refine Run.nil ?_
    rw [if_pos h]
    exact retN [] [] rfl rfl ⟨_, ent.refl _, rfl⟩
  · refine WP.skip ?_
    rw [← hw, hw2 h]
    exact retN [] [] rfl rfl ⟨_, ent.refl _, rfl⟩
set_option maxHeartbeats 2000000 in
set_option maxRecDepth 100000 in
theorem refBlock_ok (hR : Heap) (bu bt av bv lv : SV) (x : LBlk) (a b : List Bool) (l : List Iv) (k : Nat) (hbu : SlR rdIns hR bu.val x.body) (ha : SlR Enc.bool.rd hR av.val a) (hb : SlR Enc.bool.rd hR bv.val b) (hal : a.length = l.length) (hbl : b.length = l.length) (hll : l.length ≤ 1000000)
    (hbody : ∀ y ∈ x.body, (0 ≤ y.dst → y.dst < (l.length : Int)) ∧ ∀ r ∈ y.args, 0 ≤ r ∧ r < (l.length : Int)) (hval : 0 ≤ x.value → x.value < (l.length : Int)) (hbn : x.body.length ≤ 1000000) (han : ∀ y ∈ x.body, y.args.length ≤ 1000000) (hk : k ≤ 1000000000000) :
    Tri Tryd.prog hR 48 #[.agg ⟨[bu.val, .int .i64 x.kind, .int .i64 x.value, bt.val]⟩, av.val, bv.val, lv.val, .int .i64 (k : Int)] [slA 62 encIv lv.val l] fun _ Γ' => Γ' = [slA 62 encIv lv.val (wideAll l (refBlk a b x (k : Int) l.length))] := by
  refine Tri.ent (Tri.of (args := [.agg ⟨[bu.val, .int .i64 x.kind, .int .i64 x.value, bt.val]⟩, av.val, bv.val, lv.val, .int .i64 (k : Int)]) Tryd.func48 rfl Tryd.ntmps48 (by simp) ?_)
  refine Zp ?_
  refine Run.box rfl rfl rfl rfl rfl ?_
  intro b5
  refine Ze ?_
  refine WP.trim [5, 1, 2, 3, 4] [0, 1] ?_
  refine WP.freeze (Γ := [slA 62 encIv lv.val l]) [blk b5 [bu.val, .int .i64 x.kind, .int .i64 x.value, bt.val] 56] fun g hg hd => ?_
  have sR : Sub hR (un hR g) := sub_un_left hR g
  have c0 := lent_blk (v := bu.val) 0 0 rfl rfl hg hd
  have c2 := lent_blk (v := .int .i64 x.value) 0 2 rfl rfl hg hd
  have hbu := hbu.mono sR
  have ha := ha.mono sR
  have hb := hb.mono sR
  generalize un hR g = hX at c0 c2 hbu ha hb
  clear hg hd sR
  obtain ⟨L0, hL0⟩ : ∃ L0, L0 = l.length := ⟨_, rfl⟩
  refine WP.meetC (α := Nat) (fun _ => True) (fun t => [(10, .int .i64 (t : Int))]) (fun _ => [(0, slA 62 encIv lv.val (wideAll l (headE a b (k : Int) (x.body.length : Int) l.length)))]) ?_ ?_
  · refine Zp ?_
    refine Zm ?_
    refine Ze ?_
    refine WP.block ?_
    refine WP.loopC (α := Nat) (fun t => t ≤ l.length) (fun t => [(10, .int .i64 (t : Int))]) (fun t => [(0, slA 62 encIv lv.val (wideAll l (headE a b (k : Int) (x.body.length : Int) t)))]) (fun t => l.length - t) 0 (Nat.zero_le _) ?_ (he := ent.refl _)
    intro t ht
    have hml := wideAll_len (headE a b (k : Int) (x.body.length : Int) t) l
    have hhe := headE_succ a b (k : Int) (x.body.length : Int) t
    refine WP.trim [10, 5, 1, 2, 3, 4] [0] ?_
    refine WP.seq ?_
    refine Zp ?_
    refine Zm ?_
    refine Zm ?_
    refine Run.lenO 0 rfl rfl sl_44 rfl rfl rfl ?_
    refine Zi ?_
    refine Ze ?_
    refine WP.ite rfl (fun hlt => ?_) (fun hge => ?_)
    · refine Zb ?_
      have hlt' : t < l.length := by omega
      obtain ⟨va, ga⟩ : ∃ y, a[(t : Int).toNat]? = some y := ⟨_, List.getElem?_eq_getElem (show t < a.length by omega)⟩
      obtain ⟨vb, gb⟩ : ∃ y, b[(t : Int).toNat]? = some y := ⟨_, List.getElem?_eq_getElem (show t < b.length by omega)⟩
      have ga' : a[t]? = some va := ga
      have gb' : b[t]? = some vb := gb
      rw [ga', gb'] at hhe
      generalize headE a b (k : Int) (x.body.length : Int) t = E0 at hml hhe ⊢
      refine WP.trim [10, 5, 1, 2, 3, 4] [0] ?_
      refine WP.seq ?_
      refine WP.block ?_
      refine WP.meetC (α := Unit) (fun _ => True) (fun _ => []) (fun _ => [(0, slA 62 encIv lv.val (wideAll l (E0 ++ if some va = some true then [((t : Int), 2 * ((k : Int) + 1))] else [])))]) ?_ ?_
      · refine Zp ?_
        refine Zm ?_
        refine Zm ?_
        refine Zx sl_92 ha ?_
        refine Zr ag_4 (SlR.cell0 ha ga rfl) ?_
        refine Ze ?_
        cases va with
        | true =>
          refine Zyes ?_
          refine Zc ?_
          iterate 3 refine Zm ?_
          refine Za ?_
          refine Zu ?_
          refine Run.callP [0] ok_47 (wide_ok hX lv (wideAll l E0) (t : Int) (2 * ((k : Int) + 1)) (by omega) (by omega)) ?_; rintro _ _ rfl
          refine Run.nil ?_
          exact thn_next ⟨(), trivial, Ko.go, by rw [if_pos rfl, wideAll_append]; exact ent.gc⟩
        | false =>
          refine Zno ?_
          refine WP.skip ?_
          exact thn_next ⟨(), trivial, Ko.go, by rw [if_neg (by simp), List.append_nil]; exact ent.gc⟩
      rintro _ _
      have hml2 := wideAll_len (E0 ++ if some va = some true then [((t : Int), 2 * ((k : Int) + 1))] else []) l
      rw [← List.append_assoc] at hhe
      generalize (E0 ++ if some va = some true then [((t : Int), 2 * ((k : Int) + 1))] else []) = E1 at hml2 hhe ⊢
      refine WP.trim [10, 5, 1, 2, 3, 4] [0] ?_
      refine Zp ?_
      refine Zm ?_
      refine Zm ?_
      refine Zx sl_92 hb ?_
      refine Zr ag_4 (SlR.cell0 hb gb rfl) ?_
      refine Ze ?_
      cases vb with
      | true =>
        refine Zyes ?_
        refine Zc ?_
        iterate 3 refine Zm ?_
        refine Zf fo_56_0 ?_
        refine Zr ag_52 c0 ?_
        refine Zh sl_52 hbu ?_
        refine Za ?_
        refine Za ?_
        refine Zu ?_
        refine Za ?_
        refine Run.callP [0] ok_47 (wide_ok hX lv (wideAll l E1) (t : Int) (2 * ((k : Int) + (x.body.length : Int) + 1) + 1) (by omega) (by omega)) ?_; rintro _ _ rfl
        refine Run.nil ?_
        refine blk_norm ?_; refine thn_next ?_
        refine Zc ?_
        refine Zm ?_
        refine Za ?_
        refine Zm ?_
        refine Run.nil ?_
        exact thn_next ⟨t + 1, hlt', by omega, Ko.go, by rw [hhe, if_pos rfl, wideAll_append]; exact ent.gc⟩
      | false =>
        refine Zno ?_
        refine WP.skip ?_; refine blk_norm ?_; refine thn_next ?_
        refine Zc ?_
        refine Zm ?_
        refine Za ?_
        refine Zm ?_
        refine Run.nil ?_
        exact thn_next ⟨t + 1, hlt', by omega, Ko.go, by rw [hhe, if_neg (by simp), List.append_nil]; exact ent.gc⟩
    · refine Zj ?_
      have e : t = l.length := by omega
      subst e
      exact thn_next ⟨l.length, trivial, Ko.go, ent.gc⟩
  rintro t _
  have hml := wideAll_len (headE a b (k : Int) (x.body.length : Int) l.length) l
  unfold refBlk
  rw [wideAll_append, wideAll_append]
  generalize wideAll l (headE a b (k : Int) (x.body.length : Int) l.length) = l1 at hml ⊢
  refine WP.trim [5, 3, 4] [0] ?_
  refine WP.meetC (α := Nat) (fun _ => True) (fun t => [(4, .int .i64 ((k : Int) + (x.body.length : Int))), (11, .int .i64 (t : Int))]) (fun _ => [(0, slA 62 encIv lv.val (wideAll l1 (evBody (k : Int) x.body)))]) ?_ ?_
  · refine Zp ?_
    refine Zm ?_
    refine Ze ?_
    refine WP.trim [11, 4, 5, 3] [0] ?_
    refine WP.block ?_
    refine WP.loopC (α := Nat × List Iv) (fun z => z.1 ≤ x.body.length ∧ z.2.length = l1.length ∧ wideAll z.2 (evBody ((k : Int) + (z.1 : Int)) (x.body.drop z.1)) = wideAll l1 (evBody (k : Int) x.body)) (fun z => [(11, .int .i64 (z.1 : Int)), (4, .int .i64 ((k + z.1 : Nat) : Int))]) (fun z => [(0, slA 62 encIv lv.val z.2)]) (fun z => x.body.length - z.1) (0, l1) ⟨Nat.zero_le _, rfl, by simp⟩ ?_
    rintro ⟨i, l2⟩ ⟨hi, hl2, hz⟩
    simp only at hi hl2 hz
    refine WP.trim [11, 4, 5, 3] [0] ?_
    try simp only
    refine WP.seq ?_
    refine Zp ?_
    refine Zm ?_
    refine Zf fo_56_0 ?_
    refine Zr ag_52 c0 ?_
    refine Zh sl_52 hbu ?_
    refine Zi ?_
    refine Ze ?_
    refine WP.ite rfl (fun hlt => ?_) (fun hge => ?_)
    · refine Zb ?_
      have hlt' : i < x.body.length := by omega
      obtain ⟨y, gy⟩ : ∃ y, x.body[(i : Int).toNat]? = some y := ⟨_, List.getElem?_eq_getElem hlt'⟩
      have gy' : x.body[i]? = some y := gy
      have hym := List.mem_of_getElem? gy'
      obtain ⟨hyd, hya⟩ := hbody y hym
      have hyn := han y hym
      obtain ⟨_, ⟨ya0, rfl, hyas⟩, hyrow⟩ := hbu.at gy
      obtain ⟨ya, rfl, _, _⟩ := SlR.sv hyas
      rw [drop_at gy', evBody, wideAll_append] at hz
      unfold evIns at hz
      rw [wideAll_append] at hz
      have hkk : (k : Int) + (i : Int) + 1 = ((k + i + 1 : Nat) : Int) := by omega
      rw [hkk] at hz
      refine WP.trim [11, 4, 5, 3] [0] ?_
      refine WP.meetC (α := List Iv) (fun z => z.length = l1.length ∧ wideAll z (evBody ((k + i + 1 : Nat) : Int) (x.body.drop (i + 1))) = wideAll l1 (evBody (k : Int) x.body)) (fun _ => [(4, .int .i64 ((k + i + 1 : Nat) : Int))]) (fun z => [(0, slA 62 encIv lv.val z)]) ?_ ?_
      · refine WP.block ?_
        refine Zp ?_
        refine Zf fo_56_0 ?_
        refine Zr ag_52 c0 ?_
        refine Zm ?_
        refine Zx sl_52 hbu ?_
        refine Run.loadRagg rfl rfl ag_67 rfl rfl hyrow rfl ?_
        refine Run.alloc rfl zr_67 rfl rfl rfl ?_
        intro b12
        refine Run.storeB 1 rfl rfl rfl rfl ag_67 rfl rfl rfl rfl rfl ?_
        refine Ze ?_
        refine WP.trim [12, 11, 4, 5, 3] [0, 1] ?_
        refine WP.freeze (Γ := [slA 62 encIv lv.val l2]) [blk b12 [.int .i64 y.op, .int .i64 y.dst, .int .i64 y.imm, ya.val] 67] fun g hg hd => ?_
        have sR : Sub hX (un hX g) := sub_un_left hX g
        have d1 := lent_blk (v := .int .i64 y.dst) 0 1 rfl rfl hg hd
        have d3 := lent_blk (v := ya.val) 0 3 rfl rfl hg hd
        have hyas := hyas.mono sR
        generalize un hX g = hY at d1 d3 hyas
        clear hg hd sR hyrow
        refine Zp ?_
        refine Zm ?_
        refine Za ?_
        refine Zm ?_
        refine Ze ?_
        refine WP.trim [12, 11, 4, 5, 3] [0] ?_
        refine WP.meetC (α := Nat) (fun _ => True) (fun t => [(13, .int .i64 (t : Int))]) (fun _ => [(0, slA 62 encIv lv.val (wideAll l2 (evAt (2 * ((k + i + 1 : Nat) : Int)) y.args)))]) ?_ ?_
        · refine Zp ?_
          refine Zm ?_
          refine Ze ?_
          refine WP.block ?_
          refine WP.loopC (α := Nat) (fun t => t ≤ y.args.length) (fun t => [(13, .int .i64 (t : Int))]) (fun t => [(0, slA 62 encIv lv.val (wideAll l2 (evAt (2 * ((k + i + 1 : Nat) : Int)) (y.args.take t))))]) (fun t => y.args.length - t) 0 (Nat.zero_le _) ?_ (he := ent.refl _)
          intro t ht
          refine WP.trim [13, 12, 11, 4, 5, 3] [0] ?_
          refine WP.seq ?_
          refine Zp ?_
          refine Zm ?_
          refine Zf fo_67_3 ?_
          refine Zr ag_22 d3 ?_
          refine Zh sl_22 hyas ?_
          refine Zi ?_
          refine Ze ?_
          refine WP.ite rfl (fun hlt2 => ?_) (fun hge2 => ?_)
          · refine Zb ?_
            obtain ⟨c, gc⟩ : ∃ c, y.args[(t : Int).toNat]? = some c := ⟨_, List.getElem?_eq_getElem (show t < y.args.length by omega)⟩
            have gc' : y.args[t]? = some c := gc
            obtain ⟨c0', c1'⟩ := hya c (List.mem_of_getElem? gc')
            have hml2 := wideAll_len (evAt (2 * ((k + i + 1 : Nat) : Int)) (y.args.take t)) l2
            refine WP.seq ?_
            refine WP.block ?_
            refine Zc ?_
            refine Zm ?_
            refine Zf fo_67_3 ?_
            refine Zr ag_22 d3 ?_
            refine Zm ?_
            refine Zx sl_22 hyas ?_
            refine Zr ag_3 (SlR.cell0 hyas gc rfl) ?_
            refine Zm ?_
            refine Zu ?_
            refine Run.callP [0] ok_47 (wide_ok hY lv (wideAll l2 (evAt (2 * ((k + i + 1 : Nat) : Int)) (y.args.take t))) c (2 * ((k + i + 1 : Nat) : Int)) c0' (by omega)) ?_; rintro _ _ rfl
            refine Run.nil ?_
            refine blk_norm ?_; refine thn_next ?_
            refine Zc ?_
            refine Zm ?_
            refine Za ?_
            refine Zm ?_
            refine Run.nil ?_
            refine thn_next ⟨t + 1, by omega, by omega, Ko.go, ?_⟩
            have e : evAt (2 * ((k + i + 1 : Nat) : Int)) (y.args.take (t + 1)) = evAt (2 * ((k + i + 1 : Nat) : Int)) (y.args.take t) ++ [(c, 2 * ((k + i + 1 : Nat) : Int))] := by unfold evAt; rw [take_at gc']; simp
            rw [e, wideAll_append]; exact ent.gc
          · refine Zj ?_
            rw [List.take_of_length_le (show y.args.length ≤ t by omega)]
            exact thn_next ⟨t, trivial, Ko.go, ent.gc⟩
        rintro t _
        have hml2 := wideAll_len (evAt (2 * ((k + i + 1 : Nat) : Int)) y.args) l2
        generalize wideAll l2 (evAt (2 * ((k + i + 1 : Nat) : Int)) y.args) = l3 at hml2 hz ⊢
        refine WP.trim [12, 11, 4, 5, 3] [0] ?_
        refine Zp ?_
        refine Zf fo_67_1 ?_
        refine Zr ag_3 d1 ?_
        refine Zi ?_
        refine Ze ?_
        refine WP.ite rfl (fun hd0 => ?_) (fun hd0 => ?_)
        · have hd1 := hyd hd0
          rw [if_pos hd0] at hz
          refine Zc ?_
          refine Zm ?_
          refine Zf fo_67_1 ?_
          refine Zr ag_3 d1 ?_
          refine Zm ?_
          refine Zu ?_
          refine Za ?_
          refine Run.callP [0] ok_47 (wide_ok hY lv l3 y.dst (2 * ((k + i + 1 : Nat) : Int) + 1) hd0 (by omega)) ?_; rintro _ _ rfl
          refine Run.nil ?_
          refine blk_norm ?_
          exact thn_next ⟨wideS l3 y.dst (2 * ((k + i + 1 : Nat) : Int) + 1), ⟨by rw [wideS_len]; omega, hz⟩, Ko.go, ent.gc⟩
        · rw [if_neg hd0] at hz
          refine WP.skip ?_; refine blk_norm ?_
          exact thn_next ⟨l3, ⟨by omega, hz⟩, Ko.go, ent.gc⟩
      rintro l4 ⟨hl4, hz4⟩
      refine WP.trim [11, 4, 5, 3] [0] ?_
      refine Zc ?_
      refine Zm ?_
      refine Za ?_
      refine Zm ?_
      refine Run.nil ?_
      exact thn_next ⟨(i + 1, l4), ⟨hlt', hl4, by simp only; rw [show (k : Int) + ((i + 1 : Nat) : Int) = ((k + i + 1 : Nat) : Int) by omega]; exact hz4⟩, by simp only; omega, Ko.go, ent.gc⟩
    · refine Zj ?_
      have e : i = x.body.length := by omega
      subst e
      rw [List.drop_length] at hz
      exact thn_next ⟨x.body.length, trivial, Ko.go, by rw [← hz]; exact ent.gc⟩
  rintro t _
  have hml2 := wideAll_len (evBody (k : Int) x.body) l1
  generalize wideAll l1 (evBody (k : Int) x.body) = l5 at hml2 ⊢
  refine WP.trim [4, 5, 3] [0] ?_
  refine Zp ?_
  refine Zf fo_56_1 ?_
  refine Zf fo_54_1 ?_
  refine Zr ag_3 c2 ?_
  refine Zi ?_
  refine Ze ?_
  refine WP.ite rfl (fun hd0 => ?_) (fun hd0 => ?_)
  · have hd1 := hval hd0
    rw [if_pos hd0]
    refine Zc ?_
    refine Zm ?_
    refine Zf fo_56_1 ?_
    refine Zf fo_54_1 ?_
    refine Zr ag_3 c2 ?_
    refine Zm ?_
    refine Za ?_
    refine Zu ?_
    refine Run.callP [0] ok_47 (wide_ok hX lv l5 x.value (2 * ((k : Int) + (x.body.length : Int) + 1)) hd0 (by omega)) ?_; rintro _ _ rfl
    refine Run.nil ?_
    exact retN [] [] rfl rfl ⟨_, by exact ent.left _ _, rfl⟩
  · rw [if_neg hd0]
    refine WP.skip ?_
    exact retN [] [] rfl rfl ⟨_, by exact ent.left _ _, rfl⟩
end Go.Proofs.YtjjfehdlmdhhmaaDoor
end
section
/- The document's intervals of a function along a line; walked. -/
namespace Go.Proofs.YtjjfehdlmdhhmaaDoor
open Go.Sep
set_option linter.unusedSimpArgs false
set_option linter.unusedVariables false
attribute [local irreducible] blk slA mp mpF rows rowsBut many
def byL (l : List Iv) (q : Int) : List Int := (l.filter fun x => decide (x.fr = q)).map Iv.reg
theorem byL_step {l : List Iv} {r : Nat} {x : Iv} (h : l[r]? = some x) (q : Int) : byL (l.take (r + 1)) q = byL (l.take r) q ++ if x.fr = q then [x.reg] else [] := by
  unfold byL
  rw [take_at h, List.filter_append, List.map_append]
  congr 1
  by_cases e : x.fr = q
  · rw [if_pos e, List.filter_cons_of_pos (by simp [e])]; rfl
  · rw [if_neg e, List.filter_cons_of_neg (by simp [e])]; rfl
theorem byL_len (l : List Iv) (q : Int) : (byL l q).length ≤ l.length := by unfold byL; rw [List.length_map]; exact List.length_filter_le _ _
theorem tells_of {F : LFun} {A B : List (List Bool)} {R : Nat} (hR : (R : Int) = F.regs) (la : A.length = F.blocks.length) (lb : B.length = F.blocks.length)
    (h1 : ∀ (q : Nat) (a : List Bool) (r : Int), A[q]? = some a → 0 ≤ r → (atB a r = true ↔ LiveIn F r q)) (h2 : ∀ (q : Nat) (b : List Bool) (r : Int), B[q]? = some b → 0 ≤ r → (atB b r = true ↔ LiveOut F r q)) : Tells F A B R := by
  have key : ∀ (X : List (List Bool)) (i r : Nat) (a : List Bool), X[i]? = some a → ((X.getD i [])[r]? = some true ↔ atB a (r : Int) = true) := fun X i r a h => by
    rw [List.getD_eq_getElem?_getD, h]
    unfold atB
    rw [List.getD_eq_getElem?_getD, Int.toNat_natCast]
    show a[r]? = some true ↔ _
    cases a[r]? with
    | none => simp
    | some v => simp
  refine ⟨hR, fun i b r hb hr => ?_, fun i b r hb hr => ?_⟩
  · have hlt := (List.getElem?_eq_some_iff.1 hb).1
    obtain ⟨a, ga⟩ : ∃ a, A[i]? = some a := ⟨_, List.getElem?_eq_getElem (by omega)⟩
    rw [key A i r a ga]; exact h1 i a r ga (by omega)
  · have hlt := (List.getElem?_eq_some_iff.1 hb).1
    obtain ⟨a, ga⟩ : ∃ a, B[i]? = some a := ⟨_, List.getElem?_eq_getElem (by omega)⟩
    rw [key B i r a ga]; exact h2 i a r ga (by omega)
set_option maxHeartbeats 4000000 in
set_option maxRecDepth 100000 in
theorem refIv_ok (hR : Heap) (F : LFun) (su sv lv : SV) (line : List Int) (hV : FunV hR F su sv) (hS : SmallF F) (hl : SlR rdI hR lv.val line) (hll : line.length ≤ 100000000000000) (hnb : F.blocks.length ≤ 1000) :
    Tri Tryd.prog hR 18 #[.agg ⟨fcs F su sv⟩, lv.val] [] (IvRes F line) := by
  refine Tri.ent (Tri.of (args := [.agg ⟨fcs F su sv⟩, lv.val]) Tryd.func18 rfl Tryd.ntmps18 (by simp) ?_)
  have hv := hV.hv
  have hu := hV.hu
  have hsb := hV.sb
  refine Zp ?_
  refine Run.box rfl rfl rfl rfl rfl ?_
  intro b2
  refine Zm ?_
  refine Zm ?_
  refine Ze ?_
  refine WP.trim [2, 1] [0] ?_
  refine WP.seq ?_
  refine Zp ?_
  refine Run.loadBagg 0 rfl rfl ag_25 rfl rfl rfl rfl rfl ?_
  refine Run.callP [] ok_21 (refFormed_ok hR F su sv hV hS) ?_; rintro _ _ ⟨rfl, rfl⟩
  refine Run.bnotB rfl rfl rfl rfl ?_
  refine Ze ?_
  cases hform : formB F with
  | false =>
    refine Zyes ?_
    refine Zp ?_
    refine Zm ?_
    refine Zm ?_
    refine Ze ?_
    refine WP.ret ?_; refine thn_ret ?_
    exact retT [4, 5] _ rfl rfl ⟨[], ent.none _, .inl ⟨hform, rfl, rfl⟩⟩
  | true =>
  refine Zno ?_
  refine Zb ?_
  have hQ := formQ hform
  have hne := hQ.ne
  have q0 := hQ.r0
  have q1 := hQ.r1
  have q2 := hQ.pl
  refine WP.trim [2, 1] [0] ?_
  refine WP.seq ?_
  refine Zp ?_
  refine Zm ?_
  refine Zf fo_25_4 ?_
  refine Zl 0 ag_23 ?_
  refine Zh sl_23 hv ?_
  refine Run.callP [] ok_46 (isLine_ok hR lv line hl hll F.blocks.length (by omega) (by omega)) ?_; rintro _ _ ⟨rfl, rfl⟩
  refine Run.bnotB rfl rfl rfl rfl ?_
  refine Ze ?_
  cases hline : lineB line F.blocks.length with
  | false =>
    refine Zyes ?_
    refine Zp ?_
    refine Zm ?_
    refine Zm ?_
    refine Ze ?_
    refine WP.ret ?_; refine thn_ret ?_
    exact retT [4, 5] _ rfl rfl ⟨[], ent.none _, .inr (.inl ⟨hform, hline, rfl, rfl⟩)⟩
  | true =>
  refine Zno ?_
  refine Zb ?_
  obtain ⟨hlen, hlin⟩ := line_in hline
  have hbl : ∀ i ∈ line, F.blocks[i.toNat]? ≠ none := fun i hi => by
    have := hlin i hi
    rw [List.getElem?_eq_getElem (by omega)]; simp
  refine WP.trim [2, 1] [0] ?_
  refine Zp ?_
  refine Run.loadBagg 0 rfl rfl ag_25 rfl rfl rfl rfl rfl ?_
  refine Run.callP [] ok_34 (sets_ok hR F su sv hV hS hQ) ?_; rintro _ _ ⟨av, bv, A, B, rfl, hSI, hcl, rfl⟩
  refine Zm ?_
  refine Run.extract rfl rfl rfl rfl rfl ?_
  refine Run.extract rfl rfl rfl rfl rfl ?_
  refine Zm ?_
  refine Zm ?_
  refine Ze ?_
  obtain ⟨R, hRR⟩ : ∃ R : Nat, (R : Int) = F.regs := ⟨F.regs.toNat, by omega⟩
  have hRe : F.regs.toNat = R := by omega
  rw [hRe] at hSI
  have hA : A.length = F.blocks.length := by have := hSI.la; simpa using this
  have hB : B.length = F.blocks.length := by have := hSI.lb; simpa using this
  obtain ⟨d1, d2⟩ := hSI.done hQ.regs hRR hcl
  have hTl : Tells F (A.map Prod.snd) (B.map Prod.snd) R := tells_of hRR hSI.la hSI.lb d1 d2
  have hra := hSI.ra
  have hrb := hSI.rb
  clear hSI hcl d1 d2
  refine WP.trim [6, 7, 2, 1] [4, 0, 1, 2, 3] ?_
  refine WP.freeze (Γ := []) [blk b2 (fcs F su sv) 25, slA 92 Enc.slice av.val (A.map Prod.fst), rows 4 Enc.bool A, slA 92 Enc.slice bv.val (B.map Prod.fst), rows 4 Enc.bool B] fun g hg hd => ?_
  have sR : Sub hR (un hR g) := sub_un_left hR g
  have c1 := lent_blk (v := su.val) 0 1 rfl rfl hg hd
  have c2 := lent_blk (v := .int .i64 F.regs) 0 2 rfl rfl hg hd
  have c4 := lent_blk (v := sv.val) 0 4 rfl rfl hg hd
  have ha : SlR Enc.bool.rd.slice (un hR g) av.val (A.map Prod.snd) := lent_rows 1 2 rfl rfl hg hd
  have hb : SlR Enc.bool.rd.slice (un hR g) bv.val (B.map Prod.snd) := lent_rows 3 4 rfl rfl hg hd
  have hu := hu.mono sR
  have hv := hv.mono sR
  have hl := hl.mono sR
  generalize un hR g = hX at c1 c2 c4 ha hb hu hv hl
  clear hg hd sR hV
  obtain ⟨A', hA'⟩ : ∃ A', A' = A.map Prod.snd := ⟨_, rfl⟩
  obtain ⟨B', hB'⟩ : ∃ B', B' = B.map Prod.snd := ⟨_, rfl⟩
  have lA' : A'.length = F.blocks.length := by rw [hA', List.length_map]; exact hA
  have lB' : B'.length = F.blocks.length := by rw [hB', List.length_map]; exact hB
  rw [← hA'] at hTl hra ha
  rw [← hB'] at hTl hrb hb
  clear hA' hB' hA hB
  refine Zp ?_
  refine Zm ?_
  refine Ze ?_
  refine WP.via (slA_nil 62 encIv []) ?_
  refine WP.sup (ρ' := [(8, nilS.val), (6, av.val), (7, bv.val), (2, .pointer (some ⟨b2, 0, none⟩)), (1, lv.val)]) (Γ' := [slA 62 encIv nilS.val (initR 0)]) (covers_get ⟨rfl, rfl, rfl, rfl, rfl, trivial⟩) (ent.refl _) ?_
  refine WP.meetC (α := SV × Nat) (fun z => True) (fun z => [(8, z.1.val), (9, .int .i64 (z.2 : Int))]) (fun z => [(0, slA 62 encIv z.1.val (initR R))]) ?_ ?_
  · refine Zp ?_
    refine Zm ?_
    refine Ze ?_
    refine WP.block ?_
    refine WP.loopC (α := Nat × SV) (fun z => z.1 ≤ R) (fun z => [(9, .int .i64 (z.1 : Int)), (8, z.2.val)]) (fun z => [(0, slA 62 encIv z.2.val (initR z.1))]) (fun z => R - z.1) (0, nilS) (Nat.zero_le _) ?_
    rintro ⟨i, ls⟩ hi
    simp only at hi
    refine WP.trim [9, 8, 6, 7, 2, 1] [0] ?_
    try simp only
    refine WP.seq ?_
    refine Zp ?_
    refine Zm ?_
    refine Zf fo_25_2 ?_
    refine Zr ag_3 c2 ?_
    refine Zi ?_
    refine Ze ?_
    refine WP.ite rfl (fun hlt => ?_) (fun hge => ?_)
    · refine Zb ?_
      have hil := initR_len i
      refine WP.seq ?_
      refine WP.block ?_
      refine Zc ?_
      refine Zm ?_
      refine Zm ?_
      refine Run.build rfl bd_62 rfl rfl rfl rfl ?_
      refine Run.buildSlice (E := encIv) rfl sl_44 zr_62 ([(⟨(i : Int), -1, -1⟩ : Iv)]) rfl rfl rfl (by decide) rfl rfl ?_
      intro b43
      refine Run.append 0 rfl rfl rfl rfl rfl rfl sl_44 zr_62 rfl (src_own 1 rfl) (by first | omega | (simp <;> omega)) (by first | omega | (simp <;> omega)) ?_
      intro sv44 hv44
      refine Zm ?_
      refine Run.nil ?_
      refine blk_norm ?_; refine thn_next ?_
      refine Zc ?_
      refine Zm ?_
      refine Za ?_
      refine Zm ?_
      refine Run.nil ?_
      have e : initR (i + 1) = initR i ++ [⟨(i : Int), -1, -1⟩] := by unfold initR; rw [List.range_succ, List.map_append]; rfl
      exact thn_next ⟨(i + 1, sv44), by simp only; omega, by simp only; omega, Ko.go, by simp only [e]; exact ent.gc⟩
    · refine Zj ?_
      have e : i = R := by omega
      subst e
      exact thn_next ⟨(ls, i), trivial, Ko.go, ent.gc⟩
  rintro ⟨ls, n9⟩ _
  refine WP.trim [8, 6, 7, 2, 1] [0] ?_
  try simp only
  refine WP.meetC (α := Nat) (fun z => True) (fun z => [(10, .int .i64 (z : Int))]) (fun z => [(0, slA 62 encIv ls.val (wideAll (initR R) (evAt 0 F.params)))]) ?_ ?_
  · refine Zp ?_
    refine Zm ?_
    refine Ze ?_
    refine WP.block ?_
    refine WP.loopC (α := Nat) (fun t => t ≤ F.params.length) (fun t => [(10, .int .i64 (t : Int))]) (fun t => [(0, slA 62 encIv ls.val (wideAll (initR R) (evAt 0 (F.params.take t))))]) (fun t => F.params.length - t) 0 (Nat.zero_le _) ?_ (he := ent.refl _)
    intro t ht
    refine WP.trim [10, 8, 6, 7, 2, 1] [0] ?_
    refine WP.seq ?_
    refine Zp ?_
    refine Zm ?_
    refine Zf fo_25_1 ?_
    refine Zr ag_22 c1 ?_
    refine Zh sl_22 hu ?_
    refine Zi ?_
    refine Ze ?_
    refine WP.ite rfl (fun hlt => ?_) (fun hge => ?_)
    · refine Zb ?_
      obtain ⟨c, gc⟩ : ∃ c, F.params[(t : Int).toNat]? = some c := ⟨_, List.getElem?_eq_getElem (show t < F.params.length by omega)⟩
      have gc' : F.params[t]? = some c := gc
      obtain ⟨p0, p1⟩ := hQ.ps c (List.mem_of_getElem? gc)
      have hml := wideAll_len (evAt 0 (F.params.take t)) (initR R)
      rw [initR_len] at hml
      refine WP.seq ?_
      refine WP.block ?_
      refine Zc ?_
      refine Zm ?_
      refine Zf fo_25_1 ?_
      refine Zr ag_22 c1 ?_
      refine Zm ?_
      refine Zx sl_22 hu ?_
      refine Zr ag_3 (SlR.cell0 hu gc rfl) ?_
      refine Run.callP [0] ok_47 (wide_ok hX ls (wideAll (initR R) (evAt 0 (F.params.take t))) c 0 p0 (by omega)) ?_; rintro _ _ rfl
      refine Run.nil ?_
      refine blk_norm ?_; refine thn_next ?_
      refine Zc ?_
      refine Zm ?_
      refine Za ?_
      refine Zm ?_
      refine Run.nil ?_
      refine thn_next ⟨t + 1, by omega, by omega, Ko.go, ?_⟩
      have e : evAt 0 (F.params.take (t + 1)) = evAt 0 (F.params.take t) ++ [(c, 0)] := by unfold evAt; rw [take_at gc']; simp
      rw [e, wideAll_append]; exact ent.gc
    · refine Zj ?_
      rw [List.take_of_length_le (show F.params.length ≤ t by omega)]
      exact thn_next ⟨t, trivial, Ko.go, ent.gc⟩
  rintro n10 _
  refine WP.trim [8, 6, 7, 2, 1] [0] ?_
  have hml := wideAll_len (evAt 0 F.params) (initR R)
  rw [initR_len] at hml
  have hall : wideAll (wideAll (initR R) (evAt 0 F.params)) (refLine F A' B' R 0 line) = refAll F A' B' R line := by unfold refAll; rw [wideAll_append]
  generalize wideAll (initR R) (evAt 0 F.params) = l1 at hml hall ⊢
  have hbase := baseL_le hS line
  have hbase0 := baseL_pos F line
  have hbaseT : ∀ i, baseL F (line.take i) ≤ 1000001000 := fun i => by
    have h1 := baseL_le hS (line.take i)
    rw [List.length_take] at h1; omega
  refine Zp ?_
  refine Zm ?_
  refine Ze ?_
  refine Zp ?_
  refine Zm ?_
  refine Ze ?_
  refine WP.trim [12, 11, 8, 6, 7, 2, 1] [0] ?_
  refine WP.meetC (α := Nat) (fun z => True) (fun z => [(12, .int .i64 (2 * baseL F line + 1)), (11, .int .i64 (baseL F line)), (13, .int .i64 (z : Int))]) (fun z => [(0, slA 62 encIv ls.val (refAll F A' B' R line))]) ?_ ?_
  · refine Zp ?_
    refine Zm ?_
    refine Ze ?_
    refine WP.block ?_
    refine WP.loopC (α := Nat × List Iv × Int) (fun z => z.1 ≤ line.length ∧ z.2.1.length = R ∧ wideAll z.2.1 (refLine F A' B' R (baseL F (line.take z.1)) (line.drop z.1)) = refAll F A' B' R line ∧ (0 < z.1 → z.2.2 = 2 * baseL F (line.take z.1) + 1)) (fun z => [(13, .int .i64 (z.1 : Int)), (12, .int .i64 z.2.2), (11, .int .i64 (baseL F (line.take z.1)))]) (fun z => [(0, slA 62 encIv ls.val z.2.1)]) (fun z => line.length - z.1) (0, l1, 0) ⟨Nat.zero_le _, hml, by simpa [baseL] using hall, fun h => by simp at h⟩ ?_
    rintro ⟨i, l2, m2⟩ ⟨hi, hl2, hz, hmm⟩
    simp only at hi hl2 hz hmm
    refine WP.trim [13, 12, 11, 8, 6, 7, 2, 1] [0] ?_
    try simp only
    refine WP.seq ?_
    refine Zp ?_
    refine Zm ?_
    refine Zm ?_
    refine Zh sl_22 hl ?_
    refine Zi ?_
    refine Ze ?_
    refine WP.ite rfl (fun hlt => ?_) (fun hge => ?_)
    · refine Zb ?_
      have hlt' : i < line.length := by omega
      obtain ⟨x, gx⟩ : ∃ y, line[(i : Int).toNat]? = some y := ⟨_, List.getElem?_eq_getElem hlt'⟩
      have gx' : line[i]? = some x := gx
      obtain ⟨x0, x1⟩ := hlin x (List.mem_of_getElem? gx)
      obtain ⟨b, gB⟩ : ∃ y, F.blocks[x.toNat]? = some y := ⟨_, List.getElem?_eq_getElem (by omega)⟩
      obtain ⟨a, ga⟩ : ∃ y, A'[x.toNat]? = some y := ⟨_, List.getElem?_eq_getElem (by omega)⟩
      obtain ⟨w, gw⟩ : ∃ y, B'[x.toNat]? = some y := ⟨_, List.getElem?_eq_getElem (by omega)⟩
      have hbm := List.mem_of_getElem? gB
      have hal := hra a (List.mem_of_getElem? ga)
      have hwl := hrb w (List.mem_of_getElem? gw)
      obtain ⟨_, ⟨bu0, bt0, rfl, hbu, hbt⟩, hrow⟩ := hv.at gB
      obtain ⟨bu, rfl, _, _⟩ := SlR.sv hbu
      obtain ⟨bt, rfl, _, _⟩ := SlR.sv hbt
      obtain ⟨_, ⟨ua0, rfl, hua⟩, rowa⟩ := ha.at ga
      obtain ⟨_, ⟨uw0, rfl, huw⟩, roww⟩ := hb.at gw
      obtain ⟨ua, rfl, _, _⟩ := SlR.sv hua
      obtain ⟨uw, rfl, _, _⟩ := SlR.sv huw
      have ca : cellH hX (elemAddr av.val (x.toNat * 1)) ua.val := by have := rowa 0 _ rfl; exact this
      have cw : cellH hX (elemAddr bv.val (x.toNat * 1)) uw.val := by have := roww 0 _ rfl; exact this
      have hbs := baseL_take gx' gB
      have hk0 := baseL_pos F (line.take i)
      have hk1 := hbaseT i
      have hk2 := hbaseT (i + 1)
      rw [drop_at gx', refLine, gB] at hz
      simp only at hz
      rw [wideAll_append, List.getD_eq_getElem?_getD, List.getD_eq_getElem?_getD, ga, gw, ← hbs] at hz
      simp only [Option.getD_some] at hz
      obtain ⟨K, hK⟩ : ∃ K : Nat, (K : Int) = baseL F (line.take i) := ⟨(baseL F (line.take i)).toNat, by omega⟩
      rw [← hK] at hz hbs hk0 hk1 ⊢
      rw [← hl2] at hz
      refine WP.trim [13, 11, 8, 6, 7, 2, 1] [0] ?_
      refine WP.seq ?_
      refine WP.block ?_
      refine WP.seq ?_
      refine WP.drawn0 cf0 mixed rfl (by kernel_rfl) ?_
      refine Zf fo_25_4 ?_
      refine Zr ag_23 c4 ?_
      refine Zm ?_
      refine Zm ?_
      refine Zx sl_22 hl ?_
      refine Zr ag_3 (SlR.cell0 hl gx rfl) ?_
      refine Zx sl_23 hv ?_
      refine Run.loadRagg rfl rfl ag_56 rfl rfl hrow rfl ?_
      refine Run.alloc rfl zr_56 rfl rfl rfl ?_
      intro b14
      refine Run.storeB 1 rfl rfl rfl rfl ag_56 rfl rfl rfl rfl rfl ?_
      refine Ze ?_
      refine WP.trim [14, 13, 11, 8, 6, 7, 2, 1] [0, 1] ?_
      refine WP.seq ?_
      refine WP.drawn0 cf0 mixed rfl (by kernel_rfl) ?_
      refine Run.loadBagg 1 rfl rfl ag_56 rfl rfl rfl rfl rfl ?_
      iterate 3 refine Zm ?_
      refine Zx sl_22 hl ?_
      refine Zr ag_3 (SlR.cell0 hl gx rfl) ?_
      refine Zx sl_88 ha ?_
      refine Zr ag_92 ca ?_
      iterate 3 refine Zm ?_
      refine Zx sl_22 hl ?_
      refine Zr ag_3 (SlR.cell0 hl gx rfl) ?_
      refine Zx sl_88 hb ?_
      refine Zr ag_92 cw ?_
      refine Zm ?_
      refine Zm ?_
      refine Run.callP [0] ok_48 (refBlock_ok hX bu bt ua uw ls b a w l2 K hbu hua huw (by omega) (by omega) (by omega) (fun y hy => ⟨fun h => by have := hQ.regs.dst b hbm y hy h; omega, fun r hr => by have := hQ.regs.args b hbm y hy r hr; omega⟩) (fun h => by have := hQ.regs.val b hbm h; omega) (hS.bodies b hbm) (hS.args b hbm) (by omega)) ?_; rintro _ _ rfl
      refine Ze ?_
      have hwl3 := wideAll_len (refBlk a w b (K : Int) l2.length) l2
      generalize wideAll l2 (refBlk a w b (K : Int) l2.length) = l3 at hz hwl3 ⊢
      refine WP.trim [14, 13, 11, 8, 6, 7, 2, 1] [0, 1] ?_
      refine Zp ?_
      refine Zm ?_
      refine Zf fo_56_0 ?_
      refine Zl 1 ag_52 ?_
      refine Zh sl_52 hbu ?_
      refine Za ?_
      refine Za ?_
      refine Run.eqv (v' := .int .i64 (baseL F (line.take (i + 1)))) (by rw [hbs]) ?_
      refine Zm ?_
      refine Ze ?_
      refine Zc ?_
      refine Zm ?_
      refine Zu ?_
      refine Za ?_
      refine Zm ?_
      refine Run.nil ?_
      refine blk_norm ?_; refine thn_next ?_
      refine Zc ?_
      refine Zm ?_
      refine Za ?_
      refine Zm ?_
      refine Run.nil ?_
      exact thn_next ⟨(i + 1, l3, 2 * baseL F (line.take (i + 1)) + 1), ⟨hlt', by simp only; omega, by simp only; rw [← hl2]; exact hz, fun _ => rfl⟩, by simp only; omega, Ko.go, ent.gc⟩
    · refine Zj ?_
      have e : i = line.length := by omega
      subst e
      rw [List.drop_length, List.take_length] at hz
      rw [List.take_length] at hmm
      have hm2 := hmm (by omega)
      have hz : l2 = refAll F A' B' R line := hz
      subst hm2 hz
      exact thn_next ⟨line.length, trivial, Ko.go ⟨rfl, by rw [show baseL F line = baseL F (line.take line.length) by rw [List.take_length]]; rfl, rfl, trivial⟩, ent.gc⟩
  rintro n13 _
  obtain ⟨hout1, hout2⟩ := outR_all (most := (2 * baseL F line + 1).toNat) hQ hTl hbl (by have := (spans_ok hQ hS (line := line) (by omega)).len; omega) (by omega)
  have hslot := fun (r : Nat) (hr : r < R) => refAll_slot hQ hTl hbl (r := r) hr
  obtain ⟨most, hmost⟩ : ∃ most : Nat, (most : Int) = 2 * baseL F line + 1 := ⟨(2 * baseL F line + 1).toNat, by omega⟩
  rw [← hmost, Int.toNat_natCast] at hout1 hout2
  have hrl := refAll_len (F := F) (A := A') (B := B') (R := R) (line := line)
  have hreg : ∀ (r : Nat) (x : Iv), (refAll F A' B' R line)[r]? = some x → x.reg = (r : Int) ∧ x.fr ≤ (most : Int) := fun r x h => by
    have hlt := (List.getElem?_eq_some_iff.1 h).1
    rw [hrl] at hlt
    obtain ⟨x', gx', e, hx⟩ := hslot r hlt
    rw [h] at gx'; cases gx'
    refine ⟨e, ?_⟩
    rcases hx with ⟨h1, _⟩ | ⟨h1, _⟩
    · omega
    · unfold evF at h1
      rw [List.mem_append, mem_evAt] at h1
      rcases h1 with ⟨_, e⟩ | h1
      · omega
      · have := (ev_range line 0 (Int.le_refl _) h1).2; omega
  generalize refAll F A' B' R line = l at hrl hreg hout1 hout2 ⊢
  rw [← hmost]
  refine WP.trim [12, 8, 2, 1] [0] ?_
  refine Zp ?_
  refine Zm ?_
  refine Za ?_
  refine Run.eqv (v' := .int .i64 ((most + 1 : Nat) : Int)) rfl ?_
  refine Run.makeSlice (E := Enc.slice) (nilS) rfl rfl rfl sl_30 zr_22 rfl rfl rfl (by first | omega | (simp <;> omega)) (by first | omega | (simp <;> omega)) (by first | omega | (simp <;> omega)) (by first | omega | (simp <;> omega)) ?_
  intro b102
  refine Zm ?_
  refine Ze ?_
  refine WP.sup (ρ' := [(15, (⟨some ⟨b102, 0, none⟩, most + 1, most + 1⟩ : SV).val), (12, .int .i64 (most : Int)), (8, ls.val), (2, .pointer (some ⟨b2, 0, none⟩))]) (Γ' := [slA 62 encIv ls.val l, slA 22 Enc.slice (⟨some ⟨b102, 0, none⟩, most + 1, most + 1⟩ : SV).val (List.replicate (most + 1) nilS)]) (covers_get ⟨rfl, rfl, rfl, rfl, trivial⟩) ent.go ?_
  generalize (⟨some ⟨b102, 0, none⟩, most + 1, most + 1⟩ : SV) = yv
  refine WP.via (rows_nils (T := 3) (E := Enc.int .i64) _ (most + 1)) ?_
  refine WP.via (Γ' := [slA 62 encIv ls.val l, slA 22 Enc.slice yv.val ((List.replicate (most + 1) (nilS, ([] : List Int))).map Prod.fst), rows 3 (Enc.int .i64) (List.replicate (most + 1) (nilS, ([] : List Int)))]) (by rw [List.map_replicate]; exact ent.go) ?_
  refine WP.meetC (α := Nat × List (SV × List Int)) (fun z => z.2.map Prod.snd = (List.range (most + 1)).map fun q : Nat => byL l (q : Int)) (fun z => [(16, .int .i64 (z.1 : Int))]) (fun z => [(1, slA 22 Enc.slice yv.val (z.2.map Prod.fst)), (2, rows 3 (Enc.int .i64) z.2)]) ?_ ?_
  · refine Zp ?_
    refine Zm ?_
    refine Ze ?_
    refine WP.block ?_
    refine WP.loopC (α := Nat × List (SV × List Int)) (fun z => z.1 ≤ R ∧ z.2.length = most + 1 ∧ ∀ (q : Nat) (y : List Int), (z.2.map Prod.snd)[q]? = some y → y = byL (l.take z.1) (q : Int)) (fun z => [(16, .int .i64 (z.1 : Int))]) (fun z => [(1, slA 22 Enc.slice yv.val (z.2.map Prod.fst)), (2, rows 3 (Enc.int .i64) z.2)]) (fun z => R - z.1) (0, List.replicate (most + 1) (nilS, [])) ⟨Nat.zero_le _, by simp, fun q y h => by
      rw [List.map_replicate, List.getElem?_replicate] at h
      split at h
      · cases h; simp [byL]
      · cases h⟩ ?_
    rintro ⟨r, p⟩ ⟨hr, hp, hby⟩
    simp only at hr hp hby
    refine WP.trim [16, 15, 12, 8, 2] [0, 1, 2] ?_
    try simp only
    refine WP.seq ?_
    refine Zp ?_
    refine Zm ?_
    refine Zf fo_25_2 ?_
    refine Zr ag_3 c2 ?_
    refine Zi ?_
    refine Ze ?_
    refine WP.ite rfl (fun hlt => ?_) (fun hge => ?_)
    · refine Zb ?_
      have hlt' : r < R := by omega
      obtain ⟨x, gx⟩ : ∃ x, l[(r : Int).toNat]? = some x := ⟨_, List.getElem?_eq_getElem (show r < l.length by omega)⟩
      have gx' : l[r]? = some x := gx
      obtain ⟨xr, xm⟩ := hreg r x gx'
      have hst := fun q => byL_step gx' q
      refine WP.seq ?_
      refine WP.block ?_
      refine Zp ?_
      refine Zm ?_
      refine Zm ?_
      refine Run.idxO 0 rfl rfl rfl sl_44 rfl rfl rfl rfl (by omega) (by omega) ?_
      refine Zf fo_62_1 ?_
      refine Run.loadO 0 r 1 rfl rfl ag_3 rfl rfl rfl rfl gx rfl ?_
      refine Zi ?_
      refine Ze ?_
      refine WP.ite rfl (fun h0 => ?_) (fun h0 => ?_)
      · obtain ⟨⟨us, y⟩, gy⟩ : ∃ y, p[x.fr.toNat]? = some y := ⟨_, List.getElem?_eq_getElem (by omega)⟩
        have gu : (p.map Prod.fst)[x.fr.toNat]? = some us := by rw [List.getElem?_map, gy]; rfl
        have hyl := hby x.fr.toNat y (by rw [List.getElem?_map, gy]; rfl)
        have hyn := byL_len (l.take r) (x.fr.toNat : Int)
        rw [← hyl, List.length_take] at hyn
        have hpm : (p.map Prod.fst).length = most + 1 := by simp [hp]
        refine WP.trim [16, 15, 12, 8, 2] [2, 0, 1] ?_
        refine WP.via (rows_out gy _) ?_
        refine WP.sup (Γ' := [slA 3 (Enc.int .i64) us.val y, rowsBut 3 (Enc.int .i64) x.fr.toNat p] ++ [slA 62 encIv ls.val l, slA 22 Enc.slice yv.val (p.map Prod.fst)]) (sup.refl _) ent.gn ?_
        have hln := fun (gF : Heap) (hgF : sat [slA 62 encIv ls.val l, slA 22 Enc.slice yv.val (p.map Prod.fst)] gF) (hdF : Disj hX gF) => (lent_at (A := Iv) 0 rfl hgF hdF : SlR encIv.rd (un hX gF) ls.val l)
        have hyn2 := fun (gF : Heap) (hgF : sat [slA 62 encIv ls.val l, slA 22 Enc.slice yv.val (p.map Prod.fst)] gF) (hdF : Disj hX gF) => (lent_at (A := SV) 1 rfl hgF hdF : SlR Enc.slice.rd (un hX gF) yv.val (p.map Prod.fst))
        refine WP.drawnF cfF [0, 1, 2, 3, 4, 5, 6, 7, 8, 9, 10, 11, 12, 13, 14, 15, 16, 17] [18] ([slA 62 encIv ls.val l, slA 22 Enc.slice yv.val (p.map Prod.fst)]) mixed rfl rfl (by kernel_rfl) (fun gF hgF hdF => ?_)
        iterate 3 refine Zm ?_
        refine Zx sl_44 (hln gF hgF hdF) ?_
        refine Zf fo_62_1 ?_
        refine Run.loadF rfl rfl ag_3 rfl rfl (SlR.cell (hln gF hgF hdF) gx rfl) ?_
        iterate 3 refine Zm ?_
        refine Zx sl_44 (hln gF hgF hdF) ?_
        refine Zf fo_62_1 ?_
        refine Run.loadF rfl rfl ag_3 rfl rfl (SlR.cell (hln gF hgF hdF) gx rfl) ?_
        refine Zx sl_30 (hyn2 gF hgF hdF) ?_
        refine Run.loadF rfl rfl ag_22 rfl rfl (SlR.cell0 (hyn2 gF hgF hdF) gu rfl) ?_
        refine Zm ?_
        refine Run.buildSlice (E := Enc.int .i64) rfl sl_22 zr_3 ([(r : Int)]) rfl rfl rfl (by decide) rfl rfl ?_
        intro b130
        refine Run.append 0 rfl rfl rfl rfl rfl rfl sl_22 zr_3 rfl (src_own 2 rfl) (by first | omega | (simp <;> omega)) (by first | omega | (simp <;> omega)) ?_
        intro sv131 hv131
        refine Zx sl_30 (hyn2 gF hgF hdF) ?_
        refine Run.nil ?_
        refine Run.storeO 4 x.fr.toNat 0 (y' := sv131) rfl rfl rfl rfl ag_22 rfl rfl rfl rfl gu rfl rfl ?_
        refine Run.nil ?_
        refine blk_norm ?_; refine thn_next ?_
        refine Zc ?_
        refine Zm ?_
        refine Za ?_
        refine Zm ?_
        refine Run.nil ?_
        have e3 : (p.map Prod.fst).set x.fr.toNat sv131 = (p.set x.fr.toNat (sv131, y ++ [(r : Int)])).map Prod.fst := by rw [List.map_set]
        refine thn_next ⟨(r + 1, p.set x.fr.toNat (sv131, y ++ [(r : Int)])), ⟨hlt', by rw [List.length_set]; exact hp, fun q z hz => ?_⟩, by simp only; omega, Ko.go, ?_⟩
        · simp only [List.map_set] at hz
          rw [hst]
          by_cases e : x.fr.toNat = q
          · subst e
            rw [List.getElem?_set_self (by simp; omega)] at hz
            cases hz
            rw [if_pos (by omega), xr, ← hyl]
          · rw [List.getElem?_set_ne e] at hz
            rw [if_neg (by omega), List.append_nil]
            exact hby q z hz
        · simp only [chgs, List.set_cons_zero, List.set_cons_succ]
          rw [← e3]
          refine ent.trans (Δ := slA 3 (Enc.int .i64) sv131.val (y ++ [(r : Int)]) :: rowsBut 3 (Enc.int .i64) x.fr.toNat p :: [slA 62 encIv ls.val l, slA 22 Enc.slice yv.val ((p.map Prod.fst).set x.fr.toNat sv131)]) ent.gc ?_
          exact (rows_in (p := p) (i := x.fr.toNat) (by omega) _).trans ent.go
      · refine WP.skip ?_; refine blk_norm ?_; refine thn_next ?_
        refine Zc ?_
        refine Zm ?_
        refine Za ?_
        refine Zm ?_
        refine Run.nil ?_
        refine thn_next ⟨(r + 1, p), ⟨hlt', hp, fun q z hz => ?_⟩, by simp only; omega, Ko.go, ent.gc⟩
        rw [hst, if_neg (by omega), List.append_nil]
        exact hby q z hz
    · refine Zj ?_
      have e : r = R := by omega
      subst e
      refine thn_next ⟨(r, p), ?_, Ko.go, ent.gc⟩
      rw [List.take_of_length_le (by omega)] at hby
      refine List.ext_getElem? fun q => ?_
      by_cases hq : q < most + 1
      · obtain ⟨y, gy⟩ : ∃ y, (p.map Prod.snd)[q]? = some y := ⟨_, List.getElem?_eq_getElem (by simp; omega)⟩
        rw [gy, hby q y gy, List.getElem?_map, List.getElem?_range hq]; rfl
      · rw [List.getElem?_eq_none (by simp; omega), List.getElem?_eq_none (by simp; omega)]
  rintro ⟨n16, p⟩ hby
  simp only at hby
  refine WP.trim [15, 12, 8, 2] [0, 1, 2] ?_
  try simp only
  refine Zp ?_
  refine Zm ?_
  refine Ze ?_
  refine WP.via (slA_nil 62 encIv _) ?_
  refine WP.sup (ρ' := [(17, nilS.val), (15, yv.val), (12, .int .i64 (most : Int)), (8, ls.val)]) (Γ' := [slA 62 encIv nilS.val (outR l 0)] ++ [slA 62 encIv ls.val l, slA 22 Enc.slice yv.val (p.map Prod.fst), rows 3 (Enc.int .i64) p]) (covers_get ⟨rfl, rfl, rfl, rfl, trivial⟩) (by show ent _ (slA 62 encIv nilS.val [] :: _); exact ent.gn) ?_
  refine WP.freeze (Γ := [slA 62 encIv nilS.val (outR l 0)]) [slA 62 encIv ls.val l, slA 22 Enc.slice yv.val (p.map Prod.fst), rows 3 (Enc.int .i64) p] fun g hg hd => ?_
  have hlr : SlR encIv.rd (un hX g) ls.val l := lent_at 0 rfl hg hd
  have hyr : SlR rdI.slice (un hX g) yv.val ((List.range (most + 1)).map fun q : Nat => byL l (q : Int)) := by have := lent_rows 1 2 rfl rfl hg hd; rw [hby] at this; exact this
  generalize un hX g = hY at hlr hyr
  clear hg hd
  have hol : ∀ q, (outR l q).length ≤ R := fun q => by
    have := (outR_perm l q).length_eq
    have := List.length_filter_le (fun x => decide (0 ≤ x.fr ∧ x.fr < (q : Int))) l
    omega
  refine WP.meetC (α := SV × Nat) (fun z => True) (fun z => [(17, z.1.val), (18, .int .i64 (z.2 : Int))]) (fun z => [(0, slA 62 encIv z.1.val (outR l (most + 1)))]) ?_ ?_
  · refine Zp ?_
    refine Zm ?_
    refine Ze ?_
    refine WP.block ?_
    refine WP.loopC (α := Nat × SV) (fun z => z.1 ≤ most + 1) (fun z => [(18, .int .i64 (z.1 : Int)), (17, z.2.val)]) (fun z => [(0, slA 62 encIv z.2.val (outR l z.1))]) (fun z => most + 1 - z.1) (0, nilS) (Nat.zero_le _) ?_
    rintro ⟨q, os⟩ hq
    simp only at hq
    refine WP.trim [18, 17, 15, 12, 8] [0] ?_
    try simp only
    refine WP.seq ?_
    refine Zp ?_
    refine Zm ?_
    refine Zm ?_
    refine Zi ?_
    refine Ze ?_
    refine WP.ite rfl (fun hlt => ?_) (fun hge => ?_)
    · refine Zb ?_
      have hlt' : q < most + 1 := by omega
      have gq : ((List.range (most + 1)).map fun q : Nat => byL l (q : Int))[(q : Int).toNat]? = some (byL l (q : Int)) := by rw [Int.toNat_natCast, List.getElem?_map, List.getElem?_range hlt']; rfl
      obtain ⟨_, ⟨uq0, rfl, huq⟩, rowq⟩ := hyr.at gq
      obtain ⟨uq, rfl, _, _⟩ := SlR.sv huq
      have cq : cellH hY (elemAddr yv.val (q * 1)) uq.val := by have := rowq 0 _ rfl; exact this
      have hos := outR_succ l q
      have hoq := hol (q + 1)
      have hsl := SlR.sv hyr
      obtain ⟨G, hG⟩ : ∃ G, G = l.filter fun x => decide (x.fr = (q : Int)) := ⟨_, rfl⟩
      have hbG : byL l (q : Int) = G.map Iv.reg := by unfold byL; rw [hG]
      have hGl : ∀ x ∈ G, ∃ r : Nat, l[r]? = some x ∧ x.reg = (r : Int) := fun x hx => by
        rw [hG] at hx
        obtain ⟨r, gr⟩ := List.getElem?_of_mem (List.mem_filter.1 hx).1
        exact ⟨r, gr, (hreg r x gr).1⟩
      rw [← hG] at hos
      rw [hos, List.length_append] at hoq
      rw [hbG] at huq
      refine WP.trim [18, 17, 15, 12, 8] [0] ?_
      refine WP.meetC (α := SV × Nat) (fun z => True) (fun z => [(17, z.1.val), (19, .int .i64 (z.2 : Int))]) (fun z => [(0, slA 62 encIv z.1.val (outR l (q + 1)))]) ?_ ?_
      · refine WP.block ?_
        refine Zp ?_
        refine Zm ?_
        refine Ze ?_
        refine WP.block ?_
        refine WP.loopC (α := Nat × SV) (fun z => z.1 ≤ G.length) (fun z => [(19, .int .i64 (z.1 : Int)), (17, z.2.val)]) (fun z => [(0, slA 62 encIv z.2.val (outR l q ++ G.take z.1))]) (fun z => G.length - z.1) (0, os) (Nat.zero_le _) ?_ (he := by simp only [List.take_zero, List.append_nil]; exact ent.gc)
        rintro ⟨j, os⟩ hj
        simp only at hj
        refine WP.trim [19, 18, 17, 15, 12, 8] [0] ?_
        try simp only
        refine WP.seq ?_
        refine Zp ?_
        iterate 3 refine Zm ?_
        refine Run.idxR rfl rfl rfl sl_30 rfl rfl hyr (by rfl) (by omega) (by simp only [List.length_map, List.length_range]; omega) ?_
        refine Zr ag_22 cq ?_
        refine Zh sl_22 huq ?_
        refine Run.eqv (v' := .int .i64 (G.length : Int)) (by rw [List.length_map]) ?_
        refine Zi ?_
        refine Ze ?_
        refine WP.ite rfl (fun hlt2 => ?_) (fun hge2 => ?_)
        · refine Zb ?_
          obtain ⟨x, gx⟩ : ∃ x, G[j]? = some x := ⟨_, List.getElem?_eq_getElem (by omega)⟩
          obtain ⟨r, gr, hxr⟩ := hGl x (List.mem_of_getElem? gx)
          have hrlt := (List.getElem?_eq_some_iff.1 gr).1
          have gj : (G.map Iv.reg)[(j : Int).toNat]? = some x.reg := by rw [Int.toNat_natCast, List.getElem?_map, gx]; rfl
          have gr' : l[x.reg.toNat]? = some x := by rw [hxr]; exact gr
          have hgl : (G.map Iv.reg).length = G.length := List.length_map _
          have hlen2 : (outR l q ++ G.take j).length = (outR l q).length + j := by rw [List.length_append, List.length_take]; omega
          refine WP.seq ?_
          refine WP.block ?_
          refine Zc ?_
          iterate 4 refine Zm ?_
          refine Run.idxR rfl rfl rfl sl_30 rfl rfl hyr (by rfl) (by omega) (by simp only [List.length_map, List.length_range]; omega) ?_
          refine Zr ag_22 cq ?_
          refine Zm ?_
          refine Zx sl_22 huq ?_
          refine Zr ag_3 (SlR.cell0 huq gj rfl) ?_
          refine Zx sl_44 hlr ?_
          refine Run.loadRagg rfl rfl ag_62 rfl rfl (SlR.row hlr gr') rfl ?_
          refine Run.buildSlice (E := encIv) rfl sl_44 zr_62 ([x]) rfl rfl rfl (by decide) rfl rfl ?_
          intro b158
          refine Run.append 0 rfl rfl rfl rfl rfl rfl sl_44 zr_62 rfl (src_own 1 rfl) (by first | omega | (simp <;> omega)) (by first | omega | (simp <;> omega)) ?_
          intro sv159 hv159
          refine Zm ?_
          refine Run.nil ?_
          refine blk_norm ?_; refine thn_next ?_
          refine Zc ?_
          refine Zm ?_
          refine Za ?_
          refine Zm ?_
          refine Run.nil ?_
          exact thn_next ⟨(j + 1, sv159), by simp only; omega, by simp only; omega, Ko.go, by simp only [take_at gx]; rw [← List.append_assoc]; exact ent.gc⟩
        · refine Zj ?_
          refine blk_norm ?_
          rw [List.take_of_length_le (show G.length ≤ j by omega), ← hos]
          exact thn_next ⟨(os, j), trivial, Ko.go, ent.gc⟩
      rintro ⟨os, n19⟩ _
      refine WP.trim [18, 17, 15, 12, 8] [0] ?_
      try simp only
      refine Zc ?_
      refine Zm ?_
      refine Za ?_
      refine Zm ?_
      refine Run.nil ?_
      exact thn_next ⟨(q + 1, os), by simp only; omega, by simp only; omega, Ko.go, ent.gc⟩
    · refine Zj ?_
      have e : q = most + 1 := by omega
      subst e
      exact thn_next ⟨(os, most + 1), trivial, Ko.go, ent.gc⟩
  rintro ⟨os, n18⟩ _
  refine WP.trim [17] [0] ?_
  try simp only
  refine Zp ?_
  iterate 3 refine Zm ?_
  refine Ze ?_
  refine WP.ret ?_
  exact retT [4, 5] _ rfl rfl ⟨[slA 62 encIv os.val (outR l (most + 1))], ent.gn, .inr (.inr ⟨hform, hline, os, _, rfl, hout1, hout2, rfl⟩)⟩
end Go.Proofs.YtjjfehdlmdhhmaaDoor
end
