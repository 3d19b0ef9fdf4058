/- The document's tree: of those that dominate a block the one that the most dominate; walked. -/
import Derived.Test.YtifpejpeophlbaaWithout
namespace Go.Proofs.Ytifpejpeophlbaa
open Go.Sep
set_option linter.unusedSimpArgs false
set_option linter.unusedVariables false
attribute [local irreducible] blk slA mp mpF rows rowsBut

def OverB (tn : Gr) (a b : Nat) : Prop := RA tn (-1) a ∧ RA tn (-1) b ∧ ¬ RA tn a b
inductive Cnt (tn : Gr) (b : Nat) : Nat → Nat → Prop
  | zero : Cnt tn b 0 0
  | yes {a m : Nat} (h : Cnt tn b a m) (ho : OverB tn a b) : Cnt tn b (a + 1) (m + 1)
  | no {a m : Nat} (h : Cnt tn b a m) (ho : ¬ OverB tn a b) : Cnt tn b (a + 1) m
theorem Cnt.le {tn : Gr} {x y : Nat} (hxy : ∀ a, OverB tn a x → OverB tn a y) : ∀ {k m m' : Nat}, Cnt tn x k m → Cnt tn y k m' → m ≤ m' ∧ ((∃ z, z < k ∧ OverB tn z y ∧ ¬ OverB tn z x) → m < m')
  | 0, _, _, .zero, .zero => ⟨Nat.le_refl _, fun ⟨z, h, _⟩ => by omega⟩
  | k + 1, _, _, .yes h ho, .yes h' ho' => by
    obtain ⟨h1, h2⟩ := Cnt.le hxy h h'
    refine ⟨by omega, fun ⟨z, hz, h3, h4⟩ => ?_⟩
    by_cases e : z = k
    · subst e; exact absurd ho h4
    · have := h2 ⟨z, by omega, h3, h4⟩; omega
  | k + 1, _, _, .yes h ho, .no h' ho' => absurd (hxy _ ho) ho'
  | k + 1, _, _, .no h ho, .yes h' ho' => by
    obtain ⟨h1, h2⟩ := Cnt.le hxy h h'
    exact ⟨by omega, fun _ => by omega⟩
  | k + 1, _, _, .no h ho, .no h' ho' => by
    obtain ⟨h1, h2⟩ := Cnt.le hxy h h'
    refine ⟨h1, fun ⟨z, hz, h3, h4⟩ => ?_⟩
    by_cases e : z = k
    · subst e; exact absurd h3 ho'
    · exact h2 ⟨z, by omega, h3, h4⟩
theorem Cnt.bd {tn : Gr} {x : Nat} : ∀ {k m : Nat}, Cnt tn x k m → m ≤ k
  | 0, _, .zero => Nat.le_refl _
  | k + 1, _, .yes h _ => by have := h.bd; omega
  | k + 1, _, .no h _ => by have := h.bd; omega

theorem RA.total {tn : Gr} {a d b : Nat} (hne : a ≠ d) (h1 : RA tn a d) (h2 : RA tn d a) (hb : RA tn (-1) b) : RA tn a b ∨ RA tn d b := by
  induction hb with
  | start =>
    by_cases e : a = 0
    · exact .inr (.start (by omega))
    · exact .inl (.start (by omega))
  | @step x c hx he _ ih =>
    by_cases e1 : c = a
    · subst e1; exact .inr h2
    by_cases e2 : c = d
    · subst e2; exact .inl h1
    rcases ih with ih | ih
    · exact .inl (.step ih he (by omega))
    · exact .inr (.step ih he (by omega))
theorem RA.trans {tn : Gr} {x d c : Nat} (h : RA tn x c) : RA tn x d ∨ RA tn d c := by
  induction h with
  | start h =>
    by_cases e : d = 0
    · subst e; exact .inl (.start h)
    · exact .inr (.start (by omega))
  | @step b c hb he hne ih =>
    rcases ih with ih | ih
    · exact .inl ih
    · by_cases e : c = d
      · subst e; exact .inl (.step hb he hne)
      · exact .inr (.step ih he (by omega))

def Best (tn : Gr) (mn : List Nat) (b a : Nat) : Option Nat → Prop
  | none => ∀ x, x < a → x ≠ b → ¬ OverB tn x b
  | some m => m < a ∧ m ≠ b ∧ OverB tn m b ∧ ∀ x, x < a → x ≠ b → OverB tn x b → mn.getD x 0 ≤ mn.getD m 0

theorem Best.tree {tn : Gr} (hg : GoodN tn) {mn : List Nat} (hm : ∀ b, b < tn.length → Cnt tn b tn.length (mn.getD b 0)) {t : Tr} (hlen : t.length = tn.length) (hb : ∀ b, b < tn.length → ∃ o, t[b]? = some o ∧ Best tn mn b tn.length o) : IsTree tn (t.map optI) := by
  refine ⟨by simp [hlen], fun b hbn hno => ?_, fun b h0 hr => ?_⟩
  · obtain ⟨o, h1, h2⟩ := hb b hbn
    rw [List.getElem?_map, h1]
    cases o with
    | none => rfl
    | some m =>
      obtain ⟨q1, q2, ⟨q3, q4, q5⟩, _⟩ := h2
      rcases hno with rfl | hno
      · exact absurd (RA.zero q5) q2
      · exact absurd q4 hno
  · obtain ⟨o, h1, h2⟩ := hb b (hr.lt hg)
    rw [List.getElem?_map, h1]
    have hz : OverB tn 0 b := ⟨.start (by decide), hr, fun h => h.sub (S := fun _ => False) (fun h => h rfl) fun _ _ h _ _ => h⟩
    cases o with
    | none => exact absurd hz (h2 0 hg.pos (Ne.symm h0))
    | some d =>
      obtain ⟨q1, q2, ⟨q3, q4, q5⟩, q6⟩ := h2
      refine ⟨d, rfl, q2, q3, q5, fun a ha hne hn hx => ?_⟩
      have had : a ≠ d := fun e => by subst e; exact RA.self hx
      have hda : ¬ RA tn d a := fun h => by rcases RA.total had hx h hr with h | h <;> contradiction
      have hle := q6 a (ha.lt hg) hne ⟨ha, hr, hn⟩
      have hlt := (Cnt.le (x := d) (y := a) (fun x ⟨k1, k2, k3⟩ => ⟨k1, ha, fun h => by rcases RA.trans (d := d) h with h | h <;> contradiction⟩) (hm d q1) (hm a (ha.lt hg))).2 ⟨a, ha.lt hg, ⟨ha, ha, RA.self⟩, fun h => h.2.2 hx⟩
      omega

structure RowI (tn : Gr) (a b : Nat) (row : List Bool) (mn : List Nat) : Prop where
  len : row.length = tn.length
  row : ∀ x : Nat, row[x]? = some true ↔ x < b ∧ OverB tn a x
  ml : mn.length = tn.length
  mn : ∀ x, x < tn.length → Cnt tn x (if x < b then a + 1 else a) (mn.getD x 0)
structure AllI (tn : Gr) (a : Nat) (p : List (SV × List Bool)) (mn : List Nat) : Prop where
  len : p.length = tn.length
  row : ∀ (x : Nat) (sv : SV) (r : List Bool), x < a → p[x]? = some (sv, r) → r.length = tn.length ∧ ∀ y : Nat, r[y]? = some true ↔ OverB tn x y
  ml : mn.length = tn.length
  mn : ∀ x, x < tn.length → Cnt tn x a (mn.getD x 0)
theorem AllI.put {tn : Gr} {a : Nat} {p : List (SV × List Bool)} {mn mn' : List Nat} (h : AllI tn a p mn) {sv : SV} {row : List Bool} (hr1 : row.length = tn.length) (hr2 : ∀ y : Nat, row[y]? = some true ↔ OverB tn a y) (hm1 : mn'.length = tn.length) (hm2 : ∀ x, x < tn.length → Cnt tn x (a + 1) (mn'.getD x 0)) (ha : a < tn.length) :
    AllI tn (a + 1) (p.set a (sv, row)) mn' := by
  refine ⟨by simp [h.len], fun x sv' r hx hp => ?_, hm1, hm2⟩
  by_cases e : x = a
  · subst e
    rw [List.getElem?_set_self (by rw [h.len]; exact ha)] at hp; cases hp
    exact ⟨hr1, hr2⟩
  · rw [List.getElem?_set_ne (Ne.symm e)] at hp
    exact h.row x sv' r (by omega) hp
theorem RowI.yes {tn : Gr} {a b : Nat} {row : List Bool} {mn : List Nat} (h : RowI tn a b row mn) (hb : b < tn.length) (ho : OverB tn a b) : RowI tn a (b + 1) (row.set b true) (mn.set b (mn.getD b 0 + 1)) := by
  have hl := h.len
  have hm := h.ml
  refine ⟨by simp [hl], fun x => ?_, by simp [hm], fun x hx => ?_⟩
  · by_cases e : x = b
    · subst e; rw [List.getElem?_set_self (by omega)]; simp [ho]
    · rw [List.getElem?_set_ne (Ne.symm e), h.row]
      constructor
      · exact fun ⟨h1, h2⟩ => ⟨by omega, h2⟩
      · exact fun ⟨h1, h2⟩ => ⟨by omega, h2⟩
  · have h1 := h.mn x hx
    by_cases e : x = b
    · subst e
      rw [if_neg (by omega)] at h1
      rw [if_pos (by omega)]
      have : (mn.set x (mn.getD x 0 + 1)).getD x 0 = mn.getD x 0 + 1 := by simp [List.getD_eq_getElem?_getD, hm, hx]
      rw [this]; exact .yes h1 ho
    · have : (mn.set b (mn.getD b 0 + 1)).getD x 0 = mn.getD x 0 := by simp only [List.getD_eq_getElem?_getD]; rw [List.getElem?_set_ne (Ne.symm e)]
      rw [this]
      by_cases e2 : x < b
      · rw [if_pos e2] at h1; rw [if_pos (by omega)]; exact h1
      · rw [if_neg e2] at h1; rw [if_neg (by omega)]; exact h1
theorem RowI.no {tn : Gr} {a b : Nat} {row : List Bool} {mn : List Nat} (h : RowI tn a b row mn) (hb : b < tn.length) (ho : ¬ OverB tn a b) : RowI tn a (b + 1) row mn := by
  refine ⟨h.len, fun x => ?_, h.ml, fun x hx => ?_⟩
  · rw [h.row]
    constructor
    · exact fun ⟨h1, h2⟩ => ⟨by omega, h2⟩
    · refine fun ⟨h1, h2⟩ => ⟨?_, h2⟩
      by_cases e : x = b
      · subst e; exact absurd h2 ho
      · omega
  · have h1 := h.mn x hx
    by_cases e : x = b
    · subst e
      rw [if_neg (by omega)] at h1
      rw [if_pos (by omega)]; exact .no h1 ho
    · by_cases e2 : x < b
      · rw [if_pos e2] at h1; rw [if_pos (by omega)]; exact h1
      · rw [if_neg e2] at h1; rw [if_neg (by omega)]; exact h1
end Go.Proofs.Ytifpejpeophlbaa
