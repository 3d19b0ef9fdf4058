/- Ways in a graph, and ways that keep out of one block; chains of a list of parents; where two chains meet. -/
import Derived.Test.YtifpejpeophlbaaSame
namespace Go.Proofs.Ytifpejpeophlbaa
set_option linter.unusedSimpArgs false
set_option linter.unusedVariables false

abbrev Gr := List (List Nat)
structure GoodN (tn : Gr) : Prop where
  pos : 0 < tn.length
  lt : ∀ l ∈ tn, ∀ c ∈ l, c < tn.length
def Edge (tn : Gr) (b c : Nat) : Prop := ∃ l, tn[b]? = some l ∧ c ∈ l
inductive RA (tn : Gr) (out : Int) : Nat → Prop
  | start (h : out ≠ 0) : RA tn out 0
  | step {b c : Nat} (h : RA tn out b) (he : Edge tn b c) (hne : (c : Int) ≠ out) : RA tn out c

theorem Edge.lt {tn : Gr} (hg : GoodN tn) {b c : Nat} (h : Edge tn b c) : c < tn.length := by
  obtain ⟨l, h1, h2⟩ := h
  exact hg.lt l (List.mem_of_getElem? h1) c h2
theorem Edge.lt0 {tn : Gr} {b c : Nat} (h : Edge tn b c) : b < tn.length := by
  obtain ⟨l, h1, _⟩ := h
  exact (List.getElem?_eq_some_iff.1 h1).1
theorem RA.lt {tn : Gr} (hg : GoodN tn) {out : Int} {b : Nat} (h : RA tn out b) : b < tn.length := by
  cases h with
  | start => exact hg.pos
  | step _ he _ => exact he.lt hg
theorem RA.ne {tn : Gr} {out : Int} {b : Nat} (h : RA tn out b) : (b : Int) ≠ out := by
  cases h with
  | start h => exact fun e => h (by rw [← e]; rfl)
  | step _ _ h => exact h
theorem RA.all {tn : Gr} {out : Int} {b : Nat} (h : RA tn out b) : RA tn (-1) b := by
  induction h with
  | start => exact .start (by decide)
  | step _ he _ ih => exact .step ih he (by omega)
/-- what is closed is all -/
theorem RA.sub {tn : Gr} {out : Int} {S : Nat → Prop} (h0 : out ≠ 0 → S 0) (hs : ∀ b c, S b → Edge tn b c → (c : Int) ≠ out → S c) {b : Nat} (h : RA tn out b) : S b := by
  induction h with
  | start h => exact h0 h
  | step _ he hne ih => exact hs _ _ ih he hne

/-! ### The lists that are lined up -/
structure Lined (tn : Gr) (L : List Nat) : Prop where
  nodup : L.Nodup
  head : L[0]? = some 0
  mem : ∀ b, b ∈ L ↔ RA tn (-1) b
  prev : ∀ (i : Nat) (b : Nat), L[i]? = some b → b ≠ 0 → ∃ (j : Nat) (p : Nat), j < i ∧ L[j]? = some p ∧ Edge tn p b

/-! ### Chains of parents -/
abbrev Tr := List (Option Nat)
def pa (t : Tr) (x : Nat) : Option Nat := t[x]?.join
inductive Anc (t : Tr) (m : Nat) : Nat → Prop
  | refl : Anc t m m
  | up {x y : Nat} (h0 : x ≠ 0) (h : pa t x = some y) (ha : Anc t m y) : Anc t m x

theorem Anc.trans {t : Tr} {a b c : Nat} (h : Anc t a b) (h' : Anc t b c) : Anc t a c := by
  induction h' with
  | refl => exact h
  | up h0 hp _ ih => exact .up h0 hp ih

/-- parents stand ahead -/
def Par (t : Tr) (pl : Nat → Nat) : Prop := ∀ x y, x ≠ 0 → pa t x = some y → (∃ z, pa t y = some z) ∧ pl y < pl x

theorem Anc.le {t : Tr} {pl : Nat → Nat} (hp : Par t pl) {a b : Nat} (h : Anc t a b) : pl a ≤ pl b := by
  induction h with
  | refl => exact Nat.le_refl _
  | up h0 h _ ih => have := (hp _ _ h0 h).2; omega
theorem Anc.lt {t : Tr} {pl : Nat → Nat} (hp : Par t pl) {a b : Nat} (h : Anc t a b) (hne : a ≠ b) : pl a < pl b := by
  cases h with
  | refl => exact absurd rfl hne
  | up h0 h ha => have := (hp _ _ h0 h).2; have := ha.le hp; omega
theorem Anc.known {t : Tr} {pl : Nat → Nat} (hp : Par t pl) {a b : Nat} (h : Anc t a b) (hb : ∃ z, pa t b = some z) : ∃ z, pa t a = some z := by
  induction h with
  | refl => exact hb
  | up h0 h _ ih => exact ih (hp _ _ h0 h).1
/-- a chain is a line -/
theorem Anc.line {t : Tr} {pl : Nat → Nat} (hp : Par t pl) {a b c : Nat} (h : Anc t a c) (h' : Anc t b c) (hle : pl a ≤ pl b) (hinj : pl a = pl b → a = b) : Anc t a b := by
  induction h with
  | refl =>
    have := h'.le hp
    rw [hinj (by omega)]; exact .refl
  | up h0 hpa ha ih =>
    cases h' with
    | refl => exact .up h0 hpa ha
    | up h0' hpa' hb =>
      rw [hpa] at hpa'; cases hpa'
      exact ih hb
theorem Anc.root {t : Tr} {a : Nat} (h : Anc t a 0) : a = 0 := by
  cases h with
  | refl => rfl
  | up h0 _ _ => exact absurd rfl h0

/-- where ways up meet, of those that are known -/
structure Meet (t : Tr) (ps : List Nat) (m : Nat) : Prop where
  over : ∀ p ∈ ps, (∃ z, pa t p = some z) → Anc t m p
  low : ∀ e, (∀ p ∈ ps, (∃ z, pa t p = some z) → Anc t e p) → Anc t e m

structure MeetInv (t : Tr) (p0 m0 p m : Nat) : Prop where
  hp : Anc t p p0
  hm : Anc t m m0
  low : ∀ e, Anc t e p0 → Anc t e m0 → Anc t e p ∧ Anc t e m
theorem MeetInv.start (t : Tr) (p0 m0 : Nat) : MeetInv t p0 m0 p0 m0 := ⟨.refl, .refl, fun _ h h' => ⟨h, h'⟩⟩
theorem MeetInv.stepP {t : Tr} {pl : Nat → Nat} (hp : Par t pl) {p0 m0 p m q : Nat} (h : MeetInv t p0 m0 p m) (h0 : p ≠ 0) (hq : pa t p = some q) (hlt : pl m < pl p) : MeetInv t p0 m0 q m := by
  refine ⟨Anc.trans (.up h0 hq .refl) h.hp, h.hm, fun e h1 h2 => ?_⟩
  obtain ⟨h3, h4⟩ := h.low e h1 h2
  refine ⟨?_, h4⟩
  cases h3 with
  | refl => have := h4.le hp; omega
  | up _ hpa ha => rw [hq] at hpa; cases hpa; exact ha
theorem MeetInv.stepM {t : Tr} {pl : Nat → Nat} (hp : Par t pl) {p0 m0 p m q : Nat} (h : MeetInv t p0 m0 p m) (h0 : m ≠ 0) (hq : pa t m = some q) (hlt : pl p < pl m) : MeetInv t p0 m0 p q := by
  refine ⟨h.hp, Anc.trans (.up h0 hq .refl) h.hm, fun e h1 h2 => ?_⟩
  obtain ⟨h3, h4⟩ := h.low e h1 h2
  refine ⟨h3, ?_⟩
  cases h4 with
  | refl => have := h3.le hp; omega
  | up _ hpa ha => rw [hq] at hpa; cases hpa; exact ha
theorem Meet.snoc {t : Tr} {ps : List Nat} {m p0 m1 : Nat} (h : Meet t ps m) (hk : ∃ z, pa t p0 = some z) (hi : MeetInv t p0 m m1 m1) : Meet t (ps ++ [p0]) m1 := by
  refine ⟨fun p hp hz => ?_, fun e he => ?_⟩
  · rcases List.mem_append.1 hp with hp | hp
    · exact hi.hm.trans (h.over p hp hz)
    · simp at hp; subst hp; exact hi.hp
  · exact (hi.low e (he p0 (by simp) hk) (h.low e fun p hp hz => he p (by simp [hp]) hz)).1
theorem Meet.one {t : Tr} {ps : List Nat} {p0 : Nat} (h : ∀ p ∈ ps, ¬ ∃ z, pa t p = some z) (hk : ∃ z, pa t p0 = some z) : Meet t (ps ++ [p0]) p0 := by
  refine ⟨fun p hp hz => ?_, fun e he => he p0 (by simp) hk⟩
  rcases List.mem_append.1 hp with hp | hp
  · exact absurd hz (h p hp)
  · simp at hp; subst hp; exact .refl
theorem Meet.skip {t : Tr} {ps : List Nat} {p0 m : Nat} (h : Meet t ps m) (hk : ¬ ∃ z, pa t p0 = some z) : Meet t (ps ++ [p0]) m := by
  refine ⟨fun p hp hz => ?_, fun e he => h.low e fun p hp hz => he p (by simp [hp]) hz⟩
  rcases List.mem_append.1 hp with hp | hp
  · exact h.over p hp hz
  · simp at hp; subst hp; exact absurd hz hk
end Go.Proofs.Ytifpejpeophlbaa
