/- The tree of dominators, worked out round by round: what stays true, that it ends, and that it is right in the end. -/
import Derived.Test.YtifpejpeophlbaaPlain1
namespace Go.Proofs.Ytifpejpeophlbaa
set_option linter.unusedSimpArgs false
set_option linter.unusedVariables false

def known (t : Tr) (x : Nat) : Prop := ∃ z, pa t x = some z
theorem pa_set {t : Tr} {b m x : Nat} (hb : b < t.length) : pa (t.set b (some m)) x = if x = b then some m else pa t x := by
  unfold pa
  by_cases h : x = b
  · subst h; simp [hb]
  · rw [if_neg h, List.getElem?_set_ne (Ne.symm h)]

/-- what is true of the tree, where the blocks whose place is less than i have had their turn in this round -/
structure Inv (tn : Gr) (L : List Nat) (pl : Nat → Nat) (i : Nat) (t : Tr) : Prop where
  len : t.length = tn.length
  root : pa t 0 = some 0
  kn : ∀ x, known t x → x ∈ L
  first : ∀ x ∈ L, pl x < i → known t x
  kc : ∀ x z, known t x → z ∈ L → pl z < pl x → known t z
  par : Par t pl
  k1 : ∀ x y, x ≠ 0 → pa t x = some y → ∀ a ∈ L, pl a < pl y → RA tn a y → RA tn a x
  m1 : ∀ x y, x ≠ 0 → pa t x = some y → ∀ a ∈ L, a ≠ x → ¬ RA tn a x → ¬ RA tn a y
  g : ∀ x y, x ≠ 0 → pa t x = some y → ∀ c, (∀ p, Edge tn p x → known t p → Anc t c p) → pl c ≤ pl y
  j : ∀ x y, x ≠ 0 → pa t x = some y → ∀ p, Edge tn p x → p ∈ L → pl p < pl x → ∀ e, Anc t e p → pl e ≤ pl y → Anc t e y
  j2 : ∀ x y, x ≠ 0 → pa t x = some y → ∀ p, Edge tn p x → p ∈ L → pl p < pl x → ∀ e, Anc t e y → i ≤ pl e → Anc t e p
  c : ∀ x y, x ≠ 0 → pa t x = some y → pl x < i → ∀ p, Edge tn p x → p ∈ L → pl p < pl x → Anc t y p

/-- places of a line -/
structure Places (L : List Nat) (pl : Nat → Nat) : Prop where
  zero : pl 0 = 0
  inj : ∀ a b, a ∈ L → b ∈ L → pl a = pl b → a = b
  lt : ∀ a ∈ L, pl a < L.length

section
variable {tn : Gr} {L : List Nat} {pl : Nat → Nat} {i : Nat} {t : Tr}

theorem Inv.ka (h : Inv tn L pl i t) {m p : Nat} (ha : Anc t m p) {a : Nat} (hL : a ∈ L) (hlt : pl a < pl m) (hr : RA tn a m) : RA tn a p := by
  induction ha with
  | refl => exact hr
  | up h0 hp ha ih => exact h.k1 _ _ h0 hp a hL (by have := ha.le h.par; omega) ih

theorem RA.self {out : Nat} : ¬ RA tn out out := fun h => h.ne rfl
theorem RA.zero {a : Nat} (h : ¬ RA tn a 0) : a = 0 := by
  by_cases e : a = 0
  · exact e
  · exact absurd (.start (by omega)) h

theorem Inv.ma (hpl : Places L pl) (h : Inv tn L pl i t) {a : Nat} (ha : a ∈ L) : ∀ (k p : Nat), pl p = k → known t p → ¬ RA tn a p → Anc t a p := by
  intro k
  induction k using Nat.strongRecOn with
  | _ k ih =>
    intro p hk hp hn
    by_cases e : a = p
    · subst e; exact .refl
    by_cases h0 : p = 0
    · subst h0; have := RA.zero hn; subst this; exact .refl
    obtain ⟨y, hy⟩ := hp
    obtain ⟨hy', hlt⟩ := h.par p y h0 hy
    exact .up h0 hy (ih (pl y) (by omega) y rfl hy' (h.m1 p y h0 hy a ha e hn))

theorem Anc.mono_set {b m : Nat} (hb : b < t.length) (hpar : Par t pl) {e x : Nat} (hle : pl b ≤ pl e) (h : Anc t e x) (hx : x = b → e = b) : Anc (t.set b (some m)) e x := by
  induction h with
  | refl => exact .refl
  | @up x y h0 hp ha ih =>
    have hne : x ≠ b := fun e1 => by
      have := (Anc.up h0 hp ha).lt hpar (fun e2 => by subst e2; have := (hpar _ _ h0 hp).2; have := ha.le hpar; omega)
      subst e1; omega
    refine .up h0 (by rw [pa_set hb, if_neg hne]; exact hp) (ih fun e1 => ?_)
    subst e1
    cases ha with
    | refl => rfl
    | up h1 h2 h3 => have := (hpar _ _ h1 h2).2; have := h3.le hpar; omega
/-- chains that do not meet b stay -/
theorem Anc.stay_set {b m : Nat} (hb : b < t.length) {e x : Nat} (h : Anc t e x) (hx : ¬ Anc t b x) : Anc (t.set b (some m)) e x := by
  induction h with
  | refl => exact .refl
  | @up x y h0 hp ha ih =>
    have hne : x ≠ b := fun e1 => by subst e1; exact hx .refl
    exact .up h0 (by rw [pa_set hb, if_neg hne]; exact hp) (ih fun h' => hx (.up h0 hp h'))
theorem Anc.stay_set' {b m : Nat} (hb : b < t.length) {e x : Nat} (h : Anc (t.set b (some m)) e x) (hx : ¬ Anc t b x) : Anc t e x := by
  induction h with
  | refl => exact .refl
  | @up x y h0 hp ha ih =>
    have hne : x ≠ b := fun e1 => by subst e1; exact hx .refl
    rw [pa_set hb, if_neg hne] at hp
    exact .up h0 hp (ih fun h' => hx (.up h0 hp h'))
/-- chains only shrink, where the new parent is on the old one's chain -/
theorem Anc.shrink {b m y : Nat} (hb : b < t.length) (hb0 : b ≠ 0) (hy : pa t b = some y) (hm : Anc t m y) {e x : Nat} (h : Anc (t.set b (some m)) e x) : Anc t e x := by
  induction h with
  | refl => exact .refl
  | @up x z h0 hp ha ih =>
    rw [pa_set hb] at hp
    split at hp
    · rename_i e1; subst e1; cases hp; exact .up h0 hy (ih.trans hm)
    · exact .up h0 hp ih
theorem Anc.through {b m : Nat} (hb : b < t.length) (hpar : Par t pl) {e x : Nat} (hbx : Anc t b x) (h : Anc (t.set b (some m)) e x) (hlt : pl e < pl b) : Anc (t.set b (some m)) e b := by
  induction hbx with
  | refl => exact h
  | @up x y h0 hp ha ih =>
    by_cases hx : x = b
    · subst hx; exact h
    · cases h with
      | refl => have := (Anc.up h0 hp ha).le hpar; omega
      | up h1 h2 h3 =>
        rw [pa_set hb, if_neg hx, hp] at h2; cases h2
        exact ih h3

/-- a block that has its turn: the new parent is on the chain of the old one -/
theorem Inv.up (hpl : Places L pl) (h : Inv tn L pl i t) {b m y p0 : Nat} {ps : List Nat} (hbL : b ∈ L) (hb0 : b ≠ 0) (hbi : pl b = i) (hps : ∀ p, p ∈ ps ↔ p ∈ L ∧ Edge tn p b) (hm : Meet t ps m)
    (hp0 : p0 ∈ L) (he0 : Edge tn p0 b) (hlt0 : pl p0 < i) (hy : pa t b = some y) : Anc t m y := by
  have hk0 := h.first p0 hp0 hlt0
  have hmp := hm.over p0 ((hps p0).2 ⟨hp0, he0⟩) hk0
  have hg := h.g b y hb0 hy m fun p hp hk => hm.over p ((hps p).2 ⟨h.kn p hk, hp⟩) hk
  exact h.j b y hb0 hy p0 he0 hp0 (by omega) m hmp hg

theorem Inv.same (hpl : Places L pl) (h : Inv tn L pl i t) {b m p0 : Nat} {ps : List Nat} (hbL : b ∈ L) (hb0 : b ≠ 0) (hbi : pl b = i) (hps : ∀ p, p ∈ ps ↔ p ∈ L ∧ Edge tn p b) (hm : Meet t ps m)
    (hy : pa t b = some m) : Inv tn L pl (i + 1) t := by
  refine ⟨h.len, h.root, h.kn, fun x hx hlt => ?_, h.kc, h.par, h.k1, h.m1, h.g, h.j, fun x y h0 hp p he hpL hlt e ha hie => h.j2 x y h0 hp p he hpL hlt e ha (by omega), fun x y h0 hp hlt p he hpL hlt2 => ?_⟩
  · by_cases e : pl x < i
    · exact h.first x hx e
    · have : x = b := hpl.inj x b hx hbL (by omega)
      subst this; exact ⟨m, hy⟩
  · by_cases e : pl x < i
    · exact h.c x y h0 hp e p he hpL hlt2
    · have : x = b := hpl.inj x b (h.kn x ⟨y, hp⟩) hbL (by omega)
      subst this
      rw [hy] at hp; cases hp
      exact hm.over p ((hps p).2 ⟨hpL, he⟩) (h.first p hpL (by omega))
end
end Go.Proofs.Ytifpejpeophlbaa
