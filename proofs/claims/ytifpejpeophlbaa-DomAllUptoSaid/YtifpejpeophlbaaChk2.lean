/- The tree of dominators: a block's turn that moves it; the end of a round; what is right in the end. -/
import Derived.Test.YtifpejpeophlbaaChk
namespace Go.Proofs.Ytifpejpeophlbaa
set_option linter.unusedSimpArgs false
set_option linter.unusedVariables false
section
variable {tn : Gr} {L : List Nat} {pl : Nat → Nat} {i : Nat} {t : Tr}

theorem Inv.move (hLn : ∀ x ∈ L, x < tn.length) (hpl : Places L pl) (h : Inv tn L pl i t) {b m p0 : Nat} {ps : List Nat} (hbL : b ∈ L) (hb0 : b ≠ 0) (hbi : pl b = i) (hps : ∀ p, p ∈ ps ↔ p ∈ L ∧ Edge tn p b) (hm : Meet t ps m)
    (hp0 : p0 ∈ L) (he0 : Edge tn p0 b) (hlt0 : pl p0 < i) : Inv tn L pl (i + 1) (t.set b (some m)) := by
  have hnew : ∀ y, pa t b = some y → Anc t m y := fun y hy => h.up hpl hbL hb0 hbi hps hm hp0 he0 hlt0 hy
  have hb : b < t.length := by rw [h.len]; exact hLn b hbL
  have hk0 := h.first p0 hp0 hlt0
  have hmp0 := hm.over p0 ((hps p0).2 ⟨hp0, he0⟩) hk0
  have hmk : known t m := hmp0.known h.par hk0
  have hmb : pl m < pl b := by have := hmp0.le h.par; omega
  have kn' : ∀ x, known (t.set b (some m)) x ↔ x = b ∨ known t x := fun x => by
    unfold known; rw [pa_set hb]
    by_cases e : x = b
    · simp [e]
    · rw [if_neg e]; simp [e]
  have F1 : ∀ e x, known t x → Anc (t.set b (some m)) e x → Anc t e x := fun e x hx ha => by
    by_cases hbk : known t b
    · obtain ⟨y, hy⟩ := hbk; exact Anc.shrink hb hb0 hy (hnew y hy) ha
    · exact ha.stay_set' hb fun hbx => hbk (hbx.known h.par hx)
  have F2 : ∀ e x, pl b ≤ pl e → Anc t e x → Anc (t.set b (some m)) e x := fun e x hle ha => by
    refine ha.mono_set hb h.par hle fun e1 => ?_
    subst e1
    by_cases e2 : e = x
    · exact e2
    · have := ha.lt h.par e2; omega
  have F3 : ∀ e x, pl x < pl b → Anc t e x → Anc (t.set b (some m)) e x := fun e x hlt ha => ha.stay_set hb fun hbx => by have := hbx.le h.par; omega
  have pe : ∀ x y, pa (t.set b (some m)) x = some y → (x = b ∧ y = m) ∨ (x ≠ b ∧ pa t x = some y) := fun x y hp => by
    rw [pa_set hb] at hp
    split at hp
    · rename_i e; cases hp; exact .inl ⟨e, rfl⟩
    · rename_i e; exact .inr ⟨e, hp⟩
  have kb : ∀ a ∈ L, pl a < pl m → RA tn a m → RA tn a b := fun a ha hlt hr => by
    refine .step (h.ka hmp0 ha hlt hr) he0 fun e => ?_
    have : b = a := by omega
    subst this; omega
  refine ⟨by simp [h.len], ?_, fun x hx => ?_, fun x hx hlt => ?_, fun x z hx hz hlt => ?_, fun x y h0 hp => ?_, fun x y h0 hp a ha hlt hr => ?_, fun x y h0 hp a ha hne hn => ?_, fun x y h0 hp c hc => ?_,
    fun x y h0 hp p he hpL hlt e ha hle => ?_, fun x y h0 hp p he hpL hlt e ha hle => ?_, fun x y h0 hp hlt p he hpL hlt2 => ?_⟩
  · rw [pa_set hb, if_neg (Ne.symm hb0)]; exact h.root
  · rcases (kn' x).1 hx with rfl | hx
    · exact hbL
    · exact h.kn x hx
  · rw [kn']
    by_cases e : pl x < i
    · exact .inr (h.first x hx e)
    · exact .inl (hpl.inj x b hx hbL (by omega))
  · rw [kn']
    rcases (kn' x).1 hx with rfl | hx
    · exact .inr (h.first z hz (by omega))
    · exact .inr (h.kc x z hx hz hlt)
  · rcases pe x y hp with ⟨rfl, rfl⟩ | ⟨hne, hp⟩
    · exact ⟨(kn' _).2 (.inr hmk), hmb⟩
    · obtain ⟨h1, h2⟩ := h.par x y h0 hp; exact ⟨(kn' _).2 (.inr h1), h2⟩
  · rcases pe x y hp with ⟨rfl, rfl⟩ | ⟨hne, hp⟩
    · exact kb a ha hlt hr
    · exact h.k1 x y h0 hp a ha hlt hr
  · rcases pe x y hp with ⟨rfl, rfl⟩ | ⟨hne', hp⟩
    · have hall : Anc t a y := hm.low a fun p hp' hk => h.ma hpl ha _ p rfl hk fun hr => hn (.step hr ((hps p).1 hp').2 (by omega))
      by_cases e : a = y
      · subst e; exact RA.self
      · exact fun hr => hn (kb a ha (hall.lt h.par e) hr)
    · exact h.m1 x y h0 hp a ha hne hn
  · rcases pe x y hp with ⟨rfl, rfl⟩ | ⟨hne, hp⟩
    · exact (hm.low c fun p hp' hk => F1 _ _ hk (hc p ((hps p).1 hp').2 ((kn' p).2 (.inr hk)))).le h.par
    · exact h.g x y h0 hp c fun p hp' hk => F1 _ _ hk (hc p hp' ((kn' p).2 (.inr hk)))
  · rcases pe x y hp with ⟨rfl, rfl⟩ | ⟨hne, hp⟩
    · have hpk := h.first p hpL (by omega)
      have h1 := F1 _ _ hpk ha
      have h2 := hm.over p ((hps p).2 ⟨hpL, he⟩) hpk
      exact F3 _ _ hmb (h1.line h.par h2 hle (hpl.inj e y (h.kn e (h1.known h.par hpk)) (h.kn y hmk)))
    · have hpk := h.kc x p ⟨y, hp⟩ hpL hlt
      have h1 := F1 _ _ hpk ha
      have h2 := h.j x y h0 hp p he hpL hlt e h1 hle
      by_cases hby : Anc t b y
      · have h3 := h.j2 x y h0 hp p he hpL hlt b hby (by omega)
        by_cases hbe : pl b ≤ pl e
        · exact F2 _ _ hbe h2
        · exact (Anc.through hb h.par h3 ha (by omega)).trans (F2 _ _ (Nat.le_refl _) hby)
      · exact h2.stay_set hb hby
  · rcases pe x y hp with ⟨rfl, rfl⟩ | ⟨hne, hp⟩
    · exact F3 _ _ hlt ((F1 _ _ hmk ha).trans (hm.over p ((hps p).2 ⟨hpL, he⟩) (h.first p hpL (by omega))))
    · exact F2 _ _ (by omega) (h.j2 x y h0 hp p he hpL hlt e (F1 _ _ (h.par x y h0 hp).1 ha) (by omega))
  · rcases pe x y hp with ⟨rfl, rfl⟩ | ⟨hne, hp⟩
    · exact F3 _ _ hlt2 (hm.over p ((hps p).2 ⟨hpL, he⟩) (h.first p hpL (by omega)))
    · have hxi : pl x < i := by
        by_cases e : pl x < i
        · exact e
        · exact absurd (hpl.inj x b (h.kn x ⟨y, hp⟩) hbL (by omega)) hne
      exact F3 _ _ (by omega) (h.c x y h0 hp hxi p he hpL hlt2)

/-- the next round -/
theorem Inv.again (hpl : Places L pl) (h : Inv tn L pl L.length t) : Inv tn L pl 1 t := by
  refine ⟨h.len, h.root, h.kn, fun x hx _ => h.first x hx (hpl.lt x hx), h.kc, h.par, h.k1, h.m1, h.g, h.j, fun x y h0 hp p he hpL hlt e ha _ => ha.trans (h.c x y h0 hp (hpl.lt x (h.kn x ⟨y, hp⟩)) p he hpL hlt),
    fun x y h0 hp hlt p he hpL hlt2 => h.c x y h0 hp (hpl.lt x (h.kn x ⟨y, hp⟩)) p he hpL hlt2⟩

theorem Inv.start (hpos : 0 < tn.length) (h0 : 0 ∈ L) (hpl : Places L pl) (hlen : t.length = tn.length) (ht : ∀ x, pa t x = if x = 0 then some 0 else none) : Inv tn L pl 1 t := by
  have none' : ∀ {C : Prop} x y, x ≠ 0 → pa t x = some y → C := fun x y hx hp => by rw [ht, if_neg hx] at hp; cases hp
  refine ⟨hlen, by rw [ht, if_pos rfl], fun x ⟨y, hx⟩ => ?_, fun x hx hlt => ?_, fun x z ⟨y, hx⟩ hz hlt => ?_, fun x y h0 hp => none' x y h0 hp, fun x y h0 hp => none' x y h0 hp, fun x y h0 hp => none' x y h0 hp,
    fun x y h0 hp => none' x y h0 hp, fun x y h0 hp => none' x y h0 hp, fun x y h0 hp => none' x y h0 hp, fun x y h0 hp => none' x y h0 hp⟩
  · by_cases e : x = 0
    · subst e; exact h0
    · exact none' x y e hx
  · have : x = 0 := hpl.inj x 0 hx h0 (by rw [hpl.zero]; omega)
    subst this; exact ⟨0, by rw [ht, if_pos rfl]⟩
  · by_cases e : x = 0
    · subst e; rw [hpl.zero] at hlt; omega
    · exact none' x y e hx

/-- each block meets what the document says -/
structure IsTree (tn : Gr) (t : List Int) : Prop where
  len : t.length = tn.length
  no : ∀ b, b < tn.length → (b = 0 ∨ ¬ RA tn (-1) b) → t[b]? = some (-1)
  yes : ∀ b, b ≠ 0 → RA tn (-1) b → ∃ d : Nat, t[b]? = some (d : Int) ∧ d ≠ b ∧ RA tn (-1) d ∧ ¬ RA tn d b ∧ ∀ a : Nat, RA tn (-1) a → a ≠ b → ¬ RA tn a b → ¬ RA tn a d

/-- no block has a turn that moves it -/
def Fixed (tn : Gr) (t : Tr) (x : Nat) : Prop := ∀ y, pa t x = some y → ∀ p, Edge tn p x → known t p → Anc t y p

theorem Fixed.sound (hLm : ∀ b, b ∈ L ↔ RA tn (-1) b) (hk : ∀ x ∈ L, known t x) (hf : ∀ x ∈ L, x ≠ 0 → Fixed tn t x) {a b : Nat} (hr : RA tn a b) : ¬ Anc t a b := by
  induction hr with
  | start h => exact fun ha => by have := ha.root; subst this; exact h rfl
  | @step b c hb he hne ih =>
    intro ha
    cases ha with
    | refl => exact hne rfl
    | up h0 hp ha =>
      have hbL : b ∈ L := (hLm b).2 hb.all
      have hcL : c ∈ L := (hLm c).2 (.step hb.all he (by omega))
      exact ih (ha.trans (hf c hcL h0 _ hp b he (hk b hbL)))

def optI : Option Nat → Int
  | none => -1
  | some b => (b : Int)

theorem Inv.done (hLm : ∀ b, b ∈ L ↔ RA tn (-1) b) (hLn : ∀ x ∈ L, x < tn.length) (hpl : Places L pl) (h : Inv tn L pl 1 t) (hk : ∀ x ∈ L, known t x) (hf : ∀ x ∈ L, x ≠ 0 → Fixed tn t x) : IsTree tn ((t.set 0 none).map optI) := by
  have get : ∀ b, b < tn.length → b ≠ 0 → ((t.set 0 none).map optI)[b]? = some (optI (pa t b)) := fun b hb h0 => by
    rw [List.getElem?_map, List.getElem?_set_ne (Ne.symm h0)]
    have : b < t.length := by rw [h.len]; exact hb
    simp [pa, this]
  refine ⟨by simp [h.len], fun b hb hno => ?_, fun b hb0 hr => ?_⟩
  · by_cases e : b = 0
    · subst e
      have : 0 < t.length := by rw [h.len]; exact hb
      simp [this, optI]
    · rw [get b hb e]
      have : pa t b = none := by
        cases hp : pa t b with
        | none => rfl
        | some y => exact absurd ((hLm b).1 (h.kn b ⟨y, hp⟩)) (hno.resolve_left e)
      rw [this]; rfl
  · have hbL := (hLm b).2 hr
    obtain ⟨d, hd⟩ := hk b hbL
    have hlt := (h.par b d hb0 hd).2
    refine ⟨d, by rw [get b (hLn b hbL) hb0, hd]; rfl, fun e => by subst e; omega, (hLm d).1 (h.kn d (h.par b d hb0 hd).1), fun hr => Fixed.sound hLm hk hf hr (.up hb0 hd .refl), fun a ha hne hn => h.m1 b d hb0 hd a ((hLm a).2 ha) hne hn⟩

/-- the tree is one -/
theorem RA.cut_line {a d b : Nat} (hd : RA tn (-1) b) (h1 : ¬ RA tn a b) (h2 : ¬ RA tn d b) (hne : a ≠ d) (h3 : ¬ RA tn a d) : RA tn d a := by
  -- on a way to b both are met; the last of them that is met first
  apply Classical.byContradiction
  intro h4
  -- neither is met without the other: none is met
  have key : ∀ x, RA tn (-1) x → RA tn a x ∧ RA tn d x := fun x hx => by
    induction hx with
    | start => 
      refine ⟨.start fun e => ?_, .start fun e => ?_⟩
      · have : a = 0 := by omega
        subst this; exact h4 (.start (by omega))
      · have : d = 0 := by omega
        subst this; exact h3 (.start (by omega))
    | @step x c hx he _ ih =>
      refine ⟨.step ih.1 he fun e => ?_, .step ih.2 he fun e => ?_⟩
      · have : c = a := by omega
        subst this; exact h4 (.step ih.2 he (by omega))
      · have : c = d := by omega
        subst this; exact h3 (.step ih.1 he (by omega))
  exact h1 (key b hd).1

theorem IsTree.unique {t t' : List Int} (h : IsTree tn t) (h' : IsTree tn t') : t = t' := by
  refine List.ext_getElem? fun b => ?_
  by_cases hb : b < tn.length
  · by_cases hno : b = 0 ∨ ¬ RA tn (-1) b
    · rw [h.no b hb hno, h'.no b hb hno]
    · have hb0 : b ≠ 0 := fun e => hno (.inl e)
      have hr : RA tn (-1) b := Classical.byContradiction fun e => hno (.inr e)
      obtain ⟨d, g1, g2, g3, g4, g5⟩ := h.yes b hb0 hr
      obtain ⟨d', k1, k2, k3, k4, k5⟩ := h'.yes b hb0 hr
      rw [g1, k1]
      by_cases e : d = d'
      · rw [e]
      · exact absurd (RA.cut_line hr g4 k4 e (k5 d g3 g2 g4)) (g5 d' k3 k2 k4)
  · rw [List.getElem?_eq_none (by rw [h.len]; omega), List.getElem?_eq_none (by rw [h'.len]; omega)]
end
end Go.Proofs.Ytifpejpeophlbaa
