/- What is read on some way from a point, ahead of being set; the search for it; plain. -/
import Derived.Test.YtjjfehdlmdhhmaaDoorGT4
section
/- What is read on some way from a point, ahead of being set; the search for it; plain. -/
namespace Go.Proofs.YtjjfehdlmdhhmaaDoor
open Go.Sep
set_option linter.unusedSimpArgs false
set_option linter.unusedVariables false

/-- read on some way from place k of block i, ahead of being set -/
def AtP (F : LFun) (r : Int) (i k : Nat) : Prop := ∃ b, F.blocks[i]? = some b ∧ (needB r (b.body.drop k) (decide (b.value = r)) = true ∨ (needB r (b.body.drop k) true = true ∧ ∃ c ∈ b.to, LiveIn F r c.toNat))
theorem atP_zero {F : LFun} {r : Int} {i : Nat} : AtP F r i 0 ↔ LiveIn F r i := by
  constructor
  · rintro ⟨b, hb, h | ⟨h, c, hc, hl⟩⟩
    · exact .here hb (by simpa using h)
    · exact .on hb hc (by simpa using h) hl
  · intro h
    cases h with
    | here hb hn => exact ⟨_, hb, .inl (by simpa using hn)⟩
    | on hb hc hn hl => exact ⟨_, hb, .inr ⟨by simpa using hn, _, hc, hl⟩⟩
theorem liveOut_at {F : LFun} {r : Int} {i : Nat} {b : LBlk} (hb : F.blocks[i]? = some b) : LiveOut F r i ↔ ∃ c ∈ b.to, AtP F r c.toNat 0 := by
  constructor
  · rintro ⟨b', c, hb', hc, hl⟩
    rw [hb] at hb'; cases hb'
    exact ⟨c, hc, atP_zero.2 hl⟩
  · rintro ⟨c, hc, hl⟩
    exact ⟨b, c, hb, hc, atP_zero.1 hl⟩

/-- what is processed of the work -/
def Done (F : LFun) (r : Int) (M : List Bool) (w : Nat × Nat) : Prop := ∃ b, F.blocks[w.1]? = some b ∧ needB r (b.body.drop w.2) (decide (b.value = r)) = false ∧ (needB r (b.body.drop w.2) true = true → ∀ c ∈ b.to, M[c.toNat]? = some true)
structure WaysInv (F : LFun) (r : Int) (p : Nat × Nat) (W : List (Nat × Nat)) (M : List Bool) (j : Nat) : Prop where
  first : W[0]? = some p
  good : ∀ w ∈ W, w.1 < F.blocks.length ∧ (AtP F r w.1 w.2 → AtP F r p.1 p.2)
  met : ∀ c : Nat, M[c]? = some true → (c, 0) ∈ W
  ml : M.length = F.blocks.length
  wl : W.length = 1 + M.count true
  done : ∀ (q : Nat) (w : Nat × Nat), q < j → W[q]? = some w → Done F r M w
  le : j ≤ W.length

theorem ways_start {F : LFun} {r : Int} {p : Nat × Nat} (hp : p.1 < F.blocks.length) : WaysInv F r p [p] (List.replicate F.blocks.length false) 0 where
  first := rfl
  good := fun w hw => by rw [List.mem_singleton.1 hw]; exact ⟨hp, id⟩
  met := fun c h => by
    rw [List.getElem?_replicate] at h
    split at h
    · cases h
    · cases h
  ml := by simp
  wl := by simp [List.count_replicate]
  done := fun q w h => by omega
  le := Nat.zero_le _
theorem ways_le {F : LFun} {r : Int} {p : Nat × Nat} {W : List (Nat × Nat)} {M : List Bool} {j : Nat} (h : WaysInv F r p W M j) : W.length ≤ 1 + F.blocks.length := by
  rw [h.wl, ← h.ml]
  have := List.count_le_length (a := true) (l := M)
  omega
/-- all is processed: it is read nowhere -/
theorem ways_end {F : LFun} {r : Int} {p : Nat × Nat} {W : List (Nat × Nat)} {M : List Bool} (h : WaysInv F r p W M W.length) : ¬ AtP F r p.1 p.2 := by
  have all : ∀ w ∈ W, Done F r M w := fun w hw => by
    obtain ⟨q, hq⟩ := List.getElem?_of_mem hw
    exact h.done q w (List.getElem?_eq_some_iff.1 hq).1 hq
  have no : ∀ i, LiveIn F r i → M[i]? ≠ some true := by
    intro i hl
    induction hl with
    | here hb hn =>
      intro hm
      obtain ⟨b', hb', h1, _⟩ := all _ (h.met _ hm)
      simp only at hb' h1
      rw [hb] at hb'; cases hb'
      rw [List.drop_zero, hn] at h1; cases h1
    | on hb hc hn _ ih =>
      intro hm
      obtain ⟨b', hb', _, h2⟩ := all _ (h.met _ hm)
      simp only at hb' h2
      rw [hb] at hb'; cases hb'
      exact ih (h2 (by simpa using hn) _ hc)
  rintro ⟨b, hb, hd⟩
  obtain ⟨b', hb', h1, h2⟩ := all p (List.mem_of_getElem? h.first)
  rw [hb] at hb'; cases hb'
  rcases hd with hd | ⟨hd, c, hc, hl⟩
  · rw [hd] at h1; cases h1
  · exact no _ hl (h2 hd c hc)
/-- a point of the work is read at: so is the first -/
theorem ways_hit {F : LFun} {r : Int} {p : Nat × Nat} {W : List (Nat × Nat)} {M : List Bool} {j : Nat} (h : WaysInv F r p W M j) {w : Nat × Nat} (hw : w ∈ W) {b : LBlk} (hb : F.blocks[w.1]? = some b) (hn : needB r (b.body.drop w.2) (decide (b.value = r)) = true) : AtP F r p.1 p.2 :=
  (h.good w hw).2 ⟨b, hb, .inl hn⟩
theorem Done.mono {F : LFun} {r : Int} {M M' : List Bool} {w : Nat × Nat} (hM : ∀ c : Nat, M[c]? = some true → M'[c]? = some true) (h : Done F r M w) : Done F r M' w := by
  obtain ⟨b, h1, h2, h3⟩ := h
  exact ⟨b, h1, h2, fun hn c hc => hM _ (h3 hn c hc)⟩
theorem count_set {M : List Bool} {c : Nat} (h : M[c]? = some false) : (M.set c true).count true = M.count true + 1 := by
  induction M generalizing c with
  | nil => simp at h
  | cons x xs ih => cases c with
    | zero => simp at h; subst h; simp [List.count_cons]
    | succ c => simp at h; simp [List.count_cons, ih h]; omega
/-- a block that was not met is met -/
theorem ways_meet {F : LFun} {r : Int} {p : Nat × Nat} {W : List (Nat × Nat)} {M : List Bool} {j c : Nat} (h : WaysInv F r p W M j) (hc : c < F.blocks.length) (hm : M[c]? = some false) (hl : LiveIn F r c → AtP F r p.1 p.2) : WaysInv F r p (W ++ [(c, 0)]) (M.set c true) j where
  first := by rw [List.getElem?_append_left (by have := (List.getElem?_eq_some_iff.1 h.first).1; exact this)]; exact h.first
  good := fun w hw => by
    rcases List.mem_append.1 hw with hw | hw
    · exact h.good w hw
    · rw [List.mem_singleton.1 hw]; exact ⟨hc, fun ha => hl (atP_zero.1 ha)⟩
  met := fun d hd => by
    by_cases e : c = d
    · subst e; simp
    · rw [List.getElem?_set_ne e] at hd
      exact List.mem_append_left _ (h.met d hd)
  ml := by rw [List.length_set]; exact h.ml
  wl := by rw [List.length_append, count_set hm, h.wl]; simp; omega
  done := fun q w hq hw => by
    have hlt := Nat.lt_of_lt_of_le hq h.le
    rw [List.getElem?_append_left hlt] at hw
    refine (h.done q w hq hw).mono fun d hd => ?_
    by_cases e : c = d
    · subst e; rw [List.getElem?_set_self (by have := (List.getElem?_eq_some_iff.1 hd).1; exact this)]
    · rw [List.getElem?_set_ne e]; exact hd
  le := by rw [List.length_append]; have := h.le; omega
/-- the next point is processed -/
theorem ways_next {F : LFun} {r : Int} {p : Nat × Nat} {W : List (Nat × Nat)} {M : List Bool} {j : Nat} (h : WaysInv F r p W M j) {w : Nat × Nat} (hw : W[j]? = some w) (hd : Done F r M w) : WaysInv F r p W M (j + 1) :=
  ⟨h.first, h.good, h.met, h.ml, h.wl, fun q w' hq hw' => by
    by_cases e : q = j
    · subst e; rw [hw] at hw'; cases hw'; exact hd
    · exact h.done q w' (by omega) hw', (List.getElem?_eq_some_iff.1 hw).1⟩
end Go.Proofs.YtjjfehdlmdhhmaaDoor
end
