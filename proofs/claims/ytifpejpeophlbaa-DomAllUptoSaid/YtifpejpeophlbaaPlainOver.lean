/- The plain law: the two Overs are one, since a way up that is longer than there are blocks never ends. -/
import Derived.Test.YtifpejpeophlbaaRefOver
namespace Go.Proofs.Ytifpejpeophlbaa
set_option linter.unusedSimpArgs false
set_option linter.unusedVariables false

theorem over_refGo (tr : List Int) (a : Int) : ∀ (k : Nat) (b : Int) (f : Bool), overGo tr a k b f = refGo tr a (k + 1) b f
  | 0, b, f => by simp only [overGo, refGo]; rw [decide_eq_decide.2 (show a = b ↔ b = a from ⟨Eq.symm, Eq.symm⟩)]
  | k + 1, b, f => by
    rw [overGo, refGo, over_refGo tr a k, decide_eq_decide.2 (show a = b ↔ b = a from ⟨Eq.symm, Eq.symm⟩)]

def itB (tr : List Int) : Nat → Int → Int
  | 0, b => b
  | m + 1, b => itB tr m (nextB tr b)
theorem itB_add (tr : List Int) (m : Nat) : ∀ (k : Nat) (b : Int), itB tr (m + k) b = itB tr m (itB tr k b)
  | 0, b => rfl
  | k + 1, b => itB_add tr m k (nextB tr b)

theorem refGo_more (tr : List Int) (a : Int) : ∀ (k : Nat) (b : Int) (f : Bool), refGo tr a (k + 1) b f = refGo tr a k b f ∨ ((∀ m, 1 ≤ m → m ≤ k → ¬ offB tr.length (itB tr m b)) ∧ offB tr.length (itB tr (k + 1) b))
  | 0, b, f => by
    by_cases h : offB tr.length (nextB tr b)
    · exact .inr ⟨fun m h1 h2 => by omega, h⟩
    · left; rw [refGo, refGo, if_neg h]; rfl
  | k + 1, b, f => by
    by_cases h : offB tr.length (nextB tr b)
    · left; rw [refGo, if_pos h, refGo, if_pos h]
    · rcases refGo_more tr a k (nextB tr b) (f || decide (b = a)) with e | ⟨e1, e2⟩
      · left; rw [refGo, if_neg h, e]; conv => rhs; rw [refGo, if_neg h]
      · refine .inr ⟨fun m h1 h2 => ?_, e2⟩
        obtain ⟨m', rfl⟩ : ∃ m', m = m' + 1 := ⟨m - 1, by omega⟩
        rcases Nat.eq_zero_or_pos m' with rfl | hm
        · exact h
        · exact e1 m' hm (by omega)

theorem over_ref (tr : List Int) (a b : Int) : overL tr a b = refOverL tr a b := by
  unfold overL refOverL
  split
  · rfl
  · rename_i h
    have hb : ¬ offB tr.length b := fun e => h (.inr e)
    rw [over_refGo]
    rcases refGo_more tr a tr.length b false with e | ⟨e1, e2⟩
    · exact e
    · exfalso
      have hin : ∀ m, m ≤ tr.length → ¬ offB tr.length (itB tr m b) := fun m hm => by
        rcases Nat.eq_zero_or_pos m with rfl | h1
        · exact hb
        · exact e1 m h1 hm
      by_cases hd : ∃ i j, i < j ∧ j ≤ tr.length ∧ itB tr i b = itB tr j b
      · obtain ⟨i, j, hij, hj, he⟩ := hd
        have : itB tr (tr.length + 1) b = itB tr (tr.length + 1 - j + i) b := by
          have e3 : tr.length + 1 = (tr.length + 1 - j) + j := by omega
          rw [itB_add tr (tr.length + 1 - j) i, he, ← itB_add tr (tr.length + 1 - j) j, ← e3]
        rw [this] at e2
        exact hin _ (by omega) e2
      · have hnd : ((List.range (tr.length + 1)).map fun m => (itB tr m b).toNat).Nodup := by
          refine List.pairwise_map.2 (List.pairwise_lt_range.imp_of_mem fun {i j} hi hj hij e => hd ⟨i, j, hij, by have := List.mem_range.1 hj; omega, ?_⟩)
          have q1 := hin i (by have := List.mem_range.1 hi; omega)
          have q2 := hin j (by have := List.mem_range.1 hj; omega)
          unfold offB at q1 q2; omega
        have := List.Nodup.length_le_of_subset hnd (l₂ := List.range tr.length) (fun x hx => by
          obtain ⟨m, hm, rfl⟩ := List.mem_map.1 hx
          have q1 := hin m (by have := List.mem_range.1 hm; omega)
          unfold offB at q1
          exact List.mem_range.2 (by omega))
        simp at this
        omega
end Go.Proofs.Ytifpejpeophlbaa
