/- What is read on some way from a point, ahead of being set; the search for it; plain. -/
import Derived.Test.YtjjfehdlmdhhmaaDoorGT4
section
/- What is read on some way from a point, ahead of being set; the search for it; plain. -/
namespace Go.Proofs.YtjjfehdlmdhhmaaDoor
open Go.Sep
set_option linter.unusedSimpArgs false
set_option linter.unusedVariables false
/-- read on some way from place k of block i, ahead of being set -/
def AtP (F : LFun) (r : Int) (i k : Nat) : Prop := ∃ b, F.blocks[i]? = some b ∧ (needB r (b.body.drop k) (decide (b.value = r)) = true ∨ (needB r (b.body.drop k) true = true ∧ ∃ c ∈ b.to, LiveIn F r c.toNat))
/-- what is processed of the work -/
def Done (F : LFun) (r : Int) (M : List Bool) (w : Nat × Nat) : Prop := ∃ b, F.blocks[w.1]? = some b ∧ needB r (b.body.drop w.2) (decide (b.value = r)) = false ∧ (needB r (b.body.drop w.2) true = true → ∀ c ∈ b.to, M[c.toNat]? = some true)
structure WaysInv (F : LFun) (r : Int) (p : Nat × Nat) (W : List (Nat × Nat)) (M : List Bool) (j : Nat) : Prop where
  first : W[0]? = some p
  good : ∀ w ∈ W, w.1 < F.blocks.length ∧ (AtP F r w.1 w.2 → AtP F r p.1 p.2)
  met : ∀ c : Nat, M[c]? = some true → (c, 0) ∈ W
  ml : M.length = F.blocks.length
  wl : W.length = 1 + M.count true
  done : ∀ (q : Nat) (w : Nat × Nat), q < j → W[q]? = some w → Done F r M w
  le : j ≤ W.length
theorem Done.mono {F : LFun} {r : Int} {M M' : List Bool} {w : Nat × Nat} (hM : ∀ c : Nat, M[c]? = some true → M'[c]? = some true) (h : Done F r M w) : Done F r M' w := by
  obtain ⟨b, h1, h2, h3⟩ := h
  exact ⟨b, h1, h2, fun hn c hc => hM _ (h3 hn c hc)⟩
end Go.Proofs.YtjjfehdlmdhhmaaDoor
end
