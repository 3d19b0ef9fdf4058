/- What live's answer is; plain. -/
import Derived.Test.YtjjfehdlmdhhmaaDoorGT6
import Derived.Test.YtjjfehdlmdhhmaaDoorGV1
section
/- What live's answer is; plain. -/
namespace Go.Proofs.YtjjfehdlmdhhmaaDoor
open Go.Sep
set_option linter.unusedSimpArgs false
set_option linter.unusedVariables false

theorem listOf_len (F : LFun) (p : Int → Prop) : (listOf F p).length ≤ F.regs.toNat := by
  unfold listOf
  exact Nat.le_trans (List.length_filterMap_le _ _) (by simp)
theorem live_false {F : LFun} (h : formB F = false) {x : Value} {Γ : List HProp} (H : LiveRes F x Γ) : x = .tuple #[.slice none 0 0, .slice none 0 0, .int .i64 140] ∧ Γ = [] := by
  rcases H with ⟨_, h1, h2⟩ | ⟨h1, _⟩
  · exact ⟨h1, h2⟩
  · rw [h] at h1; cases h1
theorem live_true {F : LFun} (h : formB F = true) {x : Value} {Γ : List HProp} (H : LiveRes F x Γ) : ∃ (o1 o2 : SV) (P Q : List (SV × List Int)), x = .tuple #[o1.val, o2.val, .int .i64 0] ∧ P.map Prod.snd = (List.range F.blocks.length).map (aheadOf F) ∧ Q.map Prod.snd = (List.range F.blocks.length).map (behindOf F) ∧
    Γ = [slA 22 Enc.slice o1.val (P.map Prod.fst), rows 3 (Enc.int .i64) P, slA 22 Enc.slice o2.val (Q.map Prod.fst), rows 3 (Enc.int .i64) Q] := by
  rcases H with ⟨h1, _⟩ | ⟨_, h1⟩
  · rw [h] at h1; cases h1
  · exact h1

end Go.Proofs.YtjjfehdlmdhhmaaDoor
end
