/- Intervals of a lease's function. -/
import Derived.Test.YtjjfehdlmdhhmaaDoorGW1
import Derived.Test.YtjjfehdlmdhhmaaDoorGT9
section
/- Intervals of a lease's function. -/
namespace Go.Proofs.YtjjfehdlmdhhmaaDoor
open Go.Sep
set_option linter.unusedSimpArgs false
set_option linter.unusedVariables false
attribute [local irreducible] blk slA mp mpF rows rowsBut

theorem lease_iv (few : Nat) (hstab : ∀ (hR : Heap) (sv : SV) (xs : List Iv), xs.Pairwise (fun x y => x.reg < y.reg) → (∀ x ∈ xs, smallV x) → xs.length ≤ few → Tri Tryd.prog hR 44 #[sv.val, cmpF] [slA 62 encIv sv.val xs] fun _ Γ' => ∃ ys : List Iv, ys.Perm xs ∧ ys.Pairwise ltV ∧ Γ' = [slA 62 encIv sv.val ys])
    {hR g : Heap} (hT : TabH hR) {F : LFun} {su sv lv : SV} {line : List Int} (hS : SmallF F) (h1 : F.params.length ≤ 1000000) (h2 : F.blocks.length ≤ 1000000) (hll : line.length ≤ 17592186043906) (hfew : formB F = true → F.regs ≤ (few : Int))
    (hg : sat [funP (F, su, sv) F, slA 3 (Enc.int .i64) lv.val line] g) (hd : Disj hR g) : Tri Tryd.prog (un hR g) 17 #[.agg ⟨fcs F su sv⟩, lv.val] [] (IvRes F line) := by
  obtain ⟨g0, hg0, s0⟩ := sat_at 0 hg rfl (Sub.refl g)
  have hRd := fun_reads hg0 (s0.trans (sub_un_right hd))
  exact intervals_ok few hstab (un hR g) (hT.mono (sub_un_left hR g)) F su sv lv line (hRd.read h1 h2).2 hS (lent_at 1 rfl hg hd) hll hfew
theorem iv_true {F : LFun} {line : List Int} (h : formB F = true) (hl : lineB line F.blocks.length = true) {x : Value} {Γ : List HProp} (H : IvRes F line x Γ) :
    ∃ (sv : SV) (ys : List Iv), x = .tuple #[sv.val, .int .i64 0] ∧ ys.Perm ((spansF F line).filter keepB) ∧ ys.Pairwise ltV ∧ Γ = [slA 62 encIv sv.val ys] := by
  rcases H with ⟨h1, _⟩ | ⟨_, h1, _⟩ | ⟨_, _, h1⟩
  · rw [h] at h1; cases h1
  · rw [hl] at h1; cases h1
  · exact h1
end Go.Proofs.YtjjfehdlmdhhmaaDoor
end
