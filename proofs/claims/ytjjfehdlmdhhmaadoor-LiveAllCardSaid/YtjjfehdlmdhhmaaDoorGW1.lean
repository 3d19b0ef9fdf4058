/- A lease, taken apart. -/
import Derived.Test.YtjjfehdlmdhhmaaDoorGV8
section
/- A lease, taken apart. -/
namespace Go.Proofs.YtjjfehdlmdhhmaaDoor
open Go.Sep
set_option linter.unusedSimpArgs false
set_option linter.unusedVariables false
attribute [local irreducible] blk slA mp mpF rows rowsBut
theorem und_4 : Tryd.prog.underlying 4 = some .bool := by kernel_rfl
theorem funP_mono {r : RFun} {F : LFun} {h g : Heap} (H : funP r F h) (hd : Disj h g) : funP r F (un h g) := by
  obtain ⟨wp, w, rs, e, hl, hs⟩ := H
  exact ⟨wp, w, rs, e, hl, sat_mono hs hd⟩
/-- a lease, taken apart; its function as it is read -/
theorem lease_open {lb : Nat} {F : LFun} {Γ : List HProp} : ∀ h, sat (leaseP lb [F] :: Γ) h → ∃ z : SV × SV × SV × Int, sat ([blk lb [(z.1.cut 5 0 1).val, .int .i64 z.2.2.2] 38, slA 25 encFun (z.1.cut 5 0 1).val [((F, z.2.1, z.2.2.1) : RFun)], funP (F, z.2.1, z.2.2.1) F] ++ Γ) h := by
  rintro h ⟨h1, h2, ⟨w, ys, m, hl, hs⟩, g2, hd, e⟩
  match ys, hl with
  | [y], _ =>
    obtain ⟨a1, a2, p1, ⟨a3, a4, p2, ⟨a5, a6, p3, _, d3, e3⟩, d2, e2⟩, d1, e1⟩ := hs
    obtain ⟨a7, a8, p4, _, d4, e4⟩ : sat (List.zipWith funP [y] [F]) a5 := p3
    obtain ⟨y1, y2, y3⟩ := y
    have hy : y1 = F := by
      obtain ⟨_, _, _, e, _⟩ := p4
      simp only [Prod.mk.injEq] at e
      exact e.1
    subst hy
    have q2 : slA 25 encFun (w.cut 5 0 1).val [((y1, y2, y3) : RFun)] a3 := by
      have := slA_cut p2 (lo := 0) (hi := 1) (Nat.zero_le _) (by simp)
      exact this
    refine ⟨(w, y2, y3, m), sat_append.2 ⟨h1, h2, ?_, g2, hd, e⟩⟩
    exact ⟨a1, a2, p1, ⟨a3, a4, q2, ⟨a5, a6, by rw [e4]; exact (show funP (y1, y2, y3) y1 (un a7 a8) from funP_mono p4 d4), trivial, d3, e3⟩, d2, e2⟩, d1, e1⟩
end Go.Proofs.YtjjfehdlmdhhmaaDoor
end
