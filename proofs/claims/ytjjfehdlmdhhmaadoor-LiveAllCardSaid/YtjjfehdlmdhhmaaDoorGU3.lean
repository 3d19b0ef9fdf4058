/- What the row's condition gives: the table of bits lies where it is read. -/
import Derived.Test.YtjjfehdlmdhhmaaDoorGT3
import Derived.Test.YtjjfehdlmdhhmaaDoorRows
import Derived.ProofKit
import Derived.LaidMore
import Derived.OpenShut
import Derived.Stop.Joined
section
/- What the row's condition gives: the table of bits lies where it is read. -/
namespace Go.Proofs.YtjjfehdlmdhhmaaDoor
open Go.Sep Go.ChangeShapes Go.WideShapes Go.ChangeAt Go.RowKit
set_option linter.unusedVariables false
theorem Tryd.own : ownKnob Tryd.prog.godebug = none := by kernel_rfl
theorem Tryd.laidOut : laidOutB Tryd.prog = true := by kernel_rfl
/-- the row's list -/
def laidT : List (String × DataW Unit) := [("math/bits.deBruijn64tab", Rows.laid_math_bits_deBruijn64tab)]
theorem gTab : Tryd.prog.globalNamed "math/bits.deBruijn64tab" = some 0 := by kernel_rfl
theorem tTab : (Tryd.prog.globals[0]?).map (·.type) = some 144 := by kernel_rfl
theorem und_144 : Tryd.prog.underlying 144 = some (.array 64 5) := by kernel_rfl
theorem co_5 : Tryd.prog.cellsOf 5 = 1 := by kernel_rfl
/-- the door's own heap meets the condition -/
theorem door_met (os : Os) (args : Array Value) : laidMetH Tryd.prog laidT ((World.doorLaid Tryd.prog 400 os).forCall (fun _ _ => 0) ⟨#[], args, []⟩).memory :=
  laidMetH_of_parts3 (fuel := 8) (laidMet_of_run' 8 (by kernel_rfl) (by kernel_rfl)) (by kernel_rfl) (by kernel_rfl)
theorem laid_agg {H : Type} : (Rows.laid_math_bits_deBruijn64tab : DataW H) = .agg (Lib.deBruijn64tab.map fun n => .lit (.int .u8 ((n : Nat) : Int))) := rfl
set_option maxRecDepth 20000 in
/-- the table -/
theorem tab_of {W : World} (h : laidMetH Tryd.prog laidT W) : TabH (hp W) := by
  rw [MakeChecks.laidMetH_plain _ _ _ (by kernel_rfl)] at h
  obtain ⟨ps, ⟨g0, t0, cs0, f0, p0, q0, hg0, ht0, hv0, hd0, _, _⟩, _, _⟩ := h
  obtain rfl := Option.some.inj (gTab.symm.trans hg0)
  obtain rfl := Option.some.inj (tTab.symm.trans ht0)
  obtain ⟨xs, m1, rfl, hx1, hlen, hn, hel⟩ := DataW.trod_array und_144 hd0
  rw [laid_agg] at hx1
  simp only [Prod.mk.injEq, DataW.agg.injEq] at hx1
  intro i hi
  have h0 := hel i hi
  rw [co_5, Nat.mul_one] at h0
  obtain ⟨x, hx⟩ : ∃ x, xs[i]? = some x := ⟨_, List.getElem?_eq_getElem (by omega)⟩
  rw [hx] at h0
  obtain ⟨k, e1, e2, _⟩ := DataW.trod_int und_5 h0
  have h3 : (xs.map (·.1))[i]? = some x.1 := by rw [List.getElem?_map, hx]; rfl
  rw [← hx1.1, List.getElem?_map] at h3
  have h4 : Lib.deBruijn64tab[i]? = some (Lib.deBruijn64tab.getD i 0) := by
    rw [List.getD_eq_getElem?_getD]
    have : i < Lib.deBruijn64tab.length := hi
    rw [List.getElem?_eq_getElem this]; rfl
  rw [h4, Option.map_some] at h3
  rw [e2] at h3
  have hk : k = ((Lib.deBruijn64tab.getD i 0 : Nat) : Int) := by
    have := Option.some.inj h3
    simpa using this.symm
  refine cellH_of ?_
  rw [World.var?_cell hg0 hv0 i, ← hk]
  have h5 : (cs0.toList.drop i)[0]? = some (.int .u8 k) := by
    have := congrArg (fun l => l[0]?) e1
    rw [List.getElem?_take_of_lt (by omega)] at this
    exact this
  rw [List.getElem?_drop, Nat.add_zero] at h5
  simpa using h5
end Go.Proofs.YtjjfehdlmdhhmaaDoor
end
