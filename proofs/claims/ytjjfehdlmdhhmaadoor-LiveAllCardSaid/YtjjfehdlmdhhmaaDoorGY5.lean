/- Many functions as an argument. -/
import Derived.Test.YtjjfehdlmdhhmaaDoorGV3
section
/- Many functions as an argument. -/
namespace Go.Proofs.YtjjfehdlmdhhmaaDoor
open Go.Sep Go.ChangeShapes Go.WideShapes Go.ChangeAt Go.RowKit
theorem by_25 : 8 ≤ Tryd.prog.bytesOf 25 := of_decide_eq_true (by kernel_rfl)
theorem funs_open {w : World} : OpensW Tryd.prog w 34 rdFun.slice (fun xs => xs.length ≤ 17592186044416 ∧ ∀ x ∈ xs, WideF x) := OpensW.slice Tryd.underlying34 co_25 by_25 fun_open
theorem funs_arg {w : World} {H : Type} {enc : TypeId × Value → H} {base : Nat} {spare : Nat → Bool} {held : Bool} {v : Value} {a : Option Addr} {n c : Nat} {d : DataW H} {ps : List MemPlace} (hv : v = .slice a n c)
    (h : DataW.Trod enc Tryd.prog w base spare held 34 v d ps) (hw : ∀ m ∈ d.weights Tryd.prog 34, m ≤ reachBytes) : ∃ (xs : List LFun) (lv : SV), v = lv.val ∧ SlR rdFun (hp w) lv.val xs ∧ xs.length ≤ 17592186044416 ∧ ∀ x ∈ xs, WideF x := by
  obtain ⟨fuel, hf⟩ := h
  subst hv
  obtain ⟨xs, ⟨u, e, hu⟩, h1, h2⟩ := funs_open hf hw
  obtain ⟨su, rfl, _⟩ := SlR.sv hu
  have e2 : [Value.slice a n c] = [su.val] := e
  exact ⟨xs, su, by simpa using e2, hu, h1, h2⟩
end Go.Proofs.YtjjfehdlmdhhmaaDoor
end
