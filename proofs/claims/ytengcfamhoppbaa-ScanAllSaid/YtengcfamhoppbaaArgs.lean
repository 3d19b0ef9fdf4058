/- The arguments of this seat's laws, opened. -/
import Derived.Test.YtengcfamhoppbaaExact
import Derived.Test.YtengcfamhoppbaaRows
import Derived.Test.YtengcfamhoppbaaS15
namespace Go.Proofs.Ytengcfamhoppbaa
open Go.Sep Go.ChangeShapes Go.WideShapes Go.ChangeAt Go.RowKit
set_option linter.unusedSimpArgs false
set_option linter.unusedVariables false

theorem Try.own : ownKnob Try.prog.godebug = none := by kernel_rfl
theorem Try.laidOut : laidOutB Try.prog = true := by kernel_rfl
theorem co_3 : Try.prog.cellsOf 3 = 1 := by kernel_rfl
theorem co_35 : Try.prog.cellsOf 35 = 3 := by kernel_rfl

def fitI (n : Int) : Prop := (Lit.int .i64 n).wf = true
theorem fitI_iff (n : Int) : fitI n ↔ -9223372036854775808 ≤ n ∧ n ≤ 9223372036854775807 := by
  unfold fitI
  simp [Lit.wf, IntKind.min, IntKind.max, IntKind.signed, IntKind.bits]

theorem iv_open {w : World} : Opens Try.prog w 35 encIv.rd (fun x => fitI x.r ∧ fitI x.f ∧ fitI x.t) := fun h => by
  obtain ⟨ns, h1, rfl, h3⟩ := Opens.ints Try.underlying35 (by rw [co_35]; rfl) (fun i f hf => by
    match i, hf with
    | 0, hf => simp at hf; subst hf; exact ⟨rfl, co_3, Try.underlying3⟩
    | 1, hf => simp at hf; subst hf; exact ⟨rfl, co_3, Try.underlying3⟩
    | 2, hf => simp at hf; subst hf; exact ⟨rfl, co_3, Try.underlying3⟩
    | i + 3, hf => simp at hf) h
  match ns, h1 with
  | [a, b, c], _ => exact ⟨⟨a, b, c⟩, rfl, h3 a (by simp), h3 b (by simp), h3 c (by simp)⟩

theorem ivs_open {w : World} : Opens Try.prog w 22 encIv.rd.slice (fun xs => ∀ x ∈ xs, fitI x.r ∧ fitI x.f ∧ fitI x.t) := Opens.slice Try.underlying22 co_35 iv_open

theorem ivs_arg {w : World} {H : Type} {enc : TypeId × Value → H} {base : Nat} {spare : Nat → Bool} {held : Bool} {v : Value} {d : DataW H} {ps : List MemPlace} {a : Option Addr} {n c : Nat} (hv : v = .slice a n c)
    (h : DataW.Trod enc Try.prog w base spare held 22 v d ps) : ∃ xs, SlR encIv.rd (hp w) v xs ∧ ∀ x ∈ xs, fitI x.r ∧ fitI x.f ∧ fitI x.t := by
  obtain ⟨fuel, hf⟩ := h
  obtain ⟨xs, ⟨v', e, g⟩, G⟩ := ivs_open hf
  subst hv
  simp [Value.cells] at e
  subst e
  exact ⟨xs, g, G⟩
end Go.Proofs.Ytengcfamhoppbaa
