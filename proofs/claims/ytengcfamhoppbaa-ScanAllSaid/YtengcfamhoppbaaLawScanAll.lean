/- The row of ScanAll. -/
import Derived.Test.YtengcfamhoppbaaArgs
import Derived.Test.YtengcfamhoppbaaAll
import Derived.Test.YtengcfamhoppbaaS17
namespace Go.Proofs.Ytengcfamhoppbaa.scanAll
open Go.Sep Go.ChangeShapes Go.WideShapes Go.ChangeAt Go.RowKit
set_option linter.unusedVariables false
theorem co_22 : Try.prog.cellsOf 22 = 1 := by kernel_rfl
theorem co_42 : Try.prog.cellsOf 42 = 2 := by kernel_rfl
theorem call_open {w : World} : Opens Try.prog w 42 rdCall (fun (y : List Iv × Int) => (∀ x ∈ y.1, fitI x.r ∧ fitI x.f ∧ fitI x.t) ∧ fitI y.2) := Opens.pair Try.underlying42 (by rw [co_42]; rfl) rfl rfl co_22 co_3 ivs_open (Opens.int Try.underlying3)
theorem calls_open {w : World} : Opens Try.prog w 39 rdCall.slice (fun (xs : List (List Iv × Int)) => ∀ y ∈ xs, (∀ x ∈ y.1, fitI x.r ∧ fitI x.f ∧ fitI x.t) ∧ fitI y.2) := Opens.slice Try.underlying39 co_42 call_open
theorem calls_arg {w : World} {H : Type} {enc : TypeId × Value → H} {base : Nat} {spare : Nat → Bool} {held : Bool} {v : Value} {d : DataW H} {ps : List MemPlace} {a : Option Addr} {n c : Nat} (hv : v = .slice a n c)
    (h : DataW.Trod enc Try.prog w base spare held 39 v d ps) : ∃ xs, SlR rdCall (hp w) v xs := by
  obtain ⟨fuel, hf⟩ := h
  obtain ⟨xs, ⟨v', e, g⟩, G⟩ := calls_open hf
  subst hv
  simp [Value.cells] at e
  subst e
  exact ⟨xs, g⟩
set_option maxRecDepth 100000 in
theorem lifted (os : Os) (started : os.Started) (H : Type) (enc : TypeId × Value → H) :
    ReturnsInHanded {} Try.checked os 8 .any (Rows.scanAllSpec.pre6 enc Try.prog Try.f8 Rows.scanAllRow.domain false) (Rows.scanAllSpec.post enc Try.prog Try.f8 false true false false) := by
  refine returnsInHanded_of_change_sized (C := Try.checked) Try.own started (by kernel_rfl) Try.func8
    (ChangeSpec.witness6 (enc := enc) (C := Try.checked) false ⟨#[], #[.slice none 0 0], []⟩ 8 (by kernel_rfl) (by kernel_rfl) (by kernel_rfl) (by kernel_rfl)) ?_
  intro W base args ds gs before hval0 hW hcnd hsz0 _
  have hval : ∀ (j : Nat) t v, Try.f8.params[j]? = some t → args[j]? = some v → Value.okWide Try.prog W .any base t v := hval0
  have hW' := hW
  obtain ⟨p, q, hA0, hV, rfl, hfz, hnd⟩ := hW
  have hA : DataW.TrodAll enc Try.prog W 0 (fun _ => true) true Try.f8.params.toList args.toList ds p := hA0
  rw [Try.params8] at hA hval
  obtain ⟨v0, vs0, d0, ds0, p0, q0, hargs, rfl, rfl, h0, r0⟩ := trodAll_cons hA
  obtain ⟨rfl, rfl, rfl⟩ := trodAll_nil r0
  obtain rfl : args = #[v0] := by cases args; simp_all
  obtain ⟨rfl, rfl⟩ := trodVars_none hV
  obtain ⟨a0, n0, c0, e0⟩ := okWide_slice Try.underlying39 (hval 0 39 v0 rfl rfl)
  have lt0 : ∀ x ∈ p0, x.block < W.heap.size := by obtain ⟨m, hm⟩ := h0; exact DataW.trod_lt m _ _ _ hm
  obtain ⟨xs, hs⟩ := calls_arg e0 h0
  clear hA0 hval0 hsz0
  refine (Tri.below (all_ok (hp W) v0 xs hs)).mono fun e W' he => ?_
  obtain ⟨⟨v, Γ', rfl, rfl⟩, bel⟩ := he
  exact ⟨_, rfl, _, _, _, [], _, [], hW', trodAll_mk1 (shut_bool Try.underlying4 _), (trodAll_cons_mk (Below.trod Try.laidOut (by kernel_rfl) (of_decide_eq_true (by kernel_rfl)) h0 bel lt0) trodAll_mk0), rfl, bel.frame _, fun h => by cases h⟩

theorem over : Rows.scanAllRow.holds Try.pinned (OpenSpec.ofChange Rows.scanAllSpec) :=
  OpenClaim.holds_of_wide 8 Try.f8 rfl rfl rfl rfl rfl rfl rfl ⟨rfl, rfl, rfl, rfl, rfl⟩ rfl rfl rfl rfl rfl (by kernel_rfl) Try.func8 (by kernel_rfl)
    (of_decide_eq_true (by kernel_rfl)) (by unfold Func.isWrapper; first | (rw [if_pos (by decide +kernel)]; kernel_rfl) | (rw [if_neg (by decide +kernel)]; exact ⟨rfl, rfl⟩))
    (fun os started H enc _ => lifted os started H enc)
end Go.Proofs.Ytengcfamhoppbaa.scanAll
namespace Go.Proofs.Ytengcfamhoppbaa
/-- The row, under a short name, for the claim. -/
theorem scanAll_holds : Rows.ScanAllSaid := scanAll.over
end Go.Proofs.Ytengcfamhoppbaa
