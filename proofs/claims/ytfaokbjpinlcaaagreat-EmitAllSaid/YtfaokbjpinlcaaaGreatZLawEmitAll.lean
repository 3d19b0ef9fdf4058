/- The row of EmitAll: for every list of programs, Emit answers as the document's, call after call; no call changes what another one answered, marked and grown as it may be; nothing that is handed in is changed. -/
import Derived.Test.YtfaokbjpinlcaaaGreatGB9
import Derived.Test.YtfaokbjpinlcaaaGreatGB8
section
/- The row of EmitAll: for every list of programs, Emit answers as the document's, call after call; no call changes what another one answered, marked and grown as it may be; nothing that is handed in is changed. -/
namespace Go.Proofs.YtfaokbjpinlcaaaGreat
theorem by_24 : 8 ≤ Tryz.prog.bytesOf 24 := of_decide_eq_true (by kernel_rfl)
open Go.Sep Go.ChangeShapes Go.WideShapes Go.ChangeAt Go.RowKit in
theorem als_open {w : World} : OpensW Tryz.prog w 27 rdAL.slice (fun xs => xs.length ≤ 17592186044416 ∧ ∀ x ∈ xs, WideA x) := OpensW.slice Tryz.underlying27 co_24 by_24 al_open
open Go.Sep Go.ChangeShapes Go.WideShapes Go.ChangeAt Go.RowKit in
theorem als_arg {w : World} {H : Type} {enc : TypeId × Value → H} {base : Nat} {spare : Nat → Bool} {held : Bool} {v : Value} {a : Option Addr} {n c : Nat} {d : DataW H} {ps : List MemPlace} (hv : v = .slice a n c)
    (h : DataW.Trod enc Tryz.prog w base spare held 27 v d ps) (hw : ∀ m ∈ d.weights Tryz.prog 27, m ≤ reachBytes) : ∃ (xs : List AL) (lv : SV), v = lv.val ∧ SlR rdAL (hp w) lv.val xs ∧ xs.length ≤ 17592186044416 ∧ ∀ x ∈ xs, WideA x := by
  obtain ⟨fuel, hf⟩ := h
  subst hv
  obtain ⟨xs, ⟨u, e, hu⟩, h1, h2⟩ := als_open hf hw
  obtain ⟨su, rfl, _⟩ := SlR.sv hu
  have e2 : [Value.slice a n c] = [su.val] := e
  exact ⟨xs, su, by simpa using e2, hu, h1, h2⟩
theorem Tryz.own : ownKnob Tryz.prog.godebug = none := by kernel_rfl
theorem Tryz.laidOut : laidOutB Tryz.prog = true := by kernel_rfl
end Go.Proofs.YtfaokbjpinlcaaaGreat
namespace Go.Proofs.YtfaokbjpinlcaaaGreat.emitAll
open Go.Sep Go.ChangeShapes Go.WideShapes Go.ChangeAt Go.RowKit
set_option linter.unusedVariables false
set_option maxRecDepth 100000 in
theorem lifted (os : Os) (started : os.Started) (H : Type) (enc : TypeId × Value → H) :
    ReturnsInHanded {} Tryz.checked os 4 .any (Rows.emitAllSpec.pre6 enc Tryz.prog Tryz.f4 Rows.emitAllRow.domain false) (Rows.emitAllSpec.post enc Tryz.prog Tryz.f4 false true false false) := by
  refine returnsInHanded_of_change_sized (C := Tryz.checked) Tryz.own started (by kernel_rfl) Tryz.func4
    (ChangeSpec.witness6 (enc := enc) (C := Tryz.checked) false ⟨#[], #[.slice none 0 0], []⟩ 8 (by kernel_rfl) (by kernel_rfl) (by kernel_rfl) (by kernel_rfl)) ?_
  intro W base args ds gs before hval0 hW hcnd hsz0 _
  have hval : ∀ (j : Nat) t v, Tryz.f4.params[j]? = some t → args[j]? = some v → Value.okWide Tryz.prog W .any base t v := hval0
  have hW' := hW
  obtain ⟨p, q, hA0, hV, rfl, hfz, hnd⟩ := hW
  have hA : DataW.TrodAll enc Tryz.prog W 0 (fun _ => true) true Tryz.f4.params.toList args.toList ds p := hA0
  have hsz1 : (DataW.weightsEach Tryz.prog (Tryz.f4.params.toList ++ Rows.emitAllSpec.plain.varTypes Tryz.prog) (ds ++ gs)).all (· ≤ reachBytes) = true := hsz0
  rw [Tryz.params4] at hA hval hsz1
  obtain ⟨v0, d0, hargs, rfl, h0⟩ := trodAll_one hA
  obtain rfl : args = #[v0] := by cases args; simp_all
  obtain ⟨rfl, rfl⟩ := trodVars_none hV
  obtain ⟨a0, n0, c0, e0⟩ := okWide_slice Tryz.underlying27 (hval 0 27 v0 rfl rfl)
  have lt0 : ∀ x ∈ p, x.block < W.heap.size := by obtain ⟨m, hm⟩ := h0; exact DataW.trod_lt m _ _ _ hm
  obtain ⟨As, lv, ev, hxs, hxl, hWA⟩ := als_arg e0 h0 (weights_first hsz1)
  clear hA0 hval0 hsz0
  clear e0; subst ev
  refine (Tri.below (emitAll_ok (hp W) lv As hxs hWA hxl)).mono fun e W' he => ?_
  obtain ⟨⟨v, Γ', rfl, rfl, rfl⟩, bel⟩ := he
  exact ⟨_, rfl, _, _, _, [], _, [], hW', trodAll_mk1 (shut_bool Tryz.underlying4 _), trodAll_mk1 (Below.trod Tryz.laidOut (by kernel_rfl) (of_decide_eq_true (by kernel_rfl)) h0 bel lt0), rfl, bel.frame _, fun h => by cases h⟩
theorem over : Rows.emitAllRow.holds Tryz.pinned (OpenSpec.ofChange Rows.emitAllSpec) :=
  OpenClaim.holds_of_wide 4 Tryz.f4 rfl rfl rfl rfl rfl rfl rfl ⟨rfl, rfl, rfl, rfl, rfl⟩ rfl rfl rfl rfl rfl (by kernel_rfl) Tryz.func4 (by kernel_rfl)
    (of_decide_eq_true (by kernel_rfl)) (by unfold Func.isWrapper; first | (rw [if_pos (by decide +kernel)]; kernel_rfl) | (rw [if_neg (by decide +kernel)]; exact ⟨rfl, rfl⟩))
    (fun os started H enc _ => lifted os started H enc)
end Go.Proofs.YtfaokbjpinlcaaaGreat.emitAll
namespace Go.Proofs.YtfaokbjpinlcaaaGreat
/-- The row, under a short name, for the claim. -/
theorem emitAll_holds : Rows.EmitAllSaid := emitAll.over
end Go.Proofs.YtfaokbjpinlcaaaGreat
end
