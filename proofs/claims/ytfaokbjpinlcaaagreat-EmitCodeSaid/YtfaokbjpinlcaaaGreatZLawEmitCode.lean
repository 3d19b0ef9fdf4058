/- The row of EmitCode: for every value of ALIR, Emit answers as the document's, over one memory; nothing that is handed in is changed. -/
import Derived.Test.YtfaokbjpinlcaaaGreatGB8
section
/- The row of EmitCode: for every value of ALIR, Emit answers as the document's, over one memory; nothing that is handed in is changed. -/
namespace Go.Proofs.YtfaokbjpinlcaaaGreat
theorem Tryz.own : ownKnob Tryz.prog.godebug = none := by kernel_rfl
theorem Tryz.laidOut : laidOutB Tryz.prog = true := by kernel_rfl
end Go.Proofs.YtfaokbjpinlcaaaGreat
namespace Go.Proofs.YtfaokbjpinlcaaaGreat.emitCode
open Go.Sep Go.ChangeShapes Go.WideShapes Go.ChangeAt Go.RowKit
set_option linter.unusedVariables false
set_option maxRecDepth 100000 in
theorem lifted (os : Os) (started : os.Started) (H : Type) (enc : TypeId × Value → H) :
    ReturnsInHanded {} Tryz.checked os 3 .any (Rows.emitCodeSpec.pre6 enc Tryz.prog Tryz.f3 Rows.emitCodeRow.domain false) (Rows.emitCodeSpec.post enc Tryz.prog Tryz.f3 false true false false) := by
  refine returnsInHanded_of_change_sized (C := Tryz.checked) Tryz.own started (by kernel_rfl) Tryz.func3
    (ChangeSpec.witness6 (enc := enc) (C := Tryz.checked) false ⟨#[], #[.agg #[.slice none 0 0, .int .i64 0]], []⟩ 8 (by kernel_rfl) (by kernel_rfl) (by kernel_rfl) (by kernel_rfl)) ?_
  intro W base args ds gs before hval0 hW hcnd hsz0 _
  have hval : ∀ (j : Nat) t v, Tryz.f3.params[j]? = some t → args[j]? = some v → Value.okWide Tryz.prog W .any base t v := hval0
  have hW' := hW
  obtain ⟨p, q, hA0, hV, rfl, hfz, hnd⟩ := hW
  have hA : DataW.TrodAll enc Tryz.prog W 0 (fun _ => true) true Tryz.f3.params.toList args.toList ds p := hA0
  have hsz1 : (DataW.weightsEach Tryz.prog (Tryz.f3.params.toList ++ Rows.emitCodeSpec.plain.varTypes Tryz.prog) (ds ++ gs)).all (· ≤ reachBytes) = true := hsz0
  rw [Tryz.params3] at hA hval hsz1
  obtain ⟨v0, d0, hargs, rfl, h0⟩ := trodAll_one hA
  obtain rfl : args = #[v0] := by cases args; simp_all
  obtain ⟨rfl, rfl⟩ := trodVars_none hV
  have hs0 := hval 0 24 v0 rfl rfl
  unfold Value.okWide at hs0
  rw [Tryz.underlying24] at hs0
  obtain ⟨cs, ecs, _, _⟩ := hs0
  have lt0 : ∀ x ∈ p, x.block < W.heap.size := by obtain ⟨m, hm⟩ := h0; exact DataW.trod_lt m _ _ _ hm
  obtain ⟨A, fv, ev, hfv, hWA⟩ := al_arg ecs h0 (weights_first hsz1)
  clear hA0 hval0 hsz0
  subst ev
  refine (Tri.below (emitCode_ok (hp W) A fv hfv hWA)).mono fun e W' he => ?_
  obtain ⟨⟨v, Γ', rfl, rfl, rfl⟩, bel⟩ := he
  exact ⟨_, rfl, _, _, _, [], _, [], hW', trodAll_mk1 (shut_bool Tryz.underlying4 _), trodAll_mk1 (Below.trod Tryz.laidOut (by kernel_rfl) (of_decide_eq_true (by kernel_rfl)) h0 bel lt0), rfl, bel.frame _, fun h => by cases h⟩
theorem over : Rows.emitCodeRow.holds Tryz.pinned (OpenSpec.ofChange Rows.emitCodeSpec) :=
  OpenClaim.holds_of_wide 3 Tryz.f3 rfl rfl rfl rfl rfl rfl rfl ⟨rfl, rfl, rfl, rfl, rfl⟩ rfl rfl rfl rfl rfl (by kernel_rfl) Tryz.func3 (by kernel_rfl)
    (of_decide_eq_true (by kernel_rfl)) (by unfold Func.isWrapper; first | (rw [if_pos (by decide +kernel)]; kernel_rfl) | (rw [if_neg (by decide +kernel)]; exact ⟨rfl, rfl⟩))
    (fun os started H enc _ => lifted os started H enc)
end Go.Proofs.YtfaokbjpinlcaaaGreat.emitCode
namespace Go.Proofs.YtfaokbjpinlcaaaGreat
/-- The row, under a short name, for the claim. -/
theorem emitCode_holds : Rows.EmitCodeSaid := emitCode.over
end Go.Proofs.YtfaokbjpinlcaaaGreat
end
