/- The row of LiveWays, and its card. -/
import Derived.Test.YtjjfehdlmdhhmaaDoorGV6
import Derived.Test.YtjjfehdlmdhhmaaDoorGV3
import Derived.Test.YtjjfehdlmdhhmaaDoorGU3
import Derived.Test.YtjjfehdlmdhhmaaDoorTie
import Derived.Test.YtjjfehdlmdhhmaaDoorCards
import Derived.SevenTiedAt
section
/- The row of LiveWays, and its card. -/
namespace Go.Proofs.YtjjfehdlmdhhmaaDoor.liveWays
open Go.Sep Go.ChangeShapes Go.WideShapes Go.ChangeAt Go.RowKit
set_option linter.unusedVariables false
set_option maxRecDepth 100000 in
theorem lifted (os : Os) (started : os.Started) (H : Type) (enc : TypeId × Value → H) :
    ReturnsInHanded {} Tryd.checked os 5 .any (fun w args => (Rows.liveWaysSpec.pre enc Tryd.prog Tryd.f5 [] false w args ∧ laidMetH Tryd.prog laidT w) ∧ sizedMet enc Tryd.prog Tryd.f5 (OpenSpec.ofChange Rows.liveWaysSpec) false w args)
      (Rows.liveWaysSpec.post enc Tryd.prog Tryd.f5 false true false false) := by
  refine returnsInHanded_of_change_and (C := Tryd.checked) (X := fun w _ => laidMetH Tryd.prog laidT w) (fun _ _ _ hh h => h.of_heap hh) Tryd.own started (by kernel_rfl) Tryd.func5
    (ChangeSpec.witness_shaped (enc := enc) (C := Tryd.checked) (os := os) (X := fun w _ => laidMetH Tryd.prog laidT w) false (World.doorLaid Tryd.prog 400 os) #[.agg #[.string ⟨#[]⟩, .slice none 0 0, .int .i64 0, .int .i64 0, .slice none 0 0]] 8 rfl (World.shaped_of_RefB (by kernel_rfl) (by kernel_rfl)) (by kernel_rfl) (by kernel_rfl) (by kernel_rfl) (door_met os _)) ?_
  intro W base args ds gs before hval0 hW _ hsz hL _
  have hval : ∀ (j : Nat) t v, Tryd.f5.params[j]? = some t → args[j]? = some v → Value.okWide Tryd.prog W .any base t v := hval0
  have hW' := hW
  obtain ⟨p, q, hA0, hV, rfl, hfz, hnd⟩ := hW
  have hA : DataW.TrodAll enc Tryd.prog W 0 (fun _ => true) true Tryd.f5.params.toList args.toList ds p := hA0
  have hsz1 : (DataW.weightsEach Tryd.prog (Tryd.f5.params.toList ++ Rows.liveWaysSpec.plain.varTypes Tryd.prog) (ds ++ gs)).all (· ≤ reachBytes) = true := hsz
  rw [Tryd.params5] at hA hval hsz1
  obtain ⟨v0, d0, hargs, rfl, h0⟩ := trodAll_one hA
  obtain rfl : args = #[v0] := by cases args; simp_all
  obtain ⟨rfl, rfl⟩ := trodVars_none hV
  have hs0 := hval 0 25 v0 rfl rfl
  unfold Value.okWide at hs0
  rw [Tryd.underlying25] at hs0
  obtain ⟨cs, ecs, _, _⟩ := hs0
  have lt0 : ∀ x ∈ p, x.block < W.heap.size := by obtain ⟨m, hm⟩ := h0; exact DataW.trod_lt m _ _ _ hm
  obtain ⟨F, su, sv, ev, hu, hv, hWF⟩ := fun_arg ecs h0 (weights_first hsz1)
  clear hA0 hval0 hsz
  subst ev
  refine (Tri.below (liveWays_ok (hp W) (tab_of hL) F su sv hu hv hWF)).mono fun e W' he => ?_
  obtain ⟨⟨v, Γ', rfl, rfl, rfl⟩, bel⟩ := he
  exact ⟨_, rfl, _, _, _, [], _, [], hW', trodAll_mk1 (shut_bool Tryd.underlying4 _), trodAll_mk1 (Below.trod Tryd.laidOut (by kernel_rfl) (of_decide_eq_true (by kernel_rfl)) h0 bel lt0), rfl, bel.frame _, fun h => by cases h⟩

theorem over : Rows.liveWaysRow.holds Tryd.pinned (OpenSpec.ofChange Rows.liveWaysSpec) :=
  OpenClaim.holds_of_wide 5 Tryd.f5 rfl rfl rfl rfl rfl rfl rfl ⟨rfl, rfl, rfl, rfl, rfl⟩ rfl rfl rfl rfl rfl (by kernel_rfl) Tryd.func5 (by kernel_rfl)
    (of_decide_eq_true (by kernel_rfl)) (by unfold Func.isWrapper; first | (rw [if_pos (by decide +kernel)]; kernel_rfl) | (rw [if_neg (by decide +kernel)]; exact ⟨rfl, rfl⟩))
    (fun os started H enc _ => lifted os started H enc)
end Go.Proofs.YtjjfehdlmdhhmaaDoor.liveWays
namespace Go.Proofs.YtjjfehdlmdhhmaaDoor
open Go
/-- The tied card. -/
theorem liveWays_holds : Rows.LiveWaysCardSaid :=
  Claim7.holds_tied_plain_at .later [] [.data] true (true, "c7be01503316ed520f09f14eb2ae4235ad681ed4d01440bbe09814cc587fdb2c") false
    liveWays.over (fun _ h => by cases h) (by kernel_rfl) (fun _ h => by cases h) liveWays_row_tie rfl ⟨rfl, rfl⟩ (by kernel_rfl) rfl
    (fun f fn hf hfn => by
      obtain rfl : f = 5 := Option.some.inj ((show Tryd.prog.funcNamed "quern/quernlaw17.LiveWays" = some 5 by kernel_rfl).symm.trans hf) |>.symm
      obtain rfl : fn = Tryd.f5 := (Option.some.inj (Tryd.func5.symm.trans hfn)).symm
      exact ⟨by kernel_rfl, fun j t ht => by
        rw [Tryd.params5] at ht
        have hm : t ∈ [25] := by simpa using Array.mem_of_getElem? ht
        have hall : ([25].all fun u => !Tryd.prog.wantsStandIn u) = true := by kernel_rfl
        exact (show Tryd.prog.wantsStandIn t = false by simpa using List.all_eq_true.1 hall t hm)⟩)
    (by kernel_rfl)
end Go.Proofs.YtjjfehdlmdhhmaaDoor
end
