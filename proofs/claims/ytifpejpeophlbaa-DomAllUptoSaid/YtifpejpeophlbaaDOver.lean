/- DomOver, walked. -/
import Derived.Test.YtifpejpeophlbaaAlive
namespace Go.Proofs.Ytifpejpeophlbaa
open Go.Sep
set_option linter.unusedSimpArgs false
set_option linter.unusedVariables false
attribute [local irreducible] blk slA mp mpF rows rowsBut

set_option maxRecDepth 100000 in
theorem domOver_ok (hR : Heap) (v : Value) (tr : List Int) (a b : Int) (hl : SlR (Enc.int .i64).rd hR v tr) (hlen : (tr.length + 2) * 8 ≤ 140737488355328) :
    Tri Try.prog hR 5 #[v, .int .i64 a, .int .i64 b] [] fun u Γ' => u = .bool true ∧ Γ' = [] := by
  refine Tri.of (args := [v, .int .i64 a, .int .i64 b]) Try.func5 rfl Try.ntmps5 (by simp) ?_
  refine WP.seq ?_
  refine WP.plain cf0 rfl ?_
  refine Run.mv rfl rfl rfl rfl ?_
  refine Run.nil ?_
  refine thn_next ?_
  refine WP.seq ?_
  refine WP.via (slA_nil 3 (Enc.int .i64) _) ?_
  refine WP.plain cf0 rfl ?_
  refine Run.mv rfl rfl rfl rfl ?_
  refine Run.append 0 rfl rfl rfl rfl rfl rfl sl_31 zr_3 rfl (src_ro hl) (by first | omega | (simp <;> omega)) (by first | omega | (simp <;> omega)) ?_
  intro sv12 hv12
  refine Run.buildSlice (E := (Enc.int .i64)) rfl sl_31 zr_3 ([-71, -72]) rfl rfl rfl (by decide) rfl rfl ?_
  intro b13
  refine Run.append 0 rfl rfl rfl rfl rfl rfl sl_31 zr_3 rfl (src_own 1 rfl) (by first | omega | (simp <;> omega)) (by first | omega | (simp <;> omega)) ?_
  intro sv14 hv14
  refine Run.mv rfl rfl rfl rfl ?_
  refine Run.nil ?_
  refine thn_next ?_
  refine WP.via (Γ' := [slA 3 (Enc.int .i64) sv14.val (tr ++ [-71, -72])]) (pick_only [0] _) ?_
  refine WP.know (slA_know 0 rfl) fun hk14 => ?_
  have hl2 : (tr ++ [-71, -72]).length = tr.length + 2 := by simp
  have hcut : ∀ g, sat [slA 3 (Enc.int .i64) sv14.val (tr ++ [-71, -72])] g → Disj hR g → SlR (Enc.int .i64).rd (un hR g) (sv14.cut 1 0 tr.length).val tr := fun g hg hd => by
    have h := SlR_cut (lent_at 0 rfl hg hd) (lo := 0) (hi := tr.length) (by omega) (by omega)
    have e : ((tr ++ [-71, -72]).take tr.length).drop 0 = tr := by simp
    rw [e] at h; exact h
  refine WP.seq ?_
  refine WP.plain cf0 rfl ?_
  refine Run.mv rfl rfl rfl rfl ?_
  refine Run.mv rfl rfl rfl rfl ?_
  refine Run.lenR rfl rfl sl_31 rfl rfl (by assumption) ?_
  refine Run.sliceV (sv := sv14) rfl rfl sl_31 (il := 0) (ih := (tr.length : Int)) rfl rfl rfl rfl (by omega) (by omega) (by omega) ?_
  refine Run.mv rfl rfl rfl rfl ?_
  refine Run.mv rfl rfl rfl rfl ?_
  refine Run.callLend (Δ := []) (Θ := [slA 3 (Enc.int .i64) sv14.val (tr ++ [-71, -72])]) (Ξ := []) rfl rfl rfl rfl ok_20 rfl rfl (ent.refl _) (fun g hg hd => over_ok (un hR g) _ _ a b (hcut g hg hd) (by omega)) ?_; rintro _ _ ⟨rfl, rfl⟩
  refine Run.mv rfl rfl rfl rfl ?_
  refine Run.nil ?_
  refine thn_next ?_
  refine WP.seq ?_
  refine WP.seqMeet (α := Unit) (fun _ => True) (fun _ => [(0, v), (1, .int .i64 a), (2, .int .i64 b), (7, sv14.val), (40, .bool false)]) (fun _ => [slA 3 (Enc.int .i64) sv14.val (tr ++ [-71, -72])]) ?_ ?_
  · refine WP.plain cf0 rfl ?_
    refine Run.call (Δ := []) (Θ := [slA 3 (Enc.int .i64) sv14.val (tr ++ [-71, -72])]) rfl rfl rfl rfl ok_11 rfl rfl (ent.refl _) (alive_ok hR) ?_; rintro _ _ ⟨rfl, rfl⟩
    refine Run.bnotB rfl rfl rfl rfl ?_
    refine Run.mv rfl rfl rfl rfl ?_
    refine Run.mv rfl rfl rfl rfl ?_
    refine Run.mv rfl rfl rfl rfl ?_
    refine Run.mv rfl rfl rfl rfl ?_
    refine Run.mv rfl rfl rfl rfl ?_
    refine Run.call (Δ := []) (Θ := [slA 3 (Enc.int .i64) sv14.val (tr ++ [-71, -72])]) rfl rfl rfl rfl ok_21 rfl rfl (ent.refl _) (refOver_ok hR v tr a b hl (by omega)) ?_; rintro _ _ ⟨rfl, rfl⟩
    refine Run.neB rfl rfl rfl Try.underlying4 rfl rfl ?_; refine Run.eqv (v' := .bool false) (by rw [over_ref]; simp) ?_
    refine Run.pick rfl rfl rfl rfl rfl ?_
    refine Run.mv rfl rfl rfl rfl ?_
    refine Run.mv rfl rfl rfl rfl ?_
    refine Run.mv rfl rfl rfl rfl ?_
    refine Run.via (slA_nil 3 (Enc.int .i64) _) ?_
    refine Run.append 1 rfl rfl rfl rfl rfl rfl sl_31 zr_3 rfl (src_ro hl) (by first | omega | (simp <;> omega)) (by first | omega | (simp <;> omega)) ?_
    intro sv35 hv35
    refine Run.buildSlice (E := (Enc.int .i64)) rfl sl_31 zr_3 ([-71, -72]) rfl rfl rfl (by decide) rfl rfl ?_
    intro b36
    refine Run.append 1 rfl rfl rfl rfl rfl rfl sl_31 zr_3 rfl (src_own 2 rfl) (by first | omega | (simp <;> omega)) (by first | omega | (simp <;> omega)) ?_
    intro sv37 hv37
    refine Run.callLend (Δ := []) (Θ := [slA 3 (Enc.int .i64) sv14.val (tr ++ [-71, -72]), slA 3 (Enc.int .i64) sv37.val (tr ++ [-71, -72])]) (Ξ := []) rfl rfl rfl rfl ok_18 rfl rfl (pick_only [0, 0] _) (fun g hg hd => same_ok (un hR g) _ _ _ _ (lent_at 0 rfl hg hd) (lent_at 1 rfl hg hd) (by omega) (by omega)) ?_; rintro _ _ ⟨rfl, rfl⟩; refine Run.tt rfl ?_
    refine Run.bnotB rfl rfl rfl rfl ?_
    refine Run.pick rfl rfl rfl rfl rfl ?_
    refine Run.nil ?_
    refine thn_next ⟨(), trivial, ⟨rfl, rfl, rfl, rfl, rfl, trivial⟩, pick_only [0] _⟩
  rintro _ _
  refine WP.cond (t := false) rfl (fun h => by cases h) (fun _ => ?_)
  refine WP.skip ?_; refine thn_next ?_
  refine WP.seq ?_
  refine WP.seqCut [(0, v), (1, .int .i64 a), (2, .int .i64 b), (7, sv14.val), (48, .bool (decide (offB tr.length b)))] [slA 3 (Enc.int .i64) sv14.val (tr ++ [-71, -72])] ?_ ?_
  · refine WP.plain cf0 rfl ?_
    all_goals (first | refine Run.mv rfl rfl rfl rfl ?_)
    all_goals (first | refine Run.int2 rfl rfl rfl rfl rfl rfl ?_)
    all_goals (first | refine Run.tt (by first | assumption | omega) ?_ | refine Run.ff (by first | assumption | omega) ?_ | refine Run.split (fun hc42 => ?_) (fun hc42 => ?_) | refine Run.splitB (fun hc42 => ?_) (fun hc42 => ?_) | skip)
    all_goals (first | refine Run.mv rfl rfl rfl rfl ?_)
    all_goals (first | refine Run.not rfl rfl ?_ | refine Run.mv rfl rfl rfl rfl ?_)
    all_goals (first | refine Run.not rfl rfl ?_ | refine Run.mv rfl rfl rfl rfl ?_)
    all_goals (first | refine Run.not rfl rfl ?_ | refine Run.lenR rfl rfl sl_31 rfl rfl hl ?_)
    all_goals (first | refine Run.not rfl rfl ?_ | refine Run.int2 rfl rfl rfl rfl rfl rfl ?_)
    all_goals (first | refine Run.pick rfl rfl rfl rfl rfl ?_)
    all_goals (refine Run.nil ?_)
    all_goals refine thn_next ⟨⟨rfl, rfl, rfl, rfl, ?_, trivial⟩, ent.refl _⟩
    all_goals simp [Env.get, offB, *]
  refine WP.ite rfl (fun hb => ?_) (fun hb => ?_)
  · refine WP.seq ?_
    refine WP.plain cf0 rfl ?_
    refine Run.mv rfl rfl rfl rfl ?_
    refine Run.nil ?_
    refine thn_next ?_
    refine WP.via (pick_only [] _) ?_
    refine WP.ret ?_; refine thn_ret ?_
    exact retT [6] _ rfl rfl ⟨rfl, rfl⟩
  refine WP.skip ?_; refine thn_next ?_
  have gb := int_at hb
  have hb' := hb
  unfold offB at hb'
  have hb1 : 0 ≤ b := by omega
  have hb2 : b < (tr.length : Int) := by omega
  obtain ⟨y, gy⟩ : ∃ x, (tr ++ [-71, -72])[b.toNat]? = some x := ⟨_, List.getElem?_eq_getElem (by omega)⟩
  refine WP.seq ?_
  refine WP.plain cf0 rfl ?_
  refine Run.mv rfl rfl rfl rfl ?_
  refine Run.mv rfl rfl rfl rfl ?_
  refine Run.idxO 0 rfl rfl rfl sl_31 rfl rfl rfl rfl (by omega) (by omega) ?_
  refine Run.storeO 0 b.toNat 0 (y' := -1) rfl rfl rfl rfl ag_3 rfl rfl rfl rfl gy rfl rfl ?_
  refine Run.nil ?_
  refine thn_next ?_
  refine WP.seqMeet (α := List Int) (fun l => l.length = tr.length + 2) (fun _ => [(0, v), (1, .int .i64 a), (2, .int .i64 b), (7, sv14.val)]) (fun l => [slA 3 (Enc.int .i64) sv14.val l]) ?_ ?_
  · refine WP.seq ?_
    refine WP.plain cf0 rfl ?_
    refine Run.mv rfl rfl rfl rfl ?_
    refine Run.mv rfl rfl rfl rfl ?_
    refine Run.idxR rfl rfl rfl sl_31 rfl rfl hl (by rfl) (by omega) (by omega) ?_
    refine Run.loadR rfl rfl ag_3 rfl rfl (SlR.cell0 hl gb rfl) ?_
    refine Run.int2 rfl rfl rfl rfl rfl rfl ?_
    refine Run.nil ?_
    refine thn_next ?_
    have hs1 : ((tr ++ [-71, -72]).set b.toNat (-1)).length = tr.length + 2 := by simp
    obtain ⟨y2, gy2⟩ : ∃ x, ((tr ++ [-71, -72]).set b.toNat (-1))[b.toNat]? = some x := ⟨_, List.getElem?_eq_getElem (by omega)⟩
    refine WP.ite rfl (fun he => ?_) (fun he => ?_)
    · refine WP.plain cf0 rfl ?_
      refine Run.mv rfl rfl rfl rfl ?_
      refine Run.mv rfl rfl rfl rfl ?_
      refine Run.idxO 0 rfl rfl rfl sl_31 rfl rfl rfl rfl (by omega) (by omega) ?_
      refine Run.storeO 0 b.toNat 0 (y' := 0) rfl rfl rfl rfl ag_3 rfl rfl rfl rfl gy2 rfl rfl ?_
      refine Run.nil ?_
      refine thn_next ⟨_, by simp, ⟨rfl, rfl, rfl, rfl, trivial⟩, ent.refl _⟩
    · refine WP.skip ?_
      refine thn_next ⟨_, by simp, ⟨rfl, rfl, rfl, rfl, trivial⟩, ent.refl _⟩
  intro l hll
  clear gy hcut
  refine WP.know (slA_know 0 rfl) fun hk => ?_
  have htl : ((l.take tr.length).drop 0).length = tr.length := by simp; omega
  refine WP.seq ?_
  refine WP.via (slA_nil 3 (Enc.int .i64) _) ?_
  refine WP.plain cf0 rfl ?_
  refine Run.mv rfl rfl rfl rfl ?_
  refine Run.append 1 rfl rfl rfl rfl rfl rfl sl_31 zr_3 rfl (src_own 0 rfl) (by first | omega | (simp <;> omega)) (by first | omega | (simp <;> omega)) ?_
  intro sv61 hv61
  refine Run.mv rfl rfl rfl rfl ?_
  refine Run.nil ?_
  refine thn_next ?_
  refine WP.via (Γ' := [slA 3 (Enc.int .i64) sv14.val l, slA 3 (Enc.int .i64) sv61.val l]) (ent.refl _) ?_
  refine WP.know (slA_know 1 rfl) fun hk2 => ?_
  refine WP.seq ?_
  refine WP.plain cf0 rfl ?_
  refine Run.mv rfl rfl rfl rfl ?_
  refine Run.mv rfl rfl rfl rfl ?_
  refine Run.lenR rfl rfl sl_31 rfl rfl (by assumption) ?_
  refine Run.sliceV (sv := sv14) rfl rfl sl_31 (il := 0) (ih := (tr.length : Int)) rfl rfl rfl rfl (by omega) (by omega) (by omega) ?_
  refine Run.mv rfl rfl rfl rfl ?_
  refine Run.mv rfl rfl rfl rfl ?_
  refine Run.callLend (Δ := []) (Θ := [slA 3 (Enc.int .i64) sv14.val l]) (Ξ := [slA 3 (Enc.int .i64) sv61.val l]) rfl rfl rfl rfl ok_20 rfl rfl (ent.refl _) (fun g hg hd => over_ok (un hR g) _ _ a b (SlR_cut (lent_at 0 rfl hg hd) (lo := 0) (hi := tr.length) (by omega) (by omega)) (by omega)) ?_; rintro _ _ ⟨rfl, rfl⟩
  refine Run.mv rfl rfl rfl rfl ?_
  refine Run.nil ?_
  refine thn_next ?_
  refine WP.seq ?_
  refine WP.plain cf0 rfl ?_
  refine Run.mv rfl rfl rfl rfl ?_
  refine Run.mv rfl rfl rfl rfl ?_
  refine Run.mv rfl rfl rfl rfl ?_
  refine Run.lenR rfl rfl sl_31 rfl rfl (by assumption) ?_
  refine Run.sliceV (sv := sv61) rfl rfl sl_31 (il := 0) (ih := (tr.length : Int)) rfl rfl rfl rfl (by omega) (by omega) (by omega) ?_
  refine Run.mv rfl rfl rfl rfl ?_
  refine Run.mv rfl rfl rfl rfl ?_
  refine Run.callLend (Δ := []) (Θ := [slA 3 (Enc.int .i64) sv61.val l]) (Ξ := [slA 3 (Enc.int .i64) sv14.val l]) rfl rfl rfl rfl ok_21 rfl rfl (pick_only [1, 0] _) (fun g hg hd => refOver_ok (un hR g) _ _ a b (SlR_cut (lent_at 0 rfl hg hd) (lo := 0) (hi := tr.length) (by omega) (by omega)) (by omega)) ?_; rintro _ _ ⟨rfl, rfl⟩
  refine Run.eqB rfl rfl rfl Try.underlying4 rfl rfl ?_; refine Run.eqv (v' := .bool true) (by rw [over_ref]; simp) ?_
  refine Run.mv rfl rfl rfl rfl ?_
  refine Run.mv rfl rfl rfl rfl ?_
  refine Run.mv rfl rfl rfl rfl ?_
  refine Run.callLend (Δ := []) (Θ := [slA 3 (Enc.int .i64) sv61.val l, slA 3 (Enc.int .i64) sv14.val l]) (Ξ := []) rfl rfl rfl rfl ok_18 rfl rfl (ent.refl _) (fun g hg hd => same_ok (un hR g) _ _ _ _ (lent_at 1 rfl hg hd) (lent_at 0 rfl hg hd) (by omega) (by omega)) ?_; rintro _ _ ⟨rfl, rfl⟩; refine Run.tt rfl ?_
  refine Run.pick rfl rfl rfl rfl rfl ?_
  refine Run.mv rfl rfl rfl rfl ?_
  refine Run.nil ?_
  refine thn_next ?_
  refine WP.via (pick_only [] _) ?_
  refine WP.ret ?_
  exact retT [6] _ rfl rfl ⟨rfl, rfl⟩
end Go.Proofs.Ytifpejpeophlbaa
