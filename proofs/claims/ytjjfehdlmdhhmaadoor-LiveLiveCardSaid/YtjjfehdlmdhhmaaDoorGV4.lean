/- LiveLive: walked. -/
import Derived.Test.YtjjfehdlmdhhmaaDoorGV2
import Derived.Test.YtjjfehdlmdhhmaaDoorGT7
import Derived.Test.YtjjfehdlmdhhmaaDoorGU1
section
/- LiveLive: walked. -/
namespace Go.Proofs.YtjjfehdlmdhhmaaDoor
open Go.Sep
set_option linter.unusedSimpArgs false
set_option linter.unusedVariables false
attribute [local irreducible] blk slA mp mpF rows rowsBut many

theorem one_fit {h : Heap} {F : LFun} {su sv : SV} (hV : FunV h F su sv) (hS : SmallF F) (i : Nat) (r : RFun) (F' : LFun) (hr : [((F, su, sv) : RFun)][i]? = some r) (hF : [F][i]? = some F') : r.1 = F' ∧ FitV h F' r.2.1 r.2.2 := by
  match i, hr, hF with
  | 0, hr, hF => simp at hr hF; subst hr hF; exact ⟨rfl, hV, hS⟩
  | i + 1, hr, hF => simp at hr
theorem listOf_len (F : LFun) (p : Int → Prop) : (listOf F p).length ≤ F.regs.toNat := by
  unfold listOf
  exact Nat.le_trans (List.length_filterMap_le _ _) (by simp)
theorem live_false {F : LFun} (h : formB F = false) {x : Value} {Γ : List HProp} (H : LiveRes F x Γ) : x = .tuple #[.slice none 0 0, .slice none 0 0, .int .i64 140] ∧ Γ = [] := by
  rcases H with ⟨_, h1, h2⟩ | ⟨h1, _⟩
  · exact ⟨h1, h2⟩
  · rw [h] at h1; cases h1
theorem live_true {F : LFun} (h : formB F = true) {x : Value} {Γ : List HProp} (H : LiveRes F x Γ) : ∃ (o1 o2 : SV) (P Q : List (SV × List Int)), x = .tuple #[o1.val, o2.val, .int .i64 0] ∧ P.map Prod.snd = (List.range F.blocks.length).map (aheadOf F) ∧ Q.map Prod.snd = (List.range F.blocks.length).map (behindOf F) ∧
    Γ = [slA 22 Enc.slice o1.val (P.map Prod.fst), rows 3 (Enc.int .i64) P, slA 22 Enc.slice o2.val (Q.map Prod.fst), rows 3 (Enc.int .i64) Q] := by
  rcases H with ⟨h1, _⟩ | ⟨_, h1⟩
  · rw [h] at h1; cases h1
  · exact h1

set_option maxHeartbeats 2000000 in
set_option maxRecDepth 100000 in
theorem liveLive_ok (hR : Heap) (hT : TabH hR) (F : LFun) (su sv : SV) (hu : SlR rdI hR su.val F.params) (hv : SlR rdBlk hR sv.val F.blocks) (hW : WideF F) :
    Tri Tryd.prog hR 3 #[.agg ⟨fcs F su sv⟩] [] fun u Γ' => u = .bool true ∧ Γ' = [] := by
  refine Tri.ent (Tri.of (args := [.agg ⟨fcs F su sv⟩]) Tryd.func3 rfl Tryd.ntmps3 (by simp) ?_)
  refine WP.seq ?_
  refine WP.plain cf0 rfl ?_
  refine Run.box rfl rfl rfl rfl rfl ?_
  intro b1
  refine Run.mv rfl rfl rfl rfl ?_
  refine Run.nil ?_
  refine thn_next ?_
  refine WP.seq ?_
  refine WP.plain cf0 rfl ?_
  refine Run.call (Δ := []) (Θ := [blk b1 (fcs F su sv) 25]) rfl rfl rfl rfl ok_9 rfl rfl (by repeat first | exact ent.none _ | refine ent.at 0 rfl ?_ | refine ent.at 1 rfl ?_ | refine ent.at 2 rfl ?_ | refine ent.at 3 rfl ?_ | refine ent.at 4 rfl ?_ | refine ent.at 5 rfl ?_ | refine ent.at 6 rfl ?_ | refine ent.at 7 rfl ?_ | refine ent.at 8 rfl ?_ | refine ent.at 9 rfl ?_ | refine ent.at 10 rfl ?_ | refine ent.at 11 rfl ?_ | refine ent.at 12 rfl ?_ | refine ent.at 13 rfl ?_ | refine ent.at 14 rfl ?_ | refine ent.at 15 rfl ?_ | refine ent.at 16 rfl ?_ | refine ent.at 17 rfl ?_) (alive_ok hR hT) ?_; rintro _ _ ⟨rfl, rfl⟩
  refine Run.mv rfl rfl rfl rfl ?_
  refine Run.nil ?_
  refine thn_next ?_
  refine WP.seq ?_
  refine WP.plain cf0 rfl ?_
  refine Run.loadBagg 0 rfl rfl ag_25 rfl rfl rfl rfl rfl ?_
  refine Run.call (Δ := []) (Θ := [blk b1 (fcs F su sv) 25]) rfl rfl rfl rfl ok_10 rfl rfl (by repeat first | exact ent.none _ | refine ent.at 0 rfl ?_ | refine ent.at 1 rfl ?_ | refine ent.at 2 rfl ?_ | refine ent.at 3 rfl ?_ | refine ent.at 4 rfl ?_ | refine ent.at 5 rfl ?_ | refine ent.at 6 rfl ?_ | refine ent.at 7 rfl ?_ | refine ent.at 8 rfl ?_ | refine ent.at 9 rfl ?_ | refine ent.at 10 rfl ?_ | refine ent.at 11 rfl ?_ | refine ent.at 12 rfl ?_ | refine ent.at 13 rfl ?_ | refine ent.at 14 rfl ?_ | refine ent.at 15 rfl ?_ | refine ent.at 16 rfl ?_ | refine ent.at 17 rfl ?_) (small_ok hR F su sv hu hv hW) ?_; rintro _ _ ⟨⟨s, rfl, hs⟩, rfl⟩
  refine Run.mv rfl rfl rfl rfl ?_
  refine Run.nil ?_
  refine thn_next ?_
  refine WP.seq ?_
  refine WP.seq ?_
  refine WP.plain cf0 rfl ?_
  refine Run.mv rfl rfl rfl rfl ?_
  refine Run.bnotB rfl rfl rfl rfl ?_
  refine Run.eqv (v' := .bool false) rfl ?_
  refine Run.mv rfl rfl rfl rfl ?_
  refine Run.mv rfl rfl rfl rfl ?_
  refine Run.bnotB rfl rfl rfl rfl ?_
  refine Run.pick rfl rfl rfl rfl rfl ?_
  refine Run.nil ?_
  refine thn_next ?_
  cases s with
  | false =>
    refine WP.cond (t := true) rfl (fun _ => ?_) (fun h => by cases h)
    refine WP.seq ?_
    refine WP.plain cf0 rfl ?_
    refine Run.mv rfl rfl rfl rfl ?_
    refine Run.mv rfl rfl rfl rfl ?_
    refine Run.nil ?_
    refine thn_next ?_
    refine WP.ret ?_; refine thn_ret ?_
    exact retT [2] _ rfl rfl ⟨_, ent.none _, rfl, rfl⟩
  | true =>
  refine WP.cond (t := false) rfl (fun h => by cases h) (fun _ => ?_)
  refine WP.skip ?_; refine thn_next ?_
  have hY := hs rfl
  have hS := hY.small
  have y1 := hY.params
  have y2 := hY.blocks
  have hV : FunV hR F su sv := ⟨hu, hv, by omega, by omega⟩
  refine WP.seq ?_
  refine WP.plain cf0 rfl ?_
  refine Run.loadBagg 0 rfl rfl ag_25 rfl rfl rfl rfl rfl ?_
  refine Run.call (Δ := []) (Θ := [blk b1 (fcs F su sv) 25]) rfl rfl rfl rfl ok_11 rfl rfl (by repeat first | exact ent.none _ | refine ent.at 0 rfl ?_ | refine ent.at 1 rfl ?_ | refine ent.at 2 rfl ?_ | refine ent.at 3 rfl ?_ | refine ent.at 4 rfl ?_ | refine ent.at 5 rfl ?_ | refine ent.at 6 rfl ?_ | refine ent.at 7 rfl ?_ | refine ent.at 8 rfl ?_ | refine ent.at 9 rfl ?_ | refine ent.at 10 rfl ?_ | refine ent.at 11 rfl ?_ | refine ent.at 12 rfl ?_ | refine ent.at 13 rfl ?_ | refine ent.at 14 rfl ?_ | refine ent.at 15 rfl ?_ | refine ent.at 16 rfl ?_ | refine ent.at 17 rfl ?_) (one_ok hR F su sv hV hS) ?_; rintro _ _ ⟨lb, rfl, rfl⟩
  refine Run.mv rfl rfl rfl rfl ?_
  refine Run.nil ?_
  refine thn_next ?_
  refine WP.sup (ρ' := [(1, .pointer (some ⟨b1, 0, none⟩)), (5, .pointer (some ⟨lb, 0, none⟩))]) (Γ' := [blk b1 (fcs F su sv) 25] ++ [leaseP lb [F]]) (covers_get ⟨rfl, rfl, trivial⟩) (by repeat first | exact ent.none _ | refine ent.at 0 rfl ?_ | refine ent.at 1 rfl ?_ | refine ent.at 2 rfl ?_ | refine ent.at 3 rfl ?_ | refine ent.at 4 rfl ?_ | refine ent.at 5 rfl ?_ | refine ent.at 6 rfl ?_ | refine ent.at 7 rfl ?_ | refine ent.at 8 rfl ?_ | refine ent.at 9 rfl ?_ | refine ent.at 10 rfl ?_ | refine ent.at 11 rfl ?_ | refine ent.at 12 rfl ?_ | refine ent.at 13 rfl ?_ | refine ent.at 14 rfl ?_ | refine ent.at 15 rfl ?_ | refine ent.at 16 rfl ?_ | refine ent.at 17 rfl ?_) ?_
  refine WP.freeze [leaseP lb [F]] fun g hg hd => ?_
  obtain ⟨g0, hg0, s0⟩ := sat_at 0 hg rfl (Sub.refl g)
  have sR : Sub hR (un hR g) := sub_un_left hR g
  have sG : Sub g0 (un hR g) := s0.trans (sub_un_right hd)
  have hT2 := hT.mono sR
  have hL := lease_reads hg0 sG
  have hV2 := hV.mono sR
  obtain ⟨w, ys, hyl, hc0, hw, hYs⟩ := hL
  have hwr : SlR encFun.rd (un hR g) (w.cut 5 0 1).val ys := by
    have : ys.length = 1 := hyl
    rw [← this]; exact cut_read rfl hw
  obtain ⟨y, gy⟩ : ∃ y, ys[(0 : Int).toNat]? = some y := ⟨_, List.getElem?_eq_getElem (by rw [hyl]; exact Nat.zero_lt_one)⟩
  obtain ⟨ey, hV3⟩ := (hYs 0 y F gy rfl).read (by omega) (by omega)
  obtain ⟨F', su', sv'⟩ := y
  simp only at ey hV3
  subst ey
  have hyl1 : ys.length = 1 := hyl
  refine WP.seq ?_
  cases hform : formB F' with
  | false =>
    refine WP.plain cf0 rfl ?_
    refine Run.mv rfl rfl rfl rfl ?_
    refine Run.nilCheck rfl rfl rfl rfl ?_
    refine Run.fieldAddr rfl rfl fo_38_0 rfl rfl ?_
    refine Run.fieldAddr rfl rfl fo_36_0 rfl rfl ?_
    refine Run.loadR rfl rfl ag_34 rfl rfl hc0 ?_
    refine Run.idxR rfl rfl rfl sl_34 rfl rfl hwr (by rfl) (by omega) (by omega) ?_
    refine Run.loadRagg rfl rfl ag_25 rfl rfl (SlR.row hwr gy) rfl ?_
    refine Run.call (Δ := []) (Θ := [blk b1 (fcs F' su sv) 25]) rfl rfl rfl rfl ok_12 rfl rfl (by repeat first | exact ent.none _ | refine ent.at 0 rfl ?_ | refine ent.at 1 rfl ?_ | refine ent.at 2 rfl ?_ | refine ent.at 3 rfl ?_ | refine ent.at 4 rfl ?_ | refine ent.at 5 rfl ?_ | refine ent.at 6 rfl ?_ | refine ent.at 7 rfl ?_ | refine ent.at 8 rfl ?_ | refine ent.at 9 rfl ?_ | refine ent.at 10 rfl ?_ | refine ent.at 11 rfl ?_ | refine ent.at 12 rfl ?_ | refine ent.at 13 rfl ?_ | refine ent.at 14 rfl ?_ | refine ent.at 15 rfl ?_ | refine ent.at 16 rfl ?_ | refine ent.at 17 rfl ?_) (live_ok (un hR g) hT2 F' su' sv' hV3 hS) ?_; rintro _ _ hres; obtain ⟨rfl, rfl⟩ := live_false hform hres
    refine Run.mv rfl rfl rfl rfl ?_
    refine Run.extract rfl rfl rfl rfl rfl ?_
    refine Run.extract rfl rfl rfl rfl rfl ?_
    refine Run.extract rfl rfl rfl rfl rfl ?_
    refine Run.mv rfl rfl rfl rfl ?_
    refine Run.mv rfl rfl rfl rfl ?_
    refine Run.mv rfl rfl rfl rfl ?_
    refine Run.nil ?_
    refine thn_next ?_
    refine WP.seq ?_
    refine WP.plain cf0 rfl ?_
    refine Run.loadBagg 0 rfl rfl ag_25 rfl rfl rfl rfl rfl ?_
    refine Run.call (Δ := []) (Θ := [blk b1 (fcs F' su sv) 25]) rfl rfl rfl rfl ok_13 rfl rfl (by repeat first | exact ent.none _ | refine ent.at 0 rfl ?_ | refine ent.at 1 rfl ?_ | refine ent.at 2 rfl ?_ | refine ent.at 3 rfl ?_ | refine ent.at 4 rfl ?_ | refine ent.at 5 rfl ?_ | refine ent.at 6 rfl ?_ | refine ent.at 7 rfl ?_ | refine ent.at 8 rfl ?_ | refine ent.at 9 rfl ?_ | refine ent.at 10 rfl ?_ | refine ent.at 11 rfl ?_ | refine ent.at 12 rfl ?_ | refine ent.at 13 rfl ?_ | refine ent.at 14 rfl ?_ | refine ent.at 15 rfl ?_ | refine ent.at 16 rfl ?_ | refine ent.at 17 rfl ?_) (refLive_ok (un hR g) F' su sv hV2 hS) ?_; rintro _ _ hres; obtain ⟨rfl, rfl⟩ := live_false hform hres
    refine Run.mv rfl rfl rfl rfl ?_
    refine Run.extract rfl rfl rfl rfl rfl ?_
    refine Run.extract rfl rfl rfl rfl rfl ?_
    refine Run.extract rfl rfl rfl rfl rfl ?_
    refine Run.mv rfl rfl rfl rfl ?_
    refine Run.mv rfl rfl rfl rfl ?_
    refine Run.mv rfl rfl rfl rfl ?_
    refine Run.nil ?_
    refine thn_next ?_
    refine WP.sup (ρ' := [(1, .pointer (some ⟨b1, 0, none⟩)), (5, .pointer (some ⟨lb, 0, none⟩)), (6, nilS.val), (7, nilS.val), (8, .int .i64 140), (9, nilS.val), (10, nilS.val), (11, .int .i64 140)]) (Γ' := [blk b1 (fcs F' su sv) 25]) (covers_get ⟨rfl, rfl, rfl, rfl, rfl, rfl, rfl, rfl, trivial⟩) (by repeat first | exact ent.none _ | refine ent.at 0 rfl ?_ | refine ent.at 1 rfl ?_ | refine ent.at 2 rfl ?_ | refine ent.at 3 rfl ?_ | refine ent.at 4 rfl ?_ | refine ent.at 5 rfl ?_ | refine ent.at 6 rfl ?_ | refine ent.at 7 rfl ?_ | refine ent.at 8 rfl ?_ | refine ent.at 9 rfl ?_ | refine ent.at 10 rfl ?_ | refine ent.at 11 rfl ?_ | refine ent.at 12 rfl ?_ | refine ent.at 13 rfl ?_ | refine ent.at 14 rfl ?_ | refine ent.at 15 rfl ?_ | refine ent.at 16 rfl ?_ | refine ent.at 17 rfl ?_) ?_
    refine WP.seq ?_
    refine WP.plain cf0 rfl ?_
    refine Run.mv rfl rfl rfl rfl ?_
    refine Run.mv rfl rfl rfl rfl ?_
    refine Run.int2 rfl rfl rfl rfl rfl rfl ?_
    refine Run.tt rfl ?_
    refine Run.mv rfl rfl rfl rfl ?_
    refine Run.mv rfl rfl rfl rfl ?_
    refine Run.mv rfl rfl rfl rfl ?_
    refine Run.call (Δ := []) (Θ := [blk b1 (fcs F' su sv) 25]) rfl rfl rfl rfl ok_14 rfl rfl (by repeat first | exact ent.none _ | refine ent.at 0 rfl ?_ | refine ent.at 1 rfl ?_ | refine ent.at 2 rfl ?_ | refine ent.at 3 rfl ?_ | refine ent.at 4 rfl ?_ | refine ent.at 5 rfl ?_ | refine ent.at 6 rfl ?_ | refine ent.at 7 rfl ?_ | refine ent.at 8 rfl ?_ | refine ent.at 9 rfl ?_ | refine ent.at 10 rfl ?_ | refine ent.at 11 rfl ?_ | refine ent.at 12 rfl ?_ | refine ent.at 13 rfl ?_ | refine ent.at 14 rfl ?_ | refine ent.at 15 rfl ?_ | refine ent.at 16 rfl ?_ | refine ent.at 17 rfl ?_) (sameLists_ok (un hR g) nilS.val nilS.val [] [] (nil_read _ _) (nil_read _ _) (by simp) (by simp)) ?_; rintro _ _ ⟨rfl, rfl⟩; refine Run.eqv (v' := .bool true) (by simp) ?_
    refine Run.pick rfl rfl rfl rfl rfl ?_
    refine Run.mv rfl rfl rfl rfl ?_
    refine Run.mv rfl rfl rfl rfl ?_
    refine Run.mv rfl rfl rfl rfl ?_
    refine Run.call (Δ := []) (Θ := [blk b1 (fcs F' su sv) 25]) rfl rfl rfl rfl ok_14 rfl rfl (by repeat first | exact ent.none _ | refine ent.at 0 rfl ?_ | refine ent.at 1 rfl ?_ | refine ent.at 2 rfl ?_ | refine ent.at 3 rfl ?_ | refine ent.at 4 rfl ?_ | refine ent.at 5 rfl ?_ | refine ent.at 6 rfl ?_ | refine ent.at 7 rfl ?_ | refine ent.at 8 rfl ?_ | refine ent.at 9 rfl ?_ | refine ent.at 10 rfl ?_ | refine ent.at 11 rfl ?_ | refine ent.at 12 rfl ?_ | refine ent.at 13 rfl ?_ | refine ent.at 14 rfl ?_ | refine ent.at 15 rfl ?_ | refine ent.at 16 rfl ?_ | refine ent.at 17 rfl ?_) (sameLists_ok (un hR g) nilS.val nilS.val [] [] (nil_read _ _) (nil_read _ _) (by simp) (by simp)) ?_; rintro _ _ ⟨rfl, rfl⟩; refine Run.eqv (v' := .bool true) (by simp) ?_
    refine Run.pick rfl rfl rfl rfl rfl ?_
    refine Run.mv rfl rfl rfl rfl ?_
    refine Run.mv rfl rfl rfl rfl ?_
    refine Run.loadBagg 0 rfl rfl ag_25 rfl rfl rfl rfl rfl ?_
    refine Run.buildSlice (E := encFun) rfl sl_34 zr_25 ([((F', su, sv) : RFun)]) rfl rfl rfl (by decide) rfl rfl ?_
    intro b58
    refine Run.build rfl bd_36 rfl rfl rfl rfl ?_
    refine Run.callLend (Δ := []) (Θ := [slA 25 encFun (⟨some ⟨b58, 0, none⟩, 1, 1⟩ : SV).val [((F', su, sv) : RFun)]]) (Ξ := [blk b1 (fcs F' su sv) 25]) rfl rfl rfl rfl ok_15 rfl rfl (by repeat first | exact ent.none _ | refine ent.at 0 rfl ?_ | refine ent.at 1 rfl ?_ | refine ent.at 2 rfl ?_ | refine ent.at 3 rfl ?_ | refine ent.at 4 rfl ?_ | refine ent.at 5 rfl ?_ | refine ent.at 6 rfl ?_ | refine ent.at 7 rfl ?_ | refine ent.at 8 rfl ?_ | refine ent.at 9 rfl ?_ | refine ent.at 10 rfl ?_ | refine ent.at 11 rfl ?_ | refine ent.at 12 rfl ?_ | refine ent.at 13 rfl ?_ | refine ent.at 14 rfl ?_ | refine ent.at 15 rfl ?_ | refine ent.at 16 rfl ?_ | refine ent.at 17 rfl ?_) (fun g2 hg2 hd2 => stays_ok (un (un hR g) g2) lb ⟨some ⟨b58, 0, none⟩, 1, 1⟩ 0 [((F', su, sv) : RFun)] [F'] (lease_reads hg0 (sG.trans (sub_un_left _ g2))) (lent_at 0 rfl hg2 hd2) rfl (by simp) (one_fit (hV2.mono (sub_un_left _ g2)) hS)) ?_; rintro _ _ ⟨rfl, rfl⟩
    refine Run.pick rfl rfl rfl rfl rfl ?_
    refine Run.mv rfl rfl rfl rfl ?_
    refine Run.nil ?_
    refine thn_next ?_
    refine WP.ret ?_
    exact retT [2] _ rfl rfl ⟨_, ent.none _, rfl, rfl⟩
  | true =>
    have hQ := formQ hform
    have r1 := hQ.r1
    have lenA : ∀ x ∈ (List.range F'.blocks.length).map (aheadOf F'), x.length ≤ 10000000000000 := fun x hx => by
      obtain ⟨i, _, rfl⟩ := List.mem_map.1 hx
      have := listOf_len F' (fun r => LiveIn F' r i)
      unfold aheadOf; omega
    have lenB : ∀ x ∈ (List.range F'.blocks.length).map (behindOf F'), x.length ≤ 10000000000000 := fun x hx => by
      obtain ⟨i, _, rfl⟩ := List.mem_map.1 hx
      have := listOf_len F' (fun r => LiveOut F' r i)
      unfold behindOf; omega
    refine WP.plain cf0 rfl ?_
    refine Run.mv rfl rfl rfl rfl ?_
    refine Run.nilCheck rfl rfl rfl rfl ?_
    refine Run.fieldAddr rfl rfl fo_38_0 rfl rfl ?_
    refine Run.fieldAddr rfl rfl fo_36_0 rfl rfl ?_
    refine Run.loadR rfl rfl ag_34 rfl rfl hc0 ?_
    refine Run.idxR rfl rfl rfl sl_34 rfl rfl hwr (by rfl) (by omega) (by omega) ?_
    refine Run.loadRagg rfl rfl ag_25 rfl rfl (SlR.row hwr gy) rfl ?_
    refine Run.call (Δ := []) (Θ := [blk b1 (fcs F' su sv) 25]) rfl rfl rfl rfl ok_12 rfl rfl (by repeat first | exact ent.none _ | refine ent.at 0 rfl ?_ | refine ent.at 1 rfl ?_ | refine ent.at 2 rfl ?_ | refine ent.at 3 rfl ?_ | refine ent.at 4 rfl ?_ | refine ent.at 5 rfl ?_ | refine ent.at 6 rfl ?_ | refine ent.at 7 rfl ?_ | refine ent.at 8 rfl ?_ | refine ent.at 9 rfl ?_ | refine ent.at 10 rfl ?_ | refine ent.at 11 rfl ?_ | refine ent.at 12 rfl ?_ | refine ent.at 13 rfl ?_ | refine ent.at 14 rfl ?_ | refine ent.at 15 rfl ?_ | refine ent.at 16 rfl ?_ | refine ent.at 17 rfl ?_) (live_ok (un hR g) hT2 F' su' sv' hV3 hS) ?_; rintro _ _ hres; obtain ⟨o1, o2, P, Q, rfl, hP, hQ', rfl⟩ := live_true hform hres
    refine Run.mv rfl rfl rfl rfl ?_
    refine Run.extract rfl rfl rfl rfl rfl ?_
    refine Run.extract rfl rfl rfl rfl rfl ?_
    refine Run.extract rfl rfl rfl rfl rfl ?_
    refine Run.mv rfl rfl rfl rfl ?_
    refine Run.mv rfl rfl rfl rfl ?_
    refine Run.mv rfl rfl rfl rfl ?_
    refine Run.nil ?_
    refine thn_next ?_
    refine WP.seq ?_
    refine WP.via (Γ' := [blk b1 (fcs F' su sv) 25, slA 22 Enc.slice o1.val (P.map Prod.fst), rows 3 (Enc.int .i64) P, slA 22 Enc.slice o2.val (Q.map Prod.fst), rows 3 (Enc.int .i64) Q]) (by (try simp only [List.set_cons_zero, List.set_cons_succ, List.cons_append, List.nil_append]); repeat first | exact ent.none _ | refine ent.at 0 rfl ?_ | refine ent.at 1 rfl ?_ | refine ent.at 2 rfl ?_ | refine ent.at 3 rfl ?_ | refine ent.at 4 rfl ?_ | refine ent.at 5 rfl ?_ | refine ent.at 6 rfl ?_ | refine ent.at 7 rfl ?_ | refine ent.at 8 rfl ?_ | refine ent.at 9 rfl ?_ | refine ent.at 10 rfl ?_ | refine ent.at 11 rfl ?_ | refine ent.at 12 rfl ?_ | refine ent.at 13 rfl ?_ | refine ent.at 14 rfl ?_ | refine ent.at 15 rfl ?_ | refine ent.at 16 rfl ?_ | refine ent.at 17 rfl ?_) ?_
    refine WP.plain cf0 rfl ?_
    refine Run.loadBagg 0 rfl rfl ag_25 rfl rfl rfl rfl rfl ?_
    refine Run.call (Δ := []) (Θ := [blk b1 (fcs F' su sv) 25, slA 22 Enc.slice o1.val (P.map Prod.fst), rows 3 (Enc.int .i64) P, slA 22 Enc.slice o2.val (Q.map Prod.fst), rows 3 (Enc.int .i64) Q]) rfl rfl rfl rfl ok_13 rfl rfl (by repeat first | exact ent.none _ | refine ent.at 0 rfl ?_ | refine ent.at 1 rfl ?_ | refine ent.at 2 rfl ?_ | refine ent.at 3 rfl ?_ | refine ent.at 4 rfl ?_ | refine ent.at 5 rfl ?_ | refine ent.at 6 rfl ?_ | refine ent.at 7 rfl ?_ | refine ent.at 8 rfl ?_ | refine ent.at 9 rfl ?_ | refine ent.at 10 rfl ?_ | refine ent.at 11 rfl ?_ | refine ent.at 12 rfl ?_ | refine ent.at 13 rfl ?_ | refine ent.at 14 rfl ?_ | refine ent.at 15 rfl ?_ | refine ent.at 16 rfl ?_ | refine ent.at 17 rfl ?_) (refLive_ok (un hR g) F' su sv hV2 hS) ?_; rintro _ _ hres; obtain ⟨o3, o4, P2, Q2, rfl, hP2, hQ2, rfl⟩ := live_true hform hres
    refine Run.mv rfl rfl rfl rfl ?_
    refine Run.extract rfl rfl rfl rfl rfl ?_
    refine Run.extract rfl rfl rfl rfl rfl ?_
    refine Run.extract rfl rfl rfl rfl rfl ?_
    refine Run.mv rfl rfl rfl rfl ?_
    refine Run.mv rfl rfl rfl rfl ?_
    refine Run.mv rfl rfl rfl rfl ?_
    refine Run.nil ?_
    refine thn_next ?_
    refine WP.sup (ρ' := [(1, .pointer (some ⟨b1, 0, none⟩)), (5, .pointer (some ⟨lb, 0, none⟩)), (6, o1.val), (7, o2.val), (8, .int .i64 0), (9, o3.val), (10, o4.val), (11, .int .i64 0)]) (Γ' := [blk b1 (fcs F' su sv) 25, slA 22 Enc.slice o1.val (P.map Prod.fst), rows 3 (Enc.int .i64) P, slA 22 Enc.slice o2.val (Q.map Prod.fst), rows 3 (Enc.int .i64) Q, slA 22 Enc.slice o3.val (P2.map Prod.fst), rows 3 (Enc.int .i64) P2, slA 22 Enc.slice o4.val (Q2.map Prod.fst), rows 3 (Enc.int .i64) Q2]) (covers_get ⟨rfl, rfl, rfl, rfl, rfl, rfl, rfl, rfl, trivial⟩) (by (try simp only [List.set_cons_zero, List.set_cons_succ, List.cons_append, List.nil_append]); repeat first | exact ent.none _ | refine ent.at 0 rfl ?_ | refine ent.at 1 rfl ?_ | refine ent.at 2 rfl ?_ | refine ent.at 3 rfl ?_ | refine ent.at 4 rfl ?_ | refine ent.at 5 rfl ?_ | refine ent.at 6 rfl ?_ | refine ent.at 7 rfl ?_ | refine ent.at 8 rfl ?_ | refine ent.at 9 rfl ?_ | refine ent.at 10 rfl ?_ | refine ent.at 11 rfl ?_ | refine ent.at 12 rfl ?_ | refine ent.at 13 rfl ?_ | refine ent.at 14 rfl ?_ | refine ent.at 15 rfl ?_ | refine ent.at 16 rfl ?_ | refine ent.at 17 rfl ?_) ?_
    refine WP.seq ?_
    refine WP.plain cf0 rfl ?_
    refine Run.mv rfl rfl rfl rfl ?_
    refine Run.mv rfl rfl rfl rfl ?_
    refine Run.int2 rfl rfl rfl rfl rfl rfl ?_
    refine Run.tt rfl ?_
    refine Run.mv rfl rfl rfl rfl ?_
    refine Run.mv rfl rfl rfl rfl ?_
    refine Run.mv rfl rfl rfl rfl ?_
    refine Run.callLend (Δ := []) (Θ := [slA 22 Enc.slice o1.val (P.map Prod.fst), rows 3 (Enc.int .i64) P, slA 22 Enc.slice o3.val (P2.map Prod.fst), rows 3 (Enc.int .i64) P2]) (Ξ := [blk b1 (fcs F' su sv) 25, slA 22 Enc.slice o2.val (Q.map Prod.fst), rows 3 (Enc.int .i64) Q, slA 22 Enc.slice o4.val (Q2.map Prod.fst), rows 3 (Enc.int .i64) Q2]) rfl rfl rfl rfl ok_14 rfl rfl (by repeat first | exact ent.none _ | refine ent.at 0 rfl ?_ | refine ent.at 1 rfl ?_ | refine ent.at 2 rfl ?_ | refine ent.at 3 rfl ?_ | refine ent.at 4 rfl ?_ | refine ent.at 5 rfl ?_ | refine ent.at 6 rfl ?_ | refine ent.at 7 rfl ?_ | refine ent.at 8 rfl ?_ | refine ent.at 9 rfl ?_ | refine ent.at 10 rfl ?_ | refine ent.at 11 rfl ?_ | refine ent.at 12 rfl ?_ | refine ent.at 13 rfl ?_ | refine ent.at 14 rfl ?_ | refine ent.at 15 rfl ?_ | refine ent.at 16 rfl ?_ | refine ent.at 17 rfl ?_) (fun g2 hg2 hd2 => sameLists_ok (un (un hR g) g2) o1.val o3.val _ _ (by have := lent_rows 0 1 rfl rfl hg2 hd2; rw [hP] at this; exact this) (by have := lent_rows 2 3 rfl rfl hg2 hd2; rw [hP2] at this; exact this) (by simp; omega) lenA) ?_; rintro _ _ ⟨rfl, rfl⟩; refine Run.eqv (v' := .bool true) (by simp) ?_
    refine Run.pick rfl rfl rfl rfl rfl ?_
    refine Run.mv rfl rfl rfl rfl ?_
    refine Run.mv rfl rfl rfl rfl ?_
    refine Run.mv rfl rfl rfl rfl ?_
    refine Run.callLend (Δ := []) (Θ := [slA 22 Enc.slice o2.val (Q.map Prod.fst), rows 3 (Enc.int .i64) Q, slA 22 Enc.slice o4.val (Q2.map Prod.fst), rows 3 (Enc.int .i64) Q2]) (Ξ := [blk b1 (fcs F' su sv) 25]) rfl rfl rfl rfl ok_14 rfl rfl (by repeat first | exact ent.none _ | refine ent.at 0 rfl ?_ | refine ent.at 1 rfl ?_ | refine ent.at 2 rfl ?_ | refine ent.at 3 rfl ?_ | refine ent.at 4 rfl ?_ | refine ent.at 5 rfl ?_ | refine ent.at 6 rfl ?_ | refine ent.at 7 rfl ?_ | refine ent.at 8 rfl ?_ | refine ent.at 9 rfl ?_ | refine ent.at 10 rfl ?_ | refine ent.at 11 rfl ?_ | refine ent.at 12 rfl ?_ | refine ent.at 13 rfl ?_ | refine ent.at 14 rfl ?_ | refine ent.at 15 rfl ?_ | refine ent.at 16 rfl ?_ | refine ent.at 17 rfl ?_) (fun g2 hg2 hd2 => sameLists_ok (un (un hR g) g2) o2.val o4.val _ _ (by have := lent_rows 0 1 rfl rfl hg2 hd2; rw [hQ'] at this; exact this) (by have := lent_rows 2 3 rfl rfl hg2 hd2; rw [hQ2] at this; exact this) (by simp; omega) lenB) ?_; rintro _ _ ⟨rfl, rfl⟩; refine Run.eqv (v' := .bool true) (by simp) ?_
    refine Run.pick rfl rfl rfl rfl rfl ?_
    refine Run.mv rfl rfl rfl rfl ?_
    refine Run.mv rfl rfl rfl rfl ?_
    refine Run.loadBagg 4 rfl rfl ag_25 rfl rfl rfl rfl rfl ?_
    refine Run.buildSlice (E := encFun) rfl sl_34 zr_25 ([((F', su, sv) : RFun)]) rfl rfl rfl (by decide) rfl rfl ?_
    intro b58
    refine Run.build rfl bd_36 rfl rfl rfl rfl ?_
    refine Run.callLend (Δ := []) (Θ := [slA 25 encFun (⟨some ⟨b58, 0, none⟩, 1, 1⟩ : SV).val [((F', su, sv) : RFun)]]) (Ξ := [blk b1 (fcs F' su sv) 25]) rfl rfl rfl rfl ok_15 rfl rfl (by repeat first | exact ent.none _ | refine ent.at 0 rfl ?_ | refine ent.at 1 rfl ?_ | refine ent.at 2 rfl ?_ | refine ent.at 3 rfl ?_ | refine ent.at 4 rfl ?_ | refine ent.at 5 rfl ?_ | refine ent.at 6 rfl ?_ | refine ent.at 7 rfl ?_ | refine ent.at 8 rfl ?_ | refine ent.at 9 rfl ?_ | refine ent.at 10 rfl ?_ | refine ent.at 11 rfl ?_ | refine ent.at 12 rfl ?_ | refine ent.at 13 rfl ?_ | refine ent.at 14 rfl ?_ | refine ent.at 15 rfl ?_ | refine ent.at 16 rfl ?_ | refine ent.at 17 rfl ?_) (fun g2 hg2 hd2 => stays_ok (un (un hR g) g2) lb ⟨some ⟨b58, 0, none⟩, 1, 1⟩ 0 [((F', su, sv) : RFun)] [F'] (lease_reads hg0 (sG.trans (sub_un_left _ g2))) (lent_at 0 rfl hg2 hd2) rfl (by simp) (one_fit (hV2.mono (sub_un_left _ g2)) hS)) ?_; rintro _ _ ⟨rfl, rfl⟩
    refine Run.pick rfl rfl rfl rfl rfl ?_
    refine Run.mv rfl rfl rfl rfl ?_
    refine Run.nil ?_
    refine thn_next ?_
    refine WP.ret ?_
    exact retT [2] _ rfl rfl ⟨_, ent.none _, rfl, rfl⟩
end Go.Proofs.YtjjfehdlmdhhmaaDoor
end
