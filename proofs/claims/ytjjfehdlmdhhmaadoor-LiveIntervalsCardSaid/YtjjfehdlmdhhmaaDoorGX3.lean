/- LiveIntervals: walked. -/
import Derived.Test.YtjjfehdlmdhhmaaDoorGW3
import Derived.Test.YtjjfehdlmdhhmaaDoorGV2
import Derived.Test.YtjjfehdlmdhhmaaDoorGX1
import Derived.Test.YtjjfehdlmdhhmaaDoorGX2
import Derived.Test.YtjjfehdlmdhhmaaDoorGU1
import Derived.Test.YtjjfehdlmdhhmaaDoorGV3
section
/- LiveIntervals: walked. -/
namespace Go.Proofs.YtjjfehdlmdhhmaaDoor
open Go.Sep
set_option linter.unusedSimpArgs false
set_option linter.unusedVariables false
attribute [local irreducible] blk slA mp mpF rows rowsBut many

def errOf (F : LFun) (line : List Int) : Int := if formB F = true then if lineB line F.blocks.length = true then 0 else 170 else 140
def okAns (F : LFun) (line : List Int) (ys : List Iv) : Prop := (errOf F line ≠ 0 → ys = []) ∧ (errOf F line = 0 → ys.Perm ((spansF F line).filter keepB) ∧ ys.Pairwise ltV) ∧ (ys.length : Int) ≤ max F.regs 0
theorem okAns_uniq {F : LFun} {line : List Int} {xs ys : List Iv} (h1 : okAns F line xs) (h2 : okAns F line ys) : xs = ys := by
  by_cases e : errOf F line = 0
  · obtain ⟨p1, s1⟩ := h1.2.1 e
    obtain ⟨p2, s2⟩ := h2.2.1 e
    exact ltV_uniq (p1.trans p2.symm) s1 s2
  · rw [h1.1 e, h2.1 e]
/-- one shape of all answers -/
theorem iv_uni {F : LFun} {line : List Int} (hS : SmallF F) (hll : F.blocks.length ≤ 1000000) {x : Value} {Γ : List HProp} (H : IvRes F line x Γ) :
    ∃ (sv : SV) (ys : List Iv), x = .tuple #[sv.val, .int .i64 (errOf F line)] ∧ ent Γ [slA 62 encIv sv.val ys] ∧ okAns F line ys := by
  rcases H with ⟨h1, rfl, rfl⟩ | ⟨h1, h2, rfl, rfl⟩ | ⟨h1, h2, sv, ys, rfl, hp, hs, rfl⟩
  · have e : errOf F line = 140 := by unfold errOf; rw [h1]; rfl
    exact ⟨nilS, [], by rw [e]; rfl, slA_nil 62 encIv [], fun _ => rfl, fun h => (by rw [e] at h; cases h), by simp; omega⟩
  · have e : errOf F line = 170 := by unfold errOf; rw [h1, h2]; rfl
    exact ⟨nilS, [], by rw [e]; rfl, slA_nil 62 encIv [], fun _ => rfl, fun h => (by rw [e] at h; cases h), by simp; omega⟩
  · have e : errOf F line = 0 := by unfold errOf; rw [h1, h2]; rfl
    refine ⟨sv, ys, by rw [e], ent.refl _, fun h => absurd e h, fun _ => ⟨hp, hs⟩, ?_⟩
    have h3 := hp.length_eq
    have h4 := List.length_filter_le keepB (spansF F line)
    obtain ⟨hl, _⟩ := line_in h2
    have h5 := (spans_ok (formQ h1) hS (line := line) (by omega)).len
    have := (formQ h1).r0
    omega
theorem sortStableF (hR : Heap) (sv : SV) (xs : List Iv) (h1 : xs.Pairwise (fun x y => x.reg < y.reg)) (h2 : ∀ x ∈ xs, smallV x) (h3 : xs.length ≤ 262144) : Tri Tryd.prog hR 44 #[sv.val, cmpF] [slA 62 encIv sv.val xs] fun _ Γ' => ∃ ys : List Iv, ys.Perm xs ∧ ys.Pairwise ltV ∧ Γ' = [slA 62 encIv sv.val ys] :=
  sortStable_ok hR sv xs h1 h2 (by omega)
theorem okAns_len {F : LFun} {line : List Int} {ys : List Iv} (h : okAns F line ys) : ys.length ≤ 262144 := by
  by_cases e : errOf F line = 0
  · have h1 := h.2.2
    have h2 : formB F = true := by
      unfold errOf at e
      cases hf : formB F with
      | true => rfl
      | false => rw [hf] at e; cases e
    have := (formQ h2).r1
    omega
  · rw [h.1 e]; simp

set_option maxHeartbeats 2000000 in
set_option maxRecDepth 100000 in
theorem liveIv_ok (hR : Heap) (hT : TabH hR) (F : LFun) (su sv : SV) (hu : SlR rdI hR su.val F.params) (hv : SlR rdBlk hR sv.val F.blocks) (hW : WideF F) (line : List Int) (lv : SV) (hl : SlR rdI hR lv.val line) (hll : line.length ≤ 17592186043904) :
    Tri Tryd.prog hR 4 #[.agg ⟨fcs F su sv⟩, lv.val] [] fun u Γ' => u = .bool true ∧ Γ' = [] := by
  refine Tri.ent (Tri.of (args := [.agg ⟨fcs F su sv⟩, lv.val]) Tryd.func4 rfl Tryd.ntmps4 (by simp) ?_)
  refine WP.seq ?_
  refine WP.plain cf0 rfl ?_
  refine Run.box rfl rfl rfl rfl rfl ?_
  intro b2
  refine Run.mv rfl rfl rfl rfl ?_
  refine Run.nil ?_
  refine thn_next ?_
  refine WP.seq ?_
  refine WP.plain cf0 rfl ?_
  refine Run.callP [] ok_9 (alive_ok hR hT) ?_; rintro _ _ ⟨rfl, rfl⟩
  refine Run.mv rfl rfl rfl rfl ?_
  refine Run.nil ?_
  refine thn_next ?_
  refine WP.seq ?_
  refine WP.plain cf0 rfl ?_
  refine Run.loadBagg 0 rfl rfl ag_25 rfl rfl rfl rfl rfl ?_
  refine Run.callP [] ok_10 (small_ok hR F su sv hu hv hW) ?_; rintro _ _ ⟨⟨s, rfl, hs⟩, rfl⟩
  refine Run.mv rfl rfl rfl rfl ?_
  refine Run.nil ?_
  refine thn_next ?_
  refine WP.trim [2, 5, 6, 1] [0] ?_
  refine WP.seq ?_
  refine WP.seq ?_
  refine WP.plain cf0 rfl ?_
  refine Run.mv rfl rfl rfl rfl ?_
  refine Run.bnotB rfl rfl rfl rfl ?_
  refine Run.eqv (v' := .bool false) rfl ?_
  refine Run.mv rfl rfl rfl rfl ?_
  refine Run.mv rfl rfl rfl rfl ?_
  refine Run.bnotB rfl rfl rfl rfl ?_
  refine Run.pick rfl rfl rfl rfl rfl ?_
  refine Run.nil ?_
  refine thn_next ?_
  cases s with
  | false =>
    refine WP.cond (t := true) rfl (fun _ => ?_) (fun h => by cases h)
    refine WP.seq ?_
    refine WP.plain cf0 rfl ?_
    refine Run.mv rfl rfl rfl rfl ?_
    refine Run.mv rfl rfl rfl rfl ?_
    refine Run.nil ?_
    refine thn_next ?_
    refine WP.ret ?_; refine thn_ret ?_
    exact retT [4] _ rfl rfl ⟨_, ent.none _, rfl, rfl⟩
  | true =>
  refine WP.cond (t := false) rfl (fun h => by cases h) (fun _ => ?_)
  refine WP.skip ?_; refine thn_next ?_
  have hY := hs rfl
  have hS := hY.small
  have y1 := hY.params
  have y2 := hY.blocks
  have hV : FunV hR F su sv := ⟨hu, hv, by omega, by omega⟩
  refine WP.trim [2, 1] [0] ?_
  refine WP.seq ?_
  refine WP.plain cf0 rfl ?_
  refine Run.loadBagg 0 rfl rfl ag_25 rfl rfl rfl rfl rfl ?_
  refine Run.callP [] ok_11 (one_ok hR F su sv hV hS) ?_; rintro _ _ ⟨lb, rfl, rfl⟩
  refine Run.mv rfl rfl rfl rfl ?_
  refine Run.nil ?_
  refine thn_next ?_
  refine WP.seq ?_
  refine WP.plain cf0 rfl ?_
  refine Run.mv rfl rfl rfl rfl ?_
  refine Run.callP [] ok_16 (roomT_ok hR lv.val line hl hll) ?_; rintro _ _ ⟨rw', rfl, rfl⟩
  refine Run.mv rfl rfl rfl rfl ?_
  refine Run.nil ?_
  refine thn_next ?_
  refine WP.trim [8, 7, 2, 1] [2, 1, 0] ?_
  refine WP.freeze (Γ := [blk b2 (fcs F su sv) 25]) [leaseP lb [F], slA 3 (Enc.int .i64) rw'.val (line ++ [-71, -72])] fun g hg hd => ?_
  obtain ⟨g0, hg0, s0⟩ := sat_at 0 hg rfl (Sub.refl g)
  have sR : Sub hR (un hR g) := sub_un_left hR g
  have sG : Sub g0 (un hR g) := s0.trans (sub_un_right hd)
  have hrw : SlR rdI (un hR g) rw'.val (line ++ [-71, -72]) := lent_at 1 rfl hg hd
  have hin : SlR rdI (un hR g) (rw'.cut 1 0 line.length).val line := cut_read rfl hrw
  have hT2 := hT.mono sR
  have hL := lease_reads hg0 sG
  have hV2 := hV.mono sR
  have hl2 := hl.mono sR
  obtain ⟨w, ys, hyl, hc0, hw, hYs⟩ := hL
  have hwr : SlR encFun.rd (un hR g) (w.cut 5 0 1).val ys := by
    have : ys.length = 1 := hyl
    rw [← this]; exact cut_read rfl hw
  obtain ⟨y, gy⟩ : ∃ y, ys[(0 : Int).toNat]? = some y := ⟨_, List.getElem?_eq_getElem (by rw [hyl]; exact Nat.zero_lt_one)⟩
  obtain ⟨ey, hV3⟩ := (hYs 0 y F gy rfl).read (by omega) (by omega)
  obtain ⟨F', su', sv'⟩ := y
  simp only at ey hV3
  subst ey
  have hyl1 : ys.length = 1 := hyl
  refine WP.seq ?_
  refine WP.plain cf0 rfl ?_
  refine Run.mv rfl rfl rfl rfl ?_
  refine Run.nilCheck rfl rfl rfl rfl ?_
  refine Run.fieldAddr rfl rfl fo_38_0 rfl rfl ?_
  refine Run.fieldAddr rfl rfl fo_36_0 rfl rfl ?_
  refine Run.loadR rfl rfl ag_34 rfl rfl hc0 ?_
  refine Run.idxR rfl rfl rfl sl_34 rfl rfl hwr (by rfl) (by omega) (by omega) ?_
  refine Run.loadRagg rfl rfl ag_25 rfl rfl (SlR.row hwr gy) rfl ?_
  refine Run.mv rfl rfl rfl rfl ?_
  refine Run.callP [] ok_17 (intervals_ok 262144 sortStableF (un hR g) hT2 F' su' sv' (rw'.cut 1 0 line.length) line hV3 hS hin (by omega) (fun h => (formQ h).r1)) ?_; rintro _ _ hres; obtain ⟨o1, zs, rfl, he1, ok1⟩ := iv_uni hS (by omega) hres; refine Run.via (ent.app he1 (ent.refl _)) ?_
  refine Run.mv rfl rfl rfl rfl ?_
  refine Run.extract rfl rfl rfl rfl rfl ?_
  refine Run.extract rfl rfl rfl rfl rfl ?_
  refine Run.mv rfl rfl rfl rfl ?_
  refine Run.mv rfl rfl rfl rfl ?_
  refine Run.nil ?_
  refine thn_next ?_
  refine WP.trim [9, 10, 8, 7, 2, 1] [0, 1] ?_
  refine WP.seq ?_
  refine WP.plain cf0 rfl ?_
  refine Run.loadBagg 1 rfl rfl ag_25 rfl rfl rfl rfl rfl ?_
  refine Run.mv rfl rfl rfl rfl ?_
  refine Run.callP [] ok_18 (refIv_ok (un hR g) F' su sv lv line hV2 hS hl2 (by omega) (by omega)) ?_; rintro _ _ hres2; obtain ⟨o2, zs2, rfl, he2, ok2⟩ := iv_uni hS (by omega) hres2; refine Run.via (ent.app he2 (ent.refl _)) ?_
  refine Run.mv rfl rfl rfl rfl ?_
  refine Run.extract rfl rfl rfl rfl rfl ?_
  refine Run.extract rfl rfl rfl rfl rfl ?_
  refine Run.mv rfl rfl rfl rfl ?_
  refine Run.mv rfl rfl rfl rfl ?_
  refine Run.nil ?_
  refine thn_next ?_
  have ez := okAns_uniq ok1 ok2
  subst ez
  have hzl := okAns_len ok1
  refine WP.trim [9, 10, 11, 12, 8, 7, 2, 1] [0, 1, 2] ?_
  refine WP.seq ?_
  refine WP.plain cf0 rfl ?_
  refine Run.mv rfl rfl rfl rfl ?_
  refine Run.mv rfl rfl rfl rfl ?_
  refine Run.int2 rfl rfl rfl rfl rfl rfl ?_
  refine Run.tt rfl ?_
  refine Run.mv rfl rfl rfl rfl ?_
  refine Run.mv rfl rfl rfl rfl ?_
  refine Run.mv rfl rfl rfl rfl ?_
  refine Run.callL [] [1, 0] ok_19 (fun g2 hg2 hd2 => sameSpans_ok (un (un hR g) g2) o1.val o2.val zs zs (lent_at 0 rfl hg2 hd2) (lent_at 1 rfl hg2 hd2) (by omega)) ?_; rintro _ _ ⟨rfl, rfl⟩; refine Run.eqv (v' := .bool true) (by simp) ?_
  refine Run.pick rfl rfl rfl rfl rfl ?_
  refine Run.mv rfl rfl rfl rfl ?_
  refine Run.mv rfl rfl rfl rfl ?_
  refine Run.loadBagg 2 rfl rfl ag_25 rfl rfl rfl rfl rfl ?_
  refine Run.buildSlice (E := encFun) rfl sl_34 zr_25 ([((F', su, sv) : RFun)]) rfl rfl rfl (by decide) rfl rfl ?_
  intro b56
  refine Run.build rfl bd_36 rfl rfl rfl rfl ?_
  refine Run.callL [] [3] ok_15 (fun g2 hg2 hd2 => stays_ok (un (un hR g) g2) lb ⟨some ⟨b56, 0, none⟩, 1, 1⟩ 0 [((F', su, sv) : RFun)] [F'] (lease_reads hg0 (sG.trans (sub_un_left _ g2))) (lent_at 0 rfl hg2 hd2) rfl (by simp) (one_fit (hV2.mono (sub_un_left _ g2)) hS)) ?_; rintro _ _ ⟨rfl, rfl⟩
  refine Run.pick rfl rfl rfl rfl rfl ?_
  refine Run.mv rfl rfl rfl rfl ?_
  refine Run.mv rfl rfl rfl rfl ?_
  refine Run.mv rfl rfl rfl rfl ?_
  refine Run.callP [] ok_20 (keptT_ok (un hR g) rw' lv.val line hrw hl2 hll) ?_; rintro _ _ ⟨rfl, rfl⟩
  refine Run.pick rfl rfl rfl rfl rfl ?_
  refine Run.mv rfl rfl rfl rfl ?_
  refine Run.nil ?_
  refine thn_next ?_
  refine WP.ret ?_
  exact retT [4] _ rfl rfl ⟨_, ent.none _, rfl, rfl⟩
end Go.Proofs.YtjjfehdlmdhhmaaDoor
end
