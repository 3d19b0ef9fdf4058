/- told: walked. -/
import Derived.Test.YtjjfehdlmdhhmaaDoorGL7
import Derived.Test.YtjjfehdlmdhhmaaDoorGX4
import Derived.Test.YtjjfehdlmdhhmaaDoorGT7
import Derived.Test.YtjjfehdlmdhhmaaDoorGX2
import Derived.Test.YtjjfehdlmdhhmaaDoorGU1
import Derived.Test.YtjjfehdlmdhhmaaDoorGY1
import Derived.Test.YtjjfehdlmdhhmaaDoorGV7
import Derived.Test.YtjjfehdlmdhhmaaDoorGV1
section
/- told: walked. -/
namespace Go.Proofs.YtjjfehdlmdhhmaaDoor
open Go.Sep
set_option linter.unusedSimpArgs false
set_option linter.unusedVariables false
attribute [local irreducible] blk slA mp mpF rows rowsBut many
set_option maxHeartbeats 1000000 in
set_option maxRecDepth 100000 in
theorem toldAll_ok (hR : Heap) (F : LFun) (su sv lv : SV) (line : List Int) (av bv cv : Value) (zs : List Iv) (hV : FunV hR F su sv) (hS : SmallF F) (hl : SlR rdI hR lv.val line) (hll : line.length ≤ 100000000000000) (hnb : F.blocks.length ≤ 1000)
    (ha : SlR rdI.slice hR av (aheads F)) (hb : SlR rdI.slice hR bv (behinds F)) (hc : SlR encIv.rd hR cv zs) (hz : okAns F line zs) :
    Tri Tryd.prog hR 53 #[.agg ⟨fcs F su sv⟩, lv.val, av, bv, cv, .int .i64 (lerr F), .int .i64 (errOf F line)] [] fun u Γ' => u = .bool true ∧ Γ' = [] := by
  refine Tri.ent (Tri.of (args := [.agg ⟨fcs F su sv⟩, lv.val, av, bv, cv, .int .i64 (lerr F), .int .i64 (errOf F line)]) Tryd.func53 rfl Tryd.ntmps53 (by simp) ?_)
  have hzl := okAns_len hz
  obtain ⟨la1, la2⟩ := aheads_len F
  obtain ⟨lb1, lb2⟩ := behinds_len F
  refine Zp ?_
  refine Run.box rfl rfl rfl rfl rfl ?_
  intro b7
  refine Zm ?_
  refine Ze ?_
  refine Zp ?_
  refine Run.loadBagg 0 rfl rfl ag_25 rfl rfl rfl rfl rfl ?_
  refine Run.callP [] ok_13 (refLive_ok hR F su sv hV hS) ?_; rintro _ _ hres; obtain ⟨o1, o2, P, Q, rfl, he1, hP, hQ⟩ := live_uni hres; refine Run.via (ent.app he1 (ent.refl _)) ?_
  refine Zm ?_
  refine Run.extract rfl rfl rfl rfl rfl ?_
  refine Run.extract rfl rfl rfl rfl rfl ?_
  refine Run.extract rfl rfl rfl rfl rfl ?_
  iterate 3 refine Zm ?_
  refine Ze ?_
  refine WP.trim [15, 16, 17, 7, 1, 2, 3, 4, 5, 6] [4, 0, 1, 2, 3] ?_
  refine Zp ?_
  refine Run.loadBagg 0 rfl rfl ag_25 rfl rfl rfl rfl rfl ?_
  refine Zm ?_
  refine Run.callP [] ok_18 (refIv_ok hR F su sv lv line hV hS hl hll hnb) ?_; rintro _ _ hres2; obtain ⟨o3, zs2, rfl, he2, ok2⟩ := iv_uni hS (by omega) hres2; refine Run.via (ent.app he2 (ent.refl _)) ?_
  refine Zm ?_
  refine Run.extract rfl rfl rfl rfl rfl ?_
  refine Run.extract rfl rfl rfl rfl rfl ?_
  refine Zm ?_
  refine Zm ?_
  refine Ze ?_
  have ez := okAns_uniq hz ok2
  subst ez
  refine WP.trim [18, 19, 15, 16, 17, 7, 1, 2, 3, 4, 5, 6] [0, 2, 3, 4, 5] ?_
  refine Zp ?_
  refine Zm ?_
  refine Zm ?_
  refine Zi ?_
  refine Run.eqv (v' := .bool true) (by simp) ?_
  iterate 3 refine Zm ?_
  refine Zi ?_
  refine Run.eqv (v' := .bool true) (by simp) ?_
  refine Zq ?_
  iterate 3 refine Zm ?_
  refine Run.callL [] [1, 2] ok_14 (fun g hg hd => sameLists_ok (un hR g) av o1.val (aheads F) (aheads F) (ha.mono (sub_un_left hR g)) (lent_rowsE hg hd hP 0 1 rfl rfl) (by omega) (fun x hx => by have := la2 x hx; omega)) ?_; rintro _ _ ⟨rfl, rfl⟩; refine Run.eqv (v' := .bool true) (by simp) ?_
  refine Zq ?_
  iterate 3 refine Zm ?_
  refine Run.callL [] [3, 4] ok_14 (fun g hg hd => sameLists_ok (un hR g) bv o2.val (behinds F) (behinds F) (hb.mono (sub_un_left hR g)) (lent_rowsE hg hd hQ 0 1 rfl rfl) (by omega) (fun x hx => by have := lb2 x hx; omega)) ?_; rintro _ _ ⟨rfl, rfl⟩; refine Run.eqv (v' := .bool true) (by simp) ?_
  refine Zq ?_
  iterate 3 refine Zm ?_
  refine Run.callL [] [4] ok_19 (fun g hg hd => sameSpans_ok (un hR g) cv o3.val zs zs (hc.mono (sub_un_left hR g)) (lent_at 0 rfl hg hd) (by omega)) ?_; rintro _ _ ⟨rfl, rfl⟩; refine Run.eqv (v' := .bool true) (by simp) ?_
  refine Zq ?_
  refine Zm ?_
  refine Ze ?_
  refine WP.ret ?_
  exact retT [14] _ rfl rfl ⟨_, ent.none _, rfl, rfl⟩
end Go.Proofs.YtjjfehdlmdhhmaaDoor
end
section
/- again: walked. -/
namespace Go.Proofs.YtjjfehdlmdhhmaaDoor
open Go.Sep
set_option linter.unusedSimpArgs false
set_option linter.unusedVariables false
attribute [local irreducible] blk slA mp mpF rows rowsBut
theorem q_view {hR g : Heap} {F : LFun} {sp sb : SV} {rs : List RBlk} (hrl : rs.length = F.blocks.length) (hg : sat (funQ sp sb F rs) g) (hd : Disj hR g) (h1 : F.params.length ≤ 1000000) (h2 : F.blocks.length ≤ 1000000) : FunV (un hR g) F sp sb := by
  refine ⟨lent_at 0 rfl hg hd, ?_, h1, h2⟩
  refine blk_read (rs := rs) (lent_at 1 rfl hg hd) hrl.symm fun i r b hr hb => ?_
  obtain ⟨g4, a4, s4⟩ := sat_at 2 hg rfl (sub_un_right hd)
  obtain ⟨g5, ⟨w, e, hs⟩, s5⟩ := sat_at i (show sat (List.zipWith blkQ rs F.blocks) g4 from a4) (zip_get _ hr hb) s4
  obtain ⟨r1, r2, r3, r4⟩ := r
  simp only [Prod.mk.injEq, true_and] at e
  obtain ⟨rfl, rfl, rfl⟩ := e
  obtain ⟨g6, a6, s6⟩ := sat_at 0 hs rfl s5
  obtain ⟨g7, ⟨ws, hwl, hw⟩, s7⟩ := sat_at 1 hs rfl s5
  refine ⟨?_, rfl, rfl, slA_lend a6 s6⟩
  obtain ⟨g8, a8, s8⟩ := sat_at 0 hw rfl s7
  obtain ⟨g9, a9, s9⟩ := sat_at 1 hw rfl s7
  refine ins_read (rs := rawQ ws b.body) (slA_lend a8 s8) (by simp [rawQ, hwl]) fun j q x hq hx => ?_
  obtain ⟨wa, x', e1, e2, e3⟩ := zip_get_inv _ hq
  obtain rfl : x' = x := by rw [hx] at e2; exact (Option.some.inj e2).symm
  subst e3
  refine ⟨rfl, rfl, rfl, ?_⟩
  exact (sat_rows (p := rowsQ ws b.body) a9 (zip_get _ e1 hx)).mono s9
theorem q_view4 {hR g : Heap} {F : LFun} {sp sb : SV} {rs : List RBlk} {Δ : List HProp} (hrl : rs.length = F.blocks.length) (hg : sat (funQ sp sb F rs ++ Δ) g) (hd : Disj hR g) (h1 : F.params.length ≤ 1000000) (h2 : F.blocks.length ≤ 1000000) : FunV (un hR g) F sp sb :=
  q_view hrl (ent.left _ _ g hg) hd h1 h2
theorem lease_q {lb : Nat} {F : LFun} {Γ : List HProp} : ∀ h, sat (leaseP lb [F] :: Γ) h → ∃ z : {z : SV × SV × SV × Int × List RBlk // z.2.2.2.2.length = F.blocks.length}, sat (turnΓ lb z.1.1 z.1.2.1 z.1.2.2.1 z.1.2.2.2.1 F z.1.2.2.2.2 ++ Γ) h := by
  intro h hs
  obtain ⟨⟨w, sp, sb, m⟩, hs⟩ := lease_open h hs
  obtain ⟨h1, h2, g1, g2, hd, e⟩ := sat_append.1 hs
  obtain ⟨a1, a2, p1, ⟨a3, a4, p2, ⟨a5, a6, p3, _, d3, e3⟩, d2, e2⟩, d1, e1⟩ := g1
  obtain ⟨rs, hl, hq⟩ := fun_q p3
  refine ⟨⟨(w.cut 5 0 1, sp, sb, m, rs), hl⟩, sat_append.2 ⟨h1, h2, ?_, g2, hd, e⟩⟩
  exact ⟨a1, a2, p1, ⟨a3, a4, p2, by rw [e3]; exact sat_mono hq d3, d2, e2⟩, d1, e1⟩
theorem TinyF.turn {F G : LFun} (h : TinyF F) (t : TurnOf F G) : TinyF G := by
  obtain ⟨e1, e2, e3, e4, e5⟩ := turn_same t
  refine ⟨by rw [e2]; exact h.params, by rw [e5]; exact h.blocks, fun c hc => ?_⟩
  obtain ⟨i, hi⟩ := List.getElem?_of_mem hc
  obtain ⟨b, hb, _, _, q1, q2, q3⟩ := turn_blk t hi
  obtain ⟨r1, r2, r3⟩ := h.each b (List.mem_of_getElem? hb)
  refine ⟨by rw [q1]; exact r1, by rw [q2]; exact r2, fun y hy => ?_⟩
  obtain ⟨j, hj⟩ := List.getElem?_of_mem hy
  obtain ⟨x, hx, q4, _⟩ := q3 j y hj
  rw [q4]; exact r3 x (List.mem_of_getElem? hx)
attribute [local irreducible] many
set_option maxHeartbeats 2000000 in
set_option maxRecDepth 100000 in
theorem again_ok (hR : Heap) (hT : TabH hR) (F : LFun) (su sv lv : SV) (line : List Int) (hV : FunV hR F su sv) (hY : TinyF F) (hr : F.regs ≤ 60) (hl : SlR rdI hR lv.val line) (hll : line.length ≤ 1000000) :
    Tri Tryd.prog hR 26 #[.agg ⟨fcs F su sv⟩, lv.val] [] fun u Γ' => u = .bool true ∧ Γ' = [] := by
  refine Tri.ent (Tri.of (args := [.agg ⟨fcs F su sv⟩, lv.val]) Tryd.func26 rfl Tryd.ntmps26 (by simp) ?_)
  have hSF := hY.small
  have y1 := hY.params
  have y2 := hY.blocks
  refine Zp ?_
  refine Run.box rfl rfl rfl rfl rfl ?_
  intro b2
  refine Zm ?_
  refine Ze ?_
  refine WP.freeze (Γ := []) [blk b2 (fcs F su sv) 25] fun g0 hg0 hd0 => ?_
  have hrow : rowH (un hR g0) ⟨b2, 0, none⟩ (fcs F su sv) := fun j v hj => by have h5 := lent_blk (v := v) 0 j rfl hj hg0 hd0; have e : (⟨b2, 0, none⟩ : Addr).add j = ⟨b2, j, none⟩ := (by cases j <;> simp [Addr.add]); rw [e]; exact h5
  obtain ⟨hR1, eR⟩ : ∃ h, h = un hR g0 := ⟨_, rfl⟩
  rw [← eR] at hrow ⊢
  have sR : Sub hR hR1 := eR ▸ sub_un_left hR g0
  have hT1 := hT.mono sR
  have hV1 := hV.mono sR
  have hl1 := hl.mono sR
  refine WP.seq ?_
  refine WP.drawn0 cfF mixed rfl (by kernel_rfl) ?_
  refine Run.loadFagg rfl rfl ag_25 rfl rfl hrow rfl ?_
  refine Run.callP [] ok_11 (one_ok hR1 F su sv hV1 hSF) ?_; rintro _ _ ⟨lb1, rfl, rfl⟩
  refine Run.loadFagg rfl rfl ag_25 rfl rfl hrow rfl ?_
  refine Run.callP [] ok_11 (one_ok hR1 F su sv hV1 hSF) ?_; rintro _ _ ⟨lb2, rfl, rfl⟩
  refine Zm ?_
  refine Zm ?_
  refine Ze ?_
  refine WP.trim [5, 6, 1, 2] [1, 0] ?_
  refine Zp ?_
  refine Zm ?_
  refine Run.callP [] ok_16 (roomT_ok hR1 lv.val line hl1 (by omega)) ?_; rintro _ _ ⟨rw', rfl, rfl⟩
  refine Zm ?_
  refine Ze ?_
  obtain ⟨iv, hiv⟩ : ∃ iv, iv = rw'.cut 1 0 line.length := ⟨_, rfl⟩
  refine WP.trim [7, 5, 6, 1, 2] [0, 1, 2] ?_
  refine WP.via (ent.cons (B := slA 3 (Enc.int .i64) iv.val line) (fun h hh => by rw [hiv]; exact cut_own rfl hh) (ent.refl _)) ?_
  rw [← hiv]
  refine WP.trim [7, 5, 6, 1, 2] [2, 0, 1] ?_
  refine WP.opens lease_q ?_
  rintro ⟨⟨vy, py, by', my, ry⟩, hry⟩
  refine WP.trim [7, 5, 6, 1, 2] [6, 0, 1, 2, 3, 4, 5] ?_
  refine WP.opens lease_q ?_
  rintro ⟨⟨vx, px, bx, mx, rx⟩, hrx⟩
  simp only at hrx hry
  refine WP.trim [7, 5, 6, 1, 2] [0, 1, 2, 3, 4, 5, 6, 7, 8, 9, 10] ?_
  refine Zp ?_
  refine Zm ?_
  refine Zn ?_
  refine Zf fo_38_0 ?_
  refine Zf fo_36_0 ?_
  refine Zl 0 ag_34 ?_
  refine Run.idxO 1 rfl rfl rfl sl_34 rfl rfl rfl rfl (by omega) (by simp) ?_
  refine Run.loadOagg 1 0 rfl rfl ag_25 rfl rfl rfl rfl rfl (y := ((F, px, bx) : RFun)) rfl ?_
  refine Run.callL [] [2, 3, 4] ok_12 (fun g hg hd => live_ok (un hR1 g) (hT1.mono (sub_un_left hR1 g)) F px bx (q_view hrx hg hd (by omega) (by omega)) hSF) ?_; rintro _ _ hres; obtain ⟨o1a, o2a, Pa, Qa, rfl, hea, hPa, hQa⟩ := live_uni hres; refine Run.via (ent.app (ent.app hea (ent.refl _)) (ent.refl _)) ?_
  refine Zm ?_
  refine Run.extract rfl rfl rfl rfl rfl ?_
  refine Run.extract rfl rfl rfl rfl rfl ?_
  refine Run.extract rfl rfl rfl rfl rfl ?_
  iterate 3 refine Zm ?_
  refine Ze ?_
  refine WP.trim [8, 9, 10, 7, 5, 6, 1, 2] [7, 8, 4, 5, 6, 9, 10, 11, 12, 13, 14, 0, 1, 2, 3] ?_
  refine Zp ?_
  refine Zm ?_
  refine Zn ?_
  refine Zf fo_38_0 ?_
  refine Zf fo_36_0 ?_
  refine Zl 0 ag_34 ?_
  refine Run.idxO 1 rfl rfl rfl sl_34 rfl rfl rfl rfl (by omega) (by simp) ?_
  refine Run.loadOagg 1 0 rfl rfl ag_25 rfl rfl rfl rfl rfl (y := ((F, px, bx) : RFun)) rfl ?_
  refine Zm ?_
  refine Run.callL [] [2, 3, 4, 10] ok_17 (fun g hg hd => intervals_ok 262144 sortStableF (un hR1 g) (hT1.mono (sub_un_left hR1 g)) F px bx iv line (q_view4 hrx hg hd (by omega) (by omega)) hSF (lent_at 3 rfl hg hd) (by omega) (fun h => (formQ h).r1)) ?_; rintro _ _ hres; obtain ⟨sa, zsa, rfl, hia, hza⟩ := iv_uni hSF (by omega) hres; refine Run.via (ent.app (ent.app hia (ent.refl _)) (ent.refl _)) ?_
  refine Zm ?_
  refine Run.extract rfl rfl rfl rfl rfl ?_
  refine Run.extract rfl rfl rfl rfl rfl ?_
  refine Zm ?_
  refine Zm ?_
  refine Ze ?_
  refine WP.trim [11, 12, 8, 9, 10, 7, 5, 6, 1, 2] [5, 6, 1, 2, 3, 7, 8, 9, 10, 11, 4, 12, 13, 14, 15, 0] ?_
  refine Zp ?_
  refine Zm ?_
  refine Run.callP [0, 1, 2, 3, 4] ok_52 (turn_ok hR1 lb1 vx px bx mx F rx hrx (by omega) hSF (by omega)) ?_; rintro _ _ ⟨G, hG, rfl⟩
  refine Ze ?_
  refine WP.trim [11, 12, 8, 9, 10, 7, 5, 6, 1, 2] [0, 1, 2, 3, 4, 5, 6, 7, 8, 9, 10, 11, 12, 13, 14, 15] ?_
  refine Zp ?_
  refine Zm ?_
  refine Run.callP [5, 6, 7, 8, 9] ok_52 (turn_ok hR1 lb2 vy py by' my F ry hry (by omega) hSF (by omega)) ?_; rintro _ _ ⟨G', hG', rfl⟩
  refine Ze ?_
  obtain rfl := turn_uniq hG hG'
  have hYG := hY.turn hG
  have hSG := hYG.small
  have z1 := hYG.params
  have z2 := hYG.blocks
  have hrG := (turn_same hG).2.2.2.2
  rw [← hrG] at hrx hry
  refine WP.trim [11, 12, 8, 9, 10, 7, 5, 6, 1, 2] [5, 6, 7, 8, 9, 0, 1, 2, 3, 4, 10, 11, 12, 13, 14, 15] ?_
  refine WP.seq ?_
  refine Zp ?_
  refine Zm ?_
  refine Ze ?_
  refine WP.block ?_
  refine WP.trim [13, 11, 12, 8, 9, 10, 7, 5, 6, 1, 2] [0, 1, 2, 3, 4, 5, 6, 7, 8, 9, 10, 11, 12, 13, 14, 15] ?_
  refine WP.loopC (α := Nat × List Int) (fun z => z.1 ≤ line.length ∧ z.2.length = line.length) (fun z => [(13, .int .i64 (z.1 : Int))]) (fun z => [(10, slA 3 (Enc.int .i64) iv.val z.2)]) (fun z => line.length - z.1) (0, line) ⟨Nat.zero_le _, rfl⟩ ?_
  rintro ⟨i, ys⟩ ⟨hi, hyl⟩
  simp only at hi hyl
  refine WP.trim [13, 11, 12, 8, 9, 10, 7, 5, 6, 1, 2] [0, 1, 2, 3, 4, 5, 6, 7, 8, 9, 10, 11, 12, 13, 14, 15] ?_
  try simp only
  have hquo : intOpR .quo .i64 (ys.length : Int) 2 = some (.int .i64 ((ys.length : Int) / 2)) := by
    simp only [intOpR]
    rw [if_neg (by omega), Int.tdiv_eq_ediv_of_nonneg (by omega), wrapI (by omega) (by omega)]
  refine WP.seq ?_
  refine Zp ?_
  refine Zm ?_
  refine Zm ?_
  refine Run.lenO 10 rfl rfl sl_22 rfl rfl rfl ?_
  refine Run.int2 rfl rfl rfl hquo rfl rfl ?_
  refine Zi ?_
  refine Ze ?_
  refine WP.ite rfl (fun hlt => ?_) (fun hge => ?_)
  · refine Zb ?_
    obtain ⟨y, gy⟩ : ∃ y, ys[i]? = some y := ⟨_, List.getElem?_eq_getElem (by omega)⟩
    have hto : ((ys.length : Int) - 1 - (i : Int)).toNat = ys.length - 1 - i := by omega
    obtain ⟨x, gx⟩ : ∃ x, ys[((ys.length : Int) - 1 - (i : Int)).toNat]? = some x := ⟨_, List.getElem?_eq_getElem (by omega)⟩
    obtain ⟨x2, gx2⟩ : ∃ x2, (ys.set i x)[((ys.length : Int) - 1 - (i : Int)).toNat]? = some x2 := ⟨_, List.getElem?_eq_getElem (by rw [List.length_set]; omega)⟩
    have hsl : (ys.set i x).length = ys.length := List.length_set
    refine WP.seq ?_
    refine WP.block ?_
    refine Zp ?_
    refine Zm ?_
    refine Zm ?_
    refine Run.idxO 10 rfl rfl rfl sl_22 rfl rfl rfl rfl (by omega) (by omega) ?_
    refine Run.loadO 10 i 0 rfl rfl ag_3 rfl rfl rfl rfl gy rfl ?_
    refine Zm ?_
    refine Ze ?_
    refine Zp ?_
    iterate 4 refine Zm ?_
    refine Run.lenO 10 rfl rfl sl_22 rfl rfl rfl ?_
    refine Zs ?_
    refine Zm ?_
    refine Zs ?_
    refine Run.idxO 10 rfl rfl rfl sl_22 rfl rfl rfl rfl (by omega) (by omega) ?_
    refine Run.loadO 10 ((ys.length : Int) - 1 - (i : Int)).toNat 0 rfl rfl ag_3 rfl rfl rfl rfl gx rfl ?_
    refine Run.idxO 10 rfl rfl rfl sl_22 rfl rfl rfl rfl (by omega) (by omega) ?_
    refine Run.storeO 10 i 0 (y' := x) rfl rfl rfl rfl ag_3 rfl rfl rfl rfl gy rfl rfl ?_
    refine Ze ?_
    refine Zc ?_
    refine Zm ?_
    refine Zm ?_
    refine Run.lenO 10 rfl rfl sl_22 rfl rfl rfl ?_; rw [hsl]
    refine Zs ?_
    refine Zm ?_
    refine Zs ?_
    refine Zm ?_
    refine Run.idxO 10 rfl rfl rfl sl_22 rfl rfl rfl rfl (by omega) (by omega) ?_
    refine Run.storeO 10 ((ys.length : Int) - 1 - (i : Int)).toNat 0 (y' := y) rfl rfl rfl rfl ag_3 rfl rfl rfl rfl gx2 rfl rfl ?_
    refine Run.nil ?_
    refine blk_norm ?_; refine thn_next ?_
    refine Zc ?_
    refine Zm ?_
    refine Za ?_
    refine Zm ?_
    refine Run.nil ?_
    refine thn_next ⟨(i + 1, (ys.set i x).set ((ys.length : Int) - 1 - (i : Int)).toNat y), ⟨by simp only; omega, by simp [hyl]⟩, by simp only; omega, Ko.go, ent.gc⟩
  · refine Zj ?_
    refine thn_next ?_
    refine WP.trim [11, 12, 8, 9, 10, 7, 5, 6, 1, 2] [0, 1, 2, 3, 4, 5, 6, 7, 8, 9, 10, 11, 12, 13, 14, 15] ?_
    refine Zp ?_
    refine Zm ?_
    refine Zn ?_
    refine Zf fo_38_0 ?_
    refine Zf fo_36_0 ?_
    refine Zl 0 ag_34 ?_
    refine Run.idxO 1 rfl rfl rfl sl_34 rfl rfl rfl rfl (by omega) (by simp) ?_
    refine Run.loadOagg 1 0 rfl rfl ag_25 rfl rfl rfl rfl rfl (y := ((G, px, bx) : RFun)) rfl ?_
    refine Run.callL [] [2, 3, 4] ok_12 (fun g hg hd => live_ok (un hR1 g) (hT1.mono (sub_un_left hR1 g)) G px bx (q_view hrx hg hd (by omega) (by omega)) hSG) ?_; rintro _ _ hres; obtain ⟨o1b, o2b, Pb, Qb, rfl, heb, hPb, hQb⟩ := live_uni hres; refine Run.via (ent.app (ent.app heb (ent.refl _)) (ent.refl _)) ?_
    refine Zm ?_
    refine Run.extract rfl rfl rfl rfl rfl ?_
    refine Run.extract rfl rfl rfl rfl rfl ?_
    refine Run.extract rfl rfl rfl rfl rfl ?_
    iterate 3 refine Zm ?_
    refine Ze ?_
    refine WP.trim [15, 16, 17, 11, 12, 8, 9, 10, 7, 5, 6, 1, 2] [7, 8, 4, 5, 6, 9, 10, 11, 12, 13, 14, 0, 1, 2, 3, 15, 16, 17, 18, 19] ?_
    refine Zp ?_
    refine Zm ?_
    refine Zn ?_
    refine Zf fo_38_0 ?_
    refine Zf fo_36_0 ?_
    refine Zl 0 ag_34 ?_
    refine Run.idxO 1 rfl rfl rfl sl_34 rfl rfl rfl rfl (by omega) (by simp) ?_
    refine Run.loadOagg 1 0 rfl rfl ag_25 rfl rfl rfl rfl rfl (y := ((G, px, bx) : RFun)) rfl ?_
    refine Zm ?_
    refine Run.callL [] [2, 3, 4, 10] ok_17 (fun g hg hd => intervals_ok 262144 sortStableF (un hR1 g) (hT1.mono (sub_un_left hR1 g)) G px bx iv ys (q_view4 hrx hg hd (by omega) (by omega)) hSG (lent_at 3 rfl hg hd) (by omega) (fun h => (formQ h).r1)) ?_; rintro _ _ hres; obtain ⟨sb, zsb, rfl, hib, hzb⟩ := iv_uni hSG (by omega) hres; refine Run.via (ent.app (ent.app hib (ent.refl _)) (ent.refl _)) ?_
    refine Zm ?_
    refine Run.extract rfl rfl rfl rfl rfl ?_
    refine Run.extract rfl rfl rfl rfl rfl ?_
    refine Zm ?_
    refine Zm ?_
    refine Ze ?_
    refine WP.trim [18, 19, 15, 16, 17, 11, 12, 8, 9, 10, 7, 5, 6, 1, 2] [7, 8, 9, 10, 11, 4, 16, 17, 18, 19, 20, 12, 13, 14, 15, 0] ?_
    refine Zp ?_
    refine Run.loadRagg rfl rfl ag_25 rfl rfl hrow rfl ?_
    iterate 6 refine Zm ?_
    refine Run.callL [] [6, 7, 8, 9, 10] ok_53 (fun g hg hd => toldAll_ok (un hR1 g) F su sv lv line o1a.val o2a.val sa.val zsa (hV1.mono (sub_un_left hR1 g)) hSF (hl1.mono (sub_un_left hR1 g)) (by omega) (by omega) (lent_rowsE hg hd hPa 0 1 rfl rfl) (lent_rowsE hg hd hQa 2 3 rfl rfl) (lent_at 4 rfl hg hd) hza) ?_; rintro _ _ ⟨rfl, rfl⟩
    refine Zm ?_
    refine Zm ?_
    refine Zn ?_
    refine Zf fo_38_0 ?_
    refine Zf fo_36_0 ?_
    refine Zl 5 ag_34 ?_
    refine Run.idxO 6 rfl rfl rfl sl_34 rfl rfl rfl rfl (by omega) (by simp) ?_
    refine Run.loadOagg 6 0 rfl rfl ag_25 rfl rfl rfl rfl rfl (y := ((G, py, by') : RFun)) rfl ?_
    iterate 6 refine Zm ?_
    refine Run.callL [] [7, 8, 9, 10, 11, 12, 13, 14, 15] ok_53 (fun g hg hd => toldAll_ok (un hR1 g) G py by' iv ys o1b.val o2b.val sb.val zsb (q_view4 hry hg hd (by omega) (by omega)) hSG (lent_at 3 rfl hg hd) (by omega) (by omega) (lent_rowsE hg hd hPb 4 5 rfl rfl) (lent_rowsE hg hd hQb 6 7 rfl rfl) (lent_at 8 rfl hg hd) hzb) ?_; rintro _ _ ⟨rfl, rfl⟩
    refine Zq ?_
    refine Zm ?_
    refine Ze ?_
    refine WP.ret ?_
    exact retT [4] _ rfl rfl ⟨_, ent.none _, rfl, rfl⟩
end Go.Proofs.YtjjfehdlmdhhmaaDoor
end
