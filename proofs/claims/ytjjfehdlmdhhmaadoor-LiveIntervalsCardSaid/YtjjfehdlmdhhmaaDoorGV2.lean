/- stays: all that was handed in is as it was; walked. -/
import Derived.Test.YtjjfehdlmdhhmaaDoorGV1
section
/- stays: all that was handed in is as it was; walked. -/
namespace Go.Proofs.YtjjfehdlmdhhmaaDoor
open Go.Sep
set_option linter.unusedSimpArgs false
set_option linter.unusedVariables false
attribute [local irreducible] blk slA mp mpF rows rowsBut many

set_option maxHeartbeats 2000000 in
set_option maxRecDepth 100000 in
theorem stays_ok (hR : Heap) (lb : Nat) (fv : SV) (m : Int) (raws : List RFun) (Fs : List LFun) (hL : LeaseR hR lb Fs) (hl : SlR encFun.rd hR fv.val raws) (hlen : raws.length = Fs.length) (hn : Fs.length ≤ 1000) (hF : ∀ (i : Nat) (r : RFun) (F : LFun), raws[i]? = some r → Fs[i]? = some F → r.1 = F ∧ FitV hR F r.2.1 r.2.2) :
    Tri Tryd.prog hR 15 #[.pointer (some ⟨lb, 0, none⟩), .agg ⟨[fv.val, .int .i64 m]⟩] [] fun u Γ' => u = .bool true ∧ Γ' = [] := by
  refine Tri.ent (Tri.of (args := [.pointer (some ⟨lb, 0, none⟩), .agg ⟨[fv.val, .int .i64 m]⟩]) Tryd.func15 rfl Tryd.ntmps15 (by simp) ?_)
  obtain ⟨w, ys, hyl, hc0, hw, hY⟩ := hL
  have hwr : SlR encFun.rd hR (w.cut 5 0 Fs.length).val ys := by rw [← hyl]; exact cut_read rfl hw
  have hwb : (w.cut 5 0 Fs.length).cut 5 0 ((raws.length : Int) + 1).toNat = w := by
    have h1 : ((raws.length : Int) + 1).toNat = ys.length + 1 := by omega
    rw [h1, ← hyl]; exact cut_back hw
  have hwc := (slr_cap hw).2
  have hwl : (ys ++ [mFun]).length = raws.length + 1 := by simp; omega
  rw [hwl] at hwc
  have hwc2 : (w.cut 5 0 Fs.length).c = w.c := by simp [SV.cut]
  have gm : (ys ++ [mFun])[(raws.length : Int).toNat]? = some mFun := by rw [Int.toNat_natCast, hlen, ← hyl]; simp
  refine WP.seq ?_
  refine WP.plain cf0 rfl ?_
  refine Run.box rfl rfl rfl rfl rfl ?_
  intro b3
  refine Run.mv rfl rfl rfl rfl ?_
  refine Run.nil ?_
  refine thn_next ?_
  refine WP.seq ?_
  refine WP.seq ?_
  refine WP.drawn0 cf0 mixed rfl (by kernel_rfl) ?_
  refine Run.mv rfl rfl rfl rfl ?_
  refine Run.nilCheck rfl rfl rfl rfl ?_
  refine Run.fieldAddr rfl rfl fo_38_0 rfl rfl ?_
  refine Run.fieldAddr rfl rfl fo_36_0 rfl rfl ?_
  refine Run.loadR rfl rfl ag_34 rfl rfl hc0 ?_
  refine Run.lenR rfl rfl sl_34 rfl rfl hwr ?_
  refine Run.fieldAddr rfl rfl fo_36_0 rfl rfl ?_
  refine Run.loadB 0 rfl rfl ag_34 rfl rfl rfl rfl rfl ?_
  refine Run.lenR rfl rfl sl_34 rfl rfl hl ?_
  refine Run.int2 rfl rfl rfl rfl rfl rfl ?_
  refine Run.ff (by omega) ?_
  refine Run.mv rfl rfl rfl rfl ?_
  refine Run.mv rfl rfl rfl rfl ?_
  refine Run.nilCheck rfl rfl rfl rfl ?_
  refine Run.fieldAddr rfl rfl fo_38_0 rfl rfl ?_
  refine Run.fieldAddr rfl rfl fo_36_0 rfl rfl ?_
  refine Run.loadR rfl rfl ag_34 rfl rfl hc0 ?_
  refine Run.fieldAddr rfl rfl fo_36_0 rfl rfl ?_
  refine Run.loadB 0 rfl rfl ag_34 rfl rfl rfl rfl rfl ?_
  refine Run.lenR rfl rfl sl_34 rfl rfl hl ?_
  refine Run.add64 rfl rfl rfl rfl rfl (by first | omega | (simp <;> omega)) (by first | omega | (simp <;> omega)) ?_
  refine Run.sliceV (sv := w.cut 5 0 Fs.length) rfl rfl sl_34 rfl rfl rfl rfl (by omega) (by omega) (by rw [hwc2]; omega) ?_; refine Run.eqv (congrArg SV.val hwb) ?_
  refine Run.fieldAddr rfl rfl fo_36_0 rfl rfl ?_
  refine Run.loadB 0 rfl rfl ag_34 rfl rfl rfl rfl rfl ?_
  refine Run.lenR rfl rfl sl_34 rfl rfl hl ?_
  refine Run.idxR rfl rfl rfl sl_34 rfl rfl hw (by rfl) (by omega) (by rw [hwl]; omega) ?_
  refine Run.fieldAddr rfl rfl fo_25_0 rfl rfl ?_
  refine Run.loadR rfl rfl ag_9 rfl rfl (SlR.cell0 hw gm rfl) ?_
  refine Run.neStr0 (a := markF.name) rfl rfl rfl rfl rfl ?_
  refine Run.pick rfl rfl rfl rfl rfl ?_
  refine Run.nil ?_
  refine thn_next ?_
  refine WP.cond (t := false) rfl (fun h => by cases h) (fun _ => ?_)
  refine WP.skip ?_; refine thn_next ?_
  refine WP.sup (ρ' := [(0, .pointer (some ⟨lb, 0, none⟩)), (3, .pointer (some ⟨b3, 0, none⟩))]) (Γ' := [blk b3 [fv.val, .int .i64 m] 36]) (covers_get ⟨rfl, rfl, trivial⟩) ent.go ?_
  refine WP.meetK (α := Unit) (fun _ => True) (fun _ => []) (fun _ => [blk b3 [fv.val, .int .i64 m] 36]) ?_ ?_
  · refine WP.seq ?_
    refine WP.plain cf0 rfl ?_
    refine Run.mv rfl rfl rfl rfl ?_
    refine Run.nil ?_
    refine thn_next ?_
    refine WP.block ?_
    refine WP.loopK (α := Nat) (fun i => i ≤ raws.length) (fun i => [(5, .int .i64 (i : Int))]) (fun i => [blk b3 [fv.val, .int .i64 m] 36]) (fun i => raws.length - i) 0 (Nat.zero_le _) ⟨(by repeat first | exact trivial | refine ⟨rfl, ?_⟩), rfl, rfl⟩ ent.go ?_
    intro i hi
    refine WP.seq ?_
    refine WP.seq ?_
    refine WP.plain cf0 rfl ?_
    refine Run.mv rfl rfl rfl rfl ?_
    refine Run.fieldAddr rfl rfl fo_36_0 rfl rfl ?_
    refine Run.loadB 0 rfl rfl ag_34 rfl rfl rfl rfl rfl ?_
    refine Run.lenR rfl rfl sl_34 rfl rfl hl ?_
    refine Run.int2 rfl rfl rfl rfl rfl rfl ?_
    refine Run.nil ?_
    refine thn_next ?_
    refine WP.ite rfl (fun hlt => ?_) (fun hge => ?_)
    · refine WP.skip ?_; refine thn_next ?_
      obtain ⟨F', hFi⟩ : ∃ y, Fs[i]? = some y := ⟨_, List.getElem?_eq_getElem (by omega)⟩
      obtain ⟨⟨F, su, sv⟩, gr⟩ : ∃ y, raws[i]? = some y := ⟨_, List.getElem?_eq_getElem (by omega)⟩
      obtain ⟨e, hFV⟩ := hF i _ _ gr hFi
      simp only at e hFV
      subst e
      obtain ⟨y, gy⟩ : ∃ y, ys[i]? = some y := ⟨_, List.getElem?_eq_getElem (by omega)⟩
      obtain ⟨wp, gw, rs, rfl, hwp, hrl, hgw, hB⟩ := hY i _ _ gy hFi
      have gr' : raws[(i : Int).toNat]? = some ((F, su, sv) : RFun) := gr
      have gy' : ys[(i : Int).toNat]? = some ((F, wp.cut 1 0 F.params.length, gw.cut 4 0 F.blocks.length) : RFun) := gy
      have hv := hFV.v.hv
      have hp := hFV.v.hu
      have hps := hFV.v.sp
      have hbs := hFV.v.sb
      have hS := hFV.s
      have hgr : SlR encBlk.rd hR (gw.cut 4 0 F.blocks.length).val rs := by rw [← hrl]; exact cut_read rfl hgw
      have hgb : (gw.cut 4 0 F.blocks.length).cut 4 0 ((F.blocks.length : Int) + 1).toNat = gw := by
        have h1 : ((F.blocks.length : Int) + 1).toNat = rs.length + 1 := by omega
        rw [h1, ← hrl]; exact cut_back hgw
      have hgl : (rs ++ [mBlk]).length = F.blocks.length + 1 := by simp; omega
      have hgc := (slr_cap hgw).2
      rw [hgl] at hgc
      have hgc2 : (gw.cut 4 0 F.blocks.length).c = gw.c := by simp [SV.cut]
      have gm2 : (rs ++ [mBlk])[(F.blocks.length : Int).toNat]? = some mBlk := by rw [Int.toNat_natCast, ← hrl]; simp
      have hyr : ys.length = raws.length := by omega
      refine WP.sup (ρ' := [(5, .int .i64 (i : Int)), (5, .int .i64 0), (0, .pointer (some ⟨lb, 0, none⟩)), (3, .pointer (some ⟨b3, 0, none⟩))]) (Γ' := [blk b3 [fv.val, .int .i64 m] 36]) (Kp.sup (car := [(5, .int .i64 (i : Int))]) (ρ := [(5, .int .i64 0), (0, .pointer (some ⟨lb, 0, none⟩)), (3, .pointer (some ⟨b3, 0, none⟩))]) ⟨(by repeat first | exact trivial | refine ⟨rfl, ?_⟩), rfl, rfl⟩) ent.go ?_
      refine WP.meetK (α := Unit) (fun _ => True) (fun _ => []) (fun _ => [blk b3 [fv.val, .int .i64 m] 36]) ?_ ?_
      · refine WP.block ?_
        refine WP.seq ?_
        refine WP.via (Γ' := [] ++ [blk b3 [fv.val, .int .i64 m] 36]) (ent.refl _) ?_
        refine WP.drawnF cfF [0, 1, 2, 3, 4, 5, 6, 7, 8, 9, 10, 11, 12, 13, 14, 15] [16] ([blk b3 [fv.val, .int .i64 m] 36]) mixed rfl rfl (by kernel_rfl) (fun gF hgF hdF => ?_)
        refine Run.fieldAddr rfl rfl fo_36_0 rfl rfl ?_
        have sF := sub_un_left hR gF; refine Run.loadF rfl rfl ag_34 rfl rfl (lent_blk (v := fv.val) 0 0 rfl rfl hgF hdF) ?_
        refine Run.mv rfl rfl rfl rfl ?_
        refine Run.idxR rfl rfl rfl sl_34 rfl rfl (hl.mono sF) (by rfl) (by omega) (by omega) ?_
        refine Run.loadFagg rfl rfl ag_25 rfl rfl (SlR.row (hl.mono sF) gr') rfl ?_
        refine Run.mv rfl rfl rfl rfl ?_
        refine Run.nilCheck rfl rfl rfl rfl ?_
        refine Run.fieldAddr rfl rfl fo_38_0 rfl rfl ?_
        refine Run.fieldAddr rfl rfl fo_36_0 rfl rfl ?_
        refine Run.loadF rfl rfl ag_34 rfl rfl (hc0.mono sF) ?_
        refine Run.mv rfl rfl rfl rfl ?_
        refine Run.idxR rfl rfl rfl sl_34 rfl rfl (hwr.mono sF) (by rfl) (by omega) (by omega) ?_
        refine Run.loadFagg rfl rfl ag_25 rfl rfl (SlR.row (hwr.mono sF) gy') rfl ?_
        refine Run.alloc rfl zr_25 rfl rfl rfl ?_
        intro b6
        refine Run.alloc rfl zr_25 rfl rfl rfl ?_
        intro b7
        refine Run.storeB 0 rfl rfl rfl rfl ag_25 rfl rfl rfl rfl rfl ?_
        refine Run.nil ?_
        refine Run.storeB 1 rfl rfl rfl rfl ag_25 rfl rfl rfl rfl rfl ?_
        refine Run.nil ?_
        refine thn_next ?_
        refine WP.sup (ρ' := [(6, .pointer (some ⟨b6, 0, none⟩)), (7, .pointer (some ⟨b7, 0, none⟩)), (5, .int .i64 (i : Int)), (5, .int .i64 0), (0, .pointer (some ⟨lb, 0, none⟩)), (3, .pointer (some ⟨b3, 0, none⟩))]) (Γ' := [blk b3 [fv.val, .int .i64 m] 36, blk b6 (fcs F su sv) 25, blk b7 (fcs F (wp.cut 1 0 F.params.length) (gw.cut 4 0 F.blocks.length)) 25]) (Kp.sup (car := [(6, .pointer (some ⟨b6, 0, none⟩)), (7, .pointer (some ⟨b7, 0, none⟩)), (5, .int .i64 (i : Int))]) (ρ := [(5, .int .i64 0), (0, .pointer (some ⟨lb, 0, none⟩)), (3, .pointer (some ⟨b3, 0, none⟩))]) ⟨(by repeat first | exact trivial | refine ⟨rfl, ?_⟩), rfl, rfl⟩) ent.gn ?_
        refine WP.seq ?_
        refine WP.seq ?_
        refine WP.drawn0 cf0 mixed rfl (by kernel_rfl) ?_
        refine Run.fieldAddr rfl rfl fo_25_0 rfl rfl ?_
        refine Run.loadB 2 rfl rfl ag_9 rfl rfl rfl rfl rfl ?_
        refine Run.fieldAddr rfl rfl fo_25_0 rfl rfl ?_
        refine Run.loadB 1 rfl rfl ag_9 rfl rfl rfl rfl rfl ?_
        refine Run.neStr0 (a := F.name) rfl rfl rfl rfl rfl ?_
        refine Run.mv rfl rfl rfl rfl ?_
        refine Run.fieldAddr rfl rfl fo_25_2 rfl rfl ?_
        refine Run.loadB 2 rfl rfl ag_3 rfl rfl rfl rfl rfl ?_
        refine Run.fieldAddr rfl rfl fo_25_2 rfl rfl ?_
        refine Run.loadB 1 rfl rfl ag_3 rfl rfl rfl rfl rfl ?_
        refine Run.int2 rfl rfl rfl rfl rfl rfl ?_
        refine Run.ff (fun h => h rfl) ?_
        refine Run.pick rfl rfl rfl rfl rfl ?_
        refine Run.mv rfl rfl rfl rfl ?_
        refine Run.fieldAddr rfl rfl fo_25_3 rfl rfl ?_
        refine Run.loadB 2 rfl rfl ag_3 rfl rfl rfl rfl rfl ?_
        refine Run.fieldAddr rfl rfl fo_25_3 rfl rfl ?_
        refine Run.loadB 1 rfl rfl ag_3 rfl rfl rfl rfl rfl ?_
        refine Run.int2 rfl rfl rfl rfl rfl rfl ?_
        refine Run.ff (fun h => h rfl) ?_
        refine Run.pick rfl rfl rfl rfl rfl ?_
        refine Run.mv rfl rfl rfl rfl ?_
        refine Run.fieldAddr rfl rfl fo_25_1 rfl rfl ?_
        refine Run.loadB 2 rfl rfl ag_22 rfl rfl rfl rfl rfl ?_
        refine Run.fieldAddr rfl rfl fo_25_1 rfl rfl ?_
        refine Run.loadB 1 rfl rfl ag_22 rfl rfl rfl rfl rfl ?_
        refine Run.call (Δ := []) (Θ := [blk b3 [fv.val, .int .i64 m] 36, blk b6 (fcs F su sv) 25, blk b7 (fcs F (wp.cut 1 0 F.params.length) (gw.cut 4 0 F.blocks.length)) 25]) rfl rfl rfl rfl ok_20 rfl rfl ent.go (kept_ok hR wp su.val F.params hwp hp hps) ?_; rintro _ _ ⟨rfl, rfl⟩
        refine Run.bnotB rfl rfl rfl rfl ?_
        refine Run.eqv (v' := .bool false) rfl ?_
        refine Run.pick rfl rfl rfl rfl rfl ?_
        refine Run.mv rfl rfl rfl rfl ?_
        refine Run.fieldAddr rfl rfl fo_25_4 rfl rfl ?_
        refine Run.loadB 2 rfl rfl ag_23 rfl rfl rfl rfl rfl ?_
        refine Run.lenR rfl rfl sl_23 rfl rfl hgr ?_
        refine Run.fieldAddr rfl rfl fo_25_4 rfl rfl ?_
        refine Run.loadB 1 rfl rfl ag_23 rfl rfl rfl rfl rfl ?_
        refine Run.lenR rfl rfl sl_23 rfl rfl hv ?_
        refine Run.int2 rfl rfl rfl rfl rfl rfl ?_
        refine Run.ff (by omega) ?_
        refine Run.pick rfl rfl rfl rfl rfl ?_
        refine Run.mv rfl rfl rfl rfl ?_
        refine Run.fieldAddr rfl rfl fo_25_4 rfl rfl ?_
        refine Run.loadB 2 rfl rfl ag_23 rfl rfl rfl rfl rfl ?_
        refine Run.fieldAddr rfl rfl fo_25_4 rfl rfl ?_
        refine Run.loadB 1 rfl rfl ag_23 rfl rfl rfl rfl rfl ?_
        refine Run.lenR rfl rfl sl_23 rfl rfl hv ?_
        refine Run.add64 rfl rfl rfl rfl rfl (by first | omega | (simp <;> omega)) (by first | omega | (simp <;> omega)) ?_
        refine Run.sliceV (sv := gw.cut 4 0 F.blocks.length) rfl rfl sl_23 rfl rfl rfl rfl (by omega) (by omega) (by rw [hgc2]; omega) ?_; refine Run.eqv (congrArg SV.val hgb) ?_
        refine Run.fieldAddr rfl rfl fo_25_4 rfl rfl ?_
        refine Run.loadB 1 rfl rfl ag_23 rfl rfl rfl rfl rfl ?_
        refine Run.lenR rfl rfl sl_23 rfl rfl hv ?_
        refine Run.idxR rfl rfl rfl sl_23 rfl rfl hgw (by rfl) (by omega) (by rw [hgl]; omega) ?_
        refine Run.fieldAddr rfl rfl fo_56_1 rfl rfl ?_
        refine Run.fieldAddr rfl rfl fo_54_0 rfl rfl ?_
        refine Run.loadR rfl rfl ag_3 rfl rfl (SlR.cell hgw gm2 (off := 1) rfl) ?_
        refine Run.int2 rfl rfl rfl rfl rfl rfl ?_
        refine Run.ff (fun h => h rfl) ?_
        refine Run.pick rfl rfl rfl rfl rfl ?_
        refine Run.nil ?_
        refine thn_next ?_
        refine WP.cond (t := false) rfl (fun h => by cases h) (fun _ => ?_)
        refine WP.skip ?_; refine thn_next ?_
        refine WP.sup (ρ' := [(6, .pointer (some ⟨b6, 0, none⟩)), (7, .pointer (some ⟨b7, 0, none⟩)), (5, .int .i64 (i : Int)), (5, .int .i64 0), (0, .pointer (some ⟨lb, 0, none⟩)), (3, .pointer (some ⟨b3, 0, none⟩))]) (Γ' := [blk b3 [fv.val, .int .i64 m] 36, blk b6 (fcs F su sv) 25, blk b7 (fcs F (wp.cut 1 0 F.params.length) (gw.cut 4 0 F.blocks.length)) 25]) (Kp.sup (car := []) (ρ := [(6, .pointer (some ⟨b6, 0, none⟩)), (7, .pointer (some ⟨b7, 0, none⟩)), (5, .int .i64 (i : Int)), (5, .int .i64 0), (0, .pointer (some ⟨lb, 0, none⟩)), (3, .pointer (some ⟨b3, 0, none⟩))]) ⟨(by repeat first | exact trivial | refine ⟨rfl, ?_⟩), rfl, rfl⟩) ent.go ?_
        refine WP.seq ?_
        refine WP.plain cf0 rfl ?_
        refine Run.mv rfl rfl rfl rfl ?_
        refine Run.nil ?_
        refine thn_next ?_
        refine WP.block ?_
        refine WP.loopK (α := Nat) (fun k => k ≤ F.blocks.length) (fun k => [(8, .int .i64 (k : Int))]) (fun k => [blk b3 [fv.val, .int .i64 m] 36, blk b6 (fcs F su sv) 25, blk b7 (fcs F (wp.cut 1 0 F.params.length) (gw.cut 4 0 F.blocks.length)) 25]) (fun k => F.blocks.length - k) 0 (Nat.zero_le _) ⟨(by repeat first | exact trivial | refine ⟨rfl, ?_⟩), rfl, rfl⟩ ent.go ?_
        intro k hk
        refine WP.seq ?_
        refine WP.seq ?_
        refine WP.plain cf0 rfl ?_
        refine Run.mv rfl rfl rfl rfl ?_
        refine Run.fieldAddr rfl rfl fo_25_4 rfl rfl ?_
        refine Run.loadB 1 rfl rfl ag_23 rfl rfl rfl rfl rfl ?_
        refine Run.lenR rfl rfl sl_23 rfl rfl hv ?_
        refine Run.int2 rfl rfl rfl rfl rfl rfl ?_
        refine Run.nil ?_
        refine thn_next ?_
        refine WP.ite rfl (fun hlt2 => ?_) (fun hge2 => ?_)
        · refine WP.skip ?_; refine thn_next ?_
          obtain ⟨b, gB⟩ : ∃ y, F.blocks[(k : Int).toNat]? = some y := ⟨_, List.getElem?_eq_getElem (by omega)⟩
          have gB' : F.blocks[k]? = some b := gB
          have hbm := List.mem_of_getElem? gB'
          have hb1 := hS.bodies b hbm
          have hb2 := hS.tos b hbm
          have hb3 := hS.args b hbm
          obtain ⟨_, ⟨bu0, bt0, rfl, hbu, hbt⟩, hrow⟩ := hv.at gB
          obtain ⟨bu, rfl, _, _⟩ := SlR.sv hbu
          obtain ⟨bt, rfl, _, _⟩ := SlR.sv hbt
          obtain ⟨⟨ru, rk, rv, rt⟩, gR⟩ : ∃ y, rs[k]? = some y := ⟨_, List.getElem?_eq_getElem (by omega)⟩
          obtain ⟨wt, e, hwt, cw, xr, e2, hxl, hcw, hI⟩ := hB k _ _ gR gB'
          simp only [Prod.mk.injEq, true_and] at e e2
          obtain ⟨rfl, rfl, rfl⟩ := e
          subst e2
          have gR' : rs[(k : Int).toNat]? = some ((cw.cut 4 0 b.body.length, b.kind, b.value, wt.cut 1 0 b.to.length) : RBlk) := gR
          have hcr : SlR encIns.rd hR (cw.cut 4 0 b.body.length).val xr := by rw [← hxl]; exact cut_read rfl hcw
          have hcb : (cw.cut 4 0 b.body.length).cut 4 0 ((b.body.length : Int) + 1).toNat = cw := by
            have h1 : ((b.body.length : Int) + 1).toNat = xr.length + 1 := by omega
            rw [h1, ← hxl]; exact cut_back hcw
          have hcl : (xr ++ [mIns]).length = b.body.length + 1 := by simp; omega
          have hcc := (slr_cap hcw).2
          rw [hcl] at hcc
          have hcc2 : (cw.cut 4 0 b.body.length).c = cw.c := by simp [SV.cut]
          have gm3 : (xr ++ [mIns])[(b.body.length : Int).toNat]? = some mIns := by rw [Int.toNat_natCast, ← hxl]; simp
          refine WP.sup (ρ' := [(8, .int .i64 (k : Int)), (8, .int .i64 0), (6, .pointer (some ⟨b6, 0, none⟩)), (7, .pointer (some ⟨b7, 0, none⟩)), (5, .int .i64 (i : Int)), (5, .int .i64 0), (0, .pointer (some ⟨lb, 0, none⟩)), (3, .pointer (some ⟨b3, 0, none⟩))]) (Γ' := [blk b3 [fv.val, .int .i64 m] 36, blk b6 (fcs F su sv) 25, blk b7 (fcs F (wp.cut 1 0 F.params.length) (gw.cut 4 0 F.blocks.length)) 25]) (Kp.sup (car := [(8, .int .i64 (k : Int))]) (ρ := [(8, .int .i64 0), (6, .pointer (some ⟨b6, 0, none⟩)), (7, .pointer (some ⟨b7, 0, none⟩)), (5, .int .i64 (i : Int)), (5, .int .i64 0), (0, .pointer (some ⟨lb, 0, none⟩)), (3, .pointer (some ⟨b3, 0, none⟩))]) ⟨(by repeat first | exact trivial | refine ⟨rfl, ?_⟩), rfl, rfl⟩) ent.go ?_
          refine WP.meetK (α := Unit) (fun _ => True) (fun _ => []) (fun _ => [blk b3 [fv.val, .int .i64 m] 36, blk b6 (fcs F su sv) 25, blk b7 (fcs F (wp.cut 1 0 F.params.length) (gw.cut 4 0 F.blocks.length)) 25]) ?_ ?_
          · refine WP.block ?_
            refine WP.seq ?_
            refine WP.via (Γ' := [blk b3 [fv.val, .int .i64 m] 36] ++ [blk b6 (fcs F su sv) 25, blk b7 (fcs F (wp.cut 1 0 F.params.length) (gw.cut 4 0 F.blocks.length)) 25]) (ent.refl _) ?_
            refine WP.drawnF cfF [0, 1, 2, 3, 4, 5, 6, 7, 8, 9, 10, 11, 12] [13] ([blk b6 (fcs F su sv) 25, blk b7 (fcs F (wp.cut 1 0 F.params.length) (gw.cut 4 0 F.blocks.length)) 25]) mixed rfl rfl (by kernel_rfl) (fun gF hgF hdF => ?_)
            refine Run.fieldAddr rfl rfl fo_25_4 rfl rfl ?_
            have sF := sub_un_left hR gF; refine Run.loadF rfl rfl ag_23 rfl rfl (lent_blk (v := sv.val) 0 4 rfl rfl hgF hdF) ?_
            refine Run.mv rfl rfl rfl rfl ?_
            refine Run.idxR rfl rfl rfl sl_23 rfl rfl (hv.mono sF) (by rfl) (by omega) (by omega) ?_
            refine Run.loadFagg rfl rfl ag_56 rfl rfl (hrow.mono sF) rfl ?_
            refine Run.fieldAddr rfl rfl fo_25_4 rfl rfl ?_
            refine Run.loadF rfl rfl ag_23 rfl rfl (lent_blk (v := (gw.cut 4 0 F.blocks.length).val) 1 4 rfl rfl hgF hdF) ?_
            refine Run.mv rfl rfl rfl rfl ?_
            refine Run.idxR rfl rfl rfl sl_23 rfl rfl (hgr.mono sF) (by rfl) (by omega) (by omega) ?_
            refine Run.loadFagg rfl rfl ag_56 rfl rfl (SlR.row (hgr.mono sF) gR') rfl ?_
            refine Run.alloc rfl zr_56 rfl rfl rfl ?_
            intro b9
            refine Run.alloc rfl zr_56 rfl rfl rfl ?_
            intro b10
            refine Run.storeB 1 rfl rfl rfl rfl ag_56 rfl rfl rfl rfl rfl ?_
            refine Run.nil ?_
            refine Run.storeB 2 rfl rfl rfl rfl ag_56 rfl rfl rfl rfl rfl ?_
            refine Run.nil ?_
            refine thn_next ?_
            refine WP.sup (ρ' := [(9, .pointer (some ⟨b9, 0, none⟩)), (10, .pointer (some ⟨b10, 0, none⟩)), (8, .int .i64 (k : Int)), (8, .int .i64 0), (6, .pointer (some ⟨b6, 0, none⟩)), (7, .pointer (some ⟨b7, 0, none⟩)), (5, .int .i64 (i : Int)), (5, .int .i64 0), (0, .pointer (some ⟨lb, 0, none⟩)), (3, .pointer (some ⟨b3, 0, none⟩))]) (Γ' := [blk b3 [fv.val, .int .i64 m] 36, blk b6 (fcs F su sv) 25, blk b7 (fcs F (wp.cut 1 0 F.params.length) (gw.cut 4 0 F.blocks.length)) 25, blk b9 [bu.val, .int .i64 b.kind, .int .i64 b.value, bt.val] 56, blk b10 [(cw.cut 4 0 b.body.length).val, .int .i64 b.kind, .int .i64 b.value, (wt.cut 1 0 b.to.length).val] 56]) (Kp.sup (car := [(9, .pointer (some ⟨b9, 0, none⟩)), (10, .pointer (some ⟨b10, 0, none⟩)), (8, .int .i64 (k : Int))]) (ρ := [(8, .int .i64 0), (6, .pointer (some ⟨b6, 0, none⟩)), (7, .pointer (some ⟨b7, 0, none⟩)), (5, .int .i64 (i : Int)), (5, .int .i64 0), (0, .pointer (some ⟨lb, 0, none⟩)), (3, .pointer (some ⟨b3, 0, none⟩))]) ⟨(by repeat first | exact trivial | refine ⟨rfl, ?_⟩), rfl, rfl⟩) ent.gn ?_
            refine WP.seq ?_
            refine WP.seq ?_
            refine WP.drawn0 cf0 mixed rfl (by kernel_rfl) ?_
            refine Run.fieldAddr rfl rfl fo_56_0 rfl rfl ?_
            refine Run.loadB 3 rfl rfl ag_52 rfl rfl rfl rfl rfl ?_
            refine Run.lenR rfl rfl sl_52 rfl rfl hbu ?_
            refine Run.fieldAddr rfl rfl fo_56_0 rfl rfl ?_
            refine Run.loadB 4 rfl rfl ag_52 rfl rfl rfl rfl rfl ?_
            refine Run.lenR rfl rfl sl_52 rfl rfl hcr ?_
            refine Run.int2 rfl rfl rfl rfl rfl rfl ?_
            refine Run.ff (by omega) ?_
            refine Run.mv rfl rfl rfl rfl ?_
            refine Run.fieldAddr rfl rfl fo_56_0 rfl rfl ?_
            refine Run.loadB 4 rfl rfl ag_52 rfl rfl rfl rfl rfl ?_
            refine Run.fieldAddr rfl rfl fo_56_0 rfl rfl ?_
            refine Run.loadB 3 rfl rfl ag_52 rfl rfl rfl rfl rfl ?_
            refine Run.lenR rfl rfl sl_52 rfl rfl hbu ?_
            refine Run.add64 rfl rfl rfl rfl rfl (by first | omega | (simp <;> omega)) (by first | omega | (simp <;> omega)) ?_
            refine Run.sliceV (sv := cw.cut 4 0 b.body.length) rfl rfl sl_52 rfl rfl rfl rfl (by omega) (by omega) (by rw [hcc2]; omega) ?_; refine Run.eqv (congrArg SV.val hcb) ?_
            refine Run.fieldAddr rfl rfl fo_56_0 rfl rfl ?_
            refine Run.loadB 3 rfl rfl ag_52 rfl rfl rfl rfl rfl ?_
            refine Run.lenR rfl rfl sl_52 rfl rfl hbu ?_
            refine Run.idxR rfl rfl rfl sl_52 rfl rfl hcw (by rfl) (by omega) (by rw [hcl]; omega) ?_
            refine Run.fieldAddr rfl rfl fo_67_0 rfl rfl ?_
            refine Run.loadR rfl rfl ag_3 rfl rfl (SlR.cell0 hcw gm3 rfl) ?_
            refine Run.int2 rfl rfl rfl rfl rfl rfl ?_
            refine Run.ff (fun h => h rfl) ?_
            refine Run.pick rfl rfl rfl rfl rfl ?_
            refine Run.mv rfl rfl rfl rfl ?_
            refine Run.fieldAddr rfl rfl fo_56_1 rfl rfl ?_
            refine Run.fieldAddr rfl rfl fo_54_0 rfl rfl ?_
            refine Run.loadB 3 rfl rfl ag_3 rfl rfl rfl rfl rfl ?_
            refine Run.fieldAddr rfl rfl fo_56_1 rfl rfl ?_
            refine Run.fieldAddr rfl rfl fo_54_0 rfl rfl ?_
            refine Run.loadB 4 rfl rfl ag_3 rfl rfl rfl rfl rfl ?_
            refine Run.int2 rfl rfl rfl rfl rfl rfl ?_
            refine Run.ff (fun h => h rfl) ?_
            refine Run.pick rfl rfl rfl rfl rfl ?_
            refine Run.mv rfl rfl rfl rfl ?_
            refine Run.fieldAddr rfl rfl fo_56_1 rfl rfl ?_
            refine Run.fieldAddr rfl rfl fo_54_1 rfl rfl ?_
            refine Run.loadB 3 rfl rfl ag_3 rfl rfl rfl rfl rfl ?_
            refine Run.fieldAddr rfl rfl fo_56_1 rfl rfl ?_
            refine Run.fieldAddr rfl rfl fo_54_1 rfl rfl ?_
            refine Run.loadB 4 rfl rfl ag_3 rfl rfl rfl rfl rfl ?_
            refine Run.int2 rfl rfl rfl rfl rfl rfl ?_
            refine Run.ff (fun h => h rfl) ?_
            refine Run.pick rfl rfl rfl rfl rfl ?_
            refine Run.mv rfl rfl rfl rfl ?_
            refine Run.fieldAddr rfl rfl fo_56_1 rfl rfl ?_
            refine Run.fieldAddr rfl rfl fo_54_2 rfl rfl ?_
            refine Run.loadB 4 rfl rfl ag_22 rfl rfl rfl rfl rfl ?_
            refine Run.fieldAddr rfl rfl fo_56_1 rfl rfl ?_
            refine Run.fieldAddr rfl rfl fo_54_2 rfl rfl ?_
            refine Run.loadB 3 rfl rfl ag_22 rfl rfl rfl rfl rfl ?_
            refine Run.call (Δ := []) (Θ := [blk b3 [fv.val, .int .i64 m] 36, blk b6 (fcs F su sv) 25, blk b7 (fcs F (wp.cut 1 0 F.params.length) (gw.cut 4 0 F.blocks.length)) 25, blk b9 [bu.val, .int .i64 b.kind, .int .i64 b.value, bt.val] 56, blk b10 [(cw.cut 4 0 b.body.length).val, .int .i64 b.kind, .int .i64 b.value, (wt.cut 1 0 b.to.length).val] 56]) rfl rfl rfl rfl ok_20 rfl rfl ent.go (kept_ok hR wt bt.val b.to hwt hbt hb2) ?_; rintro _ _ ⟨rfl, rfl⟩
            refine Run.bnotB rfl rfl rfl rfl ?_
            refine Run.eqv (v' := .bool false) rfl ?_
            refine Run.pick rfl rfl rfl rfl rfl ?_
            refine Run.nil ?_
            refine thn_next ?_
            refine WP.cond (t := false) rfl (fun h => by cases h) (fun _ => ?_)
            refine WP.skip ?_; refine thn_next ?_
            refine WP.sup (ρ' := [(9, .pointer (some ⟨b9, 0, none⟩)), (10, .pointer (some ⟨b10, 0, none⟩)), (8, .int .i64 (k : Int)), (8, .int .i64 0), (6, .pointer (some ⟨b6, 0, none⟩)), (7, .pointer (some ⟨b7, 0, none⟩)), (5, .int .i64 (i : Int)), (5, .int .i64 0), (0, .pointer (some ⟨lb, 0, none⟩)), (3, .pointer (some ⟨b3, 0, none⟩))]) (Γ' := [blk b3 [fv.val, .int .i64 m] 36, blk b6 (fcs F su sv) 25, blk b7 (fcs F (wp.cut 1 0 F.params.length) (gw.cut 4 0 F.blocks.length)) 25, blk b9 [bu.val, .int .i64 b.kind, .int .i64 b.value, bt.val] 56, blk b10 [(cw.cut 4 0 b.body.length).val, .int .i64 b.kind, .int .i64 b.value, (wt.cut 1 0 b.to.length).val] 56]) (Kp.sup (car := []) (ρ := [(9, .pointer (some ⟨b9, 0, none⟩)), (10, .pointer (some ⟨b10, 0, none⟩)), (8, .int .i64 (k : Int)), (8, .int .i64 0), (6, .pointer (some ⟨b6, 0, none⟩)), (7, .pointer (some ⟨b7, 0, none⟩)), (5, .int .i64 (i : Int)), (5, .int .i64 0), (0, .pointer (some ⟨lb, 0, none⟩)), (3, .pointer (some ⟨b3, 0, none⟩))]) ⟨(by repeat first | exact trivial | refine ⟨rfl, ?_⟩), rfl, rfl⟩) ent.go ?_
            refine WP.seq ?_
            refine WP.plain cf0 rfl ?_
            refine Run.mv rfl rfl rfl rfl ?_
            refine Run.nil ?_
            refine thn_next ?_
            refine WP.block ?_
            refine WP.loopK (α := Nat) (fun j => j ≤ b.body.length) (fun j => [(11, .int .i64 (j : Int))]) (fun j => [blk b3 [fv.val, .int .i64 m] 36, blk b6 (fcs F su sv) 25, blk b7 (fcs F (wp.cut 1 0 F.params.length) (gw.cut 4 0 F.blocks.length)) 25, blk b9 [bu.val, .int .i64 b.kind, .int .i64 b.value, bt.val] 56, blk b10 [(cw.cut 4 0 b.body.length).val, .int .i64 b.kind, .int .i64 b.value, (wt.cut 1 0 b.to.length).val] 56]) (fun j => b.body.length - j) 0 (Nat.zero_le _) ⟨(by repeat first | exact trivial | refine ⟨rfl, ?_⟩), rfl, rfl⟩ ent.go ?_
            intro j hj
            refine WP.seq ?_
            refine WP.seq ?_
            refine WP.plain cf0 rfl ?_
            refine Run.mv rfl rfl rfl rfl ?_
            refine Run.fieldAddr rfl rfl fo_56_0 rfl rfl ?_
            refine Run.loadB 3 rfl rfl ag_52 rfl rfl rfl rfl rfl ?_
            refine Run.lenR rfl rfl sl_52 rfl rfl hbu ?_
            refine Run.int2 rfl rfl rfl rfl rfl rfl ?_
            refine Run.nil ?_
            refine thn_next ?_
            refine WP.ite rfl (fun hlt3 => ?_) (fun hge3 => ?_)
            · refine WP.skip ?_; refine thn_next ?_
              obtain ⟨x, gx⟩ : ∃ y, b.body[(j : Int).toNat]? = some y := ⟨_, List.getElem?_eq_getElem (by omega)⟩
              have gx' : b.body[j]? = some x := gx
              have hx3 := hb3 x (List.mem_of_getElem? gx')
              obtain ⟨_, ⟨xa0, rfl, hxa⟩, hxrow⟩ := hbu.at gx
              obtain ⟨xa, rfl, _, _⟩ := SlR.sv hxa
              obtain ⟨xy, gxr⟩ : ∃ y, xr[j]? = some y := ⟨_, List.getElem?_eq_getElem (by omega)⟩
              obtain ⟨wa, rfl, hwa⟩ := hI j _ _ gxr gx'
              have gxr' : xr[(j : Int).toNat]? = some ((x.op, x.dst, x.imm, wa.cut 1 0 x.args.length) : RIns) := gxr
              refine WP.seq ?_
              refine WP.block ?_
              refine WP.seq ?_
              refine WP.via (Γ' := [blk b3 [fv.val, .int .i64 m] 36, blk b6 (fcs F su sv) 25, blk b7 (fcs F (wp.cut 1 0 F.params.length) (gw.cut 4 0 F.blocks.length)) 25] ++ [blk b9 [bu.val, .int .i64 b.kind, .int .i64 b.value, bt.val] 56, blk b10 [(cw.cut 4 0 b.body.length).val, .int .i64 b.kind, .int .i64 b.value, (wt.cut 1 0 b.to.length).val] 56]) (ent.refl _) ?_
              refine WP.drawnF cfF [0, 1, 2, 3, 4, 5, 6, 7, 8, 9, 10, 11, 12] [13] ([blk b9 [bu.val, .int .i64 b.kind, .int .i64 b.value, bt.val] 56, blk b10 [(cw.cut 4 0 b.body.length).val, .int .i64 b.kind, .int .i64 b.value, (wt.cut 1 0 b.to.length).val] 56]) mixed rfl rfl (by kernel_rfl) (fun gF hgF hdF => ?_)
              refine Run.fieldAddr rfl rfl fo_56_0 rfl rfl ?_
              have sF := sub_un_left hR gF; refine Run.loadF rfl rfl ag_52 rfl rfl (lent_blk (v := bu.val) 0 0 rfl rfl hgF hdF) ?_
              refine Run.mv rfl rfl rfl rfl ?_
              refine Run.idxR rfl rfl rfl sl_52 rfl rfl (hbu.mono sF) (by rfl) (by omega) (by omega) ?_
              refine Run.loadFagg rfl rfl ag_67 rfl rfl (hxrow.mono sF) rfl ?_
              refine Run.fieldAddr rfl rfl fo_56_0 rfl rfl ?_
              refine Run.loadF rfl rfl ag_52 rfl rfl (lent_blk (v := (cw.cut 4 0 b.body.length).val) 1 0 rfl rfl hgF hdF) ?_
              refine Run.mv rfl rfl rfl rfl ?_
              refine Run.idxR rfl rfl rfl sl_52 rfl rfl (hcr.mono sF) (by rfl) (by omega) (by omega) ?_
              refine Run.loadFagg rfl rfl ag_67 rfl rfl (SlR.row (hcr.mono sF) gxr') rfl ?_
              refine Run.alloc rfl zr_67 rfl rfl rfl ?_
              intro b12
              refine Run.alloc rfl zr_67 rfl rfl rfl ?_
              intro b13
              refine Run.storeB 3 rfl rfl rfl rfl ag_67 rfl rfl rfl rfl rfl ?_
              refine Run.nil ?_
              refine Run.storeB 4 rfl rfl rfl rfl ag_67 rfl rfl rfl rfl rfl ?_
              refine Run.nil ?_
              refine thn_next ?_
              refine WP.sup (ρ' := [(12, .pointer (some ⟨b12, 0, none⟩)), (13, .pointer (some ⟨b13, 0, none⟩)), (11, .int .i64 (j : Int)), (11, .int .i64 0), (9, .pointer (some ⟨b9, 0, none⟩)), (10, .pointer (some ⟨b10, 0, none⟩)), (8, .int .i64 (k : Int)), (8, .int .i64 0), (6, .pointer (some ⟨b6, 0, none⟩)), (7, .pointer (some ⟨b7, 0, none⟩)), (5, .int .i64 (i : Int)), (5, .int .i64 0), (0, .pointer (some ⟨lb, 0, none⟩)), (3, .pointer (some ⟨b3, 0, none⟩))]) (Γ' := [blk b12 [.int .i64 x.op, .int .i64 x.dst, .int .i64 x.imm, xa.val] 67, blk b13 [.int .i64 x.op, .int .i64 x.dst, .int .i64 x.imm, (wa.cut 1 0 x.args.length).val] 67, blk b3 [fv.val, .int .i64 m] 36, blk b6 (fcs F su sv) 25, blk b7 (fcs F (wp.cut 1 0 F.params.length) (gw.cut 4 0 F.blocks.length)) 25, blk b9 [bu.val, .int .i64 b.kind, .int .i64 b.value, bt.val] 56, blk b10 [(cw.cut 4 0 b.body.length).val, .int .i64 b.kind, .int .i64 b.value, (wt.cut 1 0 b.to.length).val] 56]) (Kp.sup (car := [(12, .pointer (some ⟨b12, 0, none⟩)), (13, .pointer (some ⟨b13, 0, none⟩)), (11, .int .i64 (j : Int))]) (ρ := [(11, .int .i64 0), (9, .pointer (some ⟨b9, 0, none⟩)), (10, .pointer (some ⟨b10, 0, none⟩)), (8, .int .i64 (k : Int)), (8, .int .i64 0), (6, .pointer (some ⟨b6, 0, none⟩)), (7, .pointer (some ⟨b7, 0, none⟩)), (5, .int .i64 (i : Int)), (5, .int .i64 0), (0, .pointer (some ⟨lb, 0, none⟩)), (3, .pointer (some ⟨b3, 0, none⟩))]) ⟨(by repeat first | exact trivial | refine ⟨rfl, ?_⟩), rfl, rfl⟩) ent.gn ?_
              refine WP.seq ?_
              refine WP.plain cf0 rfl ?_
              refine Run.fieldAddr rfl rfl fo_67_0 rfl rfl ?_
              refine Run.loadB 0 rfl rfl ag_3 rfl rfl rfl rfl rfl ?_
              refine Run.fieldAddr rfl rfl fo_67_0 rfl rfl ?_
              refine Run.loadB 1 rfl rfl ag_3 rfl rfl rfl rfl rfl ?_
              refine Run.int2 rfl rfl rfl rfl rfl rfl ?_
              refine Run.ff (fun h => h rfl) ?_
              refine Run.mv rfl rfl rfl rfl ?_
              refine Run.fieldAddr rfl rfl fo_67_1 rfl rfl ?_
              refine Run.loadB 0 rfl rfl ag_3 rfl rfl rfl rfl rfl ?_
              refine Run.fieldAddr rfl rfl fo_67_1 rfl rfl ?_
              refine Run.loadB 1 rfl rfl ag_3 rfl rfl rfl rfl rfl ?_
              refine Run.int2 rfl rfl rfl rfl rfl rfl ?_
              refine Run.pick rfl rfl rfl rfl rfl ?_
              refine Run.ff (fun h => h rfl) ?_
              refine Run.mv rfl rfl rfl rfl ?_
              refine Run.fieldAddr rfl rfl fo_67_2 rfl rfl ?_
              refine Run.loadB 0 rfl rfl ag_3 rfl rfl rfl rfl rfl ?_
              refine Run.fieldAddr rfl rfl fo_67_2 rfl rfl ?_
              refine Run.loadB 1 rfl rfl ag_3 rfl rfl rfl rfl rfl ?_
              refine Run.int2 rfl rfl rfl rfl rfl rfl ?_
              refine Run.pick rfl rfl rfl rfl rfl ?_
              refine Run.ff (fun h => h rfl) ?_
              refine Run.mv rfl rfl rfl rfl ?_
              refine Run.fieldAddr rfl rfl fo_67_3 rfl rfl ?_
              refine Run.loadB 1 rfl rfl ag_22 rfl rfl rfl rfl rfl ?_
              refine Run.fieldAddr rfl rfl fo_67_3 rfl rfl ?_
              refine Run.loadB 0 rfl rfl ag_22 rfl rfl rfl rfl rfl ?_
              refine Run.call (Δ := []) (Θ := [blk b12 [.int .i64 x.op, .int .i64 x.dst, .int .i64 x.imm, xa.val] 67, blk b13 [.int .i64 x.op, .int .i64 x.dst, .int .i64 x.imm, (wa.cut 1 0 x.args.length).val] 67, blk b3 [fv.val, .int .i64 m] 36, blk b6 (fcs F su sv) 25, blk b7 (fcs F (wp.cut 1 0 F.params.length) (gw.cut 4 0 F.blocks.length)) 25, blk b9 [bu.val, .int .i64 b.kind, .int .i64 b.value, bt.val] 56, blk b10 [(cw.cut 4 0 b.body.length).val, .int .i64 b.kind, .int .i64 b.value, (wt.cut 1 0 b.to.length).val] 56]) rfl rfl rfl rfl ok_20 rfl rfl ent.go (kept_ok hR wa xa.val x.args hwa hxa hx3) ?_; rintro _ _ ⟨rfl, rfl⟩
              refine Run.bnotB rfl rfl rfl rfl ?_
              refine Run.eqv (v' := .bool false) rfl ?_
              refine Run.pick rfl rfl rfl rfl rfl ?_
              refine Run.nil ?_
              refine thn_next ?_
              refine WP.cond (t := false) rfl (fun h => by cases h) (fun _ => ?_)
              refine WP.skip ?_; refine blk_norm ?_; refine thn_next ?_
              refine WP.sup (ρ' := [(11, .int .i64 (j : Int)), (11, .int .i64 0), (9, .pointer (some ⟨b9, 0, none⟩)), (10, .pointer (some ⟨b10, 0, none⟩)), (8, .int .i64 (k : Int)), (8, .int .i64 0), (6, .pointer (some ⟨b6, 0, none⟩)), (7, .pointer (some ⟨b7, 0, none⟩)), (5, .int .i64 (i : Int)), (5, .int .i64 0), (0, .pointer (some ⟨lb, 0, none⟩)), (3, .pointer (some ⟨b3, 0, none⟩))]) (Γ' := [blk b3 [fv.val, .int .i64 m] 36, blk b6 (fcs F su sv) 25, blk b7 (fcs F (wp.cut 1 0 F.params.length) (gw.cut 4 0 F.blocks.length)) 25, blk b9 [bu.val, .int .i64 b.kind, .int .i64 b.value, bt.val] 56, blk b10 [(cw.cut 4 0 b.body.length).val, .int .i64 b.kind, .int .i64 b.value, (wt.cut 1 0 b.to.length).val] 56]) (Kp.sup (car := [(11, .int .i64 (j : Int))]) (ρ := [(11, .int .i64 0), (9, .pointer (some ⟨b9, 0, none⟩)), (10, .pointer (some ⟨b10, 0, none⟩)), (8, .int .i64 (k : Int)), (8, .int .i64 0), (6, .pointer (some ⟨b6, 0, none⟩)), (7, .pointer (some ⟨b7, 0, none⟩)), (5, .int .i64 (i : Int)), (5, .int .i64 0), (0, .pointer (some ⟨lb, 0, none⟩)), (3, .pointer (some ⟨b3, 0, none⟩))]) ⟨(by repeat first | exact trivial | refine ⟨rfl, ?_⟩), rfl, rfl⟩) ent.go ?_
              refine WP.plain cf0 rfl ?_
              refine Run.mv rfl rfl rfl rfl ?_
              refine Run.add64 rfl rfl rfl rfl rfl (by first | omega | (simp <;> omega)) (by first | omega | (simp <;> omega)) ?_
              refine Run.mv rfl rfl rfl rfl ?_
              refine Run.nil ?_
              exact thn_next ⟨j + 1, by omega, by omega, ⟨(by repeat first | exact trivial | refine ⟨rfl, ?_⟩), rfl, rfl⟩, ent.go⟩
            · refine WP.exit ?_; refine thn_exit ?_; refine thn_exit ?_; refine blk_hit ?_; refine blk_norm ?_
              exact thn_next ⟨(), trivial, ⟨(by repeat first | exact trivial | refine ⟨rfl, ?_⟩), rfl, rfl⟩, ent.go⟩
          rintro _ _
          refine WP.plain cf0 rfl ?_
          refine Run.mv rfl rfl rfl rfl ?_
          refine Run.add64 rfl rfl rfl rfl rfl (by first | omega | (simp <;> omega)) (by first | omega | (simp <;> omega)) ?_
          refine Run.mv rfl rfl rfl rfl ?_
          refine Run.nil ?_
          exact thn_next ⟨k + 1, by omega, by omega, ⟨(by repeat first | exact trivial | refine ⟨rfl, ?_⟩), rfl, rfl⟩, ent.go⟩
        · refine WP.exit ?_; refine thn_exit ?_; refine thn_exit ?_; refine blk_hit ?_; refine blk_norm ?_
          exact thn_next ⟨(), trivial, ⟨(by repeat first | exact trivial | refine ⟨rfl, ?_⟩), rfl, rfl⟩, ent.go⟩
      rintro _ _
      refine WP.plain cf0 rfl ?_
      refine Run.mv rfl rfl rfl rfl ?_
      refine Run.add64 rfl rfl rfl rfl rfl (by first | omega | (simp <;> omega)) (by first | omega | (simp <;> omega)) ?_
      refine Run.mv rfl rfl rfl rfl ?_
      refine Run.nil ?_
      exact thn_next ⟨i + 1, by omega, by omega, ⟨(by repeat first | exact trivial | refine ⟨rfl, ?_⟩), rfl, rfl⟩, ent.go⟩
    · refine WP.exit ?_; refine thn_exit ?_; refine thn_exit ?_; refine blk_hit ?_
      exact thn_next ⟨(), trivial, ⟨(by repeat first | exact trivial | refine ⟨rfl, ?_⟩), rfl, rfl⟩, ent.go⟩
  rintro _ _
  refine WP.seq ?_
  refine WP.plain cf0 rfl ?_
  refine Run.mv rfl rfl rfl rfl ?_
  refine Run.nil ?_
  refine thn_next ?_
  refine WP.ret ?_
  exact retT [4] _ rfl rfl ⟨_, ent.none _, rfl, rfl⟩
theorem one_fit {h : Heap} {F : LFun} {su sv : SV} (hV : FunV h F su sv) (hS : SmallF F) (i : Nat) (r : RFun) (F' : LFun) (hr : [((F, su, sv) : RFun)][i]? = some r) (hF : [F][i]? = some F') : r.1 = F' ∧ FitV h F' r.2.1 r.2.2 := by
  match i, hr, hF with
  | 0, hr, hF => simp at hr hF; subst hr hF; exact ⟨rfl, hV, hS⟩
  | i + 1, hr, hF => simp at hr
end Go.Proofs.YtjjfehdlmdhhmaaDoor
end
