/- lent: a copy of all that is handed in, with a mark behind each list; walked (printed by mklent.py). -/
import Derived.Test.YtfaokbjpinlcaaaGreatGA4
import Derived.Test.YtfaokbjpinlcaaaGreatGB6
import Derived.Test.YtfaokbjpinlcaaaGreatGB1
import Derived.Test.YtfaokbjpinlcaaaGreatGB0
section
/- lent: a copy of all that is handed in, with a mark behind each list; walked (printed by mklent.py). -/
namespace Go.Proofs.YtfaokbjpinlcaaaGreat
open Go.Sep
set_option linter.unusedSimpArgs false
set_option linter.unusedVariables false
set_option maxRecDepth 100000
attribute [local irreducible] blk slA mp mpF rows rowsBut many mpK mpE leaf lst insP blkP funP
set_option maxHeartbeats 8000000 in
theorem lent_ok (hR : Heap) (A : AL) (fv : SV) (hA : ALv hR A fv) : Tri Tryz.prog hR 19 #[.agg ⟨alv A fv⟩] [] fun v Γ' => ∃ u : SV, v = .agg ⟨alv A u⟩ ∧ Γ' = [leaseP u A.funcs] := by
  have hf := hA.hf
  have hsf := hA.sm.sf
  obtain ⟨raws, hrl, hrR, hrq⟩ := rawF hf
  refine Tri.ent (Tri.of (args := [.agg ⟨alv A fv⟩]) Tryz.func19 rfl Tryz.ntmps19 (by simp) ?_)
  refine Zp ?_
  refine Run.box rfl rfl rfl rfl rfl ?_
  intro b1
  refine Run.alloc rfl zr_24 rfl rfl rfl ?_
  intro b2
  refine Ze ?_
  refine WP.seq ?_
  refine WP.via (Γ' := [blk b1 (alv A fv) 24, blk b2 [nilS.val, vI 0] 24, slA 51 encXF nilS.val []]) (slA_nil 51 encXF _) ?_
  refine Zc ?_
  refine Zf fo_24_0 ?_
  refine Zl 0 ag_22 ?_
  refine Run.append (E := encXF) (xs := []) (ys := raws) 2 rfl rfl rfl rfl rfl rfl sl_22 zr_51 rfl (src_ro hrR) (by simp only [List.length_nil]; omega) (by simp only [List.length_nil]; omega) ?_
  intro fw hfw
  refine Zm ?_
  refine Ze ?_
  rw [List.nil_append]
  refine WP.trim [1, 2, 3] [0, 1, 2] ?_
  refine WP.via (Γ' := [many (List.zipWith funP ([]) A.funcs), blk b1 (alv A fv) 24, blk b2 [nilS.val, vI 0] 24, slA 51 encXF fw.val (raws)]) (many_in [] _) ?_
  refine WP.trim [1, 2, 3] [1, 2, 3, 0] ?_
  refine WP.meetC (α := List XF) (fun z => z.length = A.funcs.length) (fun _ => []) (fun z => [(2, slA 51 encXF fw.val (z)), (3, many (List.zipWith funP (z) A.funcs))]) ?_ ?_
  · refine Zp ?_
    refine Zm ?_
    refine Ze ?_
    refine WP.block ?_
    refine WP.trim [1, 2, 3, 4] [0, 1, 2, 3] ?_
    refine WP.loopC (α := Nat × List XF) (fun z => z.1 ≤ A.funcs.length ∧ z.2.length = z.1) (fun z => [(4, vI (z.1 : Int))]) (fun z => [(2, slA 51 encXF fw.val (z.2 ++ raws.drop z.1)), (3, many (List.zipWith funP (z.2) A.funcs))]) (fun z => A.funcs.length - z.1) (0, []) ⟨Nat.zero_le _, rfl⟩ ?_
    rintro ⟨i, ds⟩ ⟨hi, hds⟩
    simp only at hi hds ⊢
    refine WP.trim [1, 2, 3, 4] [0, 1, 2, 3] ?_
    have hll : (ds ++ raws.drop i).length = A.funcs.length := by rw [List.length_append, List.length_drop]; omega
    refine WP.seq ?_
    refine Zp ?_
    refine Zm ?_
    refine Zm ?_
    refine Run.lenO 2 rfl rfl sl_22 rfl rfl rfl ?_
    refine Zi ?_
    refine Ze ?_
    refine WP.ite rfl (fun hlt => ?_) (fun hge => ?_)
    · refine Zb ?_
      obtain ⟨F', gF⟩ : ∃ y, A.funcs[i]? = some y := ⟨_, List.getElem?_eq_getElem (by omega)⟩
      obtain ⟨⟨F, su, sv⟩, gr⟩ : ∃ y, raws[i]? = some y := ⟨_, List.getElem?_eq_getElem (by omega)⟩
      obtain ⟨e, hu, hv⟩ := hrq i _ _ gr gF
      simp only at e hu hv
      subst e
      have hFs := hA.sm.sa F (List.mem_of_getElem? gF)
      have hsp := hFs.sp
      have hsb := hFs.sb
      have hsi := hFs.si
      obtain ⟨brs, hbl, hbR, hbq⟩ := rawB hv
      rw [drop_at gr] at hll ⊢
      generalize hrest : raws.drop (i + 1) = rest at hll ⊢
      simp only [List.length_append, List.length_cons] at hll
      have gX : (ds ++ ((F, su, sv) : XF) :: rest)[i]? = some ((F, su, sv) : XF) := mid_get _ hds
      have hX : (ds ++ ((F, su, sv) : XF) :: rest).length = A.funcs.length := by simp only [List.length_append, List.length_cons]; omega
      refine WP.seq ?_
      refine WP.block ?_
      refine Zp ?_
      iterate 4 refine Zm ?_
      refine Run.idxO 2 rfl rfl rfl sl_22 rfl rfl rfl rfl (by omega) (by omega) ?_
      refine Zf fo_51_1 ?_
      refine Run.loadO 2 i 1 rfl rfl ag_48 rfl rfl rfl rfl gX rfl ?_
      refine Run.callP [] ok_39 (locs_ok hR su F.params hu (by omega)) ?_; rintro _ _ ⟨pu, rfl, rfl⟩
      refine Run.idxO 3 rfl rfl rfl sl_22 rfl rfl rfl rfl (by omega) (by omega) ?_
      refine Zf fo_51_1 ?_
      refine Run.storeO 3 i 1 (y' := ((F, pu, sv) : XF)) rfl rfl rfl rfl ag_48 rfl rfl rfl rfl gX rfl rfl ?_
      refine Ze ?_
      rw [mid_set _ hds]
      refine WP.trim [1, 2, 3, 4] [1, 2, 3, 4, 0] ?_
      have gX2 : (ds ++ ((F, pu, sv) : XF) :: rest)[i]? = some ((F, pu, sv) : XF) := mid_get _ hds
      have hX2 : (ds ++ ((F, pu, sv) : XF) :: rest).length = A.funcs.length := by simp only [List.length_append, List.length_cons]; omega
      refine WP.via (Γ' := [blk b1 (alv A fv) 24, blk b2 [nilS.val, vI 0] 24, slA 51 encXF fw.val (ds ++ ((F, pu, sv) : XF) :: rest), many (List.zipWith funP (ds) A.funcs), locsP pu F.params, slA 58 encXB nilS.val []]) (slA_nil 58 encXB _) ?_
      refine Zp ?_
      refine Zm ?_
      refine Zm ?_
      refine Run.idxO 2 rfl rfl rfl sl_22 rfl rfl rfl rfl (by omega) (by omega) ?_
      refine Zf fo_51_4 ?_
      refine Run.loadO 2 i 4 rfl rfl ag_49 rfl rfl rfl rfl gX2 rfl ?_
      refine Run.append (E := encXB) (xs := []) (ys := brs) 5 rfl rfl rfl rfl rfl rfl sl_49 zr_58 rfl (src_ro hbR) (by simp only [List.length_nil]; omega) (by simp only [List.length_nil]; omega) ?_
      intro bw hbw
      refine Zm ?_
      refine Ze ?_
      rw [List.nil_append]
      refine WP.trim [1, 2, 3, 4, 5] [0, 1, 2, 3, 4, 5] ?_
      refine WP.via (Γ' := [many (List.zipWith blkP ([]) F.blocks), blk b1 (alv A fv) 24, blk b2 [nilS.val, vI 0] 24, slA 51 encXF fw.val (ds ++ ((F, pu, sv) : XF) :: rest), many (List.zipWith funP (ds) A.funcs), locsP pu F.params, slA 58 encXB bw.val (brs)]) (many_in [] _) ?_
      refine WP.trim [1, 2, 3, 4, 5] [1, 2, 3, 4, 5, 6, 0] ?_
      refine WP.meetC (α := List XB) (fun z => z.length = F.blocks.length) (fun _ => []) (fun z => [(5, slA 58 encXB bw.val (z)), (6, many (List.zipWith blkP (z) F.blocks))]) ?_ ?_
      · refine Zp ?_
        refine Zm ?_
        refine Ze ?_
        refine WP.block ?_
        refine WP.trim [1, 2, 3, 4, 5, 6] [0, 1, 2, 3, 4, 5, 6] ?_
        refine WP.loopC (α := Nat × List XB) (fun z => z.1 ≤ F.blocks.length ∧ z.2.length = z.1) (fun z => [(6, vI (z.1 : Int))]) (fun z => [(5, slA 58 encXB bw.val (z.2 ++ brs.drop z.1)), (6, many (List.zipWith blkP (z.2) F.blocks))]) (fun z => F.blocks.length - z.1) (0, []) ⟨Nat.zero_le _, rfl⟩ ?_
        rintro ⟨j, es⟩ ⟨hj, hes⟩
        simp only at hj hes ⊢
        refine WP.trim [1, 2, 3, 4, 5, 6] [0, 1, 2, 3, 4, 5, 6] ?_
        have hbll : (es ++ brs.drop j).length = F.blocks.length := by rw [List.length_append, List.length_drop]; omega
        refine WP.seq ?_
        refine Zp ?_
        refine Zm ?_
        refine Zm ?_
        refine Run.lenO 5 rfl rfl sl_49 rfl rfl rfl ?_
        refine Zi ?_
        refine Ze ?_
        refine WP.ite rfl (fun hlt2 => ?_) (fun hge2 => ?_)
        · refine Zb ?_
          obtain ⟨b', gb⟩ : ∃ y, F.blocks[j]? = some y := ⟨_, List.getElem?_eq_getElem (by omega)⟩
          obtain ⟨⟨b, bu, bt⟩, gbr⟩ : ∃ y, brs[j]? = some y := ⟨_, List.getElem?_eq_getElem (by omega)⟩
          obtain ⟨e, hbu, hbt⟩ := hbq j _ _ gbr gb
          simp only at e hbu hbt
          subst e
          obtain ⟨hs1, hs2, hs3⟩ := hsi b (List.mem_of_getElem? gb)
          obtain ⟨irs, hil, hiR, hiq⟩ := rawI hbu
          rw [drop_at gbr] at hbll ⊢
          generalize hbrest : brs.drop (j + 1) = brest at hbll ⊢
          simp only [List.length_append, List.length_cons] at hbll
          have gY : (es ++ ((b, bu, bt) : XB) :: brest)[j]? = some ((b, bu, bt) : XB) := mid_get _ hes
          have hY : (es ++ ((b, bu, bt) : XB) :: brest).length = F.blocks.length := by simp only [List.length_append, List.length_cons]; omega
          refine WP.seq ?_
          refine WP.block ?_
          refine WP.via (Γ' := [blk b1 (alv A fv) 24, blk b2 [nilS.val, vI 0] 24, slA 51 encXF fw.val (ds ++ ((F, pu, sv) : XF) :: rest), many (List.zipWith funP (ds) A.funcs), locsP pu F.params, slA 58 encXB bw.val (es ++ ((b, bu, bt) : XB) :: brest), many (List.zipWith blkP (es) F.blocks), slA 53 encXI nilS.val []]) (slA_nil 53 encXI _) ?_
          refine Zp ?_
          refine Zm ?_
          refine Zm ?_
          refine Run.idxO 5 rfl rfl rfl sl_49 rfl rfl rfl rfl (by omega) (by omega) ?_
          refine Zf fo_58_0 ?_
          refine Run.loadO 5 j 0 rfl rfl ag_54 rfl rfl rfl rfl gY rfl ?_
          refine Run.append (E := encXI) (xs := []) (ys := irs) 7 rfl rfl rfl rfl rfl rfl sl_54 zr_53 rfl (src_ro hiR) (by simp only [List.length_nil]; omega) (by simp only [List.length_nil]; omega) ?_
          intro iw hiw
          refine Zm ?_
          refine Ze ?_
          rw [List.nil_append]
          refine WP.trim [1, 2, 3, 4, 5, 6, 7] [0, 1, 2, 3, 4, 5, 6, 7] ?_
          refine WP.via (Γ' := [many (List.zipWith insP ([]) b.body), blk b1 (alv A fv) 24, blk b2 [nilS.val, vI 0] 24, slA 51 encXF fw.val (ds ++ ((F, pu, sv) : XF) :: rest), many (List.zipWith funP (ds) A.funcs), locsP pu F.params, slA 58 encXB bw.val (es ++ ((b, bu, bt) : XB) :: brest), many (List.zipWith blkP (es) F.blocks), slA 53 encXI iw.val (irs)]) (many_in [] _) ?_
          refine WP.trim [1, 2, 3, 4, 5, 6, 7] [1, 2, 3, 4, 5, 6, 7, 8, 0] ?_
          refine WP.meetC (α := List XI) (fun z => z.length = b.body.length) (fun _ => []) (fun z => [(7, slA 53 encXI iw.val (z)), (8, many (List.zipWith insP (z) b.body))]) ?_ ?_
          · refine Zp ?_
            refine Zm ?_
            refine Ze ?_
            refine WP.block ?_
            refine WP.trim [1, 2, 3, 4, 5, 6, 7, 8] [0, 1, 2, 3, 4, 5, 6, 7, 8] ?_
            refine WP.loopC (α := Nat × List XI) (fun z => z.1 ≤ b.body.length ∧ z.2.length = z.1) (fun z => [(8, vI (z.1 : Int))]) (fun z => [(7, slA 53 encXI iw.val (z.2 ++ irs.drop z.1)), (8, many (List.zipWith insP (z.2) b.body))]) (fun z => b.body.length - z.1) (0, []) ⟨Nat.zero_le _, rfl⟩ ?_
            rintro ⟨k, ns⟩ ⟨hk, hns⟩
            simp only at hk hns ⊢
            refine WP.trim [1, 2, 3, 4, 5, 6, 7, 8] [0, 1, 2, 3, 4, 5, 6, 7, 8] ?_
            have hill : (ns ++ irs.drop k).length = b.body.length := by rw [List.length_append, List.length_drop]; omega
            refine WP.seq ?_
            refine Zp ?_
            refine Zm ?_
            refine Zm ?_
            refine Run.lenO 7 rfl rfl sl_54 rfl rfl rfl ?_
            refine Zi ?_
            refine Ze ?_
            refine WP.ite rfl (fun hlt3 => ?_) (fun hge3 => ?_)
            · refine Zb ?_
              obtain ⟨x', gx⟩ : ∃ y, b.body[k]? = some y := ⟨_, List.getElem?_eq_getElem (by omega)⟩
              obtain ⟨⟨x, xu, xv⟩, gxr⟩ : ∃ y, irs[k]? = some y := ⟨_, List.getElem?_eq_getElem (by omega)⟩
              obtain ⟨e, hxu, hxv⟩ := hiq k _ _ gxr gx
              simp only at e hxu hxv
              subst e
              obtain ⟨hx1, hx2⟩ := hs3 x (List.mem_of_getElem? gx)
              rw [drop_at gxr] at hill ⊢
              generalize hirest : irs.drop (k + 1) = irest at hill ⊢
              simp only [List.length_append, List.length_cons] at hill
              have gZ : (ns ++ ((x, xu, xv) : XI) :: irest)[k]? = some ((x, xu, xv) : XI) := mid_get _ hns
              have hZ : (ns ++ ((x, xu, xv) : XI) :: irest).length = b.body.length := by simp only [List.length_append, List.length_cons]; omega
              refine WP.seq ?_
              refine WP.block ?_
              refine Zp ?_
              iterate 4 refine Zm ?_
              refine Run.idxO 7 rfl rfl rfl sl_54 rfl rfl rfl rfl (by omega) (by omega) ?_
              refine Zf fo_53_3 ?_
              refine Run.loadO 7 k 4 rfl rfl ag_48 rfl rfl rfl rfl gZ rfl ?_
              refine Run.callP [] ok_39 (locs_ok hR xu x.args hxu (by omega)) ?_; rintro _ _ ⟨qu, rfl, rfl⟩
              refine Run.idxO 8 rfl rfl rfl sl_54 rfl rfl rfl rfl (by omega) (by omega) ?_
              refine Zf fo_53_3 ?_
              refine Run.storeO 8 k 4 (y' := ((x, qu, xv) : XI)) rfl rfl rfl rfl ag_48 rfl rfl rfl rfl gZ rfl rfl ?_
              refine Ze ?_
              rw [mid_set _ hns]
              refine WP.trim [1, 2, 3, 4, 5, 6, 7, 8] [1, 2, 3, 4, 5, 6, 7, 8, 9, 0] ?_
              have gZ2 : (ns ++ ((x, qu, xv) : XI) :: irest)[k]? = some ((x, qu, xv) : XI) := mid_get _ hns
              have hZ2 : (ns ++ ((x, qu, xv) : XI) :: irest).length = b.body.length := by simp only [List.length_append, List.length_cons]; omega
              refine Zc ?_
              iterate 4 refine Zm ?_
              refine Run.idxO 7 rfl rfl rfl sl_54 rfl rfl rfl rfl (by omega) (by omega) ?_
              refine Zf fo_53_4 ?_
              refine Run.loadO 7 k 5 rfl rfl ag_44 rfl rfl rfl rfl gZ2 rfl ?_
              refine Run.callP [] ok_40 (ints_ok hR xv x.saves hxv (by omega)) ?_; rintro _ _ ⟨qv, rfl, rfl⟩
              refine Run.idxO 8 rfl rfl rfl sl_54 rfl rfl rfl rfl (by omega) (by omega) ?_
              refine Zf fo_53_4 ?_
              refine Run.storeO 8 k 5 (y' := ((x, qu, qv) : XI)) rfl rfl rfl rfl ag_44 rfl rfl rfl rfl gZ2 rfl rfl ?_
              refine Run.nil ?_
              rw [mid_set _ hns, mid_snoc ns ((x, qu, qv) : XI) irest]
              refine blk_norm ?_; refine thn_next ?_
              refine WP.trim [1, 2, 3, 4, 5, 6, 7, 8] [10, 0, 1, 2, 3, 4, 5, 6, 7, 8, 9] ?_
              refine WP.via (ins_shut [blk b1 (alv A fv) 24, blk b2 [nilS.val, vI 0] 24, slA 51 encXF fw.val (ds ++ ((F, pu, sv) : XF) :: rest), many (List.zipWith funP (ds) A.funcs), locsP pu F.params, slA 58 encXB bw.val (es ++ ((b, bu, bt) : XB) :: brest), many (List.zipWith blkP (es) F.blocks), slA 53 encXI iw.val ((ns ++ [((x, qu, qv) : XI)]) ++ irest), many (List.zipWith insP (ns) b.body)]) ?_
              refine WP.trim [1, 2, 3, 4, 5, 6, 7, 8] [9, 0, 1, 2, 3, 4, 5, 6, 7, 8] ?_
              refine WP.via (many_snoc _ _ [blk b1 (alv A fv) 24, blk b2 [nilS.val, vI 0] 24, slA 51 encXF fw.val (ds ++ ((F, pu, sv) : XF) :: rest), many (List.zipWith funP (ds) A.funcs), locsP pu F.params, slA 58 encXB bw.val (es ++ ((b, bu, bt) : XB) :: brest), many (List.zipWith blkP (es) F.blocks), slA 53 encXI iw.val ((ns ++ [((x, qu, qv) : XI)]) ++ irest)]) ?_
              rw [← zipWith_snoc insP (by rw [hns]; exact gx)]
              refine WP.trim [1, 2, 3, 4, 5, 6, 7, 8] [1, 2, 3, 4, 5, 6, 7, 8, 0] ?_
              refine Zc ?_
              refine Zm ?_
              refine Za ?_
              refine Zm ?_
              refine Run.nil ?_
              exact thn_next ⟨(k + 1, ns ++ [(x, qu, qv)]), ⟨by simp only; omega, by simp [hns]⟩, by simp only; omega, Ko.go, by simp only [hirest]; exact ent.gc⟩
            · refine Zj ?_
              rw [List.drop_of_length_le (by omega), List.append_nil]
              exact thn_next ⟨ns, by omega, Ko.go, ent.gc⟩
          rintro ns hns
          refine WP.trim [1, 2, 3, 4, 5, 6, 7] [0, 1, 2, 3, 4, 5, 6, 7, 8] ?_
          refine Zp ?_
          refine Zm ?_
          refine Run.build rfl bd_53 rfl rfl rfl rfl ?_
          refine Run.buildSlice (E := encXI) rfl sl_54 zr_53 ([mkI]) rfl rfl rfl (by decide) rfl rfl ?_
          intro b74
          refine Run.append (E := encXI) (xs := ns) (ys := [mkI]) 7 rfl rfl rfl rfl rfl rfl sl_54 zr_53 rfl (src_own 9 rfl) (by simp only [List.length_singleton]; omega) (by simp only [List.length_singleton]; omega) ?_
          intro iw2 hiw2
          refine Zm ?_
          refine Ze ?_
          refine WP.trim [1, 2, 3, 4, 5, 6, 7] [0, 1, 2, 3, 4, 5, 6, 7, 8] ?_
          refine WP.know (slA_know 7 rfl) (fun hkn => ?_)
          obtain ⟨_, hkn⟩ := hkn
          simp only [List.length_append, List.length_singleton] at hkn
          refine Zp ?_
          iterate 5 refine Zm ?_
          refine Run.idxO 5 rfl rfl rfl sl_49 rfl rfl rfl rfl (by omega) (by omega) ?_
          refine Zf fo_58_0 ?_
          refine Run.loadO 5 j 0 rfl rfl ag_54 rfl rfl rfl rfl gY rfl ?_
          refine Zh sl_54 hbu ?_
          refine Run.sliceV (sv := iw2) rfl rfl sl_54 rfl rfl rfl rfl (by omega) (by omega) (by omega) ?_
          refine Run.idxO 5 rfl rfl rfl sl_49 rfl rfl rfl rfl (by omega) (by omega) ?_
          refine Zf fo_58_0 ?_
          refine Run.storeO 5 j 0 (y' := ((b, iw2.cut 6 0 b.body.length, bt) : XB)) rfl rfl rfl rfl ag_54 rfl rfl rfl rfl gY rfl rfl ?_
          refine Ze ?_
          rw [mid_set _ hes]
          have gY2 : (es ++ ((b, iw2.cut 6 0 b.body.length, bt) : XB) :: brest)[j]? = some ((b, iw2.cut 6 0 b.body.length, bt) : XB) := mid_get _ hes
          have hY2 : (es ++ ((b, iw2.cut 6 0 b.body.length, bt) : XB) :: brest).length = F.blocks.length := by simp only [List.length_append, List.length_cons]; omega
          refine WP.trim [1, 2, 3, 4, 5, 6] [7, 8, 0, 1, 2, 3, 4, 5, 6] ?_
          refine WP.via (lst_shut (sz := 6) iw2 ns rfl hns hns [blk b1 (alv A fv) 24, blk b2 [nilS.val, vI 0] 24, slA 51 encXF fw.val (ds ++ ((F, pu, sv) : XF) :: rest), many (List.zipWith funP (ds) A.funcs), locsP pu F.params, slA 58 encXB bw.val (es ++ ((b, iw2.cut 6 0 b.body.length, bt) : XB) :: brest), many (List.zipWith blkP (es) F.blocks)]) ?_
          refine Zc ?_
          iterate 4 refine Zm ?_
          refine Run.idxO 6 rfl rfl rfl sl_49 rfl rfl rfl rfl (by omega) (by omega) ?_
          refine Zf fo_58_1 ?_
          refine Zf fo_56_2 ?_
          refine Run.loadO 6 j 4 rfl rfl ag_44 rfl rfl rfl rfl gY2 rfl ?_
          refine Run.callP [] ok_40 (ints_ok hR bt b.term.to hbt (by omega)) ?_; rintro _ _ ⟨wt, rfl, rfl⟩
          refine Run.idxO 7 rfl rfl rfl sl_49 rfl rfl rfl rfl (by omega) (by omega) ?_
          refine Zf fo_58_1 ?_
          refine Zf fo_56_2 ?_
          refine Run.storeO 7 j 4 (y' := ((b, iw2.cut 6 0 b.body.length, wt) : XB)) rfl rfl rfl rfl ag_44 rfl rfl rfl rfl gY2 rfl rfl ?_
          refine Run.nil ?_
          rw [mid_set _ hes, mid_snoc es ((b, iw2.cut 6 0 b.body.length, wt) : XB) brest]
          refine blk_norm ?_; refine thn_next ?_
          refine WP.trim [1, 2, 3, 4, 5, 6] [1, 0, 2, 3, 4, 5, 6, 7, 8] ?_
          refine WP.via (blk_shut [blk b1 (alv A fv) 24, blk b2 [nilS.val, vI 0] 24, slA 51 encXF fw.val (ds ++ ((F, pu, sv) : XF) :: rest), many (List.zipWith funP (ds) A.funcs), locsP pu F.params, slA 58 encXB bw.val ((es ++ [((b, iw2.cut 6 0 b.body.length, wt) : XB)]) ++ brest), many (List.zipWith blkP (es) F.blocks)]) ?_
          refine WP.trim [1, 2, 3, 4, 5, 6] [7, 0, 1, 2, 3, 4, 5, 6] ?_
          refine WP.via (many_snoc _ _ [blk b1 (alv A fv) 24, blk b2 [nilS.val, vI 0] 24, slA 51 encXF fw.val (ds ++ ((F, pu, sv) : XF) :: rest), many (List.zipWith funP (ds) A.funcs), locsP pu F.params, slA 58 encXB bw.val ((es ++ [((b, iw2.cut 6 0 b.body.length, wt) : XB)]) ++ brest)]) ?_
          rw [← zipWith_snoc blkP (by rw [hes]; exact gb)]
          refine WP.trim [1, 2, 3, 4, 5, 6] [1, 2, 3, 4, 5, 6, 0] ?_
          refine Zc ?_
          refine Zm ?_
          refine Za ?_
          refine Zm ?_
          refine Run.nil ?_
          exact thn_next ⟨(j + 1, es ++ [(b, iw2.cut 6 0 b.body.length, wt)]), ⟨by simp only; omega, by simp [hes]⟩, by simp only; omega, Ko.go, by simp only [hbrest]; exact ent.gc⟩
        · refine Zj ?_
          rw [List.drop_of_length_le (by omega), List.append_nil]
          exact thn_next ⟨es, by omega, Ko.go, ent.gc⟩
      rintro es hes
      refine WP.trim [1, 2, 3, 4, 5] [0, 1, 2, 3, 4, 5, 6] ?_
      refine Zp ?_
      refine Zm ?_
      refine Run.build rfl bd_56 rfl rfl rfl rfl ?_
      refine Run.build rfl bd_58 rfl rfl rfl rfl ?_
      refine Run.buildSlice (E := encXB) rfl sl_49 zr_58 ([mkB]) rfl rfl rfl (by decide) rfl rfl ?_
      intro b103
      refine Run.append (E := encXB) (xs := es) (ys := [mkB]) 5 rfl rfl rfl rfl rfl rfl sl_49 zr_58 rfl (src_own 7 rfl) (by simp only [List.length_singleton]; omega) (by simp only [List.length_singleton]; omega) ?_
      intro bw2 hbw2
      refine Zm ?_
      refine Ze ?_
      refine WP.trim [1, 2, 3, 4, 5] [0, 1, 2, 3, 4, 5, 6] ?_
      refine WP.know (slA_know 5 rfl) (fun hkn => ?_)
      obtain ⟨_, hkn⟩ := hkn
      simp only [List.length_append, List.length_singleton] at hkn
      refine Zc ?_
      iterate 5 refine Zm ?_
      refine Run.idxO 2 rfl rfl rfl sl_22 rfl rfl rfl rfl (by omega) (by omega) ?_
      refine Zf fo_51_4 ?_
      refine Run.loadO 2 i 4 rfl rfl ag_49 rfl rfl rfl rfl gX2 rfl ?_
      refine Zh sl_49 hv ?_
      refine Run.sliceV (sv := bw2) rfl rfl sl_49 rfl rfl rfl rfl (by omega) (by omega) (by omega) ?_
      refine Run.idxO 2 rfl rfl rfl sl_22 rfl rfl rfl rfl (by omega) (by omega) ?_
      refine Zf fo_51_4 ?_
      refine Run.storeO 2 i 4 (y' := ((F, pu, bw2.cut 5 0 F.blocks.length) : XF)) rfl rfl rfl rfl ag_49 rfl rfl rfl rfl gX2 rfl rfl ?_
      refine Run.nil ?_
      rw [mid_set _ hds, mid_snoc ds ((F, pu, bw2.cut 5 0 F.blocks.length) : XF) rest]
      refine blk_norm ?_; refine thn_next ?_
      refine WP.trim [1, 2, 3, 4] [5, 6, 4, 0, 1, 2, 3] ?_
      refine WP.via (lst_shut (sz := 5) bw2 es rfl hes hes [locsP pu F.params, blk b1 (alv A fv) 24, blk b2 [nilS.val, vI 0] 24, slA 51 encXF fw.val ((ds ++ [((F, pu, bw2.cut 5 0 F.blocks.length) : XF)]) ++ rest), many (List.zipWith funP (ds) A.funcs)]) ?_
      refine WP.trim [1, 2, 3, 4] [1, 0, 2, 3, 4, 5] ?_
      refine WP.via (fun_shut [blk b1 (alv A fv) 24, blk b2 [nilS.val, vI 0] 24, slA 51 encXF fw.val ((ds ++ [((F, pu, bw2.cut 5 0 F.blocks.length) : XF)]) ++ rest), many (List.zipWith funP (ds) A.funcs)]) ?_
      refine WP.trim [1, 2, 3, 4] [4, 0, 1, 2, 3] ?_
      refine WP.via (many_snoc _ _ [blk b1 (alv A fv) 24, blk b2 [nilS.val, vI 0] 24, slA 51 encXF fw.val ((ds ++ [((F, pu, bw2.cut 5 0 F.blocks.length) : XF)]) ++ rest)]) ?_
      rw [← zipWith_snoc funP (by rw [hds]; exact gF)]
      refine WP.trim [1, 2, 3, 4] [1, 2, 3, 0] ?_
      refine Zc ?_
      refine Zm ?_
      refine Za ?_
      refine Zm ?_
      refine Run.nil ?_
      exact thn_next ⟨(i + 1, ds ++ [(F, pu, bw2.cut 5 0 F.blocks.length)]), ⟨by simp only; omega, by simp [hds]⟩, by simp only; omega, Ko.go, by simp only [hrest]; exact ent.gc⟩
    · refine Zj ?_
      rw [List.drop_of_length_le (by omega), List.append_nil]
      exact thn_next ⟨ds, by omega, Ko.go, ent.gc⟩
  rintro ds hds
  refine WP.trim [1, 2, 3] [0, 1, 2, 3] ?_
  refine Zp ?_
  refine Zm ?_
  refine Run.build rfl bd_51 rfl rfl rfl rfl ?_
  refine Run.buildSlice (E := encXF) rfl sl_22 zr_51 ([mkF]) rfl rfl rfl (by decide) rfl rfl ?_
  intro b119
  refine Run.append (E := encXF) (xs := ds) (ys := [mkF]) 2 rfl rfl rfl rfl rfl rfl sl_22 zr_51 rfl (src_own 4 rfl) (by simp only [List.length_singleton]; omega) (by simp only [List.length_singleton]; omega) ?_
  intro fw2 hfw2
  refine Zm ?_
  refine Ze ?_
  refine WP.trim [1, 2, 3] [0, 1, 2, 3] ?_
  refine WP.know (slA_know 2 rfl) (fun hkn => ?_)
  obtain ⟨_, hkn⟩ := hkn
  simp only [List.length_append, List.length_singleton] at hkn
  refine WP.seq ?_
  refine WP.drawn0 cf0 mixed rfl (by kernel_rfl) ?_
  refine Zm ?_
  refine Zf fo_24_0 ?_
  refine Zl 0 ag_22 ?_
  refine Zh sl_22 hf ?_
  refine Run.sliceV (sv := fw2) rfl rfl sl_22 rfl rfl rfl rfl (by omega) (by omega) (by omega) ?_
  refine Zf fo_24_1 ?_
  refine Zl 0 ag_3 ?_
  refine Run.build rfl bd_24 rfl rfl rfl rfl ?_
  refine Run.storeB 1 rfl rfl rfl rfl ag_24 rfl rfl rfl rfl rfl ?_
  refine Ze ?_
  refine WP.ret ?_
  exact retC 2 1 ag_24 rfl rfl rfl rfl ⟨[leaseP (fw2.cut 5 0 A.funcs.length) A.funcs], ent.trans (Δ := [slA 51 encXF fw2.val (ds ++ [mkF]), many (List.zipWith funP ds A.funcs)]) ent.go (lst_shut (sz := 5) fw2 ds rfl hds hds []), _, rfl, rfl⟩
end Go.Proofs.YtfaokbjpinlcaaaGreat
end
section
/- kept: what was handed in is as it was, its marks too; walked. -/
namespace Go.Sep
/-- what is known of a list with a mark behind it -/
theorem LeafR.facts {A : Type} {E : Enc A} {mk : A} {h : Heap} {u : SV} {xs : List A} (H : LeafR E mk h u xs) : ∃ w : SV, SlR E.rd h w.val (xs ++ [mk]) ∧ u.n = xs.length ∧ xs.length + 1 ≤ u.c ∧ u.cut E.sz 0 ((xs.length : Int) + 1).toNat = w ∧ (xs ++ [mk])[(xs.length : Int).toNat]? = some mk ∧ (xs ++ [mk]).length = xs.length + 1 := by
  obtain ⟨w, rfl, H⟩ := H
  obtain ⟨a, c, e, hc, _⟩ := id H
  simp only [SV.val, Value.slice.injEq, List.length_append, List.length_singleton] at e hc
  refine ⟨w, H, by simp [SV.cut], by simp only [SV.cut, e.2.2]; omega, SV.cut_back (by rw [e.2.1]; omega), by simp, by simp⟩
theorem LstR.facts {R A : Type} {E : Enc R} {mk : R} {q : Heap → R → A → Prop} {h : Heap} {u : SV} {xs : List A} (H : LstR E mk q h u xs) : ∃ (w : SV) (rs : List R), rs.length = xs.length ∧ SlR E.rd h u.val rs ∧ SlR E.rd h w.val (rs ++ [mk]) ∧ u.n = xs.length ∧ xs.length + 1 ≤ u.c ∧ u.cut E.sz 0 ((xs.length : Int) + 1).toNat = w ∧ (rs ++ [mk])[(xs.length : Int).toNat]? = some mk ∧ (rs ++ [mk]).length = xs.length + 1 ∧
    ∀ (i : Nat) (r : R) (x : A), rs[i]? = some r → xs[i]? = some x → q h r x := by
  obtain ⟨w, rs, e, hl, H, G⟩ := H
  obtain ⟨w', f1, f2, f3, f4, f5, f6⟩ := LeafR.facts (mk := mk) ⟨w, e, H⟩
  rw [hl] at f2 f3 f4 f5 f6
  subst e
  exact ⟨w', rs, hl, cut_read rfl H, f1, f2, f3, f4, f5, f6, G⟩
end Go.Sep
namespace Go.Proofs.YtfaokbjpinlcaaaGreat
open Go.Sep
set_option linter.unusedSimpArgs false
set_option linter.unusedVariables false
set_option maxRecDepth 100000
attribute [local irreducible] blk slA mp mpF rows rowsBut many mpK mpE
theorem sameLocs_ok (hR : Heap) (u v : SV) (l : List Lc) (H : LeafR encLc mkL hR u l) (hl : SlR rdLc hR v.val l) (hlen : l.length ≤ 1000000) : Tri Tryz.prog hR 41 #[u.val, v.val] [] fun r Γ' => r = .bool true ∧ Γ' = [] := by
  have hu := H.read
  obtain ⟨w, hw, h1, h2, h3, gm, hwl⟩ := H.facts
  refine Tri.ent (Tri.of (args := [u.val, v.val]) Tryz.func41 rfl Tryz.ntmps41 (by simp) ?_)
  refine Zp ?_
  refine Zm ?_
  refine Ze ?_
  refine Zp ?_
  refine Zm ?_
  refine Zh sl_48 hu ?_
  refine Zm ?_
  refine Ze ?_
  refine WP.seq ?_
  refine Zp ?_
  refine Zm ?_
  refine Zm ?_
  refine Zh sl_48 hl ?_
  refine Zi ?_
  refine Run.ff (by omega) ?_
  iterate 3 refine Zm ?_
  refine Za ?_
  refine Run.sliceV (sv := u) rfl rfl sl_48 rfl rfl rfl rfl (by omega) (by omega) (by omega) ?_; refine Run.eqv (congrArg SV.val h3) ?_
  refine Zm ?_
  refine Run.idxR rfl rfl rfl sl_48 rfl rfl hw (by rfl) (by omega) (by rw [hwl]; omega) ?_
  refine Zf fo_46_0 ?_
  refine Zr ag_3 (SlR.cell0 hw gm rfl) ?_
  refine Zi ?_
  refine Run.ff (fun h => h rfl) ?_
  refine Zq ?_
  refine Ze ?_
  refine Zno ?_
  refine Zb ?_
  refine WP.trim [0, 1, 4, 5] [] ?_
  refine WP.meetC (α := Unit) (fun _ => True) (fun _ => []) (fun _ => []) ?_ ?_
  · refine Zp ?_
    refine Zm ?_
    refine Ze ?_
    refine WP.block ?_
    refine WP.trim [0, 1, 4, 5, 6] [] ?_
    refine WP.loopC (α := Nat) (fun i => i ≤ l.length) (fun i => [(6, vI (i : Int))]) (fun i => []) (fun i => l.length - i) 0 (Nat.zero_le _) ?_
    intro i hi
    refine WP.trim [0, 1, 4, 5, 6] [] ?_
    refine WP.seq ?_
    refine Zp ?_
    refine Zm ?_
    refine Zm ?_
    refine Zi ?_
    refine Ze ?_
    refine WP.ite rfl (fun hlt => ?_) (fun hge => ?_)
    · refine Zb ?_
      obtain ⟨x, gx⟩ : ∃ x, l[(i : Int).toNat]? = some x := ⟨_, List.getElem?_eq_getElem (by omega)⟩
      refine WP.seq ?_
      refine WP.block ?_
      refine WP.seq ?_
      refine WP.drawn0 cf0 mixed rfl (by kernel_rfl) ?_
      refine Zm ?_
      refine Zm ?_
      refine Zx sl_48 hu ?_
      refine Run.loadRagg rfl rfl ag_46 rfl rfl (SlR.row hu gx) rfl ?_
      refine Zm ?_
      refine Zm ?_
      refine Zx sl_48 hl ?_
      refine Run.loadRagg rfl rfl ag_46 rfl rfl (SlR.row hl gx) rfl ?_
      refine Run.neS rfl rfl rfl is_46 nf_46 rfl rfl rfl rfl ?_
      refine Run.eqv (v' := .bool false) (by simp) ?_
      refine Ze ?_
      refine Zno ?_
      refine WP.skip ?_; refine blk_norm ?_; refine thn_next ?_
      refine Zc ?_
      refine Zm ?_
      refine Za ?_
      refine Zm ?_
      refine Run.nil ?_
      exact thn_next ⟨i + 1, by omega, by omega, Ko.go, ent.gc⟩
    · refine Zj ?_
      exact thn_next ⟨(), trivial, Ko.go, ent.gc⟩
  intro _ _
  refine Zp ?_
  refine Zm ?_
  refine Ze ?_
  refine WP.ret ?_
  exact retT [4] _ rfl rfl ⟨_, ent.none _, rfl, rfl⟩
theorem sameInts_ok (hR : Heap) (u v : SV) (l : List Int) (H : LeafR encI (-71) hR u l) (hl : SlR rdI hR v.val l) (hlen : l.length ≤ 1000000) : Tri Tryz.prog hR 89 #[u.val, v.val] [] fun r Γ' => r = .bool true ∧ Γ' = [] := by
  have hu := H.read
  obtain ⟨w, hw, h1, h2, h3, gm, hwl⟩ := H.facts
  refine Tri.ent (Tri.of (args := [u.val, v.val]) Tryz.func89 rfl Tryz.ntmps89 (by simp) ?_)
  refine Zp ?_
  refine Zm ?_
  refine Ze ?_
  refine Zp ?_
  refine Zm ?_
  refine Zh sl_44 hu ?_
  refine Zm ?_
  refine Ze ?_
  refine WP.seq ?_
  refine Zp ?_
  refine Zm ?_
  refine Zm ?_
  refine Zh sl_44 hl ?_
  refine Zi ?_
  refine Run.ff (by omega) ?_
  iterate 3 refine Zm ?_
  refine Za ?_
  refine Run.sliceV (sv := u) rfl rfl sl_44 rfl rfl rfl rfl (by omega) (by omega) (by omega) ?_; refine Run.eqv (congrArg SV.val h3) ?_
  refine Zm ?_
  refine Run.idxR rfl rfl rfl sl_44 rfl rfl hw (by rfl) (by omega) (by rw [hwl]; omega) ?_
  refine Zr ag_3 (SlR.cell0 hw gm rfl) ?_
  refine Zi ?_
  refine Run.ff (fun h => h rfl) ?_
  refine Zq ?_
  refine Ze ?_
  refine Zno ?_
  refine Zb ?_
  refine WP.trim [0, 1, 4, 5] [] ?_
  refine WP.meetC (α := Unit) (fun _ => True) (fun _ => []) (fun _ => []) ?_ ?_
  · refine Zp ?_
    refine Zm ?_
    refine Ze ?_
    refine WP.block ?_
    refine WP.trim [0, 1, 4, 5, 6] [] ?_
    refine WP.loopC (α := Nat) (fun i => i ≤ l.length) (fun i => [(6, vI (i : Int))]) (fun i => []) (fun i => l.length - i) 0 (Nat.zero_le _) ?_
    intro i hi
    refine WP.trim [0, 1, 4, 5, 6] [] ?_
    refine WP.seq ?_
    refine Zp ?_
    refine Zm ?_
    refine Zm ?_
    refine Zi ?_
    refine Ze ?_
    refine WP.ite rfl (fun hlt => ?_) (fun hge => ?_)
    · refine Zb ?_
      obtain ⟨x, gx⟩ : ∃ x, l[(i : Int).toNat]? = some x := ⟨_, List.getElem?_eq_getElem (by omega)⟩
      refine WP.seq ?_
      refine WP.block ?_
      refine WP.seq ?_
      refine WP.drawn0 cf0 mixed rfl (by kernel_rfl) ?_
      refine Zm ?_
      refine Zm ?_
      refine Zx sl_44 hu ?_
      refine Zr ag_3 (SlR.cell0 hu gx rfl) ?_
      refine Zm ?_
      refine Zm ?_
      refine Zx sl_44 hl ?_
      refine Zr ag_3 (SlR.cell0 hl gx rfl) ?_
      refine Zi ?_
      refine Run.ff (fun h => h rfl) ?_
      refine Ze ?_
      refine Zno ?_
      refine WP.skip ?_; refine blk_norm ?_; refine thn_next ?_
      refine Zc ?_
      refine Zm ?_
      refine Za ?_
      refine Zm ?_
      refine Run.nil ?_
      exact thn_next ⟨i + 1, by omega, by omega, Ko.go, ent.gc⟩
    · refine Zj ?_
      exact thn_next ⟨(), trivial, Ko.go, ent.gc⟩
  intro _ _
  refine Zp ?_
  refine Zm ?_
  refine Ze ?_
  refine WP.ret ?_
  exact retT [4] _ rfl rfl ⟨_, ent.none _, rfl, rfl⟩
set_option maxHeartbeats 2000000 in
theorem block_ok (hR : Heap) (b : AB) (u v bu bt : SV) (H : BodyR hR u b.body) (Ht : LeafR encI (-71) hR v b.term.to) (hbu : SlR rdAI hR bu.val b.body) (hbt : SlR rdI hR bt.val b.term.to) (h1 : b.body.length ≤ 1000000) (h2 : b.term.to.length ≤ 1000000) (h3 : ∀ x ∈ b.body, x.args.length ≤ 1000000 ∧ x.saves.length ≤ 1000000) :
    Tri Tryz.prog hR 42 #[.agg ⟨abv b u.val v.val⟩, .agg ⟨abv b bu.val bt.val⟩] [] fun r Γ' => r = .bool true ∧ Γ' = [] := by
  obtain ⟨w, rs, hrl, hr, hw, e1, e2, e3, gm, hwl, G⟩ := LstR.facts H
  refine Tri.ent (Tri.of (args := [.agg ⟨abv b u.val v.val⟩, .agg ⟨abv b bu.val bt.val⟩]) Tryz.func42 rfl Tryz.ntmps42 (by simp) ?_)
  refine Zp ?_
  refine Run.box rfl rfl rfl rfl rfl ?_
  intro b2
  refine Run.box rfl rfl rfl rfl rfl ?_
  intro b3
  refine Zm ?_
  refine Ze ?_
  refine Zp ?_
  refine Zf fo_58_0 ?_
  refine Zl 0 ag_54 ?_
  refine Zh sl_54 hr ?_; refine Run.eqv (v' := vI (b.body.length : Int)) (by rw [hrl]) ?_
  refine Zm ?_
  refine Ze ?_
  refine WP.seq ?_
  refine Zp ?_
  refine Zm ?_
  refine Zf fo_58_0 ?_
  refine Zl 1 ag_54 ?_
  refine Zh sl_54 hbu ?_
  refine Zi ?_
  refine Run.ff (by omega) ?_
  refine Zm ?_
  refine Zf fo_58_0 ?_
  refine Zl 0 ag_54 ?_
  refine Zm ?_
  refine Za ?_
  refine Run.sliceV (sv := u) rfl rfl sl_54 rfl rfl rfl rfl (by omega) (by omega) (by omega) ?_; refine Run.eqv (congrArg SV.val e3) ?_
  refine Zm ?_
  refine Run.idxR rfl rfl rfl sl_54 rfl rfl hw (by rfl) (by omega) (by rw [hwl]; omega) ?_
  refine Zf fo_53_0 ?_
  refine Zr ag_3 (SlR.cell0 hw gm rfl) ?_
  refine Zi ?_
  refine Run.ff (fun h => h rfl) ?_
  refine Zq ?_
  refine Zm ?_
  refine Zf fo_58_1 ?_
  refine Zf fo_56_0 ?_
  refine Zl 0 ag_3 ?_
  refine Zf fo_58_1 ?_
  refine Zf fo_56_0 ?_
  refine Zl 1 ag_3 ?_
  refine Zi ?_
  refine Run.ff (fun h => h rfl) ?_
  refine Zq ?_
  refine Zm ?_
  refine Zf fo_58_1 ?_
  refine Zf fo_56_1 ?_
  refine Run.loadBagg 0 rfl rfl ag_46 rfl rfl rfl rfl rfl ?_
  refine Zf fo_58_1 ?_
  refine Zf fo_56_1 ?_
  refine Run.loadBagg 1 rfl rfl ag_46 rfl rfl rfl rfl rfl ?_
  refine Run.neS rfl rfl rfl is_46 nf_46 rfl rfl rfl rfl ?_
  refine Run.eqv (v' := .bool false) (by simp) ?_
  refine Zq ?_
  refine Zm ?_
  refine Zf fo_58_1 ?_
  refine Zf fo_56_2 ?_
  refine Zl 0 ag_44 ?_
  refine Zf fo_58_1 ?_
  refine Zf fo_56_2 ?_
  refine Zl 1 ag_44 ?_
  refine Run.callP [] ok_89 (sameInts_ok hR v bt b.term.to Ht hbt h2) ?_; rintro _ _ ⟨rfl, rfl⟩
  refine Run.bnotB rfl rfl rfl rfl ?_
  refine Run.eqv (v' := .bool false) rfl ?_
  refine Zq ?_
  refine Ze ?_
  refine Zno ?_
  refine Zb ?_
  refine WP.trim [2, 3, 4, 5] [0, 1] ?_
  refine WP.meetC (α := Unit) (fun _ => True) (fun _ => []) (fun _ => []) ?_ ?_
  · refine Zp ?_
    refine Zm ?_
    refine Ze ?_
    refine WP.block ?_
    refine WP.trim [2, 3, 4, 5, 6] [0, 1] ?_
    refine WP.loopC (α := Nat) (fun i => i ≤ b.body.length) (fun i => [(6, vI (i : Int))]) (fun i => []) (fun i => b.body.length - i) 0 (Nat.zero_le _) ?_
    intro i hi
    refine WP.trim [2, 3, 4, 5, 6] [0, 1] ?_
    refine WP.seq ?_
    refine Zp ?_
    refine Zm ?_
    refine Zm ?_
    refine Zi ?_
    refine Ze ?_
    refine WP.ite rfl (fun hlt => ?_) (fun hge => ?_)
    · refine Zb ?_
      obtain ⟨x', gx⟩ : ∃ x, b.body[(i : Int).toNat]? = some x := ⟨_, List.getElem?_eq_getElem (by omega)⟩
      obtain ⟨⟨x, xu, xv⟩, gr⟩ : ∃ x, rs[(i : Int).toNat]? = some x := ⟨_, List.getElem?_eq_getElem (by omega)⟩
      obtain ⟨e, hxu, hxv⟩ := G _ _ _ gr gx
      simp only at e hxu hxv
      subst e
      obtain ⟨hx1, hx2⟩ := h3 x (List.mem_of_getElem? gx)
      obtain ⟨_, ⟨yu0, yv0, rfl, hyu, hyv⟩, hyrow⟩ := hbu.at gx
      obtain ⟨yv, rfl, _, _⟩ := SlR.sv hyv
      obtain ⟨yu, rfl, _, _⟩ := SlR.sv hyu
      refine WP.seq ?_
      refine WP.block ?_
      refine Zp ?_
      refine Zf fo_58_0 ?_
      refine Zl 0 ag_54 ?_
      refine Zm ?_
      refine Zx sl_54 hr ?_
      refine Run.loadRagg rfl rfl ag_53 rfl rfl (SlR.row hr gr) rfl ?_
      refine Run.alloc rfl zr_53 rfl rfl rfl ?_
      intro b7
      refine Run.storeB 2 rfl rfl rfl rfl ag_53 rfl rfl rfl rfl rfl ?_
      refine Ze ?_
      refine Zp ?_
      refine Zf fo_58_0 ?_
      refine Zl 1 ag_54 ?_
      refine Zm ?_
      refine Zx sl_54 hbu ?_
      refine Run.loadRagg rfl rfl ag_53 rfl rfl hyrow (by rfl) ?_
      refine Run.alloc rfl zr_53 rfl rfl rfl ?_
      intro b8
      refine Run.storeB 3 rfl rfl rfl rfl ag_53 rfl rfl rfl rfl rfl ?_
      refine Ze ?_
      refine WP.trim [2, 3, 4, 5, 6, 7, 8] [0, 1, 2, 3] ?_
      refine Zp ?_
      refine Zf fo_53_0 ?_
      refine Zl 2 ag_3 ?_
      refine Zf fo_53_0 ?_
      refine Zl 3 ag_3 ?_
      refine Zi ?_
      refine Run.ff (fun h => h rfl) ?_
      refine Zm ?_
      refine Zf fo_53_1 ?_
      refine Zl 2 ag_3 ?_
      refine Zf fo_53_1 ?_
      refine Zl 3 ag_3 ?_
      refine Zi ?_
      refine Run.ff (fun h => h rfl) ?_
      refine Zq ?_
      refine Zm ?_
      refine Zf fo_53_2 ?_
      refine Run.loadBagg 2 rfl rfl ag_46 rfl rfl rfl rfl rfl ?_
      refine Zf fo_53_2 ?_
      refine Run.loadBagg 3 rfl rfl ag_46 rfl rfl rfl rfl rfl ?_
      refine Run.neS rfl rfl rfl is_46 nf_46 rfl rfl rfl rfl ?_
      refine Run.eqv (v' := .bool false) (by simp) ?_
      refine Zq ?_
      refine Zm ?_
      refine Zf fo_53_3 ?_
      refine Zl 2 ag_48 ?_
      refine Zf fo_53_3 ?_
      refine Zl 3 ag_48 ?_
      refine Run.callP [] ok_41 (sameLocs_ok hR xu yu x.args hxu hyu hx1) ?_; rintro _ _ ⟨rfl, rfl⟩
      refine Run.bnotB rfl rfl rfl rfl ?_
      refine Run.eqv (v' := .bool false) rfl ?_
      refine Zq ?_
      refine Zm ?_
      refine Zf fo_53_4 ?_
      refine Zl 2 ag_44 ?_
      refine Zf fo_53_4 ?_
      refine Zl 3 ag_44 ?_
      refine Run.callP [] ok_89 (sameInts_ok hR xv yv x.saves hxv hyv hx2) ?_; rintro _ _ ⟨rfl, rfl⟩
      refine Run.bnotB rfl rfl rfl rfl ?_
      refine Run.eqv (v' := .bool false) rfl ?_
      refine Zq ?_
      refine Ze ?_
      refine Zno ?_
      refine WP.skip ?_; refine blk_norm ?_; refine thn_next ?_
      refine Zc ?_
      refine Zm ?_
      refine Za ?_
      refine Zm ?_
      refine Run.nil ?_
      exact thn_next ⟨i + 1, by omega, by omega, Ko.go, ent.gc⟩
    · refine Zj ?_
      exact thn_next ⟨(), trivial, Ko.go, ent.gc⟩
  intro _ _
  refine Zp ?_
  refine Zm ?_
  refine Ze ?_
  refine WP.ret ?_
  exact retT [4] _ rfl rfl ⟨_, ent.none _, rfl, rfl⟩
set_option maxHeartbeats 4000000 in
theorem kept_ok (hR : Heap) (A : AL) (u fv : SV) (H : LeaseR hR u A.funcs) (hA : ALv hR A fv) : Tri Tryz.prog hR 20 #[.agg ⟨alv A u⟩, .agg ⟨alv A fv⟩] [] fun r Γ' => r = .bool true ∧ Γ' = [] := by
  have hf := hA.hf
  have hsf := hA.sm.sf
  obtain ⟨w, rs, hrl, hr, hw, e1, e2, e3, gm, hwl, G⟩ := LstR.facts H
  refine Tri.ent (Tri.of (args := [.agg ⟨alv A u⟩, .agg ⟨alv A fv⟩]) Tryz.func20 rfl Tryz.ntmps20 (by simp) ?_)
  refine Zp ?_
  refine Run.box rfl rfl rfl rfl rfl ?_
  intro b2
  refine Run.box rfl rfl rfl rfl rfl ?_
  intro b3
  refine Zm ?_
  refine Ze ?_
  refine Zp ?_
  refine Zf fo_24_0 ?_
  refine Zl 0 ag_22 ?_
  refine Zh sl_22 hr ?_; refine Run.eqv (v' := vI (A.funcs.length : Int)) (by rw [hrl]) ?_
  refine Zm ?_
  refine Ze ?_
  refine Zp ?_
  refine Zm ?_
  refine Zf fo_24_0 ?_
  refine Zl 1 ag_22 ?_
  refine Zh sl_22 hf ?_
  refine Zi ?_
  refine Run.tt (by omega) ?_
  refine Zm ?_
  refine Zf fo_24_1 ?_
  refine Zl 0 ag_3 ?_
  refine Zf fo_24_1 ?_
  refine Zl 1 ag_3 ?_
  refine Zi ?_
  refine Run.tt rfl ?_
  refine Zq ?_
  refine Zm ?_
  refine Zf fo_24_0 ?_
  refine Zl 0 ag_22 ?_
  refine Zm ?_
  refine Za ?_
  refine Run.sliceV (sv := u) rfl rfl sl_22 rfl rfl rfl rfl (by omega) (by omega) (by omega) ?_; refine Run.eqv (congrArg SV.val e3) ?_
  refine Zm ?_
  refine Run.idxR rfl rfl rfl sl_22 rfl rfl hw (by rfl) (by omega) (by rw [hwl]; omega) ?_
  refine Zf fo_51_3 ?_
  refine Zr ag_3 (SlR.cell hw gm (off := 3) rfl) ?_
  refine Zi ?_
  refine Run.tt rfl ?_
  refine Zq ?_
  refine Zm ?_
  refine Ze ?_
  refine WP.trim [2, 3, 4, 5, 6] [0, 1] ?_
  refine WP.meetC (α := Unit) (fun _ => True) (fun _ => []) (fun _ => []) ?_ ?_
  · refine Zp ?_
    refine Zm ?_
    refine Ze ?_
    refine WP.block ?_
    refine WP.trim [2, 3, 4, 5, 6, 7] [0, 1] ?_
    refine WP.loopC (α := Nat) (fun i => i ≤ A.funcs.length) (fun i => [(7, vI (i : Int)), (6, .bool true)]) (fun i => []) (fun i => A.funcs.length - i) 0 (Nat.zero_le _) ?_
    intro i hi
    refine WP.trim [2, 3, 4, 5, 6, 7] [0, 1] ?_
    refine WP.seq ?_
    refine WP.seq ?_
    by_cases hlt : (i : Int) < (A.funcs.length : Int)
    · refine Zc ?_
      refine Zm ?_
      refine Zm ?_
      refine Zi ?_
      refine Run.tt hlt ?_
      refine Zm ?_
      refine Zm ?_
      refine Zq ?_
      refine Ze ?_
      refine Zyes ?_
      refine Zb ?_
      obtain ⟨F', gF⟩ : ∃ x, A.funcs[(i : Int).toNat]? = some x := ⟨_, List.getElem?_eq_getElem (by omega)⟩
      obtain ⟨⟨F, su, sv⟩, gr⟩ : ∃ x, rs[(i : Int).toNat]? = some x := ⟨_, List.getElem?_eq_getElem (by omega)⟩
      obtain ⟨e, hsu, hsv⟩ := G _ _ _ gr gF
      simp only at e hsu hsv
      subst e
      have hFs := hA.sm.sa F (List.mem_of_getElem? gF)
      have hsp := hFs.sp
      have hsb := hFs.sb
      have hsi := hFs.si
      obtain ⟨_, ⟨yu0, yv0, rfl, hyu, hyv⟩, hyrow⟩ := hf.at gF
      obtain ⟨yv, rfl, _, _⟩ := SlR.sv hyv
      obtain ⟨yu, rfl, _, _⟩ := SlR.sv hyu
      obtain ⟨w2, bs, hbl, hbr, hbw, q1, q2, q3, gm2, hbwl, G2⟩ := LstR.facts hsv
      refine WP.seq ?_
      refine WP.block ?_
      refine Zp ?_
      refine Zf fo_24_0 ?_
      refine Zl 0 ag_22 ?_
      refine Zm ?_
      refine Zx sl_22 hr ?_
      refine Run.loadRagg rfl rfl ag_51 rfl rfl (SlR.row hr gr) rfl ?_
      refine Run.alloc rfl zr_51 rfl rfl rfl ?_
      intro b8
      refine Run.storeB 2 rfl rfl rfl rfl ag_51 rfl rfl rfl rfl rfl ?_
      refine Ze ?_
      refine Zp ?_
      refine Zf fo_24_0 ?_
      refine Zl 1 ag_22 ?_
      refine Zm ?_
      refine Zx sl_22 hf ?_
      refine Run.loadRagg rfl rfl ag_51 rfl rfl hyrow (by rfl) ?_
      refine Run.alloc rfl zr_51 rfl rfl rfl ?_
      intro b9
      refine Run.storeB 3 rfl rfl rfl rfl ag_51 rfl rfl rfl rfl rfl ?_
      refine Ze ?_
      refine WP.trim [2, 3, 4, 5, 6, 7, 8, 9] [0, 1, 2, 3] ?_
      refine Zp ?_
      refine Zf fo_51_4 ?_
      refine Zl 2 ag_49 ?_
      refine Zh sl_49 hbr ?_; refine Run.eqv (v' := vI (F.blocks.length : Int)) (by rw [hbl]) ?_
      refine Zm ?_
      refine Ze ?_
      refine Zp ?_
      refine Zf fo_51_0 ?_
      refine Zl 2 ag_9 ?_
      refine Zf fo_51_0 ?_
      refine Zl 3 ag_9 ?_
      refine Run.eqStr rfl rfl rfl rfl rfl ?_
      refine Run.tt rfl ?_
      refine Zm ?_
      refine Zf fo_51_2 ?_
      refine Zl 2 ag_3 ?_
      refine Zf fo_51_2 ?_
      refine Zl 3 ag_3 ?_
      refine Zi ?_
      refine Run.tt rfl ?_
      refine Zq ?_
      refine Zm ?_
      refine Zf fo_51_3 ?_
      refine Zl 2 ag_3 ?_
      refine Zf fo_51_3 ?_
      refine Zl 3 ag_3 ?_
      refine Zi ?_
      refine Run.tt rfl ?_
      refine Zq ?_
      refine Zm ?_
      refine Zm ?_
      refine Zf fo_51_4 ?_
      refine Zl 3 ag_49 ?_
      refine Zh sl_49 hyv ?_
      refine Zi ?_
      refine Run.tt rfl ?_
      refine Zq ?_
      refine Zm ?_
      refine Zf fo_51_1 ?_
      refine Zl 2 ag_48 ?_
      refine Zf fo_51_1 ?_
      refine Zl 3 ag_48 ?_
      refine Run.callP [] ok_41 (sameLocs_ok hR su yu F.params hsu hyu (by omega)) ?_; rintro _ _ ⟨rfl, rfl⟩
      refine Zq ?_
      refine Zm ?_
      refine Zf fo_51_4 ?_
      refine Zl 2 ag_49 ?_
      refine Zm ?_
      refine Za ?_
      refine Run.sliceV (sv := sv) rfl rfl sl_49 rfl rfl rfl rfl (by omega) (by omega) (by omega) ?_; refine Run.eqv (congrArg SV.val q3) ?_
      refine Zm ?_
      refine Run.idxR rfl rfl rfl sl_49 rfl rfl hbw (by rfl) (by omega) (by rw [hbwl]; omega) ?_
      refine Zf fo_58_1 ?_
      refine Zf fo_56_0 ?_
      refine Zr ag_3 (SlR.cell hbw gm2 (off := 1) rfl) ?_
      refine Zi ?_
      refine Run.tt rfl ?_
      refine Zq ?_
      refine Zm ?_
      refine Ze ?_
      refine WP.trim [2, 3, 4, 5, 6, 7, 8, 9, 10] [0, 1, 2, 3] ?_
      refine Zp ?_
      refine Zm ?_
      refine Ze ?_
      refine WP.block ?_
      refine WP.trim [2, 3, 4, 5, 6, 7, 8, 9, 10, 11] [0, 1, 2, 3] ?_
      refine WP.loopC (α := Nat) (fun j => j ≤ F.blocks.length) (fun j => [(11, vI (j : Int)), (6, .bool true)]) (fun j => []) (fun j => F.blocks.length - j) 0 (Nat.zero_le _) ?_
      intro j hj
      refine WP.trim [2, 3, 4, 5, 6, 7, 8, 9, 10, 11] [0, 1, 2, 3] ?_
      refine WP.seq ?_
      refine WP.seq ?_
      by_cases hlt2 : (j : Int) < (F.blocks.length : Int)
      · refine Zc ?_
        refine Zm ?_
        refine Zm ?_
        refine Zi ?_
        refine Run.tt hlt2 ?_
        refine Zm ?_
        refine Zm ?_
        refine Zq ?_
        refine Ze ?_
        refine Zyes ?_
        refine Zb ?_
        obtain ⟨b', gb⟩ : ∃ x, F.blocks[(j : Int).toNat]? = some x := ⟨_, List.getElem?_eq_getElem (by omega)⟩
        obtain ⟨⟨b, pu, pv⟩, gbr⟩ : ∃ x, bs[(j : Int).toNat]? = some x := ⟨_, List.getElem?_eq_getElem (by omega)⟩
        obtain ⟨e, hpu, hpv⟩ := G2 _ _ _ gbr gb
        simp only at e hpu hpv
        subst e
        obtain ⟨s1, s2, s3⟩ := hsi b (List.mem_of_getElem? gb)
        obtain ⟨_, ⟨zu0, zv0, rfl, hzu, hzv⟩, hzrow⟩ := hyv.at gb
        obtain ⟨zv, rfl, _, _⟩ := SlR.sv hzv
        obtain ⟨zu, rfl, _, _⟩ := SlR.sv hzu
        refine WP.seq ?_
        refine WP.block ?_
        refine WP.via (Γ' := [] ++ [blk b2 (alv A u) 24, blk b3 (alv A fv) 24, blk b8 (afv F su.val sv.val) 51, blk b9 (afv F yu.val yv.val) 51]) (ent.refl _) ?_
        refine WP.freeze (Γ := []) [blk b2 (alv A u) 24, blk b3 (alv A fv) 24, blk b8 (afv F su.val sv.val) 51, blk b9 (afv F yu.val yv.val) 51] fun g hg hd => ?_
        have sF := sub_un_left hR g
        refine WP.drawn0 cfF mixed rfl (by kernel_rfl) ?_
        refine Zf fo_51_4 ?_
        refine Run.loadF rfl rfl ag_49 rfl rfl (lent_blk (v := sv.val) 2 4 rfl rfl hg hd) ?_
        refine Zm ?_
        refine Zx sl_49 (hbr.mono sF) ?_
        refine Run.loadFagg rfl rfl ag_58 rfl rfl (SlR.row (hbr.mono sF) gbr) rfl ?_
        refine Zf fo_51_4 ?_
        refine Run.loadF rfl rfl ag_49 rfl rfl (lent_blk (v := yv.val) 3 4 rfl rfl hg hd) ?_
        refine Zm ?_
        refine Zx sl_49 (hyv.mono sF) ?_
        refine Run.loadFagg rfl rfl ag_58 rfl rfl (hzrow.mono sF) rfl ?_
        refine Run.callP [] ok_42 (block_ok (un hR g) b pu pv zu zv (BodyR.mono sF hpu) (LeafR.mono sF hpv) (hzu.mono sF) (hzv.mono sF) (by omega) (by omega) (fun x hx => by have := s3 x hx; omega)) ?_; rintro _ _ ⟨rfl, rfl⟩
        refine Zm ?_
        refine Run.nil ?_
        refine blk_norm ?_; refine thn_next ?_
        refine Zc ?_
        refine Zm ?_
        refine Za ?_
        refine Zm ?_
        refine Run.nil ?_
        exact thn_next ⟨j + 1, by omega, by omega, Ko.go, ent.go⟩
      · refine Zc ?_
        refine Zm ?_
        refine Zm ?_
        refine Zi ?_
        refine Run.ff hlt2 ?_
        refine Zm ?_
        refine Zv ?_
        refine Zq ?_
        refine Ze ?_
        refine Zno ?_
        refine Zj ?_; refine blk_norm ?_; refine thn_next ?_
        refine WP.trim [2, 3, 4, 5, 6, 7] [0, 1] ?_
        refine Zc ?_
        refine Zm ?_
        refine Za ?_
        refine Zm ?_
        refine Run.nil ?_
        exact thn_next ⟨i + 1, by omega, by omega, Ko.go, ent.gc⟩
    · refine Zc ?_
      refine Zm ?_
      refine Zm ?_
      refine Zi ?_
      refine Run.ff hlt ?_
      refine Zm ?_
      refine Zv ?_
      refine Zq ?_
      refine Ze ?_
      refine Zno ?_
      refine Zj ?_
      exact thn_next ⟨(), trivial, Ko.go, ent.gc⟩
  intro _ _
  refine WP.trim [2, 3, 4, 5, 6] [0, 1] ?_
  refine Zp ?_
  refine Zm ?_
  refine Zm ?_
  refine Ze ?_
  refine WP.ret ?_
  exact retT [4] _ rfl rfl ⟨_, ent.none _, rfl, rfl⟩
end Go.Proofs.YtfaokbjpinlcaaaGreat
end
section
/- ALIR in memory that is owned, the marks forgotten: it may be written. -/
namespace Go.Sep
section
variable {A : Type}
abbrev SV2 := SV × SV
def lstQ (T : TypeId) (E : Enc (A × SV2)) (p : SV2 → A → HProp) (v : SV) (xs : List A) : HProp := fun h => ∃ ws : List SV2, ws.length = xs.length ∧ sat [slA T E v.val (xs.zip ws), many (List.zipWith p ws xs)] h
theorem cut_own {B : Type} {T : TypeId} {E : Enc B} {h : Heap} {w : SV} {xs ms : List B} (H : slA T E w.val (xs ++ ms) h) : slA T E (w.cut E.sz 0 xs.length).val xs h := by
  have := slA_cut H (lo := 0) (hi := xs.length) (Nat.zero_le _) (by simp)
  rw [List.take_left', List.drop_zero] at this
  · simpa [cutV_val] using this
  · rfl
theorem leaf_q {T : TypeId} {E : Enc A} {mk : A} {v : SV} {xs : List A} {h : Heap} (H : leaf T E mk v xs h) : slA T E v.val xs h := by
  obtain ⟨w, rfl, H⟩ := H
  exact cut_own H
theorem sat_map : ∀ {Γ Δ : List HProp}, Γ.length = Δ.length → (∀ (i : Nat) (A B : HProp), Γ[i]? = some A → Δ[i]? = some B → ∀ h, A h → B h) → ∀ {h : Heap}, sat Γ h → sat Δ h
  | [], [], _, _, _, _ => trivial
  | A :: Γ, B :: Δ, hl, H, h, ⟨h1, h2, g1, g2, hd, e⟩ => ⟨h1, h2, H 0 A B rfl rfl h1 g1, sat_map (by simpa using hl) (fun i => H (i + 1)) g2, hd, e⟩
theorem zip_parts {B C : Type} : ∀ rs : List (B × C), (rs.map Prod.fst).zip (rs.map Prod.snd) = rs
  | [] => rfl
  | r :: rs => by simp only [List.map_cons, List.zip_cons_cons, zip_parts rs]
theorem lst_q {T : TypeId} {E : Enc (A × SV2)} {mk : A × SV2} {p : A × SV2 → A → HProp} {q : SV2 → A → HProp} (hp : ∀ r x h, p r x h → r.1 = x ∧ q r.2 x h) {v : SV} {xs : List A} {h : Heap} (H : lst T E mk p v xs h) : lstQ T E q v xs h := by
  obtain ⟨w, rs, e, hl, hs⟩ := H
  obtain ⟨g2, a2, s2⟩ := sat_at 1 hs rfl (fun _ _ h => h)
  have hfst : rs.map Prod.fst = xs := by
    apply List.ext_getElem?; intro i
    rw [List.getElem?_map]
    by_cases hi : i < rs.length
    · have h1 : rs[i]? = some rs[i] := List.getElem?_eq_getElem hi
      have h2 : xs[i]? = some (xs[i]'(by omega)) := List.getElem?_eq_getElem _
      obtain ⟨g3, a3, _⟩ := sat_at i (show sat (List.zipWith p rs xs) g2 from a2) (zip_get _ h1 h2) s2
      rw [h1, h2]; exact congrArg some (hp _ _ _ a3).1
    · rw [List.getElem?_eq_none (by omega), List.getElem?_eq_none (by omega)]; rfl
  refine ⟨rs.map Prod.snd, by rw [List.length_map, hl], sat_map (by rfl) (fun i A B hA hB => ?_) hs⟩
  match i, hA, hB with
  | 0, hA, hB =>
    obtain rfl := Option.some.inj hA; obtain rfl := Option.some.inj hB
    intro h hh
    subst e
    have := cut_own hh
    rw [← hfst, zip_parts]; exact this
  | 1, hA, hB =>
    obtain rfl := Option.some.inj hA; obtain rfl := Option.some.inj hB
    intro h hh
    refine sat_map (Γ := List.zipWith p rs xs) (by simp) (fun i A B hA hB h hh => ?_) (show sat (List.zipWith p rs xs) h from hh)
    rw [List.getElem?_zipWith] at hA hB
    rw [List.getElem?_map] at hB
    cases hr : rs[i]? with
    | none => simp [hr] at hA
    | some r => cases hx : xs[i]? with
      | none => simp [hr, hx] at hA
      | some x =>
        simp only [hr, hx, Option.map_some, Option.some.injEq] at hA hB
        subst hA hB
        exact (hp _ _ _ hh).2
  | i + 2, hA, hB => simp at hA
theorem lstQ_reads {T : TypeId} {E : Enc (A × SV2)} {p : SV2 → A → HProp} {F : Rd A} (hsz : F.sz = E.sz) (hp : ∀ w x h H, p w x h → Sub h H → F.rel H x (E.cells (x, w))) {v : SV} {xs : List A} {h H : Heap} (hb : lstQ T E p v xs h) (hS : Sub h H) : SlR F H v.val xs := by
  obtain ⟨ws, hl, hs⟩ := hb
  obtain ⟨g1, a1, s1⟩ := sat_at 0 hs rfl hS
  obtain ⟨g2, a2, s2⟩ := sat_at 1 hs rfl hS
  refine SlR.turn (E := E.rd) (by simp [hl]) hsz (fun i r x hr hx cs hc => ?_) (slA_lend a1 s1)
  obtain ⟨h1, h2⟩ := List.getElem?_zip_eq_some.1 hr
  obtain ⟨r1, r2⟩ := r
  obtain rfl : x = r1 := by rw [hx] at h1; exact Option.some.inj h1
  obtain ⟨g3, a3, s3⟩ := sat_at i (show sat (List.zipWith p ws xs) g2 from a2) (zip_get _ h2 hx) s2
  have : cs = E.cells (x, r2) := hc
  rw [this]
  exact hp _ _ _ _ a3 s3
theorem lstQ_open {T : TypeId} {E : Enc (A × SV2)} {p : SV2 → A → HProp} {v : SV} {xs : List A} {Γ : List HProp} : ∀ h, sat (lstQ T E p v xs :: Γ) h → ∃ z : {z : List SV2 // z.length = xs.length}, sat ([slA T E v.val (xs.zip z.1), many (List.zipWith p z.1 xs)] ++ Γ) h := by
  rintro h ⟨h1, h2, ⟨ws, hl, hs⟩, g2, hd, eq⟩
  exact ⟨⟨ws, hl⟩, sat_append.2 ⟨h1, h2, hs, g2, hd, eq⟩⟩
theorem lstQ_shut {T : TypeId} {E : Enc (A × SV2)} {p : SV2 → A → HProp} (v : SV) (ws : List SV2) {xs : List A} (hl : ws.length = xs.length) (Γ : List HProp) : ent (slA T E v.val (xs.zip ws) :: many (List.zipWith p ws xs) :: Γ) (lstQ T E p v xs :: Γ) :=
  ent.pack (Θ := [slA T E v.val (xs.zip ws), many (List.zipWith p ws xs)]) (fun _ hg => ⟨ws, hl, hg⟩) Γ
theorem zip_at {B C : Type} {xs : List B} {ws : List C} {i : Nat} {x : B} {w : C} (h1 : xs[i]? = some x) (h2 : ws[i]? = some w) : (xs.zip ws)[i]? = some (x, w) := List.getElem?_zip_eq_some.2 ⟨h1, h2⟩
theorem zip_set1 {B C : Type} {xs : List B} {ws : List C} {i : Nat} {x' : B} {w : C} (h2 : ws[i]? = some w) : (xs.zip ws).set i (x', w) = (xs.set i x').zip ws := by
  apply List.ext_getElem?; intro j
  rw [List.getElem?_set]
  have hw := (List.getElem?_eq_some_iff.1 h2).1
  by_cases e : i = j
  · subst e
    by_cases hx : i < xs.length
    · rw [if_pos rfl, if_pos (by simp only [List.length_zip]; omega)]
      exact (zip_at (by rw [List.getElem?_set_self hx]) h2).symm
    · rw [if_pos rfl, if_neg (by simp only [List.length_zip]; omega), List.getElem?_eq_none (by simp only [List.length_zip, List.length_set]; omega)]
  · rw [if_neg e]
    apply Option.ext; intro z
    rw [List.getElem?_zip_eq_some, List.getElem?_zip_eq_some, List.getElem?_set_ne e]
/-- the first k of a list turned -/
def turned {B : Type} (f : B → B) (xs : List B) (k : Nat) : List B := (xs.take k).map f ++ xs.drop k
theorem turned_zero {B : Type} (f : B → B) (xs : List B) : turned f xs 0 = xs := rfl
theorem turned_all {B : Type} (f : B → B) (xs : List B) : turned f xs xs.length = xs.map f := by simp [turned]
theorem turned_len {B : Type} (f : B → B) (xs : List B) (k : Nat) : (turned f xs k).length = xs.length := by simp [turned]; omega
theorem turned_get {B : Type} {f : B → B} {xs : List B} {k : Nat} {x : B} (h : xs[k]? = some x) : (turned f xs k)[k]? = some x := by
  have := (List.getElem?_eq_some_iff.1 h).1
  unfold turned
  rw [List.getElem?_append_right (by simp; omega)]
  simp only [List.length_map, List.length_take, List.getElem?_drop]
  rw [show k + (k - min k xs.length) = k by omega]; exact h
theorem turned_succ {B : Type} {f : B → B} {xs : List B} {k : Nat} {x : B} (h : xs[k]? = some x) : turned f xs (k + 1) = (turned f xs k).set k (f x) := by
  have := (List.getElem?_eq_some_iff.1 h).1
  unfold turned
  rw [List.set_append_right _ _ (by simp; omega), List.take_add_one, h, drop_at h]
  simp only [List.length_map, List.length_take]
  rw [show k - min k xs.length = 0 by omega]
  simp
theorem many_done {B C : Type} (q : C → B → HProp) (f : B → B) {xs : List B} {ws : List C} {k : Nat} {x : B} {w : C} (h1 : xs[k]? = some x) (h2 : ws[k]? = some w) : (List.zipWith q ws (xs.map f)).take (k + 1) = (List.zipWith q ws (xs.map f)).take k ++ [q w (f x)] := by
  rw [List.take_add_one, zip_get q h2 (show (xs.map f)[k]? = some (f x) by rw [List.getElem?_map, h1]; rfl)]; rfl
end
end Go.Sep
namespace Go.Proofs.YtfaokbjpinlcaaaGreat
open Go.Sep
set_option linter.unusedSimpArgs false
set_option linter.unusedVariables false
def insQ (w : SV2) (x : AI) : HProp := fun h => sat [slA 46 encLc w.1.val x.args, slA 3 encI w.2.val x.saves] h
abbrev bodyQ : SV → List AI → HProp := lstQ 53 encXI insQ
def blkQ (w : SV2) (b : AB) : HProp := fun h => sat [bodyQ w.1 b.body, slA 3 encI w.2.val b.term.to] h
abbrev blksQ : SV → List AB → HProp := lstQ 58 encXB blkQ
def funQ (w : SV2) (F : AF) : HProp := fun h => sat [slA 46 encLc w.1.val F.params, blksQ w.2 F.blocks] h
abbrev leaseQ : SV → List AF → HProp := lstQ 51 encXF funQ
theorem sat2_map {A B A' B' : HProp} (h1 : ∀ h, A h → A' h) (h2 : ∀ h, B h → B' h) {h : Heap} (hs : sat [A, B] h) : sat [A', B'] h := by
  obtain ⟨a, b, p, ⟨c, d, q, t, e1, e2⟩, e3, e4⟩ := hs
  exact ⟨a, b, h1 _ p, ⟨c, d, h2 _ q, t, e1, e2⟩, e3, e4⟩
theorem ins_q (r : XI) (x : AI) (h : Heap) (H : insP r x h) : r.1 = x ∧ insQ r.2 x h := ⟨H.1, sat2_map (fun _ => leaf_q) (fun _ => leaf_q) H.2⟩
theorem blk_q (r : XB) (x : AB) (h : Heap) (H : blkP r x h) : r.1 = x ∧ blkQ r.2 x h := ⟨H.1, sat2_map (fun _ => lst_q (q := insQ) ins_q) (fun _ => leaf_q) H.2⟩
theorem fun_q (r : XF) (x : AF) (h : Heap) (H : funP r x h) : r.1 = x ∧ funQ r.2 x h := ⟨H.1, sat2_map (fun _ => leaf_q) (fun _ => lst_q (q := blkQ) blk_q) H.2⟩
theorem lease_q {u : SV} {Fs : List AF} (Γ : List HProp) : ent (leaseP u Fs :: Γ) (leaseQ u Fs :: Γ) := ent.cons (fun _ => lst_q (q := funQ) fun_q) (ent.refl _)
theorem ins_qr (w : SV2) (x : AI) (h H : Heap) (hb : insQ w x h) (hS : Sub h H) : rdAI.rel H x (encXI.cells (x, w)) := by
  obtain ⟨g1, a1, s1⟩ := sat_at 0 hb rfl hS
  obtain ⟨g2, a2, s2⟩ := sat_at 1 hb rfl hS
  exact ⟨_, _, rfl, slA_lend a1 s1, slA_lend a2 s2⟩
theorem blk_qr (w : SV2) (x : AB) (h H : Heap) (hb : blkQ w x h) (hS : Sub h H) : rdAB.rel H x (encXB.cells (x, w)) := by
  obtain ⟨g1, a1, s1⟩ := sat_at 0 hb rfl hS
  obtain ⟨g2, a2, s2⟩ := sat_at 1 hb rfl hS
  exact ⟨_, _, rfl, lstQ_reads (F := rdAI) rfl ins_qr a1 s1, slA_lend a2 s2⟩
theorem fun_qr (w : SV2) (x : AF) (h H : Heap) (hb : funQ w x h) (hS : Sub h H) : rdAF.rel H x (encXF.cells (x, w)) := by
  obtain ⟨g1, a1, s1⟩ := sat_at 0 hb rfl hS
  obtain ⟨g2, a2, s2⟩ := sat_at 1 hb rfl hS
  exact ⟨_, _, rfl, slA_lend a1 s1, lstQ_reads (F := rdAB) rfl blk_qr a2 s2⟩
theorem lease_qr {u : SV} {Fs : List AF} {h H : Heap} (hb : leaseQ u Fs h) (hS : Sub h H) : SlR rdAF H u.val Fs := lstQ_reads (F := rdAF) rfl fun_qr hb hS
theorem ent.swap2 (A B : HProp) (Γ : List HProp) : ent (A :: B :: Γ) (B :: A :: Γ) := ent.perm (List.Perm.swap _ _ _)
/-! ### What is turned -/
def xo (a : Int) : Int := IntKind.i64.wrap ((BitVec.ofInt IntKind.i64.bits a ^^^ BitVec.ofInt IntKind.i64.bits 1).toNat : Int)
def turnI (x : AI) : AI := if x.op = 1 then { x with imm := xo x.imm } else x
def turnB (b : AB) : AB := { b with body := b.body.map turnI }
def turnF (F : AF) : AF := { F with blocks := F.blocks.map turnB }
def turnA (A : AL) : AL := { A with funcs := A.funcs.map turnF }
theorem turnI_same (x : AI) : (turnI x).args = x.args ∧ (turnI x).saves = x.saves ∧ (turnI x).op = x.op ∧ (turnI x).dst = x.dst := by unfold turnI; split <;> exact ⟨rfl, rfl, rfl, rfl⟩
theorem insQ_turn (w : SV2) (x : AI) : insQ w (turnI x) = insQ w x := by
  obtain ⟨h1, h2, _⟩ := turnI_same x
  unfold insQ; rw [h1, h2]
theorem insQ_all (ws : List SV2) (xs : List AI) : List.zipWith insQ ws (xs.map turnI) = List.zipWith insQ ws xs := by
  rw [List.zipWith_map_right]
  congr 1
  funext w x; exact insQ_turn w x
theorem set_at {A : Type} {xs : List A} {k : Nat} {x : A} (h : xs[k]? = some x) : xs.set k x = xs := by
  apply List.ext_getElem?; intro i
  by_cases e : k = i
  · subst e; rw [List.getElem?_set_self (List.getElem?_eq_some_iff.1 h).1, h]
  · rw [List.getElem?_set_ne e]
theorem lst_turned {A : Type} {T : TypeId} {E : Enc (A × SV2)} {p : SV2 → A → HProp} {f : A → A} (hE : ∀ x w, E.cells (f x, w) = E.cells (x, w)) (v : SV) (ws : List SV2) {xs : List A} (hl : ws.length = xs.length) (Γ : List HProp) : ent (slA T E v.val (xs.zip ws) :: many (List.zipWith p ws (xs.map f)) :: Γ) (lstQ T E p v (xs.map f) :: Γ) := by
  refine ent.trans ?_ (lstQ_shut v ws (by rw [List.length_map]; exact hl) Γ)
  refine ent.cons (fun h => slA_turn rfl ?_ h) (ent.refl _)
  rw [List.zip_map_left, List.map_map]
  exact List.map_congr_left fun r _ => hE r.1 r.2
theorem body_turned (v qv : SV) (ws : List SV2) {b : AB} (hl : ws.length = b.body.length) (Γ : List HProp) : ent (slA 53 encXI v.val ((b.body.map turnI).zip ws) :: many (List.zipWith insQ ws b.body) :: slA 3 encI qv.val b.term.to :: Γ) (blkQ (v, qv) (turnB b) :: Γ) := by
  have h1 := lstQ_shut (T := 53) (E := encXI) (p := insQ) v ws (xs := b.body.map turnI) (by rw [List.length_map]; exact hl) (slA 3 encI qv.val b.term.to :: Γ)
  rw [insQ_all] at h1
  exact h1.trans (ent.pack (Θ := [bodyQ v (b.body.map turnI), slA 3 encI qv.val b.term.to]) (fun _ h => h) Γ)
theorem blks_turned (pu v : SV) (ws : List SV2) {F : AF} (hl : ws.length = F.blocks.length) (Γ : List HProp) : ent (slA 58 encXB v.val (F.blocks.zip ws) :: many (List.zipWith blkQ ws (F.blocks.map turnB)) :: slA 46 encLc pu.val F.params :: Γ) (funQ (pu, v) (turnF F) :: Γ) :=
  (lst_turned (f := turnB) (T := 58) (E := encXB) (p := blkQ) (fun _ _ => rfl) v ws hl _).trans ((ent.swap2 _ _ _).trans (ent.pack (Θ := [slA 46 encLc pu.val F.params, blksQ v (F.blocks.map turnB)]) (fun _ h => h) Γ))
theorem turn_small {A : AL} (h : SmallA A) : SmallA (turnA A) := by
  refine ⟨by simp only [turnA, List.length_map]; exact h.sf, fun G hG => ?_⟩
  obtain ⟨F, hF, rfl⟩ := List.mem_map.1 hG
  have hs := h.sa F hF
  refine ⟨hs.sp, by simp only [turnF, List.length_map]; exact hs.sb, fun b hb => ?_, ?_, hs.sn⟩
  · obtain ⟨c, hc, rfl⟩ := List.mem_map.1 hb
    obtain ⟨h1, h2, h3⟩ := hs.si c hc
    refine ⟨by simp only [turnB, List.length_map]; exact h1, h2, fun x hx => ?_⟩
    obtain ⟨y, hy, rfl⟩ := List.mem_map.1 hx
    rw [(turnI_same y).1, (turnI_same y).2.1]
    exact h3 y hy
  · have e : (turnF F).blocks.map (fun b => b.body.length) = F.blocks.map fun b => b.body.length := by simp [turnF, turnB]
    rw [e]; exact hs.st
end Go.Proofs.YtfaokbjpinlcaaaGreat
end
section
/- turn: each constant's number is turned where it lies; walked. -/
namespace Go.Proofs.YtfaokbjpinlcaaaGreat
open Go.Sep
set_option linter.unusedSimpArgs false
set_option linter.unusedVariables false
set_option maxRecDepth 100000
attribute [local irreducible] blk slA mp mpF rows rowsBut many mpK mpE insQ blkQ funQ lstQ turned
set_option maxHeartbeats 8000000 in
theorem turn_ok (hR : Heap) (A : AL) (u : SV) (hs : SmallA A) : Tri Tryz.prog hR 21 #[.agg ⟨alv A u⟩] [leaseQ u A.funcs] fun _ Γ' => Γ' = [leaseQ u (A.funcs.map turnF)] := by
  have hsf := hs.sf
  refine Tri.ent (Tri.of (args := [.agg ⟨alv A u⟩]) Tryz.func21 rfl Tryz.ntmps21 (by simp) ?_)
  refine Zp ?_
  refine Run.box rfl rfl rfl rfl rfl ?_
  intro b1
  refine Ze ?_
  refine WP.trim [1] [0, 1] ?_
  refine WP.opens lstQ_open ?_
  rintro ⟨ws, hwl⟩
  simp only at hwl ⊢
  have hzl : (A.funcs.zip ws).length = A.funcs.length := by simp [hwl]
  generalize hREST : List.zipWith funQ ws A.funcs = REST
  generalize hDONE : List.zipWith funQ ws (A.funcs.map turnF) = DONE
  have hdl : DONE.length = A.funcs.length := by rw [← hDONE]; simp [hwl]
  refine WP.via (Γ' := [many (DONE.take 0), slA 51 encXF u.val (A.funcs.zip ws), many REST, blk b1 (alv A u) 24]) (many_in [] _) ?_
  refine WP.trim [1] [3, 1, 2, 0] ?_
  refine Zp ?_
  refine Zm ?_
  refine Ze ?_
  refine WP.block ?_
  refine WP.trim [1, 2] [0, 1, 2, 3] ?_
  refine WP.loopC (α := Nat) (fun i => i ≤ A.funcs.length) (fun i => [(2, vI (i : Int))]) (fun i => [(2, many (REST.drop i)), (3, many (DONE.take i))]) (fun i => A.funcs.length - i) 0 (Nat.zero_le _) ?_
  intro i hi
  refine WP.trim [1, 2] [0, 1, 2, 3] ?_
  refine WP.seq ?_
  refine Zp ?_
  refine Zm ?_
  refine Zf fo_24_0 ?_
  refine Zl 0 ag_22 ?_
  refine Run.lenO 1 rfl rfl sl_22 rfl rfl rfl ?_
  refine Zi ?_
  refine Ze ?_
  refine WP.ite rfl (fun hlt => ?_) (fun hge => ?_)
  · refine Zb ?_
    obtain ⟨F, gF⟩ : ∃ y, A.funcs[i]? = some y := ⟨_, List.getElem?_eq_getElem (by omega)⟩
    obtain ⟨⟨pu, pv⟩, gw⟩ : ∃ y, ws[i]? = some y := ⟨_, List.getElem?_eq_getElem (by omega)⟩
    have gz : (A.funcs.zip ws)[i]? = some ((F, pu, pv) : XF) := zip_at gF gw
    have hn : REST[i]? = some (funQ (pu, pv) F) := by rw [← hREST]; exact zip_get funQ gw gF
    have hdn : DONE.take (i + 1) = DONE.take i ++ [funQ (pu, pv) (turnF F)] := by rw [← hDONE]; exact many_done funQ turnF gF gw
    have hFs := hs.sa F (List.mem_of_getElem? gF)
    have hsb := hFs.sb
    have hsi := hFs.si
    refine WP.trim [1, 2] [2, 0, 1, 3] ?_
    refine WP.via (many_next hn _) ?_
    refine WP.via (ent.unpack (Θ := [slA 46 encLc pu.val F.params, blksQ pv F.blocks]) (fun h hh => by unfold funQ at hh; exact hh) _) ?_
    refine WP.trim [1, 2] [1, 3, 4, 2, 5, 0] ?_
    refine WP.opens lstQ_open ?_
    rintro ⟨ws2, hwl2⟩
    simp only at hwl2 ⊢
    have hzl2 : (F.blocks.zip ws2).length = F.blocks.length := by simp [hwl2]
    generalize hREST2 : List.zipWith blkQ ws2 F.blocks = REST2
    generalize hDONE2 : List.zipWith blkQ ws2 (F.blocks.map turnB) = DONE2
    have hdl2 : DONE2.length = F.blocks.length := by rw [← hDONE2]; simp [hwl2]
    refine WP.via (Γ' := [many (DONE2.take 0), slA 58 encXB pv.val (F.blocks.zip ws2), many REST2, blk b1 (alv A u) 24, slA 51 encXF u.val (A.funcs.zip ws), many (REST.drop (i + 1)), many (DONE.take i), slA 46 encLc pu.val F.params]) (many_in [] _) ?_
    refine WP.trim [1, 2] [3, 4, 5, 6, 7, 1, 2, 0] ?_
    refine WP.seq ?_
    refine WP.block ?_
    refine Zp ?_
    refine Zm ?_
    refine Ze ?_
    refine WP.block ?_
    refine WP.trim [1, 2, 3] [0, 1, 2, 3, 4, 5, 6, 7] ?_
    refine WP.loopC (α := Nat) (fun j => j ≤ F.blocks.length) (fun j => [(3, vI (j : Int))]) (fun j => [(6, many (REST2.drop j)), (7, many (DONE2.take j))]) (fun j => F.blocks.length - j) 0 (Nat.zero_le _) ?_
    intro j hj
    refine WP.trim [1, 2, 3] [0, 1, 2, 3, 4, 5, 6, 7] ?_
    refine WP.seq ?_
    refine Zp ?_
    refine Zm ?_
    refine Zf fo_24_0 ?_
    refine Zl 0 ag_22 ?_
    refine Zm ?_
    refine Run.idxO 1 rfl rfl rfl sl_22 rfl rfl rfl rfl (by omega) (by omega) ?_
    refine Zf fo_51_4 ?_
    refine Run.loadO 1 i 4 rfl rfl ag_49 rfl rfl rfl rfl gz rfl ?_
    refine Run.lenO 5 rfl rfl sl_49 rfl rfl rfl ?_
    refine Zi ?_
    refine Ze ?_
    refine WP.ite rfl (fun hlt2 => ?_) (fun hge2 => ?_)
    · refine Zb ?_
      obtain ⟨b, gb⟩ : ∃ y, F.blocks[j]? = some y := ⟨_, List.getElem?_eq_getElem (by omega)⟩
      obtain ⟨⟨qu, qv⟩, gw2⟩ : ∃ y, ws2[j]? = some y := ⟨_, List.getElem?_eq_getElem (by omega)⟩
      have gz2 : (F.blocks.zip ws2)[j]? = some ((b, qu, qv) : XB) := zip_at gb gw2
      have hn2 : REST2[j]? = some (blkQ (qu, qv) b) := by rw [← hREST2]; exact zip_get blkQ gw2 gb
      have hdn2 : DONE2.take (j + 1) = DONE2.take j ++ [blkQ (qu, qv) (turnB b)] := by rw [← hDONE2]; exact many_done blkQ turnB gb gw2
      obtain ⟨s1, s2, s3⟩ := hsi b (List.mem_of_getElem? gb)
      refine WP.trim [1, 2, 3] [6, 0, 1, 2, 3, 4, 5, 7] ?_
      refine WP.via (many_next hn2 _) ?_
      refine WP.via (ent.unpack (Θ := [bodyQ qu b.body, slA 3 encI qv.val b.term.to]) (fun h hh => by unfold blkQ at hh; exact hh) _) ?_
      refine WP.opens lstQ_open ?_
      rintro ⟨ws3, hwl3⟩
      simp only at hwl3 ⊢
      refine WP.trim [1, 2, 3] [4, 5, 6, 7, 8, 9, 3, 10, 2, 0, 1] ?_
      refine WP.seq ?_
      refine WP.block ?_
      refine Zp ?_
      refine Zm ?_
      refine Ze ?_
      refine WP.block ?_
      refine WP.trim [1, 2, 3, 4] [0, 1, 2, 3, 4, 5, 6, 7, 8, 9, 10] ?_
      refine WP.loopC (α := Nat) (fun k => k ≤ b.body.length) (fun k => [(4, vI (k : Int))]) (fun k => [(9, slA 53 encXI qu.val ((turned turnI b.body k).zip ws3))]) (fun k => b.body.length - k) 0 (Nat.zero_le _) ?_ (he := by rw [turned_zero]; exact ent.refl _)
      intro k hk
      refine WP.trim [1, 2, 3, 4] [0, 1, 2, 3, 4, 5, 6, 7, 8, 9, 10] ?_
      have hzl3 : ((turned turnI b.body k).zip ws3).length = b.body.length := by rw [List.length_zip, turned_len]; omega
      refine WP.seq ?_
      refine Zp ?_
      refine Zm ?_
      refine Zf fo_24_0 ?_
      refine Zl 0 ag_22 ?_
      refine Zm ?_
      refine Run.idxO 1 rfl rfl rfl sl_22 rfl rfl rfl rfl (by omega) (by omega) ?_
      refine Zf fo_51_4 ?_
      refine Run.loadO 1 i 4 rfl rfl ag_49 rfl rfl rfl rfl gz rfl ?_
      refine Zm ?_
      refine Run.idxO 5 rfl rfl rfl sl_49 rfl rfl rfl rfl (by omega) (by omega) ?_
      refine Zf fo_58_0 ?_
      refine Run.loadO 5 j 0 rfl rfl ag_54 rfl rfl rfl rfl gz2 rfl ?_
      refine Run.lenO 9 rfl rfl sl_54 rfl rfl rfl ?_
      refine Zi ?_
      refine Ze ?_
      refine WP.ite rfl (fun hlt3 => ?_) (fun hge3 => ?_)
      · refine Zb ?_
        obtain ⟨x, gx⟩ : ∃ y, b.body[k]? = some y := ⟨_, List.getElem?_eq_getElem (by omega)⟩
        obtain ⟨⟨ru, rv⟩, gw3⟩ : ∃ y, ws3[k]? = some y := ⟨_, List.getElem?_eq_getElem (by omega)⟩
        have gz3 : ((turned turnI b.body k).zip ws3)[k]? = some ((x, ru, rv) : XI) := zip_at (turned_get gx) gw3
        have hts := turned_succ (f := turnI) gx
        refine WP.seq ?_
        refine WP.block ?_
        refine Zp ?_
        refine Zf fo_24_0 ?_
        refine Zl 0 ag_22 ?_
        refine Zm ?_
        refine Run.idxO 1 rfl rfl rfl sl_22 rfl rfl rfl rfl (by omega) (by omega) ?_
        refine Zf fo_51_4 ?_
        refine Run.loadO 1 i 4 rfl rfl ag_49 rfl rfl rfl rfl gz rfl ?_
        refine Zm ?_
        refine Run.idxO 5 rfl rfl rfl sl_49 rfl rfl rfl rfl (by omega) (by omega) ?_
        refine Zf fo_58_0 ?_
        refine Run.loadO 5 j 0 rfl rfl ag_54 rfl rfl rfl rfl gz2 rfl ?_
        refine Zm ?_
        refine Run.idxO 9 rfl rfl rfl sl_54 rfl rfl rfl rfl (by omega) (by omega) ?_
        refine Zf fo_53_0 ?_
        refine Run.loadO 9 k 0 rfl rfl ag_3 rfl rfl rfl rfl gz3 rfl ?_
        refine Zi ?_
        refine Ze ?_
        refine WP.ite rfl (fun h1 => ?_) (fun h1 => ?_)
        · have e : turnI x = { x with imm := xo x.imm } := by unfold turnI; rw [if_pos h1]
          refine WP.drawn0 cf0 mixed rfl (by kernel_rfl) ?_
          refine Zf fo_24_0 ?_
          refine Zl 0 ag_22 ?_
          refine Zm ?_
          refine Run.idxO 1 rfl rfl rfl sl_22 rfl rfl rfl rfl (by omega) (by omega) ?_
          refine Zf fo_51_4 ?_
          refine Run.loadO 1 i 4 rfl rfl ag_49 rfl rfl rfl rfl gz rfl ?_
          refine Zm ?_
          refine Run.idxO 5 rfl rfl rfl sl_49 rfl rfl rfl rfl (by omega) (by omega) ?_
          refine Zf fo_58_0 ?_
          refine Run.loadO 5 j 0 rfl rfl ag_54 rfl rfl rfl rfl gz2 rfl ?_
          refine Zm ?_
          refine Zf fo_24_0 ?_
          refine Zl 0 ag_22 ?_
          refine Zm ?_
          refine Run.idxO 1 rfl rfl rfl sl_22 rfl rfl rfl rfl (by omega) (by omega) ?_
          refine Zf fo_51_4 ?_
          refine Run.loadO 1 i 4 rfl rfl ag_49 rfl rfl rfl rfl gz rfl ?_
          refine Zm ?_
          refine Run.idxO 5 rfl rfl rfl sl_49 rfl rfl rfl rfl (by omega) (by omega) ?_
          refine Zf fo_58_0 ?_
          refine Run.loadO 5 j 0 rfl rfl ag_54 rfl rfl rfl rfl gz2 rfl ?_
          refine Zm ?_
          refine Run.idxO 9 rfl rfl rfl sl_54 rfl rfl rfl rfl (by omega) (by omega) ?_
          refine Zf fo_53_1 ?_
          refine Run.loadO 9 k 1 rfl rfl ag_3 rfl rfl rfl rfl gz3 rfl ?_
          refine Run.int2 (v := vI (xo x.imm)) rfl rfl rfl rfl rfl rfl ?_
          refine Run.idxO 9 rfl rfl rfl sl_54 rfl rfl rfl rfl (by omega) (by omega) ?_
          refine Zf fo_53_1 ?_
          refine Run.storeO 9 k 1 (y' := (({ x with imm := xo x.imm }, ru, rv) : XI)) rfl rfl rfl rfl ag_3 rfl rfl rfl rfl gz3 rfl rfl ?_
          refine Run.nil ?_
          refine blk_norm ?_; refine thn_next ?_
          rw [zip_set1 gw3, ← e, ← hts]
          refine Zc ?_
          refine Zm ?_
          refine Za ?_
          refine Zm ?_
          refine Run.nil ?_
          exact thn_next ⟨k + 1, by omega, by omega, Ko.go, ent.refl _⟩
        · have e : turnI x = x := by unfold turnI; rw [if_neg h1]
          rw [e, set_at (turned_get gx)] at hts
          refine WP.skip ?_; refine blk_norm ?_; refine thn_next ?_
          refine Zc ?_
          refine Zm ?_
          refine Za ?_
          refine Zm ?_
          refine Run.nil ?_
          refine thn_next ⟨k + 1, by omega, by omega, Ko.go, ?_⟩
          rw [hts]; exact ent.refl _
      · refine Zj ?_; refine blk_norm ?_; refine thn_next ?_
        obtain rfl : k = b.body.length := by omega
        rw [turned_all]
        refine WP.trim [1, 2, 3] [9, 10, 8, 7, 0, 1, 2, 3, 4, 5, 6] ?_
        refine WP.via (body_turned qu qv ws3 hwl3 _) ?_
        refine WP.trim [1, 2, 3] [1, 0, 2, 3, 4, 5, 6, 7, 8] ?_
        refine WP.via (many_snoc _ _ _) ?_
        rw [← hdn2]
        refine WP.trim [1, 2, 3] [1, 2, 3, 4, 5, 6, 7, 0] ?_
        refine Zc ?_
        refine Zm ?_
        refine Za ?_
        refine Zm ?_
        refine Run.nil ?_
        exact thn_next ⟨j + 1, by omega, by omega, Ko.go, ent.refl _⟩
    · refine Zj ?_; refine blk_norm ?_; refine thn_next ?_
      rw [List.take_of_length_le (l := DONE2) (by omega), ← hDONE2]
      refine WP.trim [1, 2] [5, 7, 4, 3, 0, 1, 2] ?_
      refine WP.via (blks_turned pu pv ws2 hwl2 _) ?_
      refine WP.trim [1, 2] [1, 0, 2, 3, 4] ?_
      refine WP.via (many_snoc _ _ _) ?_
      rw [← hdn]
      refine WP.trim [1, 2] [1, 2, 3, 0] ?_
      refine Zc ?_
      refine Zm ?_
      refine Za ?_
      refine Zm ?_
      refine Run.nil ?_
      exact thn_next ⟨i + 1, by omega, by omega, Ko.go, ent.refl _⟩
  · refine Zj ?_
    rw [List.take_of_length_le (l := DONE) (by omega), ← hDONE]
    exact retN [] [] rfl rfl ⟨[leaseQ u (A.funcs.map turnF)], ent.trans (Δ := [slA 51 encXF u.val (A.funcs.zip ws), many (List.zipWith funQ ws (A.funcs.map turnF))]) ent.go (lst_turned (f := turnF) (T := 51) (E := encXF) (p := funQ) (fun _ _ => rfl) u ws hwl []), rfl⟩
end Go.Proofs.YtfaokbjpinlcaaaGreat
end
section
/- spoil: what was handed in is written over; walked. -/
namespace Go.Proofs.YtfaokbjpinlcaaaGreat
open Go.Sep
set_option linter.unusedSimpArgs false
set_option linter.unusedVariables false
set_option maxRecDepth 100000
attribute [local irreducible] blk slA mp mpF rows rowsBut many mpK mpE insQ blkQ funQ lstQ turned
def othA : AF := ⟨⟨#[111, 116, 104, 101, 114]⟩, [], 0, 0, []⟩
def othF : XF := (othA, nilS, nilS)
def spI : XI := (⟨1, 0, ⟨1, 0⟩, [], []⟩, nilS, nilS)
set_option maxHeartbeats 8000000 in
theorem spoil_ok (hR : Heap) (A : AL) (u : SV) (hs : SmallA A) : Tri Tryz.prog hR 22 #[.agg ⟨alv A u⟩] [leaseQ u A.funcs] fun _ Γ' => Γ' = [slA 51 encXF u.val (List.replicate A.funcs.length othF)] := by
  have hsf := hs.sf
  refine Tri.ent (Tri.of (args := [.agg ⟨alv A u⟩]) Tryz.func22 rfl Tryz.ntmps22 (by simp) ?_)
  refine Zp ?_
  refine Run.box rfl rfl rfl rfl rfl ?_
  intro b1
  refine Ze ?_
  refine WP.trim [1] [0, 1] ?_
  refine WP.opens lstQ_open ?_
  rintro ⟨ws, hwl⟩
  simp only at hwl ⊢
  have hzl : (A.funcs.zip ws).length = A.funcs.length := by simp [hwl]
  generalize hREST : List.zipWith funQ ws A.funcs = REST
  generalize hZ : A.funcs.zip ws = Z at hzl
  refine WP.trim [1] [2, 0, 1] ?_
  refine Zp ?_
  refine Zm ?_
  refine Ze ?_
  refine WP.block ?_
  refine WP.trim [1, 2] [0, 1, 2] ?_
  refine WP.loopC (α := Nat) (fun i => i ≤ A.funcs.length) (fun i => [(2, vI (i : Int))]) (fun i => [(1, slA 51 encXF u.val (turned (fun _ => othF) Z i)), (2, many (REST.drop i))]) (fun i => A.funcs.length - i) 0 (Nat.zero_le _) ?_ (he := by rw [turned_zero]; exact ent.refl _)
  intro i hi
  refine WP.trim [1, 2] [0, 1, 2] ?_
  have htl : (turned (fun _ => othF) Z i).length = A.funcs.length := by rw [turned_len]; exact hzl
  refine WP.seq ?_
  refine Zp ?_
  refine Zm ?_
  refine Zf fo_24_0 ?_
  refine Zl 0 ag_22 ?_
  refine Run.lenO 1 rfl rfl sl_22 rfl rfl rfl ?_
  refine Zi ?_
  refine Ze ?_
  refine WP.ite rfl (fun hlt => ?_) (fun hge => ?_)
  · refine Zb ?_
    obtain ⟨F, gF⟩ : ∃ y, A.funcs[i]? = some y := ⟨_, List.getElem?_eq_getElem (by omega)⟩
    obtain ⟨⟨pu, pv⟩, gw⟩ : ∃ y, ws[i]? = some y := ⟨_, List.getElem?_eq_getElem (by omega)⟩
    have gz0 : Z[i]? = some ((F, pu, pv) : XF) := by rw [← hZ]; exact zip_at gF gw
    have gz : (turned (fun _ => othF) Z i)[i]? = some ((F, pu, pv) : XF) := turned_get gz0
    have hts : turned (fun _ => othF) Z (i + 1) = (turned (fun _ => othF) Z i).set i othF := turned_succ gz0
    have hn : REST[i]? = some (funQ (pu, pv) F) := by rw [← hREST]; exact zip_get funQ gw gF
    have hFs := hs.sa F (List.mem_of_getElem? gF)
    have hsb := hFs.sb
    have hsi := hFs.si
    refine WP.trim [1, 2] [2, 0, 1] ?_
    refine WP.via (many_next hn _) ?_
    refine WP.via (ent.unpack (Θ := [slA 46 encLc pu.val F.params, blksQ pv F.blocks]) (fun h hh => by unfold funQ at hh; exact hh) _) ?_
    refine WP.trim [1, 2] [1, 3, 4, 2] ?_
    refine WP.opens lstQ_open ?_
    rintro ⟨ws2, hwl2⟩
    simp only at hwl2 ⊢
    have hzl2 : (F.blocks.zip ws2).length = F.blocks.length := by simp [hwl2]
    generalize hREST2 : List.zipWith blkQ ws2 F.blocks = REST2
    refine WP.trim [1, 2] [2, 3, 4, 0, 1] ?_
    refine WP.seq ?_
    refine WP.block ?_
    refine WP.seq ?_
    refine Zp ?_
    refine Zm ?_
    refine Ze ?_
    refine WP.block ?_
    refine WP.trim [1, 2, 3] [0, 1, 2, 3, 4] ?_
    refine WP.loopC (α := Nat) (fun j => j ≤ F.blocks.length) (fun j => [(3, vI (j : Int))]) (fun j => [(4, many (REST2.drop j))]) (fun j => F.blocks.length - j) 0 (Nat.zero_le _) ?_
    intro j hj
    refine WP.trim [1, 2, 3] [0, 1, 2, 3, 4] ?_
    refine WP.seq ?_
    refine Zp ?_
    refine Zm ?_
    refine Zf fo_24_0 ?_
    refine Zl 0 ag_22 ?_
    refine Zm ?_
    refine Run.idxO 1 rfl rfl rfl sl_22 rfl rfl rfl rfl (by omega) (by omega) ?_
    refine Zf fo_51_4 ?_
    refine Run.loadO 1 i 4 rfl rfl ag_49 rfl rfl rfl rfl gz rfl ?_
    refine Run.lenO 3 rfl rfl sl_49 rfl rfl rfl ?_
    refine Zi ?_
    refine Ze ?_
    refine WP.ite rfl (fun hlt2 => ?_) (fun hge2 => ?_)
    · refine Zb ?_
      obtain ⟨b, gb⟩ : ∃ y, F.blocks[j]? = some y := ⟨_, List.getElem?_eq_getElem (by omega)⟩
      obtain ⟨⟨qu, qv⟩, gw2⟩ : ∃ y, ws2[j]? = some y := ⟨_, List.getElem?_eq_getElem (by omega)⟩
      have gz2 : (F.blocks.zip ws2)[j]? = some ((b, qu, qv) : XB) := zip_at gb gw2
      have hn2 : REST2[j]? = some (blkQ (qu, qv) b) := by rw [← hREST2]; exact zip_get blkQ gw2 gb
      obtain ⟨s1, s2, s3⟩ := hsi b (List.mem_of_getElem? gb)
      refine WP.trim [1, 2, 3] [4, 0, 1, 2, 3] ?_
      refine WP.via (many_next hn2 _) ?_
      refine WP.via (ent.unpack (Θ := [bodyQ qu b.body, slA 3 encI qv.val b.term.to]) (fun h hh => by unfold blkQ at hh; exact hh) _) ?_
      refine WP.opens lstQ_open ?_
      rintro ⟨ws3, hwl3⟩
      simp only at hwl3 ⊢
      have hzl3 : (b.body.zip ws3).length = b.body.length := by simp [hwl3]
      generalize b.body.zip ws3 = Y at hzl3
      refine WP.trim [1, 2, 3] [4, 5, 6, 7, 3, 0] ?_
      refine WP.seq ?_
      refine WP.block ?_
      refine Zp ?_
      refine Zm ?_
      refine Ze ?_
      refine WP.block ?_
      refine WP.trim [1, 2, 3, 4] [0, 1, 2, 3, 4, 5] ?_
      refine WP.loopC (α := Nat) (fun k => k ≤ b.body.length) (fun k => [(4, vI (k : Int))]) (fun k => [(5, slA 53 encXI qu.val (turned (fun _ => spI) Y k))]) (fun k => b.body.length - k) 0 (Nat.zero_le _) ?_ (he := by rw [turned_zero]; exact ent.refl _)
      intro k hk
      refine WP.trim [1, 2, 3, 4] [0, 1, 2, 3, 4, 5] ?_
      have hyl : (turned (fun _ => spI) Y k).length = b.body.length := by rw [turned_len]; omega
      refine WP.seq ?_
      refine Zp ?_
      refine Zm ?_
      refine Zf fo_24_0 ?_
      refine Zl 0 ag_22 ?_
      refine Zm ?_
      refine Run.idxO 1 rfl rfl rfl sl_22 rfl rfl rfl rfl (by omega) (by omega) ?_
      refine Zf fo_51_4 ?_
      refine Run.loadO 1 i 4 rfl rfl ag_49 rfl rfl rfl rfl gz rfl ?_
      refine Zm ?_
      refine Run.idxO 3 rfl rfl rfl sl_49 rfl rfl rfl rfl (by omega) (by omega) ?_
      refine Zf fo_58_0 ?_
      refine Run.loadO 3 j 0 rfl rfl ag_54 rfl rfl rfl rfl gz2 rfl ?_
      refine Run.lenO 5 rfl rfl sl_54 rfl rfl rfl ?_
      refine Zi ?_
      refine Ze ?_
      refine WP.ite rfl (fun hlt3 => ?_) (fun hge3 => ?_)
      · refine Zb ?_
        obtain ⟨x, gx⟩ : ∃ y, Y[k]? = some y := ⟨_, List.getElem?_eq_getElem (by omega)⟩
        have gy : (turned (fun _ => spI) Y k)[k]? = some x := turned_get gx
        have hys : turned (fun _ => spI) Y (k + 1) = (turned (fun _ => spI) Y k).set k spI := turned_succ gx
        refine WP.seq ?_
        refine WP.block ?_
        refine Zc ?_
        refine Zf fo_24_0 ?_
        refine Zl 0 ag_22 ?_
        refine Zm ?_
        refine Run.idxO 1 rfl rfl rfl sl_22 rfl rfl rfl rfl (by omega) (by omega) ?_
        refine Zf fo_51_4 ?_
        refine Run.loadO 1 i 4 rfl rfl ag_49 rfl rfl rfl rfl gz rfl ?_
        refine Zm ?_
        refine Run.idxO 3 rfl rfl rfl sl_49 rfl rfl rfl rfl (by omega) (by omega) ?_
        refine Zf fo_58_0 ?_
        refine Run.loadO 3 j 0 rfl rfl ag_54 rfl rfl rfl rfl gz2 rfl ?_
        refine Zm ?_
        refine Run.build rfl bd_46 rfl rfl rfl rfl ?_
        refine Run.build rfl bd_53 rfl rfl rfl rfl ?_
        refine Run.idxO 5 rfl rfl rfl sl_54 rfl rfl rfl rfl (by omega) (by omega) ?_
        refine Run.storeO 5 k 0 (y' := spI) rfl rfl rfl rfl ag_53 rfl rfl rfl rfl gy rfl rfl ?_
        refine Run.nil ?_
        refine blk_norm ?_; refine thn_next ?_
        rw [← hys]
        refine Zc ?_
        refine Zm ?_
        refine Za ?_
        refine Zm ?_
        refine Run.nil ?_
        exact thn_next ⟨k + 1, by omega, by omega, Ko.go, ent.refl _⟩
      · refine Zj ?_; refine blk_norm ?_; refine thn_next ?_
        refine WP.trim [1, 2, 3] [0, 1, 2, 3, 4] ?_
        refine Zc ?_
        refine Zm ?_
        refine Za ?_
        refine Zm ?_
        refine Run.nil ?_
        exact thn_next ⟨j + 1, by omega, by omega, Ko.go, ent.refl _⟩
    · refine Zj ?_; refine thn_next ?_
      refine WP.trim [1, 2] [0, 1, 2] ?_
      refine Zc ?_
      refine Zf fo_24_0 ?_
      refine Zl 0 ag_22 ?_
      refine Zm ?_
      refine Run.build rfl bd_51 rfl rfl rfl rfl ?_
      refine Run.idxO 1 rfl rfl rfl sl_22 rfl rfl rfl rfl (by omega) (by omega) ?_
      refine Run.storeO 1 i 0 (y' := othF) rfl rfl rfl rfl ag_51 rfl rfl rfl rfl gz rfl rfl ?_
      refine Run.nil ?_
      refine blk_norm ?_; refine thn_next ?_
      rw [← hts]
      refine Zc ?_
      refine Zm ?_
      refine Za ?_
      refine Zm ?_
      refine Run.nil ?_
      exact thn_next ⟨i + 1, by omega, by omega, Ko.go, ent.refl _⟩
  · refine Zj ?_
    have e : turned (fun _ => othF) Z i = List.replicate A.funcs.length othF := by
      obtain rfl : i = Z.length := by omega
      rw [turned_all, List.map_const', hzl]
    rw [e]
    exact retN [] [] rfl rfl ⟨[slA 51 encXF u.val (List.replicate A.funcs.length othF)], ent.go, rfl⟩
/-- what was written over is ALIR no more -/
def spoilt (A : AL) : AL := ⟨List.replicate A.funcs.length othA, A.main⟩
theorem spoilt_small {A : AL} (h : SmallA A) : SmallA (spoilt A) := by
  refine ⟨by simp only [spoilt, List.length_replicate]; exact h.sf, fun F hF => ?_⟩
  obtain rfl := (List.mem_replicate.1 hF).2
  exact ⟨by decide, by decide, fun b hb => by simp [othA] at hb, by decide, by decide⟩
theorem spoilt_bad (nm : ByteArray → Bool) (A : AL) : okA nm (spoilt A) = false := by
  cases h : okA nm (spoilt A) with
  | false => rfl
  | true =>
    exfalso
    unfold okA at h
    rw [Bool.and_eq_true, Bool.and_eq_true, Bool.and_eq_true] at h
    obtain ⟨⟨⟨h1, _⟩, h2⟩, _⟩ := h
    simp only [decide_eq_true_eq] at h2
    have hm : othA ∈ (spoilt A).funcs := by
      unfold spoilt at h2 ⊢
      simp only [List.length_replicate] at h2
      exact List.mem_replicate.2 ⟨by omega, rfl⟩
    have := List.all_eq_true.1 h1 _ hm
    rw [Bool.and_eq_true] at this
    have := (funB_spec this.2).1
    exact this.2.2.2.2.2 rfl
theorem spoilt_reads {A : AL} {u : SV} {h : Heap} (H : SlR encXF.rd h u.val (List.replicate A.funcs.length othF)) : SlR rdAF h u.val (spoilt A).funcs := by
  refine SlR.turn (E := encXF.rd) (by simp [spoilt]) rfl (fun i r x hr hx cs hc => ?_) H
  obtain rfl := (List.mem_replicate.1 (List.mem_of_getElem? hr)).2
  obtain rfl := (List.mem_replicate.1 (List.mem_of_getElem? hx)).2
  exact ⟨nilS.val, nilS.val, hc, ⟨none, 0, rfl, Nat.le_refl _, fun h => absurd rfl h⟩, ⟨none, 0, rfl, Nat.le_refl _, fun h => absurd rfl h⟩⟩
end Go.Proofs.YtfaokbjpinlcaaaGreat
end
