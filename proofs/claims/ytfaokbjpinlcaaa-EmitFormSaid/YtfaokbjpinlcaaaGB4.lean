/- The chapter's example, built; walked. -/
import Derived.Test.YtfaokbjpinlcaaaGA4
import Derived.Test.YtfaokbjpinlcaaaGB3
import Derived.Test.YtfaokbjpinlcaaaGA5
import Derived.Test.YtfaokbjpinlcaaaGB1
import Derived.Test.YtfaokbjpinlcaaaGA9
import Derived.Test.YtfaokbjpinlcaaaGA3
import Derived.Test.YtfaokbjpinlcaaaGB2
import Derived.Test.YtfaokbjpinlcaaaRows
section
/- The chapter's example, built; walked. -/
namespace Go.Proofs.Ytfaokbjpinlcaaa
open Go.Sep
set_option linter.unusedSimpArgs false
set_option linter.unusedVariables false
set_option maxRecDepth 100000
attribute [local irreducible] blk slA mp mpF rows rowsBut many mpK mpE
theorem ok_16 : calleeOk Try.prog 16 = true := by kernel_rfl
theorem loc38_ok (hR : Heap) (n : Int) : Tri Try.prog hR 16 #[vI n] [] fun r Γ' => r = .agg ⟨lcv ⟨1, n⟩⟩ ∧ Γ' = [] := by
  refine Tri.ent (Tri.of (args := [vI n]) Try.func16 rfl Try.ntmps16 (by simp) ?_)
  refine Zp ?_
  refine Run.alloc rfl zr_44 rfl rfl rfl ?_
  intro b2
  refine Ze ?_
  refine Zp ?_
  refine Zm ?_
  refine Run.build rfl bd_44 rfl rfl rfl rfl ?_
  refine Run.storeB 0 rfl rfl rfl rfl ag_44 rfl rfl rfl rfl rfl ?_
  refine Ze ?_
  refine WP.ret ?_
  exact retC 2 0 ag_44 rfl rfl rfl rfl ⟨_, ent.none _, rfl, rfl⟩
abbrev sampΓ (w1 w2 w3 w4 w5 w6 w7 w8 w9 w10 : SV) : List HProp := [slA 51 encXI w1.val [((sI1, nilS, nilS) : XI)], slA 49 encXB w2.val [((sB1, w1, nilS) : XB)], slA 3 encI w3.val [(0 : Int)], slA 44 encLc w4.val [(⟨1, 0⟩ : Lc)], slA 44 encLc w5.val [(⟨1, 1⟩ : Lc)], slA 44 encLc w6.val [(⟨1, 1⟩ : Lc)], slA 44 encLc w7.val [(⟨2, 0⟩ : Lc)],
  slA 51 encXI w8.val [((mI1, nilS, nilS) : XI), (mI2, nilS, w3), (mI3, w4, nilS), (mI4, w5, nilS), (mI5, w6, nilS), (mI6, nilS, nilS), (mI7, w7, nilS)], slA 49 encXB w9.val [((sB2, w8, nilS) : XB)], slA 41 encXF w10.val [((sevenF, nilS, w2) : XF), (mainF, nilS, w9)]]
theorem samp_reads {hR g : Heap} {w1 w2 w3 w4 w5 w6 w7 w8 w9 w10 : SV} (hg : sat (sampΓ w1 w2 w3 w4 w5 w6 w7 w8 w9 w10) g) (hd : Disj hR g) : ALv (un hR g) sampA w10 := by
  have l1 := lent_at 0 rfl hg hd
  have l2 := lent_at 1 rfl hg hd
  have l3 := lent_at 2 rfl hg hd
  have l4 := lent_at 3 rfl hg hd
  have l5 := lent_at 4 rfl hg hd
  have l6 := lent_at 5 rfl hg hd
  have l7 := lent_at 6 rfl hg hd
  have l8 := lent_at 7 rfl hg hd
  have l9 := lent_at 8 rfl hg hd
  have l10 := lent_at 9 rfl hg hd
  have nL := nil_read rdLc (un hR g)
  have nI := nil_read rdI (un hR g)
  have r1 : SlR rdAI (un hR g) w1.val sB1.body := SlR.of2 l1 rfl ⟨⟨_, _, rfl, nL, nI⟩, trivial⟩
  have r2 : SlR rdAB (un hR g) w2.val sevenF.blocks := SlR.of2 l2 rfl ⟨⟨_, _, rfl, r1, nI⟩, trivial⟩
  have r8 : SlR rdAI (un hR g) w8.val sB2.body := SlR.of2 l8 rfl ⟨⟨_, _, rfl, nL, nI⟩, ⟨_, _, rfl, nL, l3⟩, ⟨_, _, rfl, l4, nI⟩, ⟨_, _, rfl, l5, nI⟩, ⟨_, _, rfl, l6, nI⟩, ⟨_, _, rfl, nL, nI⟩, ⟨_, _, rfl, l7, nI⟩, trivial⟩
  have r9 : SlR rdAB (un hR g) w9.val mainF.blocks := SlR.of2 l9 rfl ⟨⟨_, _, rfl, r8, nI⟩, trivial⟩
  exact ⟨SlR.of2 l10 rfl ⟨⟨_, _, rfl, nL, r2⟩, ⟨_, _, rfl, nL, r9⟩, trivial⟩, samp_small⟩
theorem ent.cdr (A : HProp) (Γ : List HProp) : ent (A :: Γ) Γ := ent.drop A Γ
set_option maxHeartbeats 4000000 in
theorem sample_ok (hR : Heap) : Tri Try.prog hR 10 #[] [] fun r Γ' => ∃ w1 w2 w3 w4 w5 w6 w7 w8 w9 w10 : SV, r = .agg ⟨alv sampA w10⟩ ∧ Γ' = sampΓ w1 w2 w3 w4 w5 w6 w7 w8 w9 w10 := by
  refine Tri.ent (Tri.of (args := []) Try.func10 rfl Try.ntmps10 (by simp) ?_)
  refine Zp ?_
  refine Run.alloc rfl zr_24 rfl rfl rfl ?_
  intro b0
  refine Ze ?_
  refine Zp ?_
  refine Zm ?_
  refine Ze ?_
  refine Zp ?_
  refine Run.build rfl bd_44 rfl rfl rfl rfl ?_
  refine Run.alloc rfl zr_44 rfl rfl rfl ?_
  intro b2
  refine Run.storeB 1 rfl rfl rfl rfl ag_44 rfl rfl rfl rfl rfl ?_
  refine Ze ?_
  refine Zp ?_
  refine Zm ?_
  refine Run.callP [] ok_16 (loc38_ok hR 0) ?_; rintro _ _ ⟨rfl, rfl⟩
  refine Run.build rfl bd_51 rfl rfl rfl rfl ?_
  refine Run.buildSlice (E := encXI) rfl sl_42 zr_51 ([((sI1, nilS, nilS) : XI)]) rfl rfl rfl (by decide) rfl rfl ?_
  intro b10
  refine Zm ?_
  refine Run.callP [] ok_16 (loc38_ok hR 0) ?_; rintro _ _ ⟨rfl, rfl⟩
  refine Run.build rfl bd_47 rfl rfl rfl rfl ?_
  refine Run.build rfl bd_49 rfl rfl rfl rfl ?_
  refine Run.buildSlice (E := encXB) rfl sl_39 zr_49 ([((sB1, ⟨some ⟨b10, 0, none⟩, 1, 1⟩, nilS) : XB)]) rfl rfl rfl (by decide) rfl rfl ?_
  intro b15
  refine Run.build rfl bd_41 rfl rfl rfl rfl ?_
  refine Run.alloc rfl zr_41 rfl rfl rfl ?_
  intro b3
  refine Run.storeB 4 rfl rfl rfl rfl ag_41 rfl rfl rfl rfl rfl ?_
  refine Ze ?_
  refine WP.trim [0, 1, 2, 3] [0, 4, 2, 3, 1] ?_
  refine WP.seq ?_
  refine WP.via (Γ' := [blk b0 [nilS.val, vI 0] 24, blk b3 (afv sevenF nilS.val (⟨some ⟨b15, 0, none⟩, 1, 1⟩ : SV).val) 41, slA 51 encXI (⟨some ⟨b10, 0, none⟩, 1, 1⟩ : SV).val [((sI1, nilS, nilS) : XI)], slA 49 encXB (⟨some ⟨b15, 0, none⟩, 1, 1⟩ : SV).val [((sB1, ⟨some ⟨b10, 0, none⟩, 1, 1⟩, nilS) : XB)]] ++ [blk b2 (lcv ⟨2, 0⟩) 44]) (ent.refl _) ?_
  refine WP.drawnF cfF [0, 1, 3, 4, 7, 8, 11, 12, 16, 17, 2, 5, 6, 9, 10, 13, 14, 15, 18, 19, 20, 21, 22, 23, 24] [25] ([blk b2 (lcv ⟨2, 0⟩) 44]) mixed rfl rfl (by kernel_rfl) (fun gF hgF hdF => ?_)
  refine Zm ?_
  refine Run.callP [] ok_16 (loc38_ok (un hR gF) 0) ?_; rintro _ _ ⟨rfl, rfl⟩
  refine Zm ?_
  refine Run.callP [] ok_16 (loc38_ok (un hR gF) 1) ?_; rintro _ _ ⟨rfl, rfl⟩
  refine Zm ?_
  refine Run.callP [] ok_16 (loc38_ok (un hR gF) 0) ?_; rintro _ _ ⟨rfl, rfl⟩
  refine Zm ?_
  refine Run.callP [] ok_16 (loc38_ok (un hR gF) 1) ?_; rintro _ _ ⟨rfl, rfl⟩
  refine Zm ?_
  refine Run.callP [] ok_16 (loc38_ok (un hR gF) 1) ?_; rintro _ _ ⟨rfl, rfl⟩
  refine Run.build rfl bd_51 rfl rfl rfl rfl ?_
  refine Run.buildSlice (E := encI) rfl sl_45 zr_3 ([(0 : Int)]) rfl rfl rfl (by decide) rfl rfl ?_
  intro b22
  refine Run.build rfl bd_51 rfl rfl rfl rfl ?_
  refine Run.buildSlice (E := encLc) rfl sl_38 zr_44 ([(⟨1, 0⟩ : Lc)]) rfl rfl rfl (by decide) rfl rfl ?_
  intro b26
  refine Run.build rfl bd_51 rfl rfl rfl rfl ?_
  refine Run.buildSlice (E := encLc) rfl sl_38 zr_44 ([(⟨1, 1⟩ : Lc)]) rfl rfl rfl (by decide) rfl rfl ?_
  intro b30
  refine Run.build rfl bd_51 rfl rfl rfl rfl ?_
  refine Run.loadFagg rfl rfl ag_44 rfl rfl (lent_row 0 0 2 hgF hdF) rfl ?_
  refine Run.buildSlice (E := encLc) rfl sl_38 zr_44 ([(⟨1, 1⟩ : Lc)]) rfl rfl rfl (by decide) rfl rfl ?_
  intro b35
  refine Run.build rfl bd_51 rfl rfl rfl rfl ?_
  refine Run.build rfl bd_51 rfl rfl rfl rfl ?_
  refine Run.loadFagg rfl rfl ag_44 rfl rfl (lent_row 0 0 2 hgF hdF) rfl ?_
  refine Run.buildSlice (E := encLc) rfl sl_38 zr_44 ([(⟨2, 0⟩ : Lc)]) rfl rfl rfl (by decide) rfl rfl ?_
  intro b39
  refine Run.build rfl bd_51 rfl rfl rfl rfl ?_
  refine Run.buildSlice (E := encXI) rfl sl_42 zr_51 ([((mI1, nilS, nilS) : XI), (mI2, nilS, ⟨some ⟨b22, 0, none⟩, 1, 1⟩), (mI3, ⟨some ⟨b26, 0, none⟩, 1, 1⟩, nilS), (mI4, ⟨some ⟨b30, 0, none⟩, 1, 1⟩, nilS), (mI5, ⟨some ⟨b35, 0, none⟩, 1, 1⟩, nilS), (mI6, nilS, nilS), (mI7, ⟨some ⟨b39, 0, none⟩, 1, 1⟩, nilS)]) rfl rfl rfl (by decide) rfl rfl ?_
  intro b41
  refine Run.nil ?_
  refine Zm ?_
  refine Ze ?_
  refine Zp ?_
  refine Zm ?_
  refine Run.build rfl bd_47 rfl rfl rfl rfl ?_
  refine Run.build rfl bd_49 rfl rfl rfl rfl ?_
  refine Run.buildSlice (E := encXB) rfl sl_39 zr_49 ([((sB2, ⟨some ⟨b41, 0, none⟩, 7, 7⟩, nilS) : XB)]) rfl rfl rfl (by decide) rfl rfl ?_
  intro b45
  refine Run.build rfl bd_41 rfl rfl rfl rfl ?_
  refine Run.alloc rfl zr_41 rfl rfl rfl ?_
  intro b5
  refine Run.storeB 12 rfl rfl rfl rfl ag_41 rfl rfl rfl rfl rfl ?_
  refine Ze ?_
  refine WP.trim [0, 3, 5] [0, 1, 2, 3, 4, 5, 6, 7, 8, 9, 11, 12] ?_
  refine Zp ?_
  refine Run.loadBagg 1 rfl rfl ag_41 rfl rfl rfl rfl rfl ?_
  refine Run.loadBagg 11 rfl rfl ag_41 rfl rfl rfl rfl rfl ?_
  refine Run.buildSlice (E := encXF) rfl sl_22 zr_41 ([((sevenF, nilS, ⟨some ⟨b15, 0, none⟩, 1, 1⟩) : XF), (mainF, nilS, ⟨some ⟨b45, 0, none⟩, 1, 1⟩)]) rfl rfl rfl (by decide) rfl rfl ?_
  intro b49
  refine Run.build rfl bd_24 rfl rfl rfl rfl ?_
  refine Run.storeB 0 rfl rfl rfl rfl ag_24 rfl rfl rfl rfl rfl ?_
  refine Ze ?_
  refine WP.trim [0] [0, 2, 3, 4, 5, 6, 7, 8, 9, 10, 12] ?_
  refine WP.ret ?_
  exact retC 0 0 ag_24 rfl rfl rfl rfl ⟨sampΓ ⟨some ⟨b10, 0, none⟩, 1, 1⟩ ⟨some ⟨b15, 0, none⟩, 1, 1⟩ ⟨some ⟨b22, 0, none⟩, 1, 1⟩ ⟨some ⟨b26, 0, none⟩, 1, 1⟩ ⟨some ⟨b30, 0, none⟩, 1, 1⟩ ⟨some ⟨b35, 0, none⟩, 1, 1⟩ ⟨some ⟨b39, 0, none⟩, 1, 1⟩ ⟨some ⟨b41, 0, none⟩, 7, 7⟩ ⟨some ⟨b45, 0, none⟩, 1, 1⟩ ⟨some ⟨b49, 0, none⟩, 2, 2⟩, ent.cdr _ _, _, _, _, _, _, _, _, _, _, _, rfl, rfl⟩
end Go.Proofs.Ytfaokbjpinlcaaa
end
section
/- alive: what a program that does nothing does not tell; walked. -/
namespace Go.Proofs.Ytfaokbjpinlcaaa
open Go.Sep
set_option linter.unusedSimpArgs false
set_option linter.unusedVariables false
set_option maxRecDepth 100000
attribute [local irreducible] blk slA mp mpF rows rowsBut many mpK mpE
theorem ok_10 : calleeOk Try.prog 10 = true := by kernel_rfl
theorem is_56 : intS Try.prog 56 = true := by kernel_rfl
theorem nf_56 : nfields Try.prog 56 = 5 := by kernel_rfl
theorem num_ok (hR : Heap) (e : Int) : Tri Try.prog hR 8 #[vI e] [] fun r Γ' => r = vI e ∧ Γ' = [] := by
  refine Tri.ent (Tri.of (args := [vI e]) Try.func8 rfl Try.ntmps8 (by simp) ?_)
  refine Zp ?_
  refine Zm ?_
  refine Ze ?_
  refine Zp ?_
  refine Zm ?_
  refine Zm ?_
  refine Ze ?_
  refine WP.ret ?_
  exact retT [2] _ rfl rfl ⟨_, ent.none _, rfl, rfl⟩
theorem emit_good (hR : Heap) (A : AL) (fv : SV) (hA : ALv hR A fv) (hok : okA nmB A = true) : Tri Try.prog hR 7 #[.agg ⟨alv A fv⟩] [] fun v Γ' => ∃ iv gv : SV, v = .tuple #[.agg ⟨[iv.val, gv.val, vI A.main]⟩, vI 0] ∧ Γ' = [slA 56 encRI iv.val (emL A.funcs).1, slA 53 encRF gv.val (emL A.funcs).2] :=
  Tri.mono (fun v Γ h => by
    rcases h with ⟨_, h⟩ | ⟨h, _⟩
    · exact h
    · rw [hok] at h; cases h) (emit_ok hR A fv hA)
theorem emit_bad (hR : Heap) (A : AL) (fv : SV) (hA : ALv hR A fv) (hok : okA nmB A = false) : Tri Try.prog hR 7 #[.agg ⟨alv A fv⟩] [] fun v Γ' => v = .tuple #[.agg ⟨[nilS.val, nilS.val, vI 0]⟩, vI 190] ∧ Γ' = [] :=
  Tri.mono (fun v Γ h => by
    rcases h with ⟨h, _⟩ | ⟨_, h⟩
    · rw [hok] at h; cases h
    · exact h) (emit_ok hR A fv hA)
def sIs : List RI := [⟨1, 0, 0, 0, 7⟩, ⟨27, 0, 0, 0, 0⟩, ⟨36, 0, 0, 0, 0⟩, ⟨25, 0, 0, 0, 2⟩, ⟨26, 0, 0, 0, 0⟩, ⟨2, 8, 0, 0, 0⟩, ⟨24, 0, 0, 0, 2⟩, ⟨2, 1, 8, 0, 0⟩, ⟨37, 0, 0, 0, 0⟩, ⟨37, 1, 0, 0, 0⟩, ⟨25, 1, 0, 0, 3⟩, ⟨26, 0, 0, 0, 0⟩, ⟨24, 8, 0, 0, 3⟩, ⟨37, 8, 0, 0, 0⟩, ⟨27, 0, 0, 0, 0⟩]
def sFs : List RF := [⟨sevenF.name, 2, 0, 2, 0⟩, ⟨mainF.name, 4, 2, 13, 0⟩]
theorem emit_samp (hR : Heap) (fv : SV) (hA : ALv hR sampA fv) : Tri Try.prog hR 7 #[.agg ⟨alv sampA fv⟩] [] fun v Γ' => ∃ iv gv : SV, v = .tuple #[.agg ⟨[iv.val, gv.val, vI 1]⟩, vI 0] ∧ Γ' = [slA 56 encRI iv.val sIs, slA 53 encRF gv.val sFs] := by
  have h := emit_good hR sampA fv hA samp_ok
  rw [samp_code] at h
  exact h
theorem none_bad : okA nmB ⟨[], 0⟩ = false := by decide
theorem none_v (hR : Heap) : ALv hR ⟨[], 0⟩ nilS := ⟨nil_read _ _, ⟨by simp, fun F hF => by cases hF⟩⟩
set_option maxHeartbeats 2000000 in
theorem alive_ok (hR : Heap) : Tri Try.prog hR 5 #[] [] fun r Γ' => r = .bool true ∧ Γ' = [] := by
  refine Tri.ent (Tri.of (args := []) Try.func5 rfl Try.ntmps5 (by simp) ?_)
  refine Zp ?_
  refine Zm ?_
  refine Ze ?_
  refine Zp ?_
  refine Run.callP [] ok_10 (sample_ok hR) ?_; rintro _ _ ⟨w1, w2, w3, w4, w5, w6, w7, w8, w9, w10, rfl, rfl⟩
  refine Run.callL [] [0, 1, 2, 3, 4, 5, 6, 7, 8, 9] ok_7 (fun g hg hd => emit_samp (un hR g) w10 (samp_reads hg hd)) ?_; rintro _ _ ⟨iv, gv, rfl, rfl⟩
  refine Zm ?_
  refine Run.extract rfl rfl rfl rfl rfl ?_
  refine Run.extract rfl rfl rfl rfl rfl ?_
  refine Run.alloc rfl zr_32 rfl rfl rfl ?_
  intro b1
  refine Run.storeB 12 rfl rfl rfl rfl ag_32 rfl rfl rfl rfl rfl ?_
  refine Zm ?_
  refine Ze ?_
  refine WP.trim [0, 1, 2] [0, 1, 12] ?_
  refine WP.seq ?_
  refine Zp ?_
  refine Zm ?_
  refine Run.callP [] ok_8 (num_ok hR 0) ?_; rintro _ _ ⟨rfl, rfl⟩
  refine Zi ?_
  refine Run.ff (fun h => h rfl) ?_
  refine Zm ?_
  refine Zf fo_32_1 ?_
  refine Zl 2 ag_30 ?_
  refine Run.lenO 1 rfl rfl sl_30 rfl rfl rfl ?_
  refine Zi ?_
  refine Run.ff (by decide) ?_
  refine Zq ?_
  refine Zm ?_
  refine Zf fo_32_0 ?_
  refine Zl 2 ag_29 ?_
  refine Run.lenO 0 rfl rfl sl_29 rfl rfl rfl ?_
  refine Zi ?_
  refine Run.ff (by decide) ?_
  refine Zq ?_
  refine Zm ?_
  refine Zf fo_32_2 ?_
  refine Zl 2 ag_3 ?_
  refine Zi ?_
  refine Run.ff (fun h => h rfl) ?_
  refine Zq ?_
  refine Zm ?_
  refine Zf fo_32_1 ?_
  refine Zl 2 ag_30 ?_
  refine Run.idxO 1 rfl rfl rfl sl_30 rfl rfl rfl rfl (by decide) (by decide) ?_
  refine Zf fo_53_1 ?_
  refine Run.loadO 1 1 1 (y := ⟨mainF.name, 4, 2, 13, 0⟩) rfl rfl ag_3 rfl rfl rfl rfl rfl rfl ?_
  refine Zi ?_
  refine Run.ff (by decide) ?_
  refine Zq ?_
  refine Zm ?_
  refine Zf fo_32_1 ?_
  refine Zl 2 ag_30 ?_
  refine Run.idxO 1 rfl rfl rfl sl_30 rfl rfl rfl rfl (by decide) (by decide) ?_
  refine Zf fo_53_2 ?_
  refine Run.loadO 1 1 2 (y := ⟨mainF.name, 4, 2, 13, 0⟩) rfl rfl ag_3 rfl rfl rfl rfl rfl rfl ?_
  refine Zi ?_
  refine Run.ff (by decide) ?_
  refine Zq ?_
  refine Ze ?_
  refine Zno ?_
  refine Zb ?_
  refine WP.trim [0, 1, 2] [0, 1, 2] ?_
  refine Zp ?_
  refine Run.build rfl bd_24 rfl rfl rfl rfl ?_
  refine Run.callP [] ok_7 (emit_bad hR ⟨[], 0⟩ nilS (none_v hR) none_bad) ?_; rintro _ _ ⟨rfl, rfl⟩
  refine Zm ?_
  refine Run.extract rfl rfl rfl rfl rfl ?_
  refine Run.extract rfl rfl rfl rfl rfl ?_
  refine Run.alloc rfl zr_32 rfl rfl rfl ?_
  intro b3
  refine Run.storeB 3 rfl rfl rfl rfl ag_32 rfl rfl rfl rfl rfl ?_
  refine Zm ?_
  refine Ze ?_
  refine WP.trim [0, 1, 2, 4] [0, 1, 2] ?_
  refine Zp ?_
  refine Zm ?_
  refine Run.callP [] ok_8 (num_ok hR 190) ?_; rintro _ _ ⟨rfl, rfl⟩
  refine Zi ?_
  refine Run.tt rfl ?_
  refine Zm ?_
  refine Zf fo_32_0 ?_
  refine Zl 2 ag_29 ?_
  refine Run.idxO 0 rfl rfl rfl sl_29 rfl rfl rfl rfl (by decide) (by decide) ?_
  refine Run.loadOagg 0 3 rfl rfl ag_56 rfl rfl rfl rfl rfl (y := ⟨25, 0, 0, 0, 2⟩) rfl ?_
  refine Run.build rfl bd_56 rfl rfl rfl rfl ?_
  refine Run.eqS rfl rfl rfl is_56 nf_56 rfl rfl rfl rfl ?_
  refine Run.eqv (v' := .bool true) (by simp) ?_
  refine Zq ?_
  refine Zm ?_
  refine Zf fo_32_0 ?_
  refine Zl 2 ag_29 ?_
  refine Run.idxO 0 rfl rfl rfl sl_29 rfl rfl rfl rfl (by decide) (by decide) ?_
  refine Run.loadOagg 0 7 rfl rfl ag_56 rfl rfl rfl rfl rfl (y := ⟨2, 1, 8, 0, 0⟩) rfl ?_
  refine Run.build rfl bd_56 rfl rfl rfl rfl ?_
  refine Run.eqS rfl rfl rfl is_56 nf_56 rfl rfl rfl rfl ?_
  refine Run.eqv (v' := .bool true) (by simp) ?_
  refine Zq ?_
  refine Zm ?_
  refine Zf fo_32_0 ?_
  refine Zl 2 ag_29 ?_
  refine Run.idxO 0 rfl rfl rfl sl_29 rfl rfl rfl rfl (by decide) (by decide) ?_
  refine Run.loadOagg 0 12 rfl rfl ag_56 rfl rfl rfl rfl rfl (y := ⟨24, 8, 0, 0, 3⟩) rfl ?_
  refine Run.build rfl bd_56 rfl rfl rfl rfl ?_
  refine Run.eqS rfl rfl rfl is_56 nf_56 rfl rfl rfl rfl ?_
  refine Run.eqv (v' := .bool true) (by simp) ?_
  refine Zq ?_
  refine Zm ?_
  refine Ze ?_
  refine WP.ret ?_
  exact retT [0] _ rfl rfl ⟨_, ent.none _, rfl, rfl⟩
end Go.Proofs.Ytfaokbjpinlcaaa
end
section
/- fits: is ALIR small enough to be played? Walked. -/
namespace Go.Proofs.Ytfaokbjpinlcaaa
open Go.Sep
set_option linter.unusedSimpArgs false
set_option linter.unusedVariables false
set_option maxRecDepth 100000
attribute [local irreducible] blk slA mp mpF rows rowsBut many mpK mpE
/-- what an argument's reading bounds -/
structure WideF (F : AF) : Prop where
  name : F.name.size ≤ 140737488355327
  params : F.params.length ≤ 17592186044416
  blocks : F.blocks.length ≤ 17592186044416
  each : ∀ b ∈ F.blocks, b.body.length ≤ 17592186044416 ∧ b.term.to.length ≤ 17592186044416 ∧ ∀ x ∈ b.body, x.args.length ≤ 17592186044416 ∧ x.saves.length ≤ 17592186044416
structure WideA (A : AL) : Prop where
  funcs : A.funcs.length ≤ 17592186044416
  each : ∀ F ∈ A.funcs, WideF F
def smallX (x : AI) : Prop := x.args.length ≤ 200000 ∧ x.saves.length ≤ 200000
def smallB (b : AB) : Prop := b.body.length ≤ 20000 ∧ b.term.to.length ≤ 20000 ∧ ∀ x ∈ b.body, smallX x
theorem und_9 : Try.prog.underlying 9 = some .string := by kernel_rfl
theorem quo64 {a : Nat} (h : a ≤ 140737488355327) : IntKind.i64.wrap ((a : Int).tdiv 64) = ((a / 64 : Nat) : Int) := by
  have e : (a : Int).tdiv 64 = ((a / 64 : Nat) : Int) := (Int.ofNat_tdiv a 64).symm
  rw [e]
  exact wrapI (by omega) (by omega)
theorem quo8 {a : Nat} (h : a ≤ 140737488355327) : IntKind.i64.wrap ((a : Int).tdiv 8) = ((a / 8 : Nat) : Int) := by
  have e : (a : Int).tdiv 8 = ((a / 8 : Nat) : Int) := (Int.ofNat_tdiv a 8).symm
  rw [e]
  exact wrapI (by omega) (by omega)
set_option maxHeartbeats 4000000 in
theorem fits_ok (hR : Heap) (A : AL) (fv : SV) (hf : SlR rdAF hR fv.val A.funcs) (hW : WideA A) :
    Tri Try.prog hR 4 #[.agg ⟨alv A fv⟩] [] fun u Γ' => (∃ s : Bool, u = .bool s ∧ (s = true → SmallA A)) ∧ Γ' = [] := by
  have w1 := hW.funcs
  refine Tri.ent (Tri.of (args := [.agg ⟨alv A fv⟩]) Try.func4 rfl Try.ntmps4 (by simp) ?_)
  refine Zp ?_
  refine Run.box rfl rfl rfl rfl rfl ?_
  intro b1
  refine Zm ?_
  refine Ze ?_
  refine Zp ?_
  refine Zf fo_24_0 ?_
  refine Zl 0 ag_22 ?_
  refine Zh sl_22 hf ?_
  refine Zm ?_
  refine Ze ?_
  refine WP.trim [1, 2, 3] [0] ?_
  refine WP.meetC (α := Nat) (fun z => z ≤ 400000000000000 ∧ (z ≤ 20000 → ∀ F ∈ A.funcs, SmallF F)) (fun z => [(3, vI (z : Int))]) (fun _ => []) ?_ ?_
  · refine Zp ?_
    refine Zm ?_
    refine Ze ?_
    refine WP.block ?_
    refine WP.trim [1, 2, 3, 4] [0] ?_
    refine WP.loopC (α := Nat × Nat) (fun z => z.1 ≤ A.funcs.length ∧ z.2 ≤ 400000000000000 ∧ (z.2 ≤ 20000 → ∀ (k : Nat) (F : AF), k < z.1 → A.funcs[k]? = some F → SmallF F)) (fun z => [(4, vI (z.1 : Int)), (3, vI (z.2 : Int))]) (fun _ => []) (fun z => A.funcs.length - z.1) (0, A.funcs.length) ⟨Nat.zero_le _, by simp only; omega, fun _ k F h => by simp only at h; omega⟩ ?_
    rintro ⟨i, z⟩ ⟨hi, hz1, hz2⟩
    simp only at hi hz1 hz2 ⊢
    refine WP.trim [1, 2, 3, 4] [0] ?_
    refine WP.seq ?_
    refine WP.seq ?_
    by_cases hlt : (i : Int) < (A.funcs.length : Int)
    · by_cases hz : (z : Int) ≤ 20000
      · refine Zc ?_
        refine Zm ?_
        refine Zf fo_24_0 ?_
        refine Zl 0 ag_22 ?_
        refine Zh sl_22 hf ?_
        refine Zi ?_
        refine Run.tt hlt ?_
        refine Zm ?_
        refine Zm ?_
        refine Zi ?_
        refine Run.tt hz ?_
        refine Zq ?_
        refine Ze ?_
        refine Zyes ?_
        refine Zb ?_
        obtain ⟨F, gF⟩ : ∃ y, A.funcs[(i : Int).toNat]? = some y := ⟨_, List.getElem?_eq_getElem (by omega)⟩
        have gF' : A.funcs[i]? = some F := gF
        obtain ⟨v1, v2, v3, v4⟩ := hW.each F (List.mem_of_getElem? gF)
        obtain ⟨_, ⟨fu0, fw0, rfl, hfu, hfv⟩, hrow⟩ := hf.at gF
        obtain ⟨fu, rfl, _, _⟩ := SlR.sv hfu
        obtain ⟨fw, rfl, _, _⟩ := SlR.sv hfv
        refine WP.seq ?_
        refine WP.block ?_
        refine WP.seq ?_
        refine WP.drawn0 cf0 mixed rfl (by kernel_rfl) ?_
        refine Zm ?_
        refine Zf fo_24_0 ?_
        refine Zl 0 ag_22 ?_
        refine Zm ?_
        refine Zx sl_22 hf ?_
        refine Zf fo_41_1 ?_
        refine Zr ag_38 (hrow 1 _ rfl) ?_
        refine Zh sl_38 hfu ?_
        refine Za ?_
        refine Zf fo_24_0 ?_
        refine Zl 0 ag_22 ?_
        refine Zm ?_
        refine Zx sl_22 hf ?_
        refine Zf fo_41_0 ?_
        refine Zr ag_9 (hrow 0 _ rfl) ?_
        refine Run.lenStr rfl rfl und_9 rfl rfl ?_
        refine Zi ?_
        refine Run.eqv (v' := vI ((F.name.size / 64 : Nat) : Int)) (by rw [quo64 v1]) ?_
        refine Za ?_
        refine Zf fo_24_0 ?_
        refine Zl 0 ag_22 ?_
        refine Zm ?_
        refine Zx sl_22 hf ?_
        refine Zf fo_41_4 ?_
        refine Zr ag_39 (hrow 4 _ rfl) ?_
        refine Zh sl_39 hfv ?_
        refine Za ?_
        refine Zm ?_
        refine Run.eqv (v' := vI ((z + F.params.length + F.name.size / 64 + F.blocks.length : Nat) : Int)) (congrArg vI (by omega)) ?_
        refine Ze ?_
        generalize hz3 : z + F.params.length + F.name.size / 64 + F.blocks.length = z1
        refine WP.trim [1, 2, 3, 4] [0] ?_
        refine Zp ?_
        refine Zm ?_
        refine Ze ?_
        refine WP.block ?_
        refine WP.trim [1, 2, 3, 4, 5] [0] ?_
        refine WP.loopC (α := Nat × Nat) (fun y => y.1 ≤ F.blocks.length ∧ z1 + sumB F y.1 ≤ y.2 ∧ y.2 ≤ 400000000000000 ∧ (y.2 ≤ 20000 → ∀ (k : Nat) (b : AB), k < y.1 → F.blocks[k]? = some b → smallB b)) (fun y => [(5, vI (y.1 : Int)), (3, vI (y.2 : Int))]) (fun _ => []) (fun y => F.blocks.length - y.1) (0, z1) ⟨Nat.zero_le _, by simp [sumB], by simp only; omega, fun _ k b h => by simp only at h; omega⟩ ?_
        rintro ⟨j, y⟩ ⟨hj, hy1, hy2, hy3⟩
        simp only at hj hy1 hy2 hy3 ⊢
        refine WP.trim [1, 2, 3, 4, 5] [0] ?_
        refine WP.seq ?_
        refine WP.seq ?_
        by_cases hlt2 : (j : Int) < (F.blocks.length : Int)
        · by_cases hy : (y : Int) ≤ 20000
          · refine Zc ?_
            refine Zm ?_
            refine Zf fo_24_0 ?_
            refine Zl 0 ag_22 ?_
            refine Zm ?_
            refine Zx sl_22 hf ?_
            refine Zf fo_41_4 ?_
            refine Zr ag_39 (hrow 4 _ rfl) ?_
            refine Zh sl_39 hfv ?_
            refine Zi ?_
            refine Run.tt hlt2 ?_
            refine Zm ?_
            refine Zm ?_
            refine Zi ?_
            refine Run.tt hy ?_
            refine Zq ?_
            refine Ze ?_
            refine Zyes ?_
            refine Zb ?_
            obtain ⟨b, gb⟩ : ∃ y, F.blocks[(j : Int).toNat]? = some y := ⟨_, List.getElem?_eq_getElem (by omega)⟩
            have gb' : F.blocks[j]? = some b := gb
            obtain ⟨b1', b2', b3'⟩ := v4 b (List.mem_of_getElem? gb)
            have hstep := sumB_step gb'
            obtain ⟨_, ⟨bu0, bt0, rfl, hbu, hbt⟩, hbrow⟩ := hfv.at gb
            obtain ⟨bu, rfl, _, _⟩ := SlR.sv hbu
            obtain ⟨bt, rfl, _, _⟩ := SlR.sv hbt
            refine WP.seq ?_
            refine WP.block ?_
            refine Zp ?_
            refine Zf fo_24_0 ?_
            refine Zl 0 ag_22 ?_
            refine Zm ?_
            refine Zx sl_22 hf ?_
            refine Zf fo_41_4 ?_
            refine Zr ag_39 (hrow 4 _ rfl) ?_
            refine Zm ?_
            refine Zx sl_39 hfv ?_
            refine Run.loadRagg rfl rfl ag_49 rfl rfl hbrow (by rfl) ?_
            refine Run.alloc rfl zr_49 rfl rfl rfl ?_
            intro b6
            refine Run.storeB 1 rfl rfl rfl rfl ag_49 rfl rfl rfl rfl rfl ?_
            refine Ze ?_
            refine Zp ?_
            refine Zm ?_
            refine Zf fo_49_0 ?_
            refine Zl 1 ag_42 ?_
            refine Zh sl_42 hbu ?_
            refine Za ?_
            refine Zf fo_49_1 ?_
            refine Zf fo_47_2 ?_
            refine Zl 1 ag_45 ?_
            refine Zh sl_45 hbt ?_
            refine Za ?_
            refine Zm ?_
            refine Run.eqv (v' := vI ((y + b.body.length + b.term.to.length : Nat) : Int)) (congrArg vI (by omega)) ?_
            refine Ze ?_
            generalize hy4 : y + b.body.length + b.term.to.length = y1
            refine WP.trim [1, 2, 3, 4, 5, 6] [0, 1] ?_
            refine Zp ?_
            refine Zm ?_
            refine Ze ?_
            refine WP.block ?_
            refine WP.trim [1, 2, 3, 4, 5, 6, 7] [0, 1] ?_
            refine WP.loopC (α := Nat × Nat) (fun x => x.1 ≤ b.body.length ∧ y1 ≤ x.2 ∧ x.2 ≤ 400000000000000 ∧ (x.2 ≤ 20000 → ∀ (k : Nat) (q : AI), k < x.1 → b.body[k]? = some q → smallX q)) (fun x => [(7, vI (x.1 : Int)), (3, vI (x.2 : Int))]) (fun _ => []) (fun x => b.body.length - x.1) (0, y1) ⟨Nat.zero_le _, Nat.le_refl _, by simp only; omega, fun _ k b h => by simp only at h; omega⟩ ?_
            rintro ⟨k, x⟩ ⟨hk, hx1, hx2, hx3⟩
            simp only at hk hx1 hx2 hx3 ⊢
            refine WP.trim [1, 2, 3, 4, 5, 6, 7] [0, 1] ?_
            refine WP.seq ?_
            refine WP.seq ?_
            by_cases hlt3 : (k : Int) < (b.body.length : Int)
            · by_cases hx : (x : Int) ≤ 20000
              · refine Zc ?_
                refine Zm ?_
                refine Zf fo_49_0 ?_
                refine Zl 1 ag_42 ?_
                refine Zh sl_42 hbu ?_
                refine Zi ?_
                refine Run.tt hlt3 ?_
                refine Zm ?_
                refine Zm ?_
                refine Zi ?_
                refine Run.tt hx ?_
                refine Zq ?_
                refine Ze ?_
                refine Zyes ?_
                refine Zb ?_
                obtain ⟨q, gq⟩ : ∃ y, b.body[(k : Int).toNat]? = some y := ⟨_, List.getElem?_eq_getElem (by omega)⟩
                have gq' : b.body[k]? = some q := gq
                obtain ⟨q1, q2⟩ := b3' q (List.mem_of_getElem? gq)
                obtain ⟨_, ⟨qu0, qv0, rfl, hqu, hqv⟩, hqrow⟩ := hbu.at gq
                obtain ⟨qu, rfl, _, _⟩ := SlR.sv hqu
                obtain ⟨qv, rfl, _, _⟩ := SlR.sv hqv
                refine WP.seq ?_
                refine WP.block ?_
                refine WP.drawn0 cf0 mixed rfl (by kernel_rfl) ?_
                refine Zm ?_
                refine Zf fo_49_0 ?_
                refine Zl 1 ag_42 ?_
                refine Zm ?_
                refine Zx sl_42 hbu ?_
                refine Zf fo_51_3 ?_
                refine Zr ag_38 (hqrow 4 _ rfl) ?_
                refine Zh sl_38 hqu ?_
                refine Zi ?_
                refine Run.eqv (v' := vI ((q.args.length / 8 : Nat) : Int)) (by rw [quo8 (by omega)]) ?_
                refine Za ?_
                refine Zf fo_49_0 ?_
                refine Zl 1 ag_42 ?_
                refine Zm ?_
                refine Zx sl_42 hbu ?_
                refine Zf fo_51_4 ?_
                refine Zr ag_45 (hqrow 5 _ rfl) ?_
                refine Zh sl_45 hqv ?_
                refine Zi ?_
                refine Run.eqv (v' := vI ((q.saves.length / 8 : Nat) : Int)) (by rw [quo8 (by omega)]) ?_
                refine Za ?_
                refine Zm ?_
                refine Run.eqv (v' := vI ((x + q.args.length / 8 + q.saves.length / 8 : Nat) : Int)) (congrArg vI (by omega)) ?_
                refine Run.nil ?_
                refine blk_norm ?_; refine thn_next ?_
                refine Zc ?_
                refine Zm ?_
                refine Za ?_
                refine Zm ?_
                refine Run.nil ?_
                refine thn_next ⟨(k + 1, x + q.args.length / 8 + q.saves.length / 8), ⟨by simp only; omega, by simp only; omega, by simp only; omega, fun hs m q' hm gm => ?_⟩, by simp only; omega, Ko.go, ent.gc⟩
                simp only at hs hm
                by_cases e : m = k
                · subst e; rw [gq'] at gm; cases gm; exact ⟨by omega, by omega⟩
                · exact hx3 (by omega) m q' (by omega) gm
              · refine Zc ?_
                refine Zm ?_
                refine Zf fo_49_0 ?_
                refine Zl 1 ag_42 ?_
                refine Zh sl_42 hbu ?_
                refine Zi ?_
                refine Run.tt hlt3 ?_
                refine Zm ?_
                refine Zm ?_
                refine Zi ?_
                refine Run.ff hx ?_
                refine Zq ?_
                refine Ze ?_
                refine Zno ?_
                refine Zj ?_; refine blk_norm ?_; refine thn_next ?_
                refine WP.trim [1, 2, 3, 4, 5] [0] ?_
                refine Zc ?_
                refine Zm ?_
                refine Za ?_
                refine Zm ?_
                refine Run.nil ?_
                refine thn_next ⟨(j + 1, x), ⟨by simp only; omega, by simp only; omega, by simp only; omega, fun hs => by simp only at hs; omega⟩, by simp only; omega, Ko.go, ent.gc⟩
            · refine Zc ?_
              refine Zm ?_
              refine Zf fo_49_0 ?_
              refine Zl 1 ag_42 ?_
              refine Zh sl_42 hbu ?_
              refine Zi ?_
              refine Run.ff hlt3 ?_
              refine Zm ?_
              refine Zv ?_
              refine Zv ?_
              refine Zq ?_
              refine Ze ?_
              refine Zno ?_
              refine Zj ?_; refine blk_norm ?_; refine thn_next ?_
              refine WP.trim [1, 2, 3, 4, 5] [0] ?_
              refine Zc ?_
              refine Zm ?_
              refine Za ?_
              refine Zm ?_
              refine Run.nil ?_
              refine thn_next ⟨(j + 1, x), ⟨by simp only; omega, by simp only; omega, by simp only; omega, fun hs m b' hm gm => ?_⟩, by simp only; omega, Ko.go, ent.gc⟩
              simp only at hs hm
              by_cases e : m = j
              · subst e; rw [gb'] at gm; cases gm
                refine ⟨by omega, by omega, fun q hq => ?_⟩
                obtain ⟨k', hk'⟩ := List.getElem?_of_mem hq
                exact hx3 hs k' q (by have := (List.getElem?_eq_some_iff.1 hk').1; omega) hk'
              · exact hy3 (by omega) m b' (by omega) gm
          · refine Zc ?_
            refine Zm ?_
            refine Zf fo_24_0 ?_
            refine Zl 0 ag_22 ?_
            refine Zm ?_
            refine Zx sl_22 hf ?_
            refine Zf fo_41_4 ?_
            refine Zr ag_39 (hrow 4 _ rfl) ?_
            refine Zh sl_39 hfv ?_
            refine Zi ?_
            refine Run.tt hlt2 ?_
            refine Zm ?_
            refine Zm ?_
            refine Zi ?_
            refine Run.ff hy ?_
            refine Zq ?_
            refine Ze ?_
            refine Zno ?_
            refine Zj ?_; refine blk_norm ?_; refine thn_next ?_
            refine WP.trim [1, 2, 3, 4] [0] ?_
            refine Zc ?_
            refine Zm ?_
            refine Za ?_
            refine Zm ?_
            refine Run.nil ?_
            refine thn_next ⟨(i + 1, y), ⟨by simp only; omega, by simp only; omega, fun hs => by simp only at hs; omega⟩, by simp only; omega, Ko.go, ent.gc⟩
        · refine Zc ?_
          refine Zm ?_
          refine Zf fo_24_0 ?_
          refine Zl 0 ag_22 ?_
          refine Zm ?_
          refine Zx sl_22 hf ?_
          refine Zf fo_41_4 ?_
          refine Zr ag_39 (hrow 4 _ rfl) ?_
          refine Zh sl_39 hfv ?_
          refine Zi ?_
          refine Run.ff hlt2 ?_
          refine Zm ?_
          refine Zv ?_
          refine Zv ?_
          refine Zq ?_
          refine Ze ?_
          refine Zno ?_
          refine Zj ?_; refine blk_norm ?_; refine thn_next ?_
          refine WP.trim [1, 2, 3, 4] [0] ?_
          refine Zc ?_
          refine Zm ?_
          refine Za ?_
          refine Zm ?_
          refine Run.nil ?_
          refine thn_next ⟨(i + 1, y), ⟨by simp only; omega, by simp only; omega, fun hs m F' hm gm => ?_⟩, by simp only; omega, Ko.go, ent.gc⟩
          simp only at hs hm
          by_cases e : m = i
          · subst e; rw [gF'] at gm; cases gm
            have hall : ∀ b ∈ F.blocks, smallB b := fun b hb => by
              obtain ⟨k', hk'⟩ := List.getElem?_of_mem hb
              exact hy3 hs k' b (by have := (List.getElem?_eq_some_iff.1 hk').1; omega) hk'
            obtain rfl : j = F.blocks.length := by omega
            have hst : sumB F F.blocks.length = (F.blocks.map fun b => b.body.length).sum := by unfold sumB; rw [List.take_length]
            exact ⟨by omega, by omega, fun b hb => ⟨(hall b hb).1, (hall b hb).2.1, (hall b hb).2.2⟩, by omega, by omega⟩
          · exact hz2 (by omega) m F' (by omega) gm
      · refine Zc ?_
        refine Zm ?_
        refine Zf fo_24_0 ?_
        refine Zl 0 ag_22 ?_
        refine Zh sl_22 hf ?_
        refine Zi ?_
        refine Run.tt hlt ?_
        refine Zm ?_
        refine Zm ?_
        refine Zi ?_
        refine Run.ff hz ?_
        refine Zq ?_
        refine Ze ?_
        refine Zno ?_
        refine Zj ?_
        exact thn_next ⟨z, ⟨hz1, fun h => by omega⟩, Ko.go, ent.gc⟩
    · refine Zc ?_
      refine Zm ?_
      refine Zf fo_24_0 ?_
      refine Zl 0 ag_22 ?_
      refine Zh sl_22 hf ?_
      refine Zi ?_
      refine Run.ff hlt ?_
      refine Zm ?_
      refine Zv ?_
      refine Zv ?_
      refine Zq ?_
      refine Ze ?_
      refine Zno ?_
      refine Zj ?_
      refine thn_next ⟨z, ⟨hz1, fun h F hF => ?_⟩, Ko.go, ent.gc⟩
      obtain ⟨k, hk⟩ := List.getElem?_of_mem hF
      exact hz2 h k F (by have := (List.getElem?_eq_some_iff.1 hk).1; omega) hk
  rintro z ⟨hz1, hz2⟩
  refine WP.trim [1, 2, 3] [0] ?_
  refine WP.seq ?_
  by_cases hz : (z : Int) ≤ 20000
  · refine Zc ?_
    refine Zm ?_
    refine Zi ?_
    refine Run.tt hz ?_
    refine Zm ?_
    refine Zf fo_24_0 ?_
    refine Zl 0 ag_22 ?_
    refine Zh sl_22 hf ?_
    refine Zi ?_
    refine Zq ?_
    refine Zm ?_
    refine Ze ?_
    refine WP.ret ?_
    exact retT [2] _ rfl rfl ⟨_, ent.none _, ⟨_, rfl, fun h => ⟨by have := of_decide_eq_true h; omega, hz2 (by omega)⟩⟩, rfl⟩
  · refine Zc ?_
    refine Zm ?_
    refine Zi ?_
    refine Run.ff hz ?_
    refine Zm ?_
    iterate 4 refine Zv ?_
    refine Zq ?_
    refine Zm ?_
    refine Ze ?_
    refine WP.ret ?_
    exact retT [2] _ rfl rfl ⟨_, ent.none _, ⟨false, rfl, fun h => by cases h⟩, rfl⟩
end Go.Proofs.Ytfaokbjpinlcaaa
end
section
/- EmitForm: what is emitted is code that holds, function by function; walked. -/
namespace Go.Proofs.Ytfaokbjpinlcaaa
open Go.Sep
set_option linter.unusedSimpArgs false
set_option linter.unusedVariables false
set_option maxRecDepth 100000
attribute [local irreducible] blk slA mp mpF rows rowsBut many mpK mpE
theorem add_at {b i : Nat} {k : Int} (h : k = (i : Int)) : (Addr.mk b 0 none).add (k.toNat * 1) = ⟨b, i, none⟩ := by subst h; simp [Addr.add]; omega
set_option maxHeartbeats 8000000 in
theorem emitForm_ok (hR : Heap) (A : AL) (fv : SV) (hf : SlR rdAF hR fv.val A.funcs) (hW : WideA A) : Tri Try.prog hR 3 #[.agg ⟨alv A fv⟩] [] fun r Γ' => r = .bool true ∧ Γ' = [] := by
  refine Tri.ent (Tri.of (args := [.agg ⟨alv A fv⟩]) Try.func3 rfl Try.ntmps3 (by simp) ?_)
  refine Zp ?_
  refine Run.box rfl rfl rfl rfl rfl ?_
  intro b1
  refine Zm ?_
  refine Ze ?_
  refine WP.seq ?_
  refine Zp ?_
  refine Run.loadBagg 0 rfl rfl ag_24 rfl rfl rfl rfl rfl ?_
  refine Run.callP [] ok_4 (fits_ok hR A fv hf hW) ?_; rintro _ _ ⟨⟨s, rfl, hs⟩, rfl⟩
  refine Run.bnotB rfl rfl rfl rfl ?_
  refine Run.eqv (v' := .bool (decide (s = false))) (by cases s <;> rfl) ?_
  refine Ze ?_
  refine WP.ite rfl (fun hn => ?_) (fun hn => ?_)
  · refine Zp ?_
    refine Zm ?_
    refine Ze ?_
    refine WP.ret ?_; refine thn_ret ?_
    exact retT [2] _ rfl rfl ⟨_, ent.none _, rfl, rfl⟩
  refine Zb ?_
  have hA : ALv hR A fv := ⟨hf, hs (by cases s; exact absurd rfl hn; rfl)⟩
  refine WP.trim [1, 2] [0] ?_
  refine Zp ?_
  refine Run.callP [] ok_5 (alive_ok hR) ?_; rintro _ _ ⟨rfl, rfl⟩
  refine Zm ?_
  refine Ze ?_
  refine WP.seq ?_
  by_cases hok : okA nmB A = true
  · refine Zc ?_
    refine Run.loadBagg 0 rfl rfl ag_24 rfl rfl rfl rfl rfl ?_
    refine Run.callP [] ok_6 (check6_ok hR A fv hA) ?_; rintro _ _ ⟨rfl, rfl⟩; refine Run.eqv (v' := .int .i64 0) (by rw [if_pos hok]) ?_
    refine Zm ?_
    refine Ze ?_
    refine WP.trim [1, 2, 3, 4] [0] ?_
    have hsm := hA.sm
    have hsf := hsm.sf
    have hlen := emL_snd_len A.funcs A.funcs.length (Nat.le_refl _)
    rw [List.take_length] at hlen
    refine Zp ?_
    refine Run.loadBagg 0 rfl rfl ag_24 rfl rfl rfl rfl rfl ?_
    refine Run.callP [] ok_7 (emit_good hR A fv hA hok) ?_; rintro _ _ ⟨iv, gv, rfl, rfl⟩
    refine Zm ?_
    refine Run.extract rfl rfl rfl rfl rfl ?_
    refine Run.extract rfl rfl rfl rfl rfl ?_
    refine Run.alloc rfl zr_32 rfl rfl rfl ?_
    intro b5
    refine Run.storeB 3 rfl rfl rfl rfl ag_32 rfl rfl rfl rfl rfl ?_
    refine Zm ?_
    refine Ze ?_
    refine WP.trim [1, 2, 3, 4, 5, 6] [2, 3, 0, 1] ?_
    refine WP.seq ?_
    refine Zp ?_
    refine Zm ?_
    refine Run.bnotB rfl rfl rfl rfl ?_
    refine Zm ?_
    refine Zm ?_
    refine Run.callP [] ok_8 (num_ok hR 0) ?_; rintro _ _ ⟨rfl, rfl⟩
    refine Zi ?_
    refine Zq ?_
    refine Run.eqv (v' := .bool (decide False)) (by simp) ?_
    refine Ze ?_
    refine WP.ite rfl (fun h => h.elim) (fun _ => ?_)
    refine Zb ?_
    refine WP.trim [1, 2, 5, 6] [0, 1, 2, 3] ?_
    refine Zp ?_
    refine Run.loadBagg 1 rfl rfl ag_32 rfl rfl rfl rfl rfl ?_
    refine Run.callL [] [2, 3] ok_9 (fun g hg hd => rchk_ok (un hR g) A iv gv hok hsm (lent_at 0 rfl hg hd) (lent_at 1 rfl hg hd)) ?_; rintro _ _ ⟨rfl, rfl⟩
    refine Zm ?_
    refine Ze ?_
    refine WP.trim [1, 2, 5, 6, 7] [2, 3, 0, 1] ?_
    refine WP.seq ?_
    refine WP.seqCut [(1, .pointer (some ⟨b1, 0, none⟩)), (5, .pointer (some ⟨b5, 0, none⟩)), (81, .bool (decide False))] [blk b1 (alv A fv) 24, blk b5 [iv.val, gv.val, vI A.main] 32, slA 56 encRI iv.val (emL A.funcs).1, slA 53 encRF gv.val (emL A.funcs).2] ?_ ?_
    · refine Zc ?_
      all_goals (first | refine Zm ?_)
      all_goals (first | refine Run.callP [] ok_8 (num_ok hR 0) ?_; rintro _ _ ⟨rfl, rfl⟩)
      all_goals (first | refine Zi ?_)
      all_goals (first | refine Run.tt (by first | assumption | omega) ?_ | refine Run.ff (by first | assumption | omega) ?_ | refine Run.split (fun hc60 => ?_) (fun hc60 => ?_) | refine Run.splitB (fun hc60 => ?_) (fun hc60 => ?_) | skip)
      all_goals (first | refine Zm ?_)
      all_goals (first | refine Zv ?_ | refine Zm ?_)
      all_goals (first | refine Zv ?_ | refine Run.callP [] ok_8 (num_ok hR 0) ?_; rintro _ _ ⟨rfl, rfl⟩)
      all_goals (first | refine Zv ?_ | refine Zi ?_)
      all_goals (first | refine Run.tt (by first | assumption | omega) ?_ | refine Run.ff (by first | assumption | omega) ?_ | refine Run.split (fun hc64 => ?_) (fun hc64 => ?_) | refine Run.splitB (fun hc64 => ?_) (fun hc64 => ?_) | skip)
      all_goals (first | refine Zq ?_)
      all_goals (first | refine Zm ?_)
      all_goals (first | refine Zv ?_ | refine Zf fo_32_2 ?_)
      all_goals (first | refine Zv ?_ | refine Zl 1 ag_3 ?_)
      all_goals (first | refine Zv ?_ | refine Zf fo_24_1 ?_)
      all_goals (first | refine Zv ?_ | refine Zl 0 ag_3 ?_)
      all_goals (first | refine Zv ?_ | refine Zi ?_)
      all_goals (first | refine Run.tt (by first | assumption | omega) ?_ | refine Run.ff (by first | assumption | omega) ?_ | refine Run.split (fun hc71 => ?_) (fun hc71 => ?_) | refine Run.splitB (fun hc71 => ?_) (fun hc71 => ?_) | skip)
      all_goals (first | refine Zq ?_)
      all_goals (first | refine Zm ?_)
      all_goals (first | refine Zv ?_ | refine Zf fo_32_1 ?_)
      all_goals (first | refine Zv ?_ | refine Zl 1 ag_30 ?_)
      all_goals (first | refine Zv ?_ | refine Run.lenO 3 rfl rfl sl_30 rfl rfl rfl ?_)
      all_goals (first | refine Zv ?_ | refine Zf fo_24_0 ?_)
      all_goals (first | refine Zv ?_ | refine Zl 0 ag_22 ?_)
      all_goals (first | refine Zv ?_ | refine Zh sl_22 hf ?_)
      all_goals (first | refine Zv ?_ | refine Zi ?_)
      all_goals (first | refine Zq ?_)
      all_goals (refine Run.nil ?_)
      all_goals refine thn_next ⟨⟨rfl, rfl, ?_, trivial⟩, ent.go⟩
      all_goals (first | contradiction | (exfalso; omega) | (simp [Env.get, *]; done) | (simp [Env.get, *]; omega) | skip)
    refine WP.ite rfl (fun h => h.elim) (fun _ => ?_)
    refine Zb ?_
    refine WP.trim [1, 5] [0, 1, 3] ?_
    refine WP.meetC (α := Unit) (fun _ => True) (fun _ => []) (fun _ => []) ?_ ?_
    · refine Zp ?_
      refine Zm ?_
      refine Ze ?_
      refine WP.block ?_
      refine WP.trim [1, 5, 8] [0, 1, 2] ?_
      refine WP.loopC (α := Nat) (fun i => i ≤ A.funcs.length) (fun i => [(8, vI (i : Int))]) (fun _ => []) (fun i => A.funcs.length - i) 0 (Nat.zero_le _) ?_
      intro n hn
      refine WP.trim [1, 5, 8] [0, 1, 2] ?_
      refine WP.seq ?_
      refine Zp ?_
      refine Zm ?_
      refine Zf fo_24_0 ?_
      refine Zl 0 ag_22 ?_
      refine Zh sl_22 hf ?_
      refine Zi ?_
      refine Ze ?_
      refine WP.ite rfl (fun hlt => ?_) (fun hge => ?_)
      · refine Zb ?_
        obtain ⟨F, gF⟩ : ∃ b, A.funcs[(n : Int).toNat]? = some b := ⟨_, List.getElem?_eq_getElem (by omega)⟩
        have gF' : A.funcs[n]? = some F := gF
        have h := okA_fun hok hsm (List.mem_of_getElem? gF)
        have hsb := h.sm.sb
        have hsi := h.sm.si
        have hsl := h.sl
        have hfr := frame_eq F
        have gg : (emL A.funcs).2[(n : Int).toNat]? = some (rfU F (emL (A.funcs.take n)).1.length) := emL_fun gF'
        have e1 : (rfU F (emL (A.funcs.take n)).1.length).name = F.name := rfl
        have e2 : (rfU F (emL (A.funcs.take n)).1.length).frame = slotW (savS F) F.slots := rfl
        have e3 : (rfU F (emL (A.funcs.take n)).1.length).params = (F.params.length : Int) := rfl
        generalize rfU F (emL (A.funcs.take n)).1.length = gR at gg e1 e2 e3
        obtain ⟨_, ⟨fu0, fw0, rfl, hfu, hb⟩, hfrow⟩ := hf.at gF
        obtain ⟨fu, rfl, _, _⟩ := SlR.sv hfu
        obtain ⟨fw, rfl, _, _⟩ := SlR.sv hb
        refine WP.seq ?_
        refine WP.block ?_
        refine Zp ?_
        refine Run.alloc rfl zr_37 rfl rfl rfl ?_
        intro b9
        refine Ze ?_
        refine WP.via (Γ' := [blk b1 (alv A fv) 24, blk b5 [iv.val, gv.val, vI A.main] 32, slA 53 encRF gv.val (emL A.funcs).2, blk b9 (fgV []) 37]) (by rw [fgV_nil]; exact ent.refl _) ?_
        refine Zp ?_
        refine Zf fo_24_0 ?_
        refine Zl 0 ag_22 ?_
        refine Zm ?_
        refine Zx sl_22 hf ?_
        refine Zf fo_41_3 ?_
        refine Zr ag_3 (hfrow 3 _ rfl) ?_
        refine Za ?_
        refine Zm ?_
        refine Ze ?_
        refine WP.trim [1, 5, 8, 9, 10] [0, 1, 2, 3] ?_
        refine WP.meetC (α := Unit) (fun _ => True) (fun _ => [(10, vI (2 + F.slots + cntS (allS F)))]) (fun _ => [(3, blk b9 (fgV (allS F)) 37)]) ?_ ?_
        · refine Zp ?_
          refine Zm ?_
          refine Ze ?_
          refine WP.block ?_
          refine WP.trim [1, 5, 8, 9, 10, 11] [0, 1, 2, 3] ?_
          refine WP.loopC (α := Nat) (fun i => i ≤ F.blocks.length) (fun i => [(11, vI (i : Int)), (10, vI (2 + F.slots + cntS ((F.blocks.take i).flatMap fun b => b.body.flatMap AI.saves)))]) (fun i => [(3, blk b9 (fgV ((F.blocks.take i).flatMap fun b => b.body.flatMap AI.saves)) 37)]) (fun i => F.blocks.length - i) 0 (Nat.zero_le _) ?_ (hc := by rw [show (F.blocks.take 0).flatMap (fun b => b.body.flatMap AI.saves) = [] from rfl, cntS_nil, Int.add_zero]; exact Ko.go)
          intro i hi
          refine WP.trim [1, 5, 8, 9, 10, 11] [0, 1, 2, 3] ?_
          refine WP.seq ?_
          refine Zp ?_
          refine Zm ?_
          refine Zf fo_24_0 ?_
          refine Zl 0 ag_22 ?_
          refine Zm ?_
          refine Zx sl_22 hf ?_
          refine Zf fo_41_4 ?_
          refine Zr ag_39 (hfrow 4 _ rfl) ?_
          refine Zh sl_39 hb ?_
          refine Zi ?_
          refine Ze ?_
          refine WP.ite rfl (fun hlt1 => ?_) (fun hge1 => ?_)
          · refine Zb ?_
            obtain ⟨b, gb⟩ : ∃ b, F.blocks[(i : Int).toNat]? = some b := ⟨_, List.getElem?_eq_getElem (by omega)⟩
            have gb' : F.blocks[i]? = some b := gb
            obtain ⟨hbs1, hbs2, hbs3⟩ := hsi b (List.mem_of_getElem? gb)
            obtain ⟨_, ⟨bu0, bt0, rfl, hbu, hbt⟩, hrow⟩ := hb.at gb
            obtain ⟨bu, rfl, _, _⟩ := SlR.sv hbu
            generalize hS1 : ((F.blocks.take i).flatMap fun b => b.body.flatMap AI.saves) = S1
            refine WP.seq ?_
            refine WP.block ?_
            refine Zp ?_
            refine Zm ?_
            refine Ze ?_
            refine WP.block ?_
            refine WP.trim [1, 5, 8, 9, 10, 11, 12] [0, 1, 2, 3] ?_
            refine WP.loopC (α := Nat) (fun j => j ≤ b.body.length) (fun j => [(12, vI (j : Int)), (10, vI (2 + F.slots + cntS (S1 ++ (b.body.take j).flatMap AI.saves)))]) (fun j => [(3, blk b9 (fgV (S1 ++ (b.body.take j).flatMap AI.saves)) 37)]) (fun j => b.body.length - j) 0 (Nat.zero_le _) ?_ (hc := by rw [List.take_zero, List.flatMap_nil, List.append_nil]; exact Ko.go) (he := by rw [List.take_zero, List.flatMap_nil, List.append_nil]; exact ent.gc)
            intro j hj
            refine WP.trim [1, 5, 8, 9, 10, 11, 12] [0, 1, 2, 3] ?_
            refine WP.seq ?_
            refine Zp ?_
            refine Zm ?_
            refine Zf fo_24_0 ?_
            refine Zl 0 ag_22 ?_
            refine Zm ?_
            refine Zx sl_22 hf ?_
            refine Zf fo_41_4 ?_
            refine Zr ag_39 (hfrow 4 _ rfl) ?_
            refine Zm ?_
            refine Zx sl_39 hb ?_
            refine Zf fo_49_0 ?_
            refine Zr ag_42 (hrow 0 _ rfl) ?_
            refine Zh sl_42 hbu ?_
            refine Zi ?_
            refine Ze ?_
            refine WP.ite rfl (fun hlt2 => ?_) (fun hge2 => ?_)
            · refine Zb ?_
              obtain ⟨x, gx⟩ : ∃ x, b.body[(j : Int).toNat]? = some x := ⟨_, List.getElem?_eq_getElem (by omega)⟩
              have gx' : b.body[j]? = some x := gx
              obtain ⟨hx1, hx2⟩ := hbs3 x (List.mem_of_getElem? gx)
              obtain ⟨_, ⟨xu0, xs0, rfl, hxu, hxv⟩, hxrow⟩ := hbu.at gx
              obtain ⟨xv, rfl, _, _⟩ := SlR.sv hxv
              have hsvs : ∀ r ∈ x.saves, 0 ≤ r ∧ r < 8 := fun r hr => h.sv r (by unfold allS; exact List.mem_flatMap.2 ⟨b, List.mem_of_getElem? gb, List.mem_flatMap.2 ⟨x, List.mem_of_getElem? gx, hr⟩⟩)
              generalize hS2 : S1 ++ (b.body.take j).flatMap AI.saves = S2
              refine WP.seq ?_
              refine WP.block ?_
              refine Zp ?_
              refine Zf fo_24_0 ?_
              refine Zl 0 ag_22 ?_
              refine Zm ?_
              refine Zx sl_22 hf ?_
              refine Zf fo_41_4 ?_
              refine Zr ag_39 (hfrow 4 _ rfl) ?_
              refine Zm ?_
              refine Zx sl_39 hb ?_
              refine Zf fo_49_0 ?_
              refine Zr ag_42 (hrow 0 _ rfl) ?_
              refine Zm ?_
              refine Zx sl_42 hbu ?_
              refine Zf fo_51_4 ?_
              refine Zr ag_45 (hxrow 5 _ rfl) ?_
              refine Zm ?_
              refine Ze ?_
              refine Zp ?_
              refine Zm ?_
              refine Ze ?_
              refine WP.block ?_
              refine WP.trim [1, 5, 8, 9, 10, 11, 12, 13, 14] [0, 1, 2, 3] ?_
              refine WP.loopC (α := Nat) (fun k => k ≤ x.saves.length) (fun k => [(14, vI (k : Int)), (10, vI (2 + F.slots + cntS (S2 ++ x.saves.take k)))]) (fun k => [(3, blk b9 (fgV (S2 ++ x.saves.take k)) 37)]) (fun k => x.saves.length - k) 0 (Nat.zero_le _) ?_ (hc := by rw [List.take_zero, List.append_nil]; exact Ko.go) (he := by rw [List.take_zero, List.append_nil]; exact ent.gc)
              intro k hk
              refine WP.trim [1, 5, 8, 9, 10, 11, 12, 13, 14] [0, 1, 2, 3] ?_
              refine WP.seq ?_
              refine Zp ?_
              refine Zm ?_
              refine Zm ?_
              refine Zh sl_45 hxv ?_
              refine Zi ?_
              refine Ze ?_
              refine WP.ite rfl (fun hlt3 => ?_) (fun hge3 => ?_)
              · refine Zb ?_
                obtain ⟨r, gr⟩ : ∃ r, x.saves[(k : Int).toNat]? = some r := ⟨_, List.getElem?_eq_getElem (by omega)⟩
                have gr' : x.saves[k]? = some r := gr
                have hr8 := hsvs r (List.mem_of_getElem? gr)
                have hst : S2 ++ x.saves.take (k + 1) = (S2 ++ x.saves.take k) ++ [r] := by rw [List.take_add_one, gr', List.append_assoc]; rfl
                generalize hS3 : S2 ++ x.saves.take k = S3 at hst
                have hc8 := cntS_le S3
                refine WP.seq ?_
                refine WP.block ?_
                refine WP.seqCut [(1, .pointer (some ⟨b1, 0, none⟩)), (5, .pointer (some ⟨b5, 0, none⟩)), (8, vI (n : Int)), (9, .pointer (some ⟨b9, 0, none⟩)), (10, vI (2 + F.slots + cntS S3)), (11, vI (i : Int)), (12, vI (j : Int)), (13, xv.val), (14, vI (k : Int)), (162, .bool (decide (r ∉ S3)))] [blk b1 (alv A fv) 24, blk b5 [iv.val, gv.val, vI A.main] 32, slA 53 encRF gv.val (emL A.funcs).2, blk b9 (fgV S3) 37] ?_ ?_
                · refine Zc ?_
                  all_goals (first | refine Zm ?_)
                  all_goals (first | refine Zm ?_)
                  all_goals (first | refine Zx sl_45 hxv ?_)
                  all_goals (first | refine Zr ag_3 (SlR.cell0 hxv gr rfl) ?_)
                  all_goals (first | refine Zi ?_)
                  all_goals (first | refine Run.tt (by first | assumption | omega) ?_ | refine Run.ff (by first | assumption | omega) ?_ | refine Run.split (fun hc146 => ?_) (fun hc146 => ?_) | refine Run.splitB (fun hc146 => ?_) (fun hc146 => ?_) | skip)
                  all_goals (first | refine Zm ?_)
                  all_goals (first | refine Zv ?_ | refine Zm ?_)
                  all_goals (first | refine Zv ?_ | refine Zm ?_)
                  all_goals (first | refine Zv ?_ | refine Zx sl_45 hxv ?_)
                  all_goals (first | refine Zv ?_ | refine Zr ag_3 (SlR.cell0 hxv gr rfl) ?_)
                  all_goals (first | refine Zv ?_ | refine Zi ?_)
                  all_goals (first | refine Run.tt (by first | assumption | omega) ?_ | refine Run.ff (by first | assumption | omega) ?_ | refine Run.split (fun hc152 => ?_) (fun hc152 => ?_) | refine Run.splitB (fun hc152 => ?_) (fun hc152 => ?_) | skip)
                  all_goals (first | refine Zq ?_)
                  all_goals (first | refine Zm ?_)
                  all_goals (first | refine Zv ?_ | refine Zm ?_)
                  all_goals (first | refine Zv ?_ | refine Zm ?_)
                  all_goals (first | refine Zv ?_ | refine Zx sl_45 hxv ?_)
                  all_goals (first | refine Zv ?_ | refine Zr ag_3 (SlR.cell0 hxv gr rfl) ?_)
                  all_goals (first | refine Zv ?_ | refine Run.idxArr rfl rfl rfl ar_37 rfl rfl (by first | omega | (simp <;> omega)) (by first | omega | (simp <;> omega)) ?_)
                  all_goals (first | refine Zv ?_ | refine Run.loadB 3 (off := r.toNat) (v := flg S3 r) rfl rfl ag_4 rfl rfl rfl (add_at (k := r) (i := r.toNat) (by omega)) (fgV_at hr8.1 hr8.2) ?_)
                  all_goals (first | refine Zv ?_ | refine Run.bnot rfl rfl rfl rfl ?_)
                  all_goals (first | refine Zq ?_)
                  all_goals (refine Run.nil ?_)
                  all_goals refine thn_next ⟨⟨rfl, rfl, rfl, rfl, rfl, rfl, rfl, rfl, rfl, ?_, trivial⟩, ent.go⟩
                  all_goals (first | contradiction | (exfalso; omega) | (simp [Env.get, *]; done) | skip)
                refine WP.ite rfl (fun hnew => ?_) (fun hold => ?_)
                · refine Zp ?_
                  refine Zm ?_
                  refine Zm ?_
                  refine Zx sl_45 hxv ?_
                  refine Zr ag_3 (SlR.cell0 hxv gr rfl) ?_
                  refine Run.idxArr rfl rfl rfl ar_37 rfl rfl (by first | omega | (simp <;> omega)) (by first | omega | (simp <;> omega)) ?_
                  refine Run.storeB 3 (off := r.toNat) rfl rfl rfl rfl ag_4 rfl rfl rfl (add_at (k := r) (i := r.toNat) (by omega)) (by refine Nat.ble_eq_true_of_le ?_; show r.toNat + 1 ≤ 8; omega) ?_; rw [fgV_set hr8.1 hr8.2]
                  refine Ze ?_
                  refine Zc ?_
                  refine Zm ?_
                  refine Za ?_
                  refine Zm ?_
                  refine Run.nil ?_
                  refine blk_norm ?_; refine thn_next ?_
                  refine Zc ?_
                  refine Zm ?_
                  refine Za ?_
                  refine Zm ?_
                  refine Run.nil ?_
                  refine thn_next ⟨k + 1, by omega, by omega, ?_, ?_⟩
                  · rw [hst, cntS_snoc hnew hr8.1 hr8.2, ← Int.add_assoc]; exact Ko.go
                  · rw [hst]; exact ent.gc
                · refine WP.skip ?_; refine blk_norm ?_; refine thn_next ?_
                  have hm := mem_snoc (Decidable.not_not.1 hold)
                  refine Zc ?_
                  refine Zm ?_
                  refine Za ?_
                  refine Zm ?_
                  refine Run.nil ?_
                  refine thn_next ⟨k + 1, by omega, by omega, ?_, ?_⟩
                  · rw [hst, ← cntS_eq hm]; exact Ko.go
                  · rw [hst, ← fgV_eq hm]; exact ent.gc
              · refine Zj ?_; refine blk_norm ?_; refine thn_next ?_
                have hst : S1 ++ (b.body.take (j + 1)).flatMap AI.saves = S2 ++ x.saves.take k := by
                  rw [List.take_of_length_le (l := x.saves) (by omega), ← hS2, List.take_add_one, gx', List.flatMap_append, List.append_assoc]
                  show S1 ++ (_ ++ [x].flatMap AI.saves) = _
                  rw [List.flatMap_singleton]
                refine Zc ?_
                refine Zm ?_
                refine Za ?_
                refine Zm ?_
                refine Run.nil ?_
                refine thn_next ⟨j + 1, by omega, by omega, ?_, ?_⟩
                · rw [hst]; exact Ko.go
                · rw [hst]; exact ent.gc
            · refine Zj ?_; refine blk_norm ?_; refine thn_next ?_
              have hst : ((F.blocks.take (i + 1)).flatMap fun b => b.body.flatMap AI.saves) = S1 ++ (b.body.take j).flatMap AI.saves := by
                rw [List.take_of_length_le (l := b.body) (by omega), List.take_add_one, gb', List.flatMap_append, hS1]
                show S1 ++ [b].flatMap (fun b => b.body.flatMap AI.saves) = _
                rw [List.flatMap_singleton]
              refine Zc ?_
              refine Zm ?_
              refine Za ?_
              refine Zm ?_
              refine Run.nil ?_
              refine thn_next ⟨i + 1, by omega, by omega, ?_, ?_⟩
              · rw [hst]; exact Ko.go
              · rw [hst]; exact ent.gc
          · refine Zj ?_
            have hst : ((F.blocks.take i).flatMap fun b => b.body.flatMap AI.saves) = allS F := by rw [List.take_of_length_le (by omega)]; rfl
            refine thn_next ⟨(), trivial, ?_, ?_⟩
            · rw [hst]; exact Ko.go
            · rw [hst]; exact ent.gc
        intro _ _
        refine WP.trim [1, 5, 8, 10] [0, 1, 2] ?_
        refine WP.seqCut [(1, .pointer (some ⟨b1, 0, none⟩)), (5, .pointer (some ⟨b5, 0, none⟩)), (8, vI (n : Int)), (208, .bool (decide False))] [blk b1 (alv A fv) 24, blk b5 [iv.val, gv.val, vI A.main] 32, slA 53 encRF gv.val (emL A.funcs).2] ?_ ?_
        · refine WP.via (Γ' := [] ++ [blk b1 (alv A fv) 24, blk b5 [iv.val, gv.val, vI A.main] 32, slA 53 encRF gv.val (emL A.funcs).2]) (ent.refl _) ?_
          refine WP.freeze (Γ := []) [blk b1 (alv A fv) 24, blk b5 [iv.val, gv.val, vI A.main] 32, slA 53 encRF gv.val (emL A.funcs).2] fun g hg hd => ?_
          have sF := sub_un_left hR g
          have hG := lent_at (hR := hR) 2 rfl hg hd
          refine WP.drawn0 cfF mixed rfl (by kernel_rfl) ?_
          refine Zf fo_32_1 ?_
          refine Run.loadF rfl rfl ag_30 rfl rfl (lent_blk (v := gv.val) 1 1 rfl rfl hg hd) ?_
          refine Zm ?_
          refine Zx sl_30 hG ?_
          refine Zf fo_53_1 ?_
          refine Run.loadF rfl rfl ag_3 rfl rfl (SlR.row hG gg 1 _ rfl) ?_
          refine Zm ?_
          refine Zi ?_
          refine Run.eqv (v' := .bool false) (by rw [decide_eq_false (by omega)]) ?_
          refine Zm ?_
          refine Zf fo_32_1 ?_
          refine Run.loadF rfl rfl ag_30 rfl rfl (lent_blk (v := gv.val) 1 1 rfl rfl hg hd) ?_
          refine Zm ?_
          refine Zx sl_30 hG ?_
          refine Zf fo_53_0 ?_
          refine Run.loadF rfl rfl ag_9 rfl rfl (SlR.row hG gg 0 _ rfl) ?_; rw [e1]
          refine Zf fo_24_0 ?_
          refine Run.loadF rfl rfl ag_22 rfl rfl (lent_blk (v := fv.val) 0 0 rfl rfl hg hd) ?_
          refine Zm ?_
          refine Zx sl_22 (hf.mono sF) ?_
          refine Zf fo_41_0 ?_
          refine Run.loadF rfl rfl ag_9 rfl rfl ((hfrow.mono sF) 0 _ rfl) ?_
          refine Run.neStr0 rfl rfl rfl rfl rfl ?_
          refine Zq ?_
          refine Zm ?_
          refine Zf fo_32_1 ?_
          refine Run.loadF rfl rfl ag_30 rfl rfl (lent_blk (v := gv.val) 1 1 rfl rfl hg hd) ?_
          refine Zm ?_
          refine Zx sl_30 hG ?_
          refine Zf fo_53_4 ?_
          refine Run.loadF rfl rfl ag_3 rfl rfl (SlR.row hG gg 4 _ rfl) ?_
          refine Zf fo_24_0 ?_
          refine Run.loadF rfl rfl ag_22 rfl rfl (lent_blk (v := fv.val) 0 0 rfl rfl hg hd) ?_
          refine Zm ?_
          refine Zx sl_22 (hf.mono sF) ?_
          refine Zf fo_41_1 ?_
          refine Run.loadF rfl rfl ag_38 rfl rfl ((hfrow.mono sF) 1 _ rfl) ?_
          refine Zh sl_38 (hfu.mono sF) ?_
          refine Zi ?_
          refine Run.eqv (v' := .bool false) (by rw [decide_eq_false (by omega)]) ?_
          refine Zq ?_
          refine Run.nil ?_
          refine thn_next ⟨⟨rfl, rfl, rfl, rfl, trivial⟩, ent.go⟩
        refine WP.ite rfl (fun h => h.elim) (fun _ => ?_)
        refine WP.skip ?_; refine blk_norm ?_; refine thn_next ?_
        refine Zc ?_
        refine Zm ?_
        refine Za ?_
        refine Zm ?_
        refine Run.nil ?_
        refine thn_next ⟨n + 1, by omega, by omega, Ko.go, ent.gc⟩
      · refine Zj ?_
        refine thn_next ⟨(), trivial, Ko.go, ent.gc⟩
    intro _ _
    refine Zp ?_
    refine Zm ?_
    refine Ze ?_
    refine WP.ret ?_
    exact retT [2] _ rfl rfl ⟨_, ent.none _, rfl, rfl⟩
  · have hok' : okA nmB A = false := by cases h : okA nmB A; rfl; exact absurd h hok
    refine Zc ?_
    refine Run.loadBagg 0 rfl rfl ag_24 rfl rfl rfl rfl rfl ?_
    refine Run.callP [] ok_6 (check6_ok hR A fv hA) ?_; rintro _ _ ⟨rfl, rfl⟩; refine Run.eqv (v' := .int .i64 190) (by rw [if_neg hok]) ?_
    refine Zm ?_
    refine Ze ?_
    refine WP.trim [1, 2, 3, 4] [0] ?_
    refine Zp ?_
    refine Run.loadBagg 0 rfl rfl ag_24 rfl rfl rfl rfl rfl ?_
    refine Run.callP [] ok_7 (emit_bad hR A fv hA hok') ?_; rintro _ _ ⟨rfl, rfl⟩
    refine Zm ?_
    refine Run.extract rfl rfl rfl rfl rfl ?_
    refine Run.extract rfl rfl rfl rfl rfl ?_
    refine Run.alloc rfl zr_32 rfl rfl rfl ?_
    intro b5
    refine Run.storeB 1 rfl rfl rfl rfl ag_32 rfl rfl rfl rfl rfl ?_
    refine Zm ?_
    refine Ze ?_
    refine WP.trim [1, 2, 3, 4, 5, 6] [0, 1] ?_
    refine WP.seq ?_
    refine Zp ?_
    refine Zm ?_
    refine Run.bnotB rfl rfl rfl rfl ?_
    refine Zm ?_
    refine Zm ?_
    refine Run.callP [] ok_8 (num_ok hR 190) ?_; rintro _ _ ⟨rfl, rfl⟩
    refine Zi ?_
    refine Zq ?_
    refine Run.eqv (v' := .bool (decide True)) (by simp) ?_
    refine Ze ?_
    refine WP.ite rfl (fun _ => ?_) (fun h => (h trivial).elim)
    refine WP.seqCut [(2, .bool true)] [] ?_ ?_
    · refine Zc ?_
      all_goals (first | refine Zm ?_)
      all_goals (first | refine Zm ?_)
      all_goals (first | refine Zv ?_ | refine Zm ?_)
      all_goals (first | refine Zv ?_ | refine Zm ?_)
      all_goals (first | refine Zv ?_ | refine Zi ?_)
      all_goals (first | refine Run.tt (by first | assumption | omega) ?_ | refine Run.ff (by first | assumption | omega) ?_ | refine Run.split (fun hc37 => ?_) (fun hc37 => ?_) | refine Run.splitB (fun hc37 => ?_) (fun hc37 => ?_) | skip)
      all_goals (first | refine Zq ?_)
      all_goals (first | refine Zm ?_)
      all_goals (first | refine Zv ?_ | refine Zf fo_32_0 ?_)
      all_goals (first | refine Zv ?_ | refine Zl 1 ag_29 ?_)
      all_goals (first | refine Zv ?_ | refine Run.len rfl rfl sl_29 rfl rfl ?_)
      all_goals (first | refine Zv ?_ | refine Zi ?_)
      all_goals (first | refine Run.tt (by first | assumption | omega) ?_ | refine Run.ff (by first | assumption | omega) ?_ | refine Run.split (fun hc43 => ?_) (fun hc43 => ?_) | refine Run.splitB (fun hc43 => ?_) (fun hc43 => ?_) | skip)
      all_goals (first | refine Zq ?_)
      all_goals (first | refine Zm ?_)
      all_goals (first | refine Zv ?_ | refine Zf fo_32_1 ?_)
      all_goals (first | refine Zv ?_ | refine Zl 1 ag_30 ?_)
      all_goals (first | refine Zv ?_ | refine Run.len rfl rfl sl_30 rfl rfl ?_)
      all_goals (first | refine Zv ?_ | refine Zi ?_)
      all_goals (first | refine Run.tt (by first | assumption | omega) ?_ | refine Run.ff (by first | assumption | omega) ?_ | refine Run.split (fun hc49 => ?_) (fun hc49 => ?_) | refine Run.splitB (fun hc49 => ?_) (fun hc49 => ?_) | skip)
      all_goals (first | refine Zq ?_)
      all_goals (first | refine Zm ?_)
      all_goals (first | refine Zv ?_ | refine Zf fo_32_2 ?_)
      all_goals (first | refine Zv ?_ | refine Zl 1 ag_3 ?_)
      all_goals (first | refine Zv ?_ | refine Zi ?_)
      all_goals (first | refine Zq ?_)
      all_goals (first | refine Zm ?_)
      all_goals (refine Run.nil ?_)
      all_goals refine thn_next ⟨⟨?_, trivial⟩, ent.none _⟩
      all_goals (first | contradiction | (exfalso; omega) | rfl | (simp [Env.get, *]; done) | skip)
    refine WP.ret ?_; refine thn_ret ?_
    exact retT [2] _ rfl rfl ⟨_, ent.none _, rfl, rfl⟩
end Go.Proofs.Ytfaokbjpinlcaaa
end
section
/- The laws' argument, opened: a value of ALIR with its bounds. -/
namespace Go.Proofs.Ytfaokbjpinlcaaa
open Go.Sep Go.ChangeShapes Go.WideShapes Go.ChangeAt Go.RowKit
set_option linter.unusedSimpArgs false
set_option linter.unusedVariables false
theorem co_3 : Try.prog.cellsOf 3 = 1 := by kernel_rfl
theorem co_9 : Try.prog.cellsOf 9 = 1 := by kernel_rfl
theorem co_45 : Try.prog.cellsOf 45 = 1 := by kernel_rfl
theorem co_44 : Try.prog.cellsOf 44 = 2 := by kernel_rfl
theorem co_38 : Try.prog.cellsOf 38 = 1 := by kernel_rfl
theorem co_39 : Try.prog.cellsOf 39 = 1 := by kernel_rfl
theorem co_42 : Try.prog.cellsOf 42 = 1 := by kernel_rfl
theorem co_22 : Try.prog.cellsOf 22 = 1 := by kernel_rfl
theorem co_51 : Try.prog.cellsOf 51 = 6 := by kernel_rfl
theorem co_47 : Try.prog.cellsOf 47 = 4 := by kernel_rfl
theorem co_49 : Try.prog.cellsOf 49 = 5 := by kernel_rfl
theorem co_41 : Try.prog.cellsOf 41 = 5 := by kernel_rfl
theorem co_24 : Try.prog.cellsOf 24 = 2 := by kernel_rfl
theorem by_3 : 8 ≤ Try.prog.bytesOf 3 := of_decide_eq_true (by kernel_rfl)
theorem by_44 : 8 ≤ Try.prog.bytesOf 44 := of_decide_eq_true (by kernel_rfl)
theorem by_51 : 8 ≤ Try.prog.bytesOf 51 := of_decide_eq_true (by kernel_rfl)
theorem by_49 : 8 ≤ Try.prog.bytesOf 49 := of_decide_eq_true (by kernel_rfl)
theorem by_41 : 8 ≤ Try.prog.bytesOf 41 := of_decide_eq_true (by kernel_rfl)
section
variable {P : Program} {w : World} {t : TypeId}
theorem partAt {A : Type} {E : Rd A} {G : A → Prop} {fs : Array Field} (ht : P.underlying t = some (.struct fs))
    {H : Type} {enc : TypeId × Value → H} {base : Nat} {spare : Nat → Bool} {held : Bool} {fuel : Nat} {cs : List Value} {x : DataW H × List MemPlace} (h : DataW.trod enc P w base spare held fuel t cs = some x)
    (hw : ∀ m ∈ x.1.weights P t, m ≤ reachBytes) (i k c : Nat) (ft : TypeId) {f : Field} (hf : fs[i]? = some f) (hk : f.offset = k) (hft : f.type = ft) (hc : P.cellsOf ft = c) (HE : OpensW P w ft E G) : ∃ a, E.rel (hp w) a ((cs.drop k).take c) ∧ G a := by
  subst hft
  have := OpensW.part ht h hw hf HE
  rw [hk, hc] at this
  exact this
theorem cells_len {fs : Array Field} (ht : P.underlying t = some (.struct fs))
    {H : Type} {enc : TypeId × Value → H} {base : Nat} {spare : Nat → Bool} {held : Bool} {fuel : Nat} {cs : List Value} {x : DataW H × List MemPlace} (h : DataW.trod enc P w base spare held fuel t cs = some x) : cs.length = P.cellsOf t := by
  obtain ⟨_, _, _, _, h1, _⟩ := DataW.trod_struct ht h
  exact h1
end
theorem int_open {w : World} : OpensW Try.prog w 3 rdI (fun n => (Lit.int .i64 n).wf = true) := OpensW.of (Opens.int Try.underlying3)
theorem ints_open {w : World} : OpensW Try.prog w 45 rdI.slice (fun xs => xs.length ≤ 17592186044416 ∧ ∀ x ∈ xs, (Lit.int .i64 x).wf = true) := OpensW.slice Try.underlying45 co_3 by_3 int_open
theorem loc_open {w : World} : OpensW Try.prog w 44 rdLc (fun _ => True) := fun {H enc base spare held fuel cs x} h hw => by
  have hl := cells_len Try.underlying44 h
  rw [co_44] at hl
  obtain ⟨a0, e0, _⟩ := partAt Try.underlying44 h hw 0 0 1 3 rfl rfl rfl co_3 int_open
  obtain ⟨a1, e1, _⟩ := partAt Try.underlying44 h hw 1 1 1 3 rfl rfl rfl co_3 int_open
  clear h hw
  match cs, hl with
  | [c0, c1], _ =>
    have g0 : [c0] = [Value.int .i64 a0] := e0
    have g1 : [c1] = [Value.int .i64 a1] := e1
    simp only [List.cons.injEq, and_true] at g0 g1
    subst g0 g1
    exact ⟨⟨a0, a1⟩, rfl, trivial⟩
theorem locs_open {w : World} : OpensW Try.prog w 38 rdLc.slice (fun xs => xs.length ≤ 17592186044416 ∧ ∀ x ∈ xs, True) := OpensW.slice Try.underlying38 co_44 by_44 loc_open
theorem ins_open {w : World} : OpensW Try.prog w 51 rdAI (fun x => x.args.length ≤ 17592186044416 ∧ x.saves.length ≤ 17592186044416) := fun {H enc base spare held fuel cs x} h hw => by
  have hl := cells_len Try.underlying51 h
  rw [co_51] at hl
  obtain ⟨a0, e0, _⟩ := partAt Try.underlying51 h hw 0 0 1 3 rfl rfl rfl co_3 int_open
  obtain ⟨a1, e1, _⟩ := partAt Try.underlying51 h hw 1 1 1 3 rfl rfl rfl co_3 int_open
  obtain ⟨a2, e2, _⟩ := partAt Try.underlying51 h hw 2 2 2 44 rfl rfl rfl co_44 loc_open
  obtain ⟨a3, ⟨u, e3, hu⟩, h3, _⟩ := partAt Try.underlying51 h hw 3 4 1 38 rfl rfl rfl co_38 locs_open
  obtain ⟨a4, ⟨v, e4, hv⟩, h4, _⟩ := partAt Try.underlying51 h hw 4 5 1 45 rfl rfl rfl co_45 ints_open
  clear h hw
  match cs, hl with
  | [c0, c1, c2, c3, c4, c5], _ =>
    have g0 : [c0] = [Value.int .i64 a0] := e0
    have g1 : [c1] = [Value.int .i64 a1] := e1
    have g2 : [c2, c3] = lcv a2 := e2
    have g3 : [c4] = [u] := e3
    have g4 : [c5] = [v] := e4
    simp only [List.cons.injEq, and_true] at g0 g1 g2 g3 g4
    obtain ⟨g2, g5⟩ := g2
    subst g0 g1 g2 g3 g4 g5
    exact ⟨⟨a0, a1, a2, a3, a4⟩, ⟨_, _, rfl, hu, hv⟩, h3, h4⟩
theorem inss_open {w : World} : OpensW Try.prog w 42 rdAI.slice (fun xs => xs.length ≤ 17592186044416 ∧ ∀ x ∈ xs, x.args.length ≤ 17592186044416 ∧ x.saves.length ≤ 17592186044416) := OpensW.slice Try.underlying42 co_51 by_51 ins_open
def rdAT : Rd AT where
  sz := 4
  rel h x cs := ∃ v, cs = atv x v ∧ SlR rdI h v x.to
  len := by rintro h x cs ⟨v, rfl, _⟩; rfl
  mono := by rintro h g x cs hs ⟨v, rfl, hv⟩; exact ⟨v, rfl, hv.mono hs⟩
theorem term_open {w : World} : OpensW Try.prog w 47 rdAT (fun x => x.to.length ≤ 17592186044416) := fun {H enc base spare held fuel cs x} h hw => by
  have hl := cells_len Try.underlying47 h
  rw [co_47] at hl
  obtain ⟨a0, e0, _⟩ := partAt Try.underlying47 h hw 0 0 1 3 rfl rfl rfl co_3 int_open
  obtain ⟨a1, e1, _⟩ := partAt Try.underlying47 h hw 1 1 2 44 rfl rfl rfl co_44 loc_open
  obtain ⟨a2, ⟨u, e2, hu⟩, h3, _⟩ := partAt Try.underlying47 h hw 2 3 1 45 rfl rfl rfl co_45 ints_open
  clear h hw
  match cs, hl with
  | [c0, c1, c2, c3], _ =>
    have g0 : [c0] = [Value.int .i64 a0] := e0
    have g1 : [c1, c2] = lcv a1 := e1
    have g2 : [c3] = [u] := e2
    simp only [List.cons.injEq, and_true] at g0 g1 g2
    obtain ⟨g1, g3⟩ := g1
    subst g0 g1 g2 g3
    exact ⟨⟨a0, a1, a2⟩, ⟨_, rfl, hu⟩, h3⟩
def wideB (b : AB) : Prop := b.body.length ≤ 17592186044416 ∧ b.term.to.length ≤ 17592186044416 ∧ ∀ x ∈ b.body, x.args.length ≤ 17592186044416 ∧ x.saves.length ≤ 17592186044416
theorem blk_open {w : World} : OpensW Try.prog w 49 rdAB wideB := fun {H enc base spare held fuel cs x} h hw => by
  have hl := cells_len Try.underlying49 h
  rw [co_49] at hl
  obtain ⟨a0, ⟨u, e0, hu⟩, h0, h1⟩ := partAt Try.underlying49 h hw 0 0 1 42 rfl rfl rfl co_42 inss_open
  obtain ⟨a1, ⟨tv, e1, ht⟩, h2⟩ := partAt Try.underlying49 h hw 1 1 4 47 rfl rfl rfl co_47 term_open
  clear h hw
  match cs, hl with
  | [c0, c1, c2, c3, c4], _ =>
    have g0 : [c0] = [u] := e0
    have g1 : [c1, c2, c3, c4] = atv a1 tv := e1
    simp only [List.cons.injEq, and_true] at g0 g1
    obtain ⟨g1, g2, g3, g4⟩ := g1
    subst g0 g1 g2 g3 g4
    exact ⟨⟨a0, a1⟩, ⟨_, _, rfl, hu, ht⟩, h0, h2, h1⟩
theorem blks_open {w : World} : OpensW Try.prog w 39 rdAB.slice (fun xs => xs.length ≤ 17592186044416 ∧ ∀ x ∈ xs, wideB x) := OpensW.slice Try.underlying39 co_49 by_49 blk_open
theorem fun_open {w : World} : OpensW Try.prog w 41 rdAF WideF := fun {H enc base spare held fuel cs x} h hw => by
  have hl := cells_len Try.underlying41 h
  rw [co_41] at hl
  obtain ⟨a0, e0, h0⟩ := partAt Try.underlying41 h hw 0 0 1 9 rfl rfl rfl co_9 (OpensW.str und_9)
  obtain ⟨a1, ⟨u, e1, hu⟩, h1, _⟩ := partAt Try.underlying41 h hw 1 1 1 38 rfl rfl rfl co_38 locs_open
  obtain ⟨a2, e2, _⟩ := partAt Try.underlying41 h hw 2 2 1 3 rfl rfl rfl co_3 int_open
  obtain ⟨a3, e3, _⟩ := partAt Try.underlying41 h hw 3 3 1 3 rfl rfl rfl co_3 int_open
  obtain ⟨a4, ⟨v, e4, hv⟩, h4, h5⟩ := partAt Try.underlying41 h hw 4 4 1 39 rfl rfl rfl co_39 blks_open
  clear h hw
  match cs, hl with
  | [c0, c1, c2, c3, c4], _ =>
    have g0 : [c0] = [Value.string a0] := e0
    have g1 : [c1] = [u] := e1
    have g2 : [c2] = [Value.int .i64 a2] := e2
    have g3 : [c3] = [Value.int .i64 a3] := e3
    have g4 : [c4] = [v] := e4
    simp only [List.cons.injEq, and_true] at g0 g1 g2 g3 g4
    subst g0 g1 g2 g3 g4
    exact ⟨⟨a0, a1, a2, a3, a4⟩, ⟨_, _, rfl, hu, hv⟩, h0, h1, h4, h5⟩
theorem funs_open {w : World} : OpensW Try.prog w 22 rdAF.slice (fun xs => xs.length ≤ 17592186044416 ∧ ∀ x ∈ xs, WideF x) := OpensW.slice Try.underlying22 co_41 by_41 fun_open
def rdAL : Rd AL where
  sz := 2
  rel h x cs := ∃ v, cs = [v, .int .i64 x.main] ∧ SlR rdAF h v x.funcs
  len := by rintro h x cs ⟨v, rfl, _⟩; rfl
  mono := by rintro h g x cs hs ⟨v, rfl, hv⟩; exact ⟨v, rfl, hv.mono hs⟩
theorem al_open {w : World} : OpensW Try.prog w 24 rdAL WideA := fun {H enc base spare held fuel cs x} h hw => by
  have hl := cells_len Try.underlying24 h
  rw [co_24] at hl
  obtain ⟨a0, ⟨u, e0, hu⟩, h0, h1⟩ := partAt Try.underlying24 h hw 0 0 1 22 rfl rfl rfl co_22 funs_open
  obtain ⟨a1, e1, _⟩ := partAt Try.underlying24 h hw 1 1 1 3 rfl rfl rfl co_3 int_open
  clear h hw
  match cs, hl with
  | [c0, c1], _ =>
    have g0 : [c0] = [u] := e0
    have g1 : [c1] = [Value.int .i64 a1] := e1
    simp only [List.cons.injEq, and_true] at g0 g1
    subst g0 g1
    exact ⟨⟨a0, a1⟩, ⟨_, rfl, hu⟩, h0, h1⟩
/-- a program that is handed in -/
theorem al_arg {w : World} {H : Type} {enc : TypeId × Value → H} {base : Nat} {spare : Nat → Bool} {held : Bool} {v : Value} {cs : Array Value} {d : DataW H} {ps : List MemPlace} (hv : v = .agg cs)
    (h : DataW.Trod enc Try.prog w base spare held 24 v d ps) (hw : ∀ m ∈ d.weights Try.prog 24, m ≤ reachBytes) : ∃ (A : AL) (fv : SV), v = .agg ⟨alv A fv⟩ ∧ SlR rdAF (hp w) fv.val A.funcs ∧ WideA A := by
  obtain ⟨fuel, hf⟩ := h
  obtain ⟨A, ⟨u, e, hu⟩, hW⟩ := al_open hf hw
  obtain ⟨su, rfl, _⟩ := SlR.sv hu
  subst hv
  refine ⟨A, su, ?_, hu, hW⟩
  have e2 : cs.toList = alv A su := e
  cases cs
  simp only at e2
  rw [e2]
theorem weights_first {H : Type} {ts us : List TypeId} {ds gs : List (DataW H)} {t : TypeId} {d : DataW H} (h : (DataW.weightsEach Try.prog (t :: ts ++ us) (d :: ds ++ gs)).all (· ≤ reachBytes) = true) : ∀ m ∈ d.weights Try.prog t, m ≤ reachBytes := fun m hm => by
  have := List.all_eq_true.1 h m (DataW.weights_mem_each (j := 0) rfl rfl m hm)
  simpa using this
end Go.Proofs.Ytfaokbjpinlcaaa
end
