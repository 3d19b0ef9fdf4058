/- emitted: Emit's answer is the document's, over one memory, as it is handed in, turned and written over; walked. -/
import Derived.Test.YtfaokbjpinlcaaaGreatGA4
import Derived.Test.YtfaokbjpinlcaaaGreatGB6
import Derived.Test.YtfaokbjpinlcaaaGreatGB7
import Derived.Test.YtfaokbjpinlcaaaGreatGB1
import Derived.Test.YtfaokbjpinlcaaaGreatGA9
import Derived.Test.YtfaokbjpinlcaaaGreatGA3
import Derived.Test.YtfaokbjpinlcaaaGreatRows
section
/- emitted: Emit's answer is the document's, over one memory, as it is handed in, turned and written over; walked. -/
namespace Go.Proofs.YtfaokbjpinlcaaaGreat
open Go.Sep
set_option linter.unusedSimpArgs false
set_option linter.unusedVariables false
set_option maxRecDepth 100000
attribute [local irreducible] blk slA mp mpF rows rowsBut many mpK mpE lst lstQ insP blkP funP insQ blkQ funQ emL
/-- what is answered, whether it is ALIR or not -/
noncomputable def codeU (A : AL) : List RI × List RF := if okA nmB A then emL A.funcs else ([], [])
def mainU (A : AL) : Int := if okA nmB A then A.main else 0
def errU (A : AL) : Int := if okA nmB A then 0 else 190
theorem emL_len {l : List AF} (h : ∀ F ∈ l, FunOk F) : ∀ i, i ≤ l.length → (emL (l.take i)).1.length ≤ 3000000 * i ∧ (emL (l.take i)).2.length = i
  | 0, _ => by simp [emL]
  | i + 1, hi => by
    obtain ⟨F, gF⟩ : ∃ F, l[i]? = some F := ⟨_, List.getElem?_eq_getElem (by omega)⟩
    obtain ⟨h1, h2⟩ := emL_len h i (by omega)
    have hF := h F (List.mem_of_getElem? gF)
    have h3 := raw_len hF F.blocks.length (Nat.le_refl _)
    have h4 := sumB_le F F.blocks.length
    have h5 := hF.sm.st
    have h6 := hF.sm.sb
    rw [emL_step gF]
    unfold emS
    simp only [List.length_append, List.length_singleton, codeC_eq, List.length_map]
    omega
theorem codeU_len {A : AL} (hs : SmallA A) : (codeU A).1.length ≤ 2000000000 ∧ (codeU A).2.length ≤ 2000000000 := by
  unfold codeU
  by_cases h : okA nmB A = true
  · rw [if_pos h]
    have := emL_len (l := A.funcs) (fun F hF => okA_fun h hs hF) A.funcs.length (Nat.le_refl _)
    rw [List.take_length] at this
    have := hs.sf
    omega
  · rw [if_neg h]; simp
theorem emitU_ok (hR : Heap) (A : AL) (fv : SV) (hA : ALv hR A fv) : Tri Tryz.prog hR 9 #[.agg ⟨alv A fv⟩] [] fun v Γ' => ∃ iv gv : SV, v = .tuple #[.agg ⟨[iv.val, gv.val, vI (mainU A)]⟩, vI (errU A)] ∧ Γ' = [slA 38 encRI iv.val (codeU A).1, slA 77 encRF gv.val (codeU A).2] := by
  refine Tri.ent (Tri.mono (fun v Γ h => ?_) (emit_ok hR A fv hA))
  rcases h with ⟨h, iv, gv, rfl, rfl⟩ | ⟨h, rfl, rfl⟩
  · exact ⟨_, ent.refl _, iv, gv, by simp [mainU, errU, h], by simp [codeU, h]⟩
  · refine ⟨[slA 38 encRI nilS.val [], slA 77 encRF nilS.val []], (slA_nil 38 encRI []).trans (slA_nil 77 encRF _), nilS, nilS, by simp [mainU, errU, h], by simp [codeU, h]⟩
theorem docU_ok (hR : Heap) (A : AL) (fv : SV) (hA : ALv hR A fv) : Tri Tryz.prog hR 11 #[.agg ⟨alv A fv⟩] [] fun v Γ' => ∃ iv gv : SV, v = .tuple #[.agg ⟨[iv.val, gv.val, vI (mainU A)]⟩, vI (errU A)] ∧ Γ' = [slA 38 encRI iv.val (codeU A).1, slA 77 encRF gv.val (codeU A).2] := by
  refine Tri.ent (Tri.mono (fun v Γ h => ?_) (emit11_ok hR A fv hA))
  rcases h with ⟨h, iv, gv, rfl, rfl⟩ | ⟨h, rfl, rfl⟩
  · exact ⟨_, ent.refl _, iv, gv, by simp [mainU, errU, h], by simp [codeU, h]⟩
  · refine ⟨[slA 38 encRI nilS.val [], slA 77 encRF nilS.val []], (slA_nil 38 encRI []).trans (slA_nil 77 encRF _), nilS, nilS, by simp [mainU, errU, h], by simp [codeU, h]⟩
theorem leaseP_r {hR g : Heap} {u : SV} {Fs : List AF} (hg : sat [leaseP u Fs] g) (hd : Disj hR g) : LeaseR (un hR g) u Fs := by
  obtain ⟨h1, a, s⟩ := lent_sub 0 rfl hg hd
  exact lease_reads a s
theorem leaseP_v {hR g : Heap} {u : SV} {A : AL} (hs : SmallA A) (hg : sat [leaseP u A.funcs] g) (hd : Disj hR g) : ALv (un hR g) A u := ⟨(leaseP_r hg hd).read, hs⟩
theorem leaseQ_v {hR g : Heap} {u : SV} {A : AL} (hs : SmallA A) (hg : sat [leaseQ u A.funcs] g) (hd : Disj hR g) : ALv (un hR g) A u := by
  obtain ⟨h1, a, s⟩ := lent_sub 0 rfl hg hd
  exact ⟨lease_qr a s, hs⟩
theorem ALv.mono {h g : Heap} {A : AL} {fv : SV} (hs : Sub h g) (H : ALv h A fv) : ALv g A fv := ⟨H.hf.mono hs, H.sm⟩
set_option maxHeartbeats 4000000 in
theorem emitted_ok (hR : Heap) (A : AL) (fv : SV) (hA : ALv hR A fv) : Tri Tryz.prog hR 8 #[.agg ⟨alv A fv⟩] [] fun r Γ' => r = .bool true ∧ Γ' = [] := by
  have hs := hA.sm
  have hs2 := turn_small hs
  obtain ⟨n1, n2⟩ := codeU_len hs
  obtain ⟨n3, n4⟩ := codeU_len hs2
  refine Tri.ent (Tri.of (args := [.agg ⟨alv A fv⟩]) Tryz.func8 rfl Tryz.ntmps8 (by simp) ?_)
  refine Zp ?_
  refine Run.box rfl rfl rfl rfl rfl ?_
  intro b1
  refine Zm ?_
  refine Ze ?_
  refine Zp ?_
  refine Run.loadBagg 0 rfl rfl ag_24 rfl rfl rfl rfl rfl ?_
  refine Run.callP [] ok_19 (lent_ok hR A fv hA) ?_; rintro _ _ ⟨u, rfl, rfl⟩
  refine Run.alloc rfl zr_24 rfl rfl rfl ?_
  intro b3
  refine Run.storeB 2 rfl rfl rfl rfl ag_24 rfl rfl rfl rfl rfl ?_
  refine Ze ?_
  refine WP.trim [1, 2, 3] [1, 2, 0] ?_
  refine Zp ?_
  refine Run.loadBagg 1 rfl rfl ag_24 rfl rfl rfl rfl rfl ?_
  refine Run.callL [] [2] ok_9 (fun g hg hd => emitU_ok (un hR g) A u (leaseP_v hs hg hd)) ?_; rintro _ _ ⟨i1, g1, rfl, rfl⟩
  refine Zm ?_
  refine Run.extract rfl rfl rfl rfl rfl ?_
  refine Run.extract rfl rfl rfl rfl rfl ?_
  refine Run.alloc rfl zr_32 rfl rfl rfl ?_
  intro b4
  refine Run.storeB 5 rfl rfl rfl rfl ag_32 rfl rfl rfl rfl rfl ?_
  refine Zm ?_
  refine Ze ?_
  refine WP.trim [1, 2, 3, 4, 5] [3, 4, 2, 5, 0, 1] ?_
  refine Zp ?_
  refine Run.loadBagg 0 rfl rfl ag_24 rfl rfl rfl rfl rfl ?_
  refine Run.callP [] ok_11 (docU_ok hR A fv hA) ?_; rintro _ _ ⟨i2, g2, rfl, rfl⟩
  refine Zm ?_
  refine Run.extract rfl rfl rfl rfl rfl ?_
  refine Run.extract rfl rfl rfl rfl rfl ?_
  refine Run.alloc rfl zr_32 rfl rfl rfl ?_
  intro b6
  refine Run.storeB 8 rfl rfl rfl rfl ag_32 rfl rfl rfl rfl rfl ?_
  refine Zm ?_
  refine Ze ?_
  refine WP.trim [1, 2, 3, 4, 5, 6, 7] [2, 3, 4, 5, 6, 7, 8, 0, 1] ?_
  refine Zp ?_
  refine Run.loadBagg 1 rfl rfl ag_24 rfl rfl rfl rfl rfl ?_
  refine Run.loadBagg 0 rfl rfl ag_24 rfl rfl rfl rfl rfl ?_
  refine Run.callL [] [2] ok_20 (fun g hg hd => kept_ok (un hR g) A u fv (leaseP_r hg hd) (hA.mono (Sub.un_left _ _))) ?_; rintro _ _ ⟨rfl, rfl⟩
  refine Zm ?_
  refine Ze ?_
  refine WP.trim [1, 2, 3, 4, 5, 6, 7, 8] [0, 1, 2, 3, 4, 5, 6, 7, 8] ?_
  refine WP.via (lease_q _) ?_
  refine WP.seq ?_
  refine Zp ?_
  refine Zm ?_
  refine Run.bnotB rfl rfl rfl rfl ?_
  refine Run.eqv (v' := .bool false) rfl ?_
  refine Ze ?_
  refine Zno ?_
  refine Zb ?_
  refine Zp ?_
  refine Run.loadBagg 2 rfl rfl ag_24 rfl rfl rfl rfl rfl ?_
  refine Run.callP [0] ok_21 (turn_ok hR A u hs) ?_; rintro _ _ rfl
  refine Ze ?_
  refine WP.via (Γ' := [leaseQ u (turnA A).funcs, blk b1 (alv A fv) 24, blk b3 (alv (turnA A) u) 24, blk b4 [i1.val, g1.val, vI (mainU A)] 32, slA 38 encRI i1.val (codeU A).1, slA 77 encRF g1.val (codeU A).2, blk b6 [i2.val, g2.val, vI (mainU A)] 32, slA 38 encRI i2.val (codeU A).1, slA 77 encRF g2.val (codeU A).2]) (ent.refl _) ?_
  refine Zp ?_
  refine Run.loadBagg 2 rfl rfl ag_24 rfl rfl rfl rfl rfl ?_
  refine Run.callL [] [0] ok_19 (fun g hg hd => lent_ok (un hR g) (turnA A) u (leaseQ_v hs2 hg hd)) ?_; rintro _ _ ⟨y, rfl, rfl⟩
  refine Run.alloc rfl zr_24 rfl rfl rfl ?_
  intro b9
  refine Run.storeB 10 rfl rfl rfl rfl ag_24 rfl rfl rfl rfl rfl ?_
  refine Ze ?_
  refine WP.trim [1, 2, 3, 4, 5, 6, 7, 8, 9] [0, 1, 10, 3, 4, 5, 6, 7, 8, 9] ?_
  refine Zp ?_
  refine Run.loadBagg 3 rfl rfl ag_24 rfl rfl rfl rfl rfl ?_
  refine Run.callL [] [1] ok_9 (fun g hg hd => emitU_ok (un hR g) (turnA A) u (leaseQ_v hs2 hg hd)) ?_; rintro _ _ ⟨i3, g3, rfl, rfl⟩
  refine Zm ?_
  refine Run.extract rfl rfl rfl rfl rfl ?_
  refine Run.extract rfl rfl rfl rfl rfl ?_
  refine Run.alloc rfl zr_32 rfl rfl rfl ?_
  intro b10
  refine Run.storeB 12 rfl rfl rfl rfl ag_32 rfl rfl rfl rfl rfl ?_
  refine Zm ?_
  refine Ze ?_
  refine WP.trim [1, 2, 3, 4, 5, 6, 7, 8, 9, 10, 11] [3, 2, 4, 5, 6, 7, 8, 9, 10, 11, 12, 0, 1] ?_
  refine Zp ?_
  refine Run.loadBagg 2 rfl rfl ag_24 rfl rfl rfl rfl rfl ?_
  refine Run.callL [] [0] ok_11 (fun g hg hd => docU_ok (un hR g) (turnA A) y (leaseP_v hs2 hg hd)) ?_; rintro _ _ ⟨i4, g4, rfl, rfl⟩
  refine Zm ?_
  refine Run.extract rfl rfl rfl rfl rfl ?_
  refine Run.extract rfl rfl rfl rfl rfl ?_
  refine Run.alloc rfl zr_32 rfl rfl rfl ?_
  intro b12
  refine Run.storeB 15 rfl rfl rfl rfl ag_32 rfl rfl rfl rfl rfl ?_
  refine Zm ?_
  refine Ze ?_
  refine WP.trim [1, 2, 3, 4, 5, 6, 7, 8, 9, 10, 11, 12, 13] [3, 5, 6, 7, 8, 9, 10, 11, 12, 13, 14, 15, 0, 1] ?_
  refine Zp ?_
  refine Run.loadBagg 1 rfl rfl ag_24 rfl rfl rfl rfl rfl ?_
  refine Run.callP [0] ok_22 (spoil_ok hR (turnA A) u hs2) ?_; rintro _ _ rfl
  refine Ze ?_
  refine WP.trim [1, 2, 3, 4, 5, 6, 7, 8, 9, 10, 11, 12, 13] [0, 1, 2, 3, 4, 5, 6, 7, 8, 9, 10, 11, 12, 13] ?_
  refine WP.via (Γ' := [slA 51 encXF u.val (List.replicate (turnA A).funcs.length othF), blk b3 (alv (spoilt (turnA A)) u) 24, blk b4 [i1.val, g1.val, vI (mainU A)] 32, slA 38 encRI i1.val (codeU A).1, slA 77 encRF g1.val (codeU A).2, blk b6 [i2.val, g2.val, vI (mainU A)] 32, slA 38 encRI i2.val (codeU A).1, slA 77 encRF g2.val (codeU A).2, blk b10 [i3.val, g3.val, vI (mainU (turnA A))] 32, slA 38 encRI i3.val (codeU (turnA A)).1, slA 77 encRF g3.val (codeU (turnA A)).2, blk b12 [i4.val, g4.val, vI (mainU (turnA A))] 32, slA 38 encRI i4.val (codeU (turnA A)).1, slA 77 encRF g4.val (codeU (turnA A)).2]) (ent.refl _) ?_
  refine Zp ?_
  refine Run.loadBagg 1 rfl rfl ag_24 rfl rfl rfl rfl rfl ?_
  refine Run.callL [] [0] ok_9 (fun g hg hd => emit_bad (un hR g) (spoilt (turnA A)) u ⟨spoilt_reads (lent_at 0 rfl hg hd), spoilt_small hs2⟩ (spoilt_bad nmB _)) ?_; rintro _ _ ⟨rfl, rfl⟩
  refine Zm ?_
  refine Run.extract rfl rfl rfl rfl rfl ?_
  refine Run.extract rfl rfl rfl rfl rfl ?_
  refine Run.alloc rfl zr_32 rfl rfl rfl ?_
  intro b14
  refine Run.storeB 14 rfl rfl rfl rfl ag_32 rfl rfl rfl rfl rfl ?_
  refine Zm ?_
  refine Ze ?_
  refine WP.trim [1, 2, 3, 4, 5, 6, 7, 8, 9, 10, 11, 12, 13, 15] [2, 3, 4, 5, 6, 7, 8, 9, 10, 11, 12, 13] ?_
  refine Zp ?_
  refine Zm ?_
  refine Run.callP [] ok_16 (num_ok hR (errU A)) ?_; rintro _ _ ⟨rfl, rfl⟩
  refine Zm ?_
  refine Zi ?_
  refine Run.tt rfl ?_
  refine Zm ?_
  refine Run.loadBagg 0 rfl rfl ag_32 rfl rfl rfl rfl rfl ?_
  refine Run.loadBagg 3 rfl rfl ag_32 rfl rfl rfl rfl rfl ?_
  refine Run.callL [] [1, 2, 4, 5] ok_10 (fun g hg hd => same_ok (un hR g) i1 g1 i2 g2 (mainU A) (codeU A).1 (codeU A).2 (lent_at 0 rfl hg hd) (lent_at 1 rfl hg hd) (lent_at 2 rfl hg hd) (lent_at 3 rfl hg hd) n1 n2) ?_; rintro _ _ ⟨rfl, rfl⟩; refine Run.pk [4, 0, 1, 5, 2, 3, 6, 7, 8, 9, 10, 11] ?_
  refine Zq ?_
  refine Zm ?_
  refine Zm ?_
  refine Run.callP [] ok_16 (num_ok hR (errU (turnA A))) ?_; rintro _ _ ⟨rfl, rfl⟩
  refine Zm ?_
  refine Zi ?_
  refine Run.tt rfl ?_
  refine Zq ?_
  refine Zm ?_
  refine Run.loadBagg 6 rfl rfl ag_32 rfl rfl rfl rfl rfl ?_
  refine Run.loadBagg 9 rfl rfl ag_32 rfl rfl rfl rfl rfl ?_
  refine Run.callL [] [7, 8, 10, 11] ok_10 (fun g hg hd => same_ok (un hR g) i3 g3 i4 g4 (mainU (turnA A)) (codeU (turnA A)).1 (codeU (turnA A)).2 (lent_at 0 rfl hg hd) (lent_at 1 rfl hg hd) (lent_at 2 rfl hg hd) (lent_at 3 rfl hg hd) n3 n4) ?_; rintro _ _ ⟨rfl, rfl⟩
  refine Zq ?_
  refine Zm ?_
  refine Zm ?_
  refine Run.callP [] ok_16 (num_ok hR 190) ?_; rintro _ _ ⟨rfl, rfl⟩
  refine Zi ?_
  refine Run.tt rfl ?_
  refine Zq ?_
  refine Zm ?_
  refine Ze ?_
  refine WP.ret ?_
  exact retT [2] _ rfl rfl ⟨_, ent.none _, rfl, rfl⟩
end Go.Proofs.YtfaokbjpinlcaaaGreat
end
section
/- fits: is ALIR small enough to be played? Walked. -/
namespace Go.Proofs.YtfaokbjpinlcaaaGreat
open Go.Sep
set_option linter.unusedSimpArgs false
set_option linter.unusedVariables false
set_option maxRecDepth 100000
attribute [local irreducible] blk slA mp mpF rows rowsBut many mpK mpE
/-- what an argument's reading bounds -/
structure WideF (F : AF) : Prop where
  name : F.name.size ≤ 140737488355327
  params : F.params.length ≤ 17592186044416
  blocks : F.blocks.length ≤ 17592186044416
  each : ∀ b ∈ F.blocks, b.body.length ≤ 17592186044416 ∧ b.term.to.length ≤ 17592186044416 ∧ ∀ x ∈ b.body, x.args.length ≤ 17592186044416 ∧ x.saves.length ≤ 17592186044416
structure WideA (A : AL) : Prop where
  funcs : A.funcs.length ≤ 17592186044416
  each : ∀ F ∈ A.funcs, WideF F
def smallX (x : AI) : Prop := x.args.length ≤ 200000 ∧ x.saves.length ≤ 200000
def smallB (b : AB) : Prop := b.body.length ≤ 20000 ∧ b.term.to.length ≤ 20000 ∧ ∀ x ∈ b.body, smallX x
theorem und_9 : Tryz.prog.underlying 9 = some .string := by kernel_rfl
theorem quo64 {a : Nat} (h : a ≤ 140737488355327) : IntKind.i64.wrap ((a : Int).tdiv 64) = ((a / 64 : Nat) : Int) := by
  have e : (a : Int).tdiv 64 = ((a / 64 : Nat) : Int) := (Int.ofNat_tdiv a 64).symm
  rw [e]
  exact wrapI (by omega) (by omega)
theorem quo8 {a : Nat} (h : a ≤ 140737488355327) : IntKind.i64.wrap ((a : Int).tdiv 8) = ((a / 8 : Nat) : Int) := by
  have e : (a : Int).tdiv 8 = ((a / 8 : Nat) : Int) := (Int.ofNat_tdiv a 8).symm
  rw [e]
  exact wrapI (by omega) (by omega)
set_option maxHeartbeats 4000000 in
theorem fits_ok (hR : Heap) (A : AL) (fv : SV) (hf : SlR rdAF hR fv.val A.funcs) (hW : WideA A) :
    Tri Tryz.prog hR 6 #[.agg ⟨alv A fv⟩] [] fun u Γ' => (∃ s : Bool, u = .bool s ∧ (s = true → SmallA A)) ∧ Γ' = [] := by
  have w1 := hW.funcs
  refine Tri.ent (Tri.of (args := [.agg ⟨alv A fv⟩]) Tryz.func6 rfl Tryz.ntmps6 (by simp) ?_)
  refine Zp ?_
  refine Run.box rfl rfl rfl rfl rfl ?_
  intro b1
  refine Zm ?_
  refine Ze ?_
  refine Zp ?_
  refine Zf fo_24_0 ?_
  refine Zl 0 ag_22 ?_
  refine Zh sl_22 hf ?_
  refine Zm ?_
  refine Ze ?_
  refine WP.trim [1, 2, 3] [0] ?_
  refine WP.meetC (α := Nat) (fun z => z ≤ 400000000000000 ∧ (z ≤ 20000 → ∀ F ∈ A.funcs, SmallF F)) (fun z => [(3, vI (z : Int))]) (fun _ => []) ?_ ?_
  · refine Zp ?_
    refine Zm ?_
    refine Ze ?_
    refine WP.block ?_
    refine WP.trim [1, 2, 3, 4] [0] ?_
    refine WP.loopC (α := Nat × Nat) (fun z => z.1 ≤ A.funcs.length ∧ z.2 ≤ 400000000000000 ∧ (z.2 ≤ 20000 → ∀ (k : Nat) (F : AF), k < z.1 → A.funcs[k]? = some F → SmallF F)) (fun z => [(4, vI (z.1 : Int)), (3, vI (z.2 : Int))]) (fun _ => []) (fun z => A.funcs.length - z.1) (0, A.funcs.length) ⟨Nat.zero_le _, by simp only; omega, fun _ k F h => by simp only at h; omega⟩ ?_
    rintro ⟨i, z⟩ ⟨hi, hz1, hz2⟩
    simp only at hi hz1 hz2 ⊢
    refine WP.trim [1, 2, 3, 4] [0] ?_
    refine WP.seq ?_
    refine WP.seq ?_
    by_cases hlt : (i : Int) < (A.funcs.length : Int)
    · by_cases hz : (z : Int) ≤ 20000
      · refine Zc ?_
        refine Zm ?_
        refine Zf fo_24_0 ?_
        refine Zl 0 ag_22 ?_
        refine Zh sl_22 hf ?_
        refine Zi ?_
        refine Run.tt hlt ?_
        refine Zm ?_
        refine Zm ?_
        refine Zi ?_
        refine Run.tt hz ?_
        refine Zq ?_
        refine Ze ?_
        refine Zyes ?_
        refine Zb ?_
        obtain ⟨F, gF⟩ : ∃ y, A.funcs[(i : Int).toNat]? = some y := ⟨_, List.getElem?_eq_getElem (by omega)⟩
        have gF' : A.funcs[i]? = some F := gF
        obtain ⟨v1, v2, v3, v4⟩ := hW.each F (List.mem_of_getElem? gF)
        obtain ⟨_, ⟨fu0, fw0, rfl, hfu, hfv⟩, hrow⟩ := hf.at gF
        obtain ⟨fu, rfl, _, _⟩ := SlR.sv hfu
        obtain ⟨fw, rfl, _, _⟩ := SlR.sv hfv
        refine WP.seq ?_
        refine WP.block ?_
        refine WP.seq ?_
        refine WP.drawn0 cf0 mixed rfl (by kernel_rfl) ?_
        refine Zm ?_
        refine Zf fo_24_0 ?_
        refine Zl 0 ag_22 ?_
        refine Zm ?_
        refine Zx sl_22 hf ?_
        refine Zf fo_51_1 ?_
        refine Zr ag_48 (hrow 1 _ rfl) ?_
        refine Zh sl_48 hfu ?_
        refine Za ?_
        refine Zf fo_24_0 ?_
        refine Zl 0 ag_22 ?_
        refine Zm ?_
        refine Zx sl_22 hf ?_
        refine Zf fo_51_0 ?_
        refine Zr ag_9 (hrow 0 _ rfl) ?_
        refine Run.lenStr rfl rfl und_9 rfl rfl ?_
        refine Zi ?_
        refine Run.eqv (v' := vI ((F.name.size / 64 : Nat) : Int)) (by rw [quo64 v1]) ?_
        refine Za ?_
        refine Zf fo_24_0 ?_
        refine Zl 0 ag_22 ?_
        refine Zm ?_
        refine Zx sl_22 hf ?_
        refine Zf fo_51_4 ?_
        refine Zr ag_49 (hrow 4 _ rfl) ?_
        refine Zh sl_49 hfv ?_
        refine Za ?_
        refine Zm ?_
        refine Run.eqv (v' := vI ((z + F.params.length + F.name.size / 64 + F.blocks.length : Nat) : Int)) (congrArg vI (by omega)) ?_
        refine Ze ?_
        generalize hz3 : z + F.params.length + F.name.size / 64 + F.blocks.length = z1
        refine WP.trim [1, 2, 3, 4] [0] ?_
        refine Zp ?_
        refine Zm ?_
        refine Ze ?_
        refine WP.block ?_
        refine WP.trim [1, 2, 3, 4, 5] [0] ?_
        refine WP.loopC (α := Nat × Nat) (fun y => y.1 ≤ F.blocks.length ∧ z1 + sumB F y.1 ≤ y.2 ∧ y.2 ≤ 400000000000000 ∧ (y.2 ≤ 20000 → ∀ (k : Nat) (b : AB), k < y.1 → F.blocks[k]? = some b → smallB b)) (fun y => [(5, vI (y.1 : Int)), (3, vI (y.2 : Int))]) (fun _ => []) (fun y => F.blocks.length - y.1) (0, z1) ⟨Nat.zero_le _, by simp [sumB], by simp only; omega, fun _ k b h => by simp only at h; omega⟩ ?_
        rintro ⟨j, y⟩ ⟨hj, hy1, hy2, hy3⟩
        simp only at hj hy1 hy2 hy3 ⊢
        refine WP.trim [1, 2, 3, 4, 5] [0] ?_
        refine WP.seq ?_
        refine WP.seq ?_
        by_cases hlt2 : (j : Int) < (F.blocks.length : Int)
        · by_cases hy : (y : Int) ≤ 20000
          · refine Zc ?_
            refine Zm ?_
            refine Zf fo_24_0 ?_
            refine Zl 0 ag_22 ?_
            refine Zm ?_
            refine Zx sl_22 hf ?_
            refine Zf fo_51_4 ?_
            refine Zr ag_49 (hrow 4 _ rfl) ?_
            refine Zh sl_49 hfv ?_
            refine Zi ?_
            refine Run.tt hlt2 ?_
            refine Zm ?_
            refine Zm ?_
            refine Zi ?_
            refine Run.tt hy ?_
            refine Zq ?_
            refine Ze ?_
            refine Zyes ?_
            refine Zb ?_
            obtain ⟨b, gb⟩ : ∃ y, F.blocks[(j : Int).toNat]? = some y := ⟨_, List.getElem?_eq_getElem (by omega)⟩
            have gb' : F.blocks[j]? = some b := gb
            obtain ⟨b1', b2', b3'⟩ := v4 b (List.mem_of_getElem? gb)
            have hstep := sumB_step gb'
            obtain ⟨_, ⟨bu0, bt0, rfl, hbu, hbt⟩, hbrow⟩ := hfv.at gb
            obtain ⟨bu, rfl, _, _⟩ := SlR.sv hbu
            obtain ⟨bt, rfl, _, _⟩ := SlR.sv hbt
            refine WP.seq ?_
            refine WP.block ?_
            refine Zp ?_
            refine Zf fo_24_0 ?_
            refine Zl 0 ag_22 ?_
            refine Zm ?_
            refine Zx sl_22 hf ?_
            refine Zf fo_51_4 ?_
            refine Zr ag_49 (hrow 4 _ rfl) ?_
            refine Zm ?_
            refine Zx sl_49 hfv ?_
            refine Run.loadRagg rfl rfl ag_58 rfl rfl hbrow (by rfl) ?_
            refine Run.alloc rfl zr_58 rfl rfl rfl ?_
            intro b6
            refine Run.storeB 1 rfl rfl rfl rfl ag_58 rfl rfl rfl rfl rfl ?_
            refine Ze ?_
            refine Zp ?_
            refine Zm ?_
            refine Zf fo_58_0 ?_
            refine Zl 1 ag_54 ?_
            refine Zh sl_54 hbu ?_
            refine Za ?_
            refine Zf fo_58_1 ?_
            refine Zf fo_56_2 ?_
            refine Zl 1 ag_44 ?_
            refine Zh sl_44 hbt ?_
            refine Za ?_
            refine Zm ?_
            refine Run.eqv (v' := vI ((y + b.body.length + b.term.to.length : Nat) : Int)) (congrArg vI (by omega)) ?_
            refine Ze ?_
            generalize hy4 : y + b.body.length + b.term.to.length = y1
            refine WP.trim [1, 2, 3, 4, 5, 6] [0, 1] ?_
            refine Zp ?_
            refine Zm ?_
            refine Ze ?_
            refine WP.block ?_
            refine WP.trim [1, 2, 3, 4, 5, 6, 7] [0, 1] ?_
            refine WP.loopC (α := Nat × Nat) (fun x => x.1 ≤ b.body.length ∧ y1 ≤ x.2 ∧ x.2 ≤ 400000000000000 ∧ (x.2 ≤ 20000 → ∀ (k : Nat) (q : AI), k < x.1 → b.body[k]? = some q → smallX q)) (fun x => [(7, vI (x.1 : Int)), (3, vI (x.2 : Int))]) (fun _ => []) (fun x => b.body.length - x.1) (0, y1) ⟨Nat.zero_le _, Nat.le_refl _, by simp only; omega, fun _ k b h => by simp only at h; omega⟩ ?_
            rintro ⟨k, x⟩ ⟨hk, hx1, hx2, hx3⟩
            simp only at hk hx1 hx2 hx3 ⊢
            refine WP.trim [1, 2, 3, 4, 5, 6, 7] [0, 1] ?_
            refine WP.seq ?_
            refine WP.seq ?_
            by_cases hlt3 : (k : Int) < (b.body.length : Int)
            · by_cases hx : (x : Int) ≤ 20000
              · refine Zc ?_
                refine Zm ?_
                refine Zf fo_58_0 ?_
                refine Zl 1 ag_54 ?_
                refine Zh sl_54 hbu ?_
                refine Zi ?_
                refine Run.tt hlt3 ?_
                refine Zm ?_
                refine Zm ?_
                refine Zi ?_
                refine Run.tt hx ?_
                refine Zq ?_
                refine Ze ?_
                refine Zyes ?_
                refine Zb ?_
                obtain ⟨q, gq⟩ : ∃ y, b.body[(k : Int).toNat]? = some y := ⟨_, List.getElem?_eq_getElem (by omega)⟩
                have gq' : b.body[k]? = some q := gq
                obtain ⟨q1, q2⟩ := b3' q (List.mem_of_getElem? gq)
                obtain ⟨_, ⟨qu0, qv0, rfl, hqu, hqv⟩, hqrow⟩ := hbu.at gq
                obtain ⟨qu, rfl, _, _⟩ := SlR.sv hqu
                obtain ⟨qv, rfl, _, _⟩ := SlR.sv hqv
                refine WP.seq ?_
                refine WP.block ?_
                refine WP.drawn0 cf0 mixed rfl (by kernel_rfl) ?_
                refine Zm ?_
                refine Zf fo_58_0 ?_
                refine Zl 1 ag_54 ?_
                refine Zm ?_
                refine Zx sl_54 hbu ?_
                refine Zf fo_53_3 ?_
                refine Zr ag_48 (hqrow 4 _ rfl) ?_
                refine Zh sl_48 hqu ?_
                refine Zi ?_
                refine Run.eqv (v' := vI ((q.args.length / 8 : Nat) : Int)) (by rw [quo8 (by omega)]) ?_
                refine Za ?_
                refine Zf fo_58_0 ?_
                refine Zl 1 ag_54 ?_
                refine Zm ?_
                refine Zx sl_54 hbu ?_
                refine Zf fo_53_4 ?_
                refine Zr ag_44 (hqrow 5 _ rfl) ?_
                refine Zh sl_44 hqv ?_
                refine Zi ?_
                refine Run.eqv (v' := vI ((q.saves.length / 8 : Nat) : Int)) (by rw [quo8 (by omega)]) ?_
                refine Za ?_
                refine Zm ?_
                refine Run.eqv (v' := vI ((x + q.args.length / 8 + q.saves.length / 8 : Nat) : Int)) (congrArg vI (by omega)) ?_
                refine Run.nil ?_
                refine blk_norm ?_; refine thn_next ?_
                refine Zc ?_
                refine Zm ?_
                refine Za ?_
                refine Zm ?_
                refine Run.nil ?_
                refine thn_next ⟨(k + 1, x + q.args.length / 8 + q.saves.length / 8), ⟨by simp only; omega, by simp only; omega, by simp only; omega, fun hs m q' hm gm => ?_⟩, by simp only; omega, Ko.go, ent.gc⟩
                simp only at hs hm
                by_cases e : m = k
                · subst e; rw [gq'] at gm; cases gm; exact ⟨by omega, by omega⟩
                · exact hx3 (by omega) m q' (by omega) gm
              · refine Zc ?_
                refine Zm ?_
                refine Zf fo_58_0 ?_
                refine Zl 1 ag_54 ?_
                refine Zh sl_54 hbu ?_
                refine Zi ?_
                refine Run.tt hlt3 ?_
                refine Zm ?_
                refine Zm ?_
                refine Zi ?_
                refine Run.ff hx ?_
                refine Zq ?_
                refine Ze ?_
                refine Zno ?_
                refine Zj ?_; refine blk_norm ?_; refine thn_next ?_
                refine WP.trim [1, 2, 3, 4, 5] [0] ?_
                refine Zc ?_
                refine Zm ?_
                refine Za ?_
                refine Zm ?_
                refine Run.nil ?_
                refine thn_next ⟨(j + 1, x), ⟨by simp only; omega, by simp only; omega, by simp only; omega, fun hs => by simp only at hs; omega⟩, by simp only; omega, Ko.go, ent.gc⟩
            · refine Zc ?_
              refine Zm ?_
              refine Zf fo_58_0 ?_
              refine Zl 1 ag_54 ?_
              refine Zh sl_54 hbu ?_
              refine Zi ?_
              refine Run.ff hlt3 ?_
              refine Zm ?_
              refine Zv ?_
              refine Zv ?_
              refine Zq ?_
              refine Ze ?_
              refine Zno ?_
              refine Zj ?_; refine blk_norm ?_; refine thn_next ?_
              refine WP.trim [1, 2, 3, 4, 5] [0] ?_
              refine Zc ?_
              refine Zm ?_
              refine Za ?_
              refine Zm ?_
              refine Run.nil ?_
              refine thn_next ⟨(j + 1, x), ⟨by simp only; omega, by simp only; omega, by simp only; omega, fun hs m b' hm gm => ?_⟩, by simp only; omega, Ko.go, ent.gc⟩
              simp only at hs hm
              by_cases e : m = j
              · subst e; rw [gb'] at gm; cases gm
                refine ⟨by omega, by omega, fun q hq => ?_⟩
                obtain ⟨k', hk'⟩ := List.getElem?_of_mem hq
                exact hx3 hs k' q (by have := (List.getElem?_eq_some_iff.1 hk').1; omega) hk'
              · exact hy3 (by omega) m b' (by omega) gm
          · refine Zc ?_
            refine Zm ?_
            refine Zf fo_24_0 ?_
            refine Zl 0 ag_22 ?_
            refine Zm ?_
            refine Zx sl_22 hf ?_
            refine Zf fo_51_4 ?_
            refine Zr ag_49 (hrow 4 _ rfl) ?_
            refine Zh sl_49 hfv ?_
            refine Zi ?_
            refine Run.tt hlt2 ?_
            refine Zm ?_
            refine Zm ?_
            refine Zi ?_
            refine Run.ff hy ?_
            refine Zq ?_
            refine Ze ?_
            refine Zno ?_
            refine Zj ?_; refine blk_norm ?_; refine thn_next ?_
            refine WP.trim [1, 2, 3, 4] [0] ?_
            refine Zc ?_
            refine Zm ?_
            refine Za ?_
            refine Zm ?_
            refine Run.nil ?_
            refine thn_next ⟨(i + 1, y), ⟨by simp only; omega, by simp only; omega, fun hs => by simp only at hs; omega⟩, by simp only; omega, Ko.go, ent.gc⟩
        · refine Zc ?_
          refine Zm ?_
          refine Zf fo_24_0 ?_
          refine Zl 0 ag_22 ?_
          refine Zm ?_
          refine Zx sl_22 hf ?_
          refine Zf fo_51_4 ?_
          refine Zr ag_49 (hrow 4 _ rfl) ?_
          refine Zh sl_49 hfv ?_
          refine Zi ?_
          refine Run.ff hlt2 ?_
          refine Zm ?_
          refine Zv ?_
          refine Zv ?_
          refine Zq ?_
          refine Ze ?_
          refine Zno ?_
          refine Zj ?_; refine blk_norm ?_; refine thn_next ?_
          refine WP.trim [1, 2, 3, 4] [0] ?_
          refine Zc ?_
          refine Zm ?_
          refine Za ?_
          refine Zm ?_
          refine Run.nil ?_
          refine thn_next ⟨(i + 1, y), ⟨by simp only; omega, by simp only; omega, fun hs m F' hm gm => ?_⟩, by simp only; omega, Ko.go, ent.gc⟩
          simp only at hs hm
          by_cases e : m = i
          · subst e; rw [gF'] at gm; cases gm
            have hall : ∀ b ∈ F.blocks, smallB b := fun b hb => by
              obtain ⟨k', hk'⟩ := List.getElem?_of_mem hb
              exact hy3 hs k' b (by have := (List.getElem?_eq_some_iff.1 hk').1; omega) hk'
            obtain rfl : j = F.blocks.length := by omega
            have hst : sumB F F.blocks.length = (F.blocks.map fun b => b.body.length).sum := by unfold sumB; rw [List.take_length]
            exact ⟨by omega, by omega, fun b hb => ⟨(hall b hb).1, (hall b hb).2.1, (hall b hb).2.2⟩, by omega, by omega⟩
          · exact hz2 (by omega) m F' (by omega) gm
      · refine Zc ?_
        refine Zm ?_
        refine Zf fo_24_0 ?_
        refine Zl 0 ag_22 ?_
        refine Zh sl_22 hf ?_
        refine Zi ?_
        refine Run.tt hlt ?_
        refine Zm ?_
        refine Zm ?_
        refine Zi ?_
        refine Run.ff hz ?_
        refine Zq ?_
        refine Ze ?_
        refine Zno ?_
        refine Zj ?_
        exact thn_next ⟨z, ⟨hz1, fun h => by omega⟩, Ko.go, ent.gc⟩
    · refine Zc ?_
      refine Zm ?_
      refine Zf fo_24_0 ?_
      refine Zl 0 ag_22 ?_
      refine Zh sl_22 hf ?_
      refine Zi ?_
      refine Run.ff hlt ?_
      refine Zm ?_
      refine Zv ?_
      refine Zv ?_
      refine Zq ?_
      refine Ze ?_
      refine Zno ?_
      refine Zj ?_
      refine thn_next ⟨z, ⟨hz1, fun h F hF => ?_⟩, Ko.go, ent.gc⟩
      obtain ⟨k, hk⟩ := List.getElem?_of_mem hF
      exact hz2 h k F (by have := (List.getElem?_eq_some_iff.1 hk).1; omega) hk
  rintro z ⟨hz1, hz2⟩
  refine WP.trim [1, 2, 3] [0] ?_
  refine WP.seq ?_
  by_cases hz : (z : Int) ≤ 20000
  · refine Zc ?_
    refine Zm ?_
    refine Zi ?_
    refine Run.tt hz ?_
    refine Zm ?_
    refine Zf fo_24_0 ?_
    refine Zl 0 ag_22 ?_
    refine Zh sl_22 hf ?_
    refine Zi ?_
    refine Zq ?_
    refine Zm ?_
    refine Ze ?_
    refine WP.ret ?_
    exact retT [2] _ rfl rfl ⟨_, ent.none _, ⟨_, rfl, fun h => ⟨by have := of_decide_eq_true h; omega, hz2 (by omega)⟩⟩, rfl⟩
  · refine Zc ?_
    refine Zm ?_
    refine Zi ?_
    refine Run.ff hz ?_
    refine Zm ?_
    iterate 4 refine Zv ?_
    refine Zq ?_
    refine Zm ?_
    refine Ze ?_
    refine WP.ret ?_
    exact retT [2] _ rfl rfl ⟨_, ent.none _, ⟨false, rfl, fun h => by cases h⟩, rfl⟩
end Go.Proofs.YtfaokbjpinlcaaaGreat
end
section
/- EmitCode: every value of ALIR; walked. -/
namespace Go.Proofs.YtfaokbjpinlcaaaGreat
open Go.Sep
set_option linter.unusedSimpArgs false
set_option linter.unusedVariables false
set_option maxRecDepth 100000
attribute [local irreducible] blk slA mp mpF rows rowsBut many mpK mpE
theorem emitCode_ok (hR : Heap) (A : AL) (fv : SV) (hf : SlR rdAF hR fv.val A.funcs) (hW : WideA A) : Tri Tryz.prog hR 3 #[.agg ⟨alv A fv⟩] [] fun r Γ' => r = .bool true ∧ Γ' = [] := by
  refine Tri.ent (Tri.of (args := [.agg ⟨alv A fv⟩]) Tryz.func3 rfl Tryz.ntmps3 (by simp) ?_)
  refine Zp ?_
  refine Run.box rfl rfl rfl rfl rfl ?_
  intro b1
  refine Zm ?_
  refine Ze ?_
  refine WP.seq ?_
  refine Zp ?_
  refine Run.loadBagg 0 rfl rfl ag_24 rfl rfl rfl rfl rfl ?_
  refine Run.callP [] ok_6 (fits_ok hR A fv hf hW) ?_; rintro _ _ ⟨⟨s, rfl, hs⟩, rfl⟩
  refine Run.bnotB rfl rfl rfl rfl ?_
  refine Run.eqv (v' := .bool (decide (s = false))) (by cases s <;> rfl) ?_
  refine Ze ?_
  refine WP.ite rfl (fun hn => ?_) (fun hn => ?_)
  · refine Zp ?_
    refine Zm ?_
    refine Ze ?_
    refine WP.ret ?_; refine thn_ret ?_
    exact retT [2] _ rfl rfl ⟨_, ent.none _, rfl, rfl⟩
  refine Zb ?_
  have hA : ALv hR A fv := ⟨hf, hs (by cases s; exact absurd rfl hn; rfl)⟩
  refine WP.trim [1, 2] [0] ?_
  refine Zp ?_
  refine Run.callP [] ok_7 (alive_ok hR) ?_; rintro _ _ ⟨rfl, rfl⟩
  refine Zm ?_
  refine Ze ?_
  refine Zp ?_
  refine Zm ?_
  refine Zm ?_
  refine Run.loadBagg 0 rfl rfl ag_24 rfl rfl rfl rfl rfl ?_
  refine Run.callP [] ok_8 (emitted_ok hR A fv hA) ?_; rintro _ _ ⟨rfl, rfl⟩
  refine Zq ?_
  refine Zm ?_
  refine Ze ?_
  refine WP.ret ?_
  exact retT [2] _ rfl rfl ⟨_, ent.none _, rfl, rfl⟩
end Go.Proofs.YtfaokbjpinlcaaaGreat
end
section
/- The laws' argument, opened: a value of ALIR with its bounds. -/
namespace Go.Proofs.YtfaokbjpinlcaaaGreat
open Go.Sep Go.ChangeShapes Go.WideShapes Go.ChangeAt Go.RowKit
set_option linter.unusedSimpArgs false
set_option linter.unusedVariables false
theorem co_3 : Tryz.prog.cellsOf 3 = 1 := by kernel_rfl
theorem co_9 : Tryz.prog.cellsOf 9 = 1 := by kernel_rfl
theorem co_44 : Tryz.prog.cellsOf 44 = 1 := by kernel_rfl
theorem co_46 : Tryz.prog.cellsOf 46 = 2 := by kernel_rfl
theorem co_48 : Tryz.prog.cellsOf 48 = 1 := by kernel_rfl
theorem co_49 : Tryz.prog.cellsOf 49 = 1 := by kernel_rfl
theorem co_54 : Tryz.prog.cellsOf 54 = 1 := by kernel_rfl
theorem co_22 : Tryz.prog.cellsOf 22 = 1 := by kernel_rfl
theorem co_53 : Tryz.prog.cellsOf 53 = 6 := by kernel_rfl
theorem co_56 : Tryz.prog.cellsOf 56 = 4 := by kernel_rfl
theorem co_58 : Tryz.prog.cellsOf 58 = 5 := by kernel_rfl
theorem co_51 : Tryz.prog.cellsOf 51 = 5 := by kernel_rfl
theorem co_24 : Tryz.prog.cellsOf 24 = 2 := by kernel_rfl
theorem by_3 : 8 ≤ Tryz.prog.bytesOf 3 := of_decide_eq_true (by kernel_rfl)
theorem by_46 : 8 ≤ Tryz.prog.bytesOf 46 := of_decide_eq_true (by kernel_rfl)
theorem by_53 : 8 ≤ Tryz.prog.bytesOf 53 := of_decide_eq_true (by kernel_rfl)
theorem by_58 : 8 ≤ Tryz.prog.bytesOf 58 := of_decide_eq_true (by kernel_rfl)
theorem by_51 : 8 ≤ Tryz.prog.bytesOf 51 := of_decide_eq_true (by kernel_rfl)
section
variable {P : Program} {w : World} {t : TypeId}
theorem partAt {A : Type} {E : Rd A} {G : A → Prop} {fs : Array Field} (ht : P.underlying t = some (.struct fs))
    {H : Type} {enc : TypeId × Value → H} {base : Nat} {spare : Nat → Bool} {held : Bool} {fuel : Nat} {cs : List Value} {x : DataW H × List MemPlace} (h : DataW.trod enc P w base spare held fuel t cs = some x)
    (hw : ∀ m ∈ x.1.weights P t, m ≤ reachBytes) (i k c : Nat) (ft : TypeId) {f : Field} (hf : fs[i]? = some f) (hk : f.offset = k) (hft : f.type = ft) (hc : P.cellsOf ft = c) (HE : OpensW P w ft E G) : ∃ a, E.rel (hp w) a ((cs.drop k).take c) ∧ G a := by
  subst hft
  have := OpensW.part ht h hw hf HE
  rw [hk, hc] at this
  exact this
theorem cells_len {fs : Array Field} (ht : P.underlying t = some (.struct fs))
    {H : Type} {enc : TypeId × Value → H} {base : Nat} {spare : Nat → Bool} {held : Bool} {fuel : Nat} {cs : List Value} {x : DataW H × List MemPlace} (h : DataW.trod enc P w base spare held fuel t cs = some x) : cs.length = P.cellsOf t := by
  obtain ⟨_, _, _, _, h1, _⟩ := DataW.trod_struct ht h
  exact h1
end
theorem int_open {w : World} : OpensW Tryz.prog w 3 rdI (fun n => (Lit.int .i64 n).wf = true) := OpensW.of (Opens.int Tryz.underlying3)
theorem ints_open {w : World} : OpensW Tryz.prog w 44 rdI.slice (fun xs => xs.length ≤ 17592186044416 ∧ ∀ x ∈ xs, (Lit.int .i64 x).wf = true) := OpensW.slice Tryz.underlying44 co_3 by_3 int_open
theorem loc_open {w : World} : OpensW Tryz.prog w 46 rdLc (fun _ => True) := fun {H enc base spare held fuel cs x} h hw => by
  have hl := cells_len Tryz.underlying46 h
  rw [co_46] at hl
  obtain ⟨a0, e0, _⟩ := partAt Tryz.underlying46 h hw 0 0 1 3 rfl rfl rfl co_3 int_open
  obtain ⟨a1, e1, _⟩ := partAt Tryz.underlying46 h hw 1 1 1 3 rfl rfl rfl co_3 int_open
  clear h hw
  match cs, hl with
  | [c0, c1], _ =>
    have g0 : [c0] = [Value.int .i64 a0] := e0
    have g1 : [c1] = [Value.int .i64 a1] := e1
    simp only [List.cons.injEq, and_true] at g0 g1
    subst g0 g1
    exact ⟨⟨a0, a1⟩, rfl, trivial⟩
theorem locs_open {w : World} : OpensW Tryz.prog w 48 rdLc.slice (fun xs => xs.length ≤ 17592186044416 ∧ ∀ x ∈ xs, True) := OpensW.slice Tryz.underlying48 co_46 by_46 loc_open
theorem ins_open {w : World} : OpensW Tryz.prog w 53 rdAI (fun x => x.args.length ≤ 17592186044416 ∧ x.saves.length ≤ 17592186044416) := fun {H enc base spare held fuel cs x} h hw => by
  have hl := cells_len Tryz.underlying53 h
  rw [co_53] at hl
  obtain ⟨a0, e0, _⟩ := partAt Tryz.underlying53 h hw 0 0 1 3 rfl rfl rfl co_3 int_open
  obtain ⟨a1, e1, _⟩ := partAt Tryz.underlying53 h hw 1 1 1 3 rfl rfl rfl co_3 int_open
  obtain ⟨a2, e2, _⟩ := partAt Tryz.underlying53 h hw 2 2 2 46 rfl rfl rfl co_46 loc_open
  obtain ⟨a3, ⟨u, e3, hu⟩, h3, _⟩ := partAt Tryz.underlying53 h hw 3 4 1 48 rfl rfl rfl co_48 locs_open
  obtain ⟨a4, ⟨v, e4, hv⟩, h4, _⟩ := partAt Tryz.underlying53 h hw 4 5 1 44 rfl rfl rfl co_44 ints_open
  clear h hw
  match cs, hl with
  | [c0, c1, c2, c3, c4, c5], _ =>
    have g0 : [c0] = [Value.int .i64 a0] := e0
    have g1 : [c1] = [Value.int .i64 a1] := e1
    have g2 : [c2, c3] = lcv a2 := e2
    have g3 : [c4] = [u] := e3
    have g4 : [c5] = [v] := e4
    simp only [List.cons.injEq, and_true] at g0 g1 g2 g3 g4
    obtain ⟨g2, g5⟩ := g2
    subst g0 g1 g2 g3 g4 g5
    exact ⟨⟨a0, a1, a2, a3, a4⟩, ⟨_, _, rfl, hu, hv⟩, h3, h4⟩
theorem inss_open {w : World} : OpensW Tryz.prog w 54 rdAI.slice (fun xs => xs.length ≤ 17592186044416 ∧ ∀ x ∈ xs, x.args.length ≤ 17592186044416 ∧ x.saves.length ≤ 17592186044416) := OpensW.slice Tryz.underlying54 co_53 by_53 ins_open
def rdAT : Rd AT where
  sz := 4
  rel h x cs := ∃ v, cs = atv x v ∧ SlR rdI h v x.to
  len := by rintro h x cs ⟨v, rfl, _⟩; rfl
  mono := by rintro h g x cs hs ⟨v, rfl, hv⟩; exact ⟨v, rfl, hv.mono hs⟩
theorem term_open {w : World} : OpensW Tryz.prog w 56 rdAT (fun x => x.to.length ≤ 17592186044416) := fun {H enc base spare held fuel cs x} h hw => by
  have hl := cells_len Tryz.underlying56 h
  rw [co_56] at hl
  obtain ⟨a0, e0, _⟩ := partAt Tryz.underlying56 h hw 0 0 1 3 rfl rfl rfl co_3 int_open
  obtain ⟨a1, e1, _⟩ := partAt Tryz.underlying56 h hw 1 1 2 46 rfl rfl rfl co_46 loc_open
  obtain ⟨a2, ⟨u, e2, hu⟩, h3, _⟩ := partAt Tryz.underlying56 h hw 2 3 1 44 rfl rfl rfl co_44 ints_open
  clear h hw
  match cs, hl with
  | [c0, c1, c2, c3], _ =>
    have g0 : [c0] = [Value.int .i64 a0] := e0
    have g1 : [c1, c2] = lcv a1 := e1
    have g2 : [c3] = [u] := e2
    simp only [List.cons.injEq, and_true] at g0 g1 g2
    obtain ⟨g1, g3⟩ := g1
    subst g0 g1 g2 g3
    exact ⟨⟨a0, a1, a2⟩, ⟨_, rfl, hu⟩, h3⟩
def wideB (b : AB) : Prop := b.body.length ≤ 17592186044416 ∧ b.term.to.length ≤ 17592186044416 ∧ ∀ x ∈ b.body, x.args.length ≤ 17592186044416 ∧ x.saves.length ≤ 17592186044416
theorem blk_open {w : World} : OpensW Tryz.prog w 58 rdAB wideB := fun {H enc base spare held fuel cs x} h hw => by
  have hl := cells_len Tryz.underlying58 h
  rw [co_58] at hl
  obtain ⟨a0, ⟨u, e0, hu⟩, h0, h1⟩ := partAt Tryz.underlying58 h hw 0 0 1 54 rfl rfl rfl co_54 inss_open
  obtain ⟨a1, ⟨tv, e1, ht⟩, h2⟩ := partAt Tryz.underlying58 h hw 1 1 4 56 rfl rfl rfl co_56 term_open
  clear h hw
  match cs, hl with
  | [c0, c1, c2, c3, c4], _ =>
    have g0 : [c0] = [u] := e0
    have g1 : [c1, c2, c3, c4] = atv a1 tv := e1
    simp only [List.cons.injEq, and_true] at g0 g1
    obtain ⟨g1, g2, g3, g4⟩ := g1
    subst g0 g1 g2 g3 g4
    exact ⟨⟨a0, a1⟩, ⟨_, _, rfl, hu, ht⟩, h0, h2, h1⟩
theorem blks_open {w : World} : OpensW Tryz.prog w 49 rdAB.slice (fun xs => xs.length ≤ 17592186044416 ∧ ∀ x ∈ xs, wideB x) := OpensW.slice Tryz.underlying49 co_58 by_58 blk_open
theorem fun_open {w : World} : OpensW Tryz.prog w 51 rdAF WideF := fun {H enc base spare held fuel cs x} h hw => by
  have hl := cells_len Tryz.underlying51 h
  rw [co_51] at hl
  obtain ⟨a0, e0, h0⟩ := partAt Tryz.underlying51 h hw 0 0 1 9 rfl rfl rfl co_9 (OpensW.str und_9)
  obtain ⟨a1, ⟨u, e1, hu⟩, h1, _⟩ := partAt Tryz.underlying51 h hw 1 1 1 48 rfl rfl rfl co_48 locs_open
  obtain ⟨a2, e2, _⟩ := partAt Tryz.underlying51 h hw 2 2 1 3 rfl rfl rfl co_3 int_open
  obtain ⟨a3, e3, _⟩ := partAt Tryz.underlying51 h hw 3 3 1 3 rfl rfl rfl co_3 int_open
  obtain ⟨a4, ⟨v, e4, hv⟩, h4, h5⟩ := partAt Tryz.underlying51 h hw 4 4 1 49 rfl rfl rfl co_49 blks_open
  clear h hw
  match cs, hl with
  | [c0, c1, c2, c3, c4], _ =>
    have g0 : [c0] = [Value.string a0] := e0
    have g1 : [c1] = [u] := e1
    have g2 : [c2] = [Value.int .i64 a2] := e2
    have g3 : [c3] = [Value.int .i64 a3] := e3
    have g4 : [c4] = [v] := e4
    simp only [List.cons.injEq, and_true] at g0 g1 g2 g3 g4
    subst g0 g1 g2 g3 g4
    exact ⟨⟨a0, a1, a2, a3, a4⟩, ⟨_, _, rfl, hu, hv⟩, h0, h1, h4, h5⟩
theorem funs_open {w : World} : OpensW Tryz.prog w 22 rdAF.slice (fun xs => xs.length ≤ 17592186044416 ∧ ∀ x ∈ xs, WideF x) := OpensW.slice Tryz.underlying22 co_51 by_51 fun_open
def rdAL : Rd AL where
  sz := 2
  rel h x cs := ∃ v, cs = [v, .int .i64 x.main] ∧ SlR rdAF h v x.funcs
  len := by rintro h x cs ⟨v, rfl, _⟩; rfl
  mono := by rintro h g x cs hs ⟨v, rfl, hv⟩; exact ⟨v, rfl, hv.mono hs⟩
theorem al_open {w : World} : OpensW Tryz.prog w 24 rdAL WideA := fun {H enc base spare held fuel cs x} h hw => by
  have hl := cells_len Tryz.underlying24 h
  rw [co_24] at hl
  obtain ⟨a0, ⟨u, e0, hu⟩, h0, h1⟩ := partAt Tryz.underlying24 h hw 0 0 1 22 rfl rfl rfl co_22 funs_open
  obtain ⟨a1, e1, _⟩ := partAt Tryz.underlying24 h hw 1 1 1 3 rfl rfl rfl co_3 int_open
  clear h hw
  match cs, hl with
  | [c0, c1], _ =>
    have g0 : [c0] = [u] := e0
    have g1 : [c1] = [Value.int .i64 a1] := e1
    simp only [List.cons.injEq, and_true] at g0 g1
    subst g0 g1
    exact ⟨⟨a0, a1⟩, ⟨_, rfl, hu⟩, h0, h1⟩
/-- a program that is handed in -/
theorem al_arg {w : World} {H : Type} {enc : TypeId × Value → H} {base : Nat} {spare : Nat → Bool} {held : Bool} {v : Value} {cs : Array Value} {d : DataW H} {ps : List MemPlace} (hv : v = .agg cs)
    (h : DataW.Trod enc Tryz.prog w base spare held 24 v d ps) (hw : ∀ m ∈ d.weights Tryz.prog 24, m ≤ reachBytes) : ∃ (A : AL) (fv : SV), v = .agg ⟨alv A fv⟩ ∧ SlR rdAF (hp w) fv.val A.funcs ∧ WideA A := by
  obtain ⟨fuel, hf⟩ := h
  obtain ⟨A, ⟨u, e, hu⟩, hW⟩ := al_open hf hw
  obtain ⟨su, rfl, _⟩ := SlR.sv hu
  subst hv
  refine ⟨A, su, ?_, hu, hW⟩
  have e2 : cs.toList = alv A su := e
  cases cs
  simp only at e2
  rw [e2]
theorem weights_first {H : Type} {ts us : List TypeId} {ds gs : List (DataW H)} {t : TypeId} {d : DataW H} (h : (DataW.weightsEach Tryz.prog (t :: ts ++ us) (d :: ds ++ gs)).all (· ≤ reachBytes) = true) : ∀ m ∈ d.weights Tryz.prog t, m ≤ reachBytes := fun m hm => by
  have := List.all_eq_true.1 h m (DataW.weights_mem_each (j := 0) rfl rfl m hm)
  simpa using this
end Go.Proofs.YtfaokbjpinlcaaaGreat
end
