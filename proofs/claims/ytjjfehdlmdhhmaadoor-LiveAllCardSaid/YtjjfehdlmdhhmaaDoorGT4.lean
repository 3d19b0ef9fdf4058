/- The registers that are wanted from another block; walked. -/
import Derived.Test.YtjjfehdlmdhhmaaDoorGL7
import Derived.Test.YtjjfehdlmdhhmaaDoorGT3
import Derived.Test.YtjjfehdlmdhhmaaDoorGL5
section
/- The registers that are wanted from another block; walked. -/
namespace Go.Proofs.YtjjfehdlmdhhmaaDoor
open Go.Sep
set_option linter.unusedSimpArgs false
set_option linter.unusedVariables false
attribute [local irreducible] blk slA mp mpF rows rowsBut many
theorem ok_79 : calleeOk Tryd.prog 79 = true := by kernel_rfl
structure RegsF (F : LFun) : Prop where
  args : ∀ b ∈ F.blocks, ∀ x ∈ b.body, ∀ r ∈ x.args, 0 ≤ r ∧ r < F.regs
  dst : ∀ b ∈ F.blocks, ∀ x ∈ b.body, 0 ≤ x.dst → x.dst < F.regs
  val : ∀ b ∈ F.blocks, 0 ≤ b.value → b.value < F.regs
def marksF (F : LFun) : List Int := (blksW 0 (List.replicate F.regs.toNat 0, List.replicate F.regs.toNat 0) F.blocks).2
set_option maxHeartbeats 1000000 in
set_option maxRecDepth 100000 in
theorem wantedA_ok (hR : Heap) (pF : Addr) (F : LFun) (u v : Value) (wb : Nat) (av bv : Value) (hF : FunAt hR pF F u v) (hS : SmallF F) (hG : RegsF F) (hr0 : 0 ≤ F.regs) (hr1 : F.regs ≤ 262144) :
    Tri Tryd.prog hR 62 #[.pointer (some ⟨wb, 0, none⟩)] [blk wb [.pointer (some pF), .slice none 0 0, .slice none 0 0, av, bv] 87] fun _ Γ' => ∃ iv nv : SV, ent Γ' [blk wb [.pointer (some pF), iv.val, nv.val, av, bv] 87, slA 3 (Enc.int .i64) iv.val (indexW 0 (marksF F)), slA 3 (Enc.int .i64) nv.val (namesW 0 (marksF F))] := by
  refine Tri.of (args := [.pointer (some ⟨wb, 0, none⟩)]) Tryd.func62 rfl Tryd.ntmps62 (by simp) ?_
  have c2 := hF.c2
  have c4 := hF.c4
  have hv := hF.hv
  have sb := hF.sb
  refine Zp ?_
  refine Run.box rfl rfl rfl rfl rfl ?_
  intro b1
  refine Ze ?_
  refine WP.seq ?_
  refine WP.drawn0 cf0 mixed rfl (by kernel_rfl) ?_
  refine Zl 1 ag_80 ?_
  refine Zl 1 ag_80 ?_
  refine Zn ?_
  refine Zf fo_87_0 ?_
  refine Zl 0 ag_79 ?_
  refine Zn ?_
  refine Zf fo_25_2 ?_
  refine Run.loadR rfl rfl ag_3 rfl rfl (by first | assumption | exact SlR.cell0 (by assumption) (by assumption) rfl | exact SlR.cell (by assumption) (by assumption) rfl) ?_
  refine Run.makeSlice (E := (Enc.int .i64)) ((0 : Int)) rfl rfl rfl sl_22 zr_3 rfl rfl rfl (by first | omega | (simp <;> omega)) (by first | omega | (simp <;> omega)) (by first | omega | (simp <;> omega)) (by first | omega | (simp <;> omega)) ?_
  intro b20
  refine Zn ?_
  refine Zf fo_87_1 ?_
  refine Run.storeB 0 rfl rfl rfl rfl ag_22 rfl rfl rfl rfl rfl ?_
  refine Ze ?_
  refine Zp ?_
  refine Zl 1 ag_80 ?_
  refine Zn ?_
  refine Zf fo_87_0 ?_
  refine Zl 0 ag_79 ?_
  refine Zn ?_
  refine Zf fo_25_2 ?_
  refine Run.loadR rfl rfl ag_3 rfl rfl (by first | assumption | exact SlR.cell0 (by assumption) (by assumption) rfl | exact SlR.cell (by assumption) (by assumption) rfl) ?_
  refine Run.makeSlice (E := (Enc.int .i64)) ((0 : Int)) rfl rfl rfl sl_22 zr_3 rfl rfl rfl (by first | omega | (simp <;> omega)) (by first | omega | (simp <;> omega)) (by first | omega | (simp <;> omega)) (by first | omega | (simp <;> omega)) ?_
  intro b30
  refine Run.alloc rfl zr_22 rfl rfl rfl ?_
  intro b2
  refine Run.storeB 4 rfl rfl rfl rfl ag_22 rfl rfl rfl rfl rfl ?_
  refine Ze ?_
  obtain ⟨R, hRR⟩ : ∃ R : Nat, F.regs = (R : Int) := ⟨F.regs.toNat, by omega⟩
  have eR : F.regs.toNat = R := by omega
  have e1 : ∃ iv : SV, iv.val = .slice (some ⟨b20, 0, none⟩) F.regs.toNat F.regs.toNat ∧ iv.n = R := ⟨⟨some ⟨b20, 0, none⟩, R, R⟩, by rw [eR]; rfl, rfl⟩
  have e2 : ∃ iv : SV, iv.val = .slice (some ⟨b30, 0, none⟩) F.regs.toNat F.regs.toNat ∧ iv.n = R := ⟨⟨some ⟨b30, 0, none⟩, R, R⟩, by rw [eR]; rfl, rfl⟩
  obtain ⟨iv, hiv, hin⟩ := e1
  obtain ⟨sv, hsv, hsn⟩ := e2
  refine WP.weaken (ρ' := [(1, .pointer (some ⟨b1, 0, none⟩)), (2, .pointer (some ⟨b2, 0, none⟩))]) (Γ' := [blk wb [.pointer (some pF), iv.val, .slice none 0 0, av, bv] 87, blk b1 [.pointer (some ⟨wb, 0, none⟩)] 80, slA 3 (Enc.int .i64) iv.val ((List.replicate R 0, List.replicate R 0) : SI).2, slA 3 (Enc.int .i64) sv.val ((List.replicate R 0, List.replicate R 0) : SI).1, blk b2 [sv.val] 22]) ⟨rfl, rfl, trivial⟩ (by rw [hiv, hsv, eR]; exact pick_only [0, 0, 0, 0, 0] _) ?_
  -- the blocks
  refine WP.seqMeet (α := SI) (fun z => z = blksW 0 (List.replicate R 0, List.replicate R 0) F.blocks) (fun _ => [(1, .pointer (some ⟨b1, 0, none⟩))]) (fun z => [blk wb [.pointer (some pF), iv.val, .slice none 0 0, av, bv] 87, blk b1 [.pointer (some ⟨wb, 0, none⟩)] 80, slA 3 (Enc.int .i64) iv.val z.2, slA 3 (Enc.int .i64) sv.val z.1, blk b2 [sv.val] 22]) ?_ ?_
  · refine Zp ?_
    refine Zl 1 ag_80 ?_
    refine Zn ?_
    refine Zf fo_87_0 ?_
    refine Zl 0 ag_79 ?_
    refine Zn ?_
    refine Zf fo_25_4 ?_
    refine Zr ag_23 c4 ?_
    refine Zh sl_23 hv ?_
    refine Zm ?_
    refine Ze ?_
    refine WP.block ?_
    refine WP.loop (α := Nat × SI) (fun z => z.1 ≤ F.blocks.length ∧ z.2.1.length = R ∧ z.2.2.length = R ∧ blksW z.1 z.2 (F.blocks.drop z.1) = blksW 0 (List.replicate R 0, List.replicate R 0) F.blocks) (fun z => [(1, .pointer (some ⟨b1, 0, none⟩)), (2, .pointer (some ⟨b2, 0, none⟩)), (37, v), (38, .int .i64 (F.blocks.length : Int)), (39, .int .i64 (z.1 : Int))])
      (fun z => [blk wb [.pointer (some pF), iv.val, .slice none 0 0, av, bv] 87, blk b1 [.pointer (some ⟨wb, 0, none⟩)] 80, slA 3 (Enc.int .i64) iv.val z.2.2, slA 3 (Enc.int .i64) sv.val z.2.1, blk b2 [sv.val] 22]) (fun z => F.blocks.length - z.1) (0, (List.replicate R 0, List.replicate R 0)) ⟨Nat.zero_le _, by simp, by simp, rfl⟩ ⟨rfl, rfl, rfl, rfl, rfl, trivial⟩ (ent.refl _) ?_
    rintro ⟨i, S, I⟩ ⟨hi, hSl, hIl, hz⟩
    simp only at hi hSl hIl hz ⊢
    refine Zp ?_
    refine Zi ?_
    refine Ze ?_
    refine WP.seq ?_
    refine WP.ite rfl (fun hlt => ?_) (fun hge => ?_)
    · refine Zb ?_
      obtain ⟨b, gb⟩ : ∃ y, F.blocks[(i : Int).toNat]? = some y := ⟨_, List.getElem?_eq_getElem (by omega)⟩
      have gb' : F.blocks[i]? = some b := gb
      have hbm := List.mem_of_getElem? gb'
      have hb1 := hS.bodies b hbm
      have hb3 := hS.args b hbm
      have hga := hG.args b hbm
      have hgd := hG.dst b hbm
      have hgv := hG.val b hbm
      obtain ⟨_, ⟨bu0, bv0, rfl, hbu, hbv⟩, hrow⟩ := hv.at gb
      obtain ⟨bu, rfl, _, _⟩ := SlR.sv hbu
      obtain ⟨bv2, rfl, _, _⟩ := SlR.sv hbv
      have hdr : F.blocks.drop i = b :: F.blocks.drop (i + 1) := by rw [List.drop_eq_getElem_cons (by omega)]; congr 1; rw [List.getElem?_eq_getElem (by omega)] at gb'; exact Option.some.inj gb'
      refine WP.seqMeet (α := SI) (fun z => z = blkW (i : Int) (S, I) b) (fun z => [(1, .pointer (some ⟨b1, 0, none⟩)), (2, .pointer (some ⟨b2, 0, none⟩)), (37, v), (38, .int .i64 (F.blocks.length : Int)), (39, .int .i64 (i : Int))]) (fun z => [blk wb [.pointer (some pF), iv.val, .slice none 0 0, av, bv] 87, blk b1 [.pointer (some ⟨wb, 0, none⟩)] 80, slA 3 (Enc.int .i64) iv.val z.2, slA 3 (Enc.int .i64) sv.val z.1, blk b2 [sv.val] 22]) ?_ ?_
      · refine WP.block ?_
        refine Zp ?_
        refine Zm ?_
        refine Zx sl_23 hv ?_
        refine Run.loadRagg rfl rfl ag_56 rfl rfl hrow (by rfl) ?_
        refine Run.alloc rfl zr_3 rfl rfl rfl ?_
        intro b3
        refine Run.alloc rfl zr_56 rfl rfl rfl ?_
        intro b4
        refine Run.storeB 5 rfl rfl rfl rfl ag_3 rfl rfl rfl rfl rfl ?_
        refine Run.storeB 6 rfl rfl rfl rfl ag_56 rfl rfl rfl rfl rfl ?_
        refine Ze ?_
        refine Zp ?_
        refine Run.makeFunc rfl (fs := _) rfl (cs := _) rfl rfl rfl ?_
        refine Zm ?_
        refine Ze ?_
        refine WP.weaken (ρ' := [(1, .pointer (some ⟨b1, 0, none⟩)), (2, .pointer (some ⟨b2, 0, none⟩)), (3, .pointer (some ⟨b3, 0, none⟩)), (4, .pointer (some ⟨b4, 0, none⟩)), (5, .func (.func 79) #[] #[.pointer (some ⟨b2, 0, none⟩), .pointer (some ⟨b3, 0, none⟩), .pointer (some ⟨b1, 0, none⟩)]), (37, v), (38, .int .i64 (F.blocks.length : Int)), (39, .int .i64 (i : Int))]) (Γ' := [blk wb [.pointer (some pF), iv.val, .slice none 0 0, av, bv] 87, blk b1 [.pointer (some ⟨wb, 0, none⟩)] 80, slA 3 (Enc.int .i64) iv.val ((S, I) : SI).2, slA 3 (Enc.int .i64) sv.val ((S, I) : SI).1, blk b2 [sv.val] 22, blk b3 [.int .i64 (i : Int)] 3, blk b4 [bu.val, .int .i64 b.kind, .int .i64 b.value, bv2.val] 56]) ⟨rfl, rfl, rfl, rfl, rfl, rfl, rfl, rfl, trivial⟩ (ent.refl _) ?_
        refine WP.seqMeet (α := SI) (fun z => z = bodyW (i : Int) (S, I) b.body) (fun _ => [(1, .pointer (some ⟨b1, 0, none⟩)), (2, .pointer (some ⟨b2, 0, none⟩)), (3, .pointer (some ⟨b3, 0, none⟩)), (4, .pointer (some ⟨b4, 0, none⟩)), (5, .func (.func 79) #[] #[.pointer (some ⟨b2, 0, none⟩), .pointer (some ⟨b3, 0, none⟩), .pointer (some ⟨b1, 0, none⟩)]), (37, v), (38, .int .i64 (F.blocks.length : Int)), (39, .int .i64 (i : Int))]) (fun z => [blk wb [.pointer (some pF), iv.val, .slice none 0 0, av, bv] 87, blk b1 [.pointer (some ⟨wb, 0, none⟩)] 80, slA 3 (Enc.int .i64) iv.val (z : SI).2, slA 3 (Enc.int .i64) sv.val (z : SI).1, blk b2 [sv.val] 22, blk b3 [.int .i64 (i : Int)] 3, blk b4 [bu.val, .int .i64 b.kind, .int .i64 b.value, bv2.val] 56]) ?_ ?_
        · refine Zp ?_
          refine Zf fo_56_0 ?_
          refine Zl 6 ag_52 ?_
          refine Zh sl_52 hbu ?_
          refine Zm ?_
          refine Ze ?_
          refine WP.block ?_
          refine WP.loop (α := Nat × SI) (fun z => z.1 ≤ b.body.length ∧ z.2.1.length = R ∧ z.2.2.length = R ∧ bodyW (i : Int) z.2 (b.body.drop z.1) = bodyW (i : Int) (S, I) b.body) (fun z => [(1, .pointer (some ⟨b1, 0, none⟩)), (2, .pointer (some ⟨b2, 0, none⟩)), (3, .pointer (some ⟨b3, 0, none⟩)), (4, .pointer (some ⟨b4, 0, none⟩)), (5, .func (.func 79) #[] #[.pointer (some ⟨b2, 0, none⟩), .pointer (some ⟨b3, 0, none⟩), .pointer (some ⟨b1, 0, none⟩)]), (37, v), (38, .int .i64 (F.blocks.length : Int)), (39, .int .i64 (i : Int)), (46, bu.val), (47, .int .i64 (b.body.length : Int)), (48, .int .i64 (z.1 : Int))])
            (fun z => [blk wb [.pointer (some pF), iv.val, .slice none 0 0, av, bv] 87, blk b1 [.pointer (some ⟨wb, 0, none⟩)] 80, slA 3 (Enc.int .i64) iv.val (z.2 : SI).2, slA 3 (Enc.int .i64) sv.val (z.2 : SI).1, blk b2 [sv.val] 22, blk b3 [.int .i64 (i : Int)] 3, blk b4 [bu.val, .int .i64 b.kind, .int .i64 b.value, bv2.val] 56]) (fun z => b.body.length - z.1) (0, (S, I)) ⟨Nat.zero_le _, hSl, hIl, rfl⟩ ⟨rfl, rfl, rfl, rfl, rfl, rfl, rfl, rfl, rfl, rfl, rfl, trivial⟩ (ent.refl _) ?_
          rintro ⟨j, S2, I2⟩ ⟨hj, hS2, hI2, hz2⟩
          simp only at hj hS2 hI2 hz2 ⊢
          refine Zp ?_
          refine Zi ?_
          refine Ze ?_
          refine WP.seq ?_
          refine WP.ite rfl (fun hlt2 => ?_) (fun hge2 => ?_)
          · refine Zb ?_
            obtain ⟨x, gx⟩ : ∃ y, b.body[(j : Int).toNat]? = some y := ⟨_, List.getElem?_eq_getElem (by omega)⟩
            have gx' : b.body[j]? = some x := gx
            have hxm := List.mem_of_getElem? gx'
            have hx3 := hb3 x hxm
            have hxa2 := hga x hxm
            have hxd := hgd x hxm
            obtain ⟨_, ⟨xa0, rfl, hxa⟩, hxrow⟩ := hbu.at gx
            obtain ⟨xa, rfl, _, _⟩ := SlR.sv hxa
            have hdrx : b.body.drop j = x :: b.body.drop (j + 1) := by rw [List.drop_eq_getElem_cons (by omega)]; congr 1; rw [List.getElem?_eq_getElem (by omega)] at gx'; exact Option.some.inj gx'
            refine WP.seqMeet (α := SI) (fun z => z = insW (i : Int) (S2, I2) x) (fun _ => [(1, .pointer (some ⟨b1, 0, none⟩)), (2, .pointer (some ⟨b2, 0, none⟩)), (3, .pointer (some ⟨b3, 0, none⟩)), (4, .pointer (some ⟨b4, 0, none⟩)), (5, .func (.func 79) #[] #[.pointer (some ⟨b2, 0, none⟩), .pointer (some ⟨b3, 0, none⟩), .pointer (some ⟨b1, 0, none⟩)]), (37, v), (38, .int .i64 (F.blocks.length : Int)), (39, .int .i64 (i : Int)), (46, bu.val), (47, .int .i64 (b.body.length : Int)), (48, .int .i64 (j : Int))]) (fun z => [blk wb [.pointer (some pF), iv.val, .slice none 0 0, av, bv] 87, blk b1 [.pointer (some ⟨wb, 0, none⟩)] 80, slA 3 (Enc.int .i64) iv.val (z : SI).2, slA 3 (Enc.int .i64) sv.val (z : SI).1, blk b2 [sv.val] 22, blk b3 [.int .i64 (i : Int)] 3, blk b4 [bu.val, .int .i64 b.kind, .int .i64 b.value, bv2.val] 56]) ?_ ?_
            · refine WP.block ?_
              refine Zp ?_
              refine Zx sl_52 hbu ?_
              refine Run.loadRagg rfl rfl ag_67 rfl rfl hxrow (by rfl) ?_
              refine Run.alloc rfl zr_67 rfl rfl rfl ?_
              intro b7
              refine Run.storeB 7 rfl rfl rfl rfl ag_67 rfl rfl rfl rfl rfl ?_
              refine Ze ?_
              refine WP.weaken (ρ' := [(1, .pointer (some ⟨b1, 0, none⟩)), (2, .pointer (some ⟨b2, 0, none⟩)), (3, .pointer (some ⟨b3, 0, none⟩)), (4, .pointer (some ⟨b4, 0, none⟩)), (5, .func (.func 79) #[] #[.pointer (some ⟨b2, 0, none⟩), .pointer (some ⟨b3, 0, none⟩), .pointer (some ⟨b1, 0, none⟩)]), (37, v), (38, .int .i64 (F.blocks.length : Int)), (39, .int .i64 (i : Int)), (46, bu.val), (47, .int .i64 (b.body.length : Int)), (48, .int .i64 (j : Int)), (7, .pointer (some ⟨b7, 0, none⟩))]) (Γ' := [blk wb [.pointer (some pF), iv.val, .slice none 0 0, av, bv] 87, blk b1 [.pointer (some ⟨wb, 0, none⟩)] 80, slA 3 (Enc.int .i64) iv.val ((S2, I2) : SI).2, slA 3 (Enc.int .i64) sv.val ((S2, I2) : SI).1, blk b2 [sv.val] 22, blk b3 [.int .i64 (i : Int)] 3, blk b4 [bu.val, .int .i64 b.kind, .int .i64 b.value, bv2.val] 56, blk b7 [.int .i64 x.op, .int .i64 x.dst, .int .i64 x.imm, xa.val] 67]) ⟨rfl, rfl, rfl, rfl, rfl, rfl, rfl, rfl, rfl, rfl, rfl, rfl, trivial⟩ (ent.refl _) ?_
              refine WP.seqMeet (α := List Int) (fun I3 => I3 = (argsW (i : Int) (S2, I2) x.args).2) (fun _ => [(1, .pointer (some ⟨b1, 0, none⟩)), (2, .pointer (some ⟨b2, 0, none⟩)), (3, .pointer (some ⟨b3, 0, none⟩)), (4, .pointer (some ⟨b4, 0, none⟩)), (5, .func (.func 79) #[] #[.pointer (some ⟨b2, 0, none⟩), .pointer (some ⟨b3, 0, none⟩), .pointer (some ⟨b1, 0, none⟩)]), (37, v), (38, .int .i64 (F.blocks.length : Int)), (39, .int .i64 (i : Int)), (46, bu.val), (47, .int .i64 (b.body.length : Int)), (48, .int .i64 (j : Int)), (7, .pointer (some ⟨b7, 0, none⟩))]) (fun I3 => [blk wb [.pointer (some pF), iv.val, .slice none 0 0, av, bv] 87, blk b1 [.pointer (some ⟨wb, 0, none⟩)] 80, slA 3 (Enc.int .i64) iv.val ((S2, I3) : SI).2, slA 3 (Enc.int .i64) sv.val ((S2, I3) : SI).1, blk b2 [sv.val] 22, blk b3 [.int .i64 (i : Int)] 3, blk b4 [bu.val, .int .i64 b.kind, .int .i64 b.value, bv2.val] 56, blk b7 [.int .i64 x.op, .int .i64 x.dst, .int .i64 x.imm, xa.val] 67]) ?_ ?_
              · refine Zp ?_
                refine Zf fo_67_3 ?_
                refine Zl 7 ag_22 ?_
                refine Zh sl_22 hxa ?_
                refine Zm ?_
                refine Ze ?_
                refine WP.block ?_
                refine WP.loop (α := Nat × List Int) (fun z => z.1 ≤ x.args.length ∧ z.2.length = R ∧ (x.args.drop z.1).foldl (fun I r => markR S2 I (i : Int) r) z.2 = (argsW (i : Int) (S2, I2) x.args).2) (fun z => [(1, .pointer (some ⟨b1, 0, none⟩)), (2, .pointer (some ⟨b2, 0, none⟩)), (3, .pointer (some ⟨b3, 0, none⟩)), (4, .pointer (some ⟨b4, 0, none⟩)), (5, .func (.func 79) #[] #[.pointer (some ⟨b2, 0, none⟩), .pointer (some ⟨b3, 0, none⟩), .pointer (some ⟨b1, 0, none⟩)]), (37, v), (38, .int .i64 (F.blocks.length : Int)), (39, .int .i64 (i : Int)), (46, bu.val), (47, .int .i64 (b.body.length : Int)), (48, .int .i64 (j : Int)), (7, .pointer (some ⟨b7, 0, none⟩)), (53, xa.val), (54, .int .i64 (x.args.length : Int)), (55, .int .i64 (z.1 : Int))])
                  (fun z => [blk wb [.pointer (some pF), iv.val, .slice none 0 0, av, bv] 87, blk b1 [.pointer (some ⟨wb, 0, none⟩)] 80, slA 3 (Enc.int .i64) iv.val ((S2, z.2) : SI).2, slA 3 (Enc.int .i64) sv.val ((S2, z.2) : SI).1, blk b2 [sv.val] 22, blk b3 [.int .i64 (i : Int)] 3, blk b4 [bu.val, .int .i64 b.kind, .int .i64 b.value, bv2.val] 56, blk b7 [.int .i64 x.op, .int .i64 x.dst, .int .i64 x.imm, xa.val] 67]) (fun z => x.args.length - z.1) (0, I2) ⟨Nat.zero_le _, hI2, rfl⟩ ⟨rfl, rfl, rfl, rfl, rfl, rfl, rfl, rfl, rfl, rfl, rfl, rfl, rfl, rfl, rfl, trivial⟩ (ent.refl _) ?_
                rintro ⟨k, I3⟩ ⟨hk, hI3, hz3⟩
                simp only at hk hI3 hz3 ⊢
                refine Zp ?_
                refine Zi ?_
                refine Ze ?_
                refine WP.seq ?_
                refine WP.ite rfl (fun hlt3 => ?_) (fun hge3 => ?_)
                · refine Zb ?_
                  obtain ⟨r, gr⟩ : ∃ y, x.args[(k : Int).toNat]? = some y := ⟨_, List.getElem?_eq_getElem (by omega)⟩
                  have gr' : x.args[k]? = some r := gr
                  obtain ⟨hr2, hr3⟩ := hxa2 r (List.mem_of_getElem? gr')
                  have hdra : x.args.drop k = r :: x.args.drop (k + 1) := by rw [List.drop_eq_getElem_cons (by omega)]; congr 1; rw [List.getElem?_eq_getElem (by omega)] at gr'; exact Option.some.inj gr'
                  refine WP.seq ?_
                  refine WP.block ?_
                  refine Zp ?_
                  refine Zx sl_22 hxa ?_
                  refine Zr ag_3 (SlR.cell0 hxa gr rfl) ?_
                  refine Zm ?_
                  refine Ze ?_
                  refine Zc ?_
                  refine Zm ?_
                  refine Zm ?_
                  refine Run.call (Δ := [blk b2 [sv.val] 22, blk b3 [.int .i64 (i : Int)] 3, blk b1 [.pointer (some ⟨wb, 0, none⟩)] 80, blk wb [.pointer (some pF), iv.val, .slice none 0 0, av, bv] 87, slA 3 (Enc.int .i64) sv.val S2, slA 3 (Enc.int .i64) iv.val I3]) (Θ := [blk b4 [bu.val, .int .i64 b.kind, .int .i64 b.value, bv2.val] 56, blk b7 [.int .i64 x.op, .int .i64 x.dst, .int .i64 x.imm, xa.val] 67]) rfl rfl rfl rfl ok_79 rfl rfl (pick_only [4, 4, 1, 0, 1, 0, 0, 0] _) (read_ok hR b2 b3 b1 wb sv iv (.pointer (some pF)) (.slice none 0 0) av bv S2 I3 (i : Int) r hr2 (by omega) (by omega) (by omega) (by omega)) ?_; rintro _ _ rfl
                  refine Run.nil ?_
                  refine blk_norm ?_; refine thn_next ?_
                  refine Zc ?_
                  refine Za ?_
                  refine Zm ?_
                  refine Run.nil ?_
                  refine thn_next ⟨(k + 1, markR S2 I3 (i : Int) r), ⟨by simp only; omega, by simp only; rw [markR_len]; exact hI3, by simp only; rw [← hz3, hdra, List.foldl_cons]⟩, by simp only; omega, ⟨rfl, rfl, rfl, rfl, rfl, rfl, rfl, rfl, rfl, rfl, rfl, rfl, rfl, rfl, rfl, trivial⟩, pick_only [3, 2, 3, 2, 0, 0, 0, 0] _⟩
                · refine Zj ?_
                  have e : k = x.args.length := by omega
                  subst e
                  rw [List.drop_length, List.foldl_nil] at hz3
                  exact thn_next ⟨I3, hz3, ⟨rfl, rfl, rfl, rfl, rfl, rfl, rfl, rfl, rfl, rfl, rfl, rfl, trivial⟩, ent.refl _⟩
              rintro I3 hI3
              refine Zp ?_
              refine Zf fo_67_1 ?_
              refine Zl 7 ag_3 ?_
              refine Zi ?_
              refine Ze ?_
              refine WP.ite rfl (fun hd => ?_) (fun hd => ?_)
              · have hd' : 0 ≤ x.dst := by omega
                have hd2 := hxd hd'
                obtain ⟨s0, gs0⟩ : ∃ y, S2[x.dst.toNat]? = some y := ⟨_, List.getElem?_eq_getElem (by omega)⟩
                refine Zc ?_
                refine Zl 4 ag_22 ?_
                refine Zf fo_67_1 ?_
                refine Zl 7 ag_3 ?_
                refine Zl 5 ag_3 ?_
                refine Za ?_
                refine Run.idxO 3 rfl rfl rfl sl_22 rfl rfl rfl rfl (by omega) (by simp only; omega) ?_
                refine Run.storeO 3 x.dst.toNat 0 (y' := ((i : Int) + 1)) rfl rfl rfl rfl ag_3 rfl rfl rfl rfl gs0 rfl rfl ?_
                refine Run.nil ?_
                refine blk_norm ?_
                refine thn_next ⟨(S2.set x.dst.toNat ((i : Int) + 1), I3), by unfold insW; rw [if_pos hd', hI3], ⟨rfl, rfl, rfl, rfl, rfl, rfl, rfl, rfl, rfl, rfl, rfl, trivial⟩, pick_only [0, 0, 0, 0, 0, 0, 0] _⟩
              · refine WP.skip ?_; refine blk_norm ?_
                refine thn_next ⟨(S2, I3), by unfold insW; rw [if_neg (by omega), hI3], ⟨rfl, rfl, rfl, rfl, rfl, rfl, rfl, rfl, rfl, rfl, rfl, trivial⟩, pick_only [0, 0, 0, 0, 0, 0, 0] _⟩
            rintro _ rfl
            refine Zc ?_
            refine Za ?_
            refine Zm ?_
            refine Run.nil ?_
            have hl3 := insW_len (i : Int) (S2, I2) x
            refine thn_next ⟨(j + 1, insW (i : Int) (S2, I2) x), ⟨by simp only; omega, hl3.1.trans hS2, hl3.2.trans hI2, ?_⟩, by simp only; omega, ⟨rfl, rfl, rfl, rfl, rfl, rfl, rfl, rfl, rfl, rfl, rfl, trivial⟩, ent.refl _⟩
            simp only
            rw [← hz2, hdrx]; rfl
          · refine Zj ?_
            have e : j = b.body.length := by omega
            subst e
            rw [List.drop_length] at hz2
            exact thn_next ⟨(S2, I2), hz2, ⟨rfl, rfl, rfl, rfl, rfl, rfl, rfl, rfl, trivial⟩, ent.refl _⟩
        rintro ⟨S2, I2⟩ hz2
        have hl2 := bodyW_len (i : Int) b.body (S, I)
        rw [← hz2] at hl2
        simp only at hl2 ⊢
        have hi9 : (i : Int) ≤ 1000000 := by omega
        refine Zp ?_
        refine Zf fo_56_1 ?_
        refine Zf fo_54_1 ?_
        refine Zl 6 ag_3 ?_
        refine Zi ?_
        refine Ze ?_
        refine WP.ite rfl (fun hval => ?_) (fun hval => ?_)
        · have hval' : 0 ≤ b.value := by omega
          have hv2 := hgv hval'
          refine Zc ?_
          refine Zm ?_
          refine Zf fo_56_1 ?_
          refine Zf fo_54_1 ?_
          refine Zl 6 ag_3 ?_
          refine Run.call (Δ := [blk b2 [sv.val] 22, blk b3 [.int .i64 (i : Int)] 3, blk b1 [.pointer (some ⟨wb, 0, none⟩)] 80, blk wb [.pointer (some pF), iv.val, .slice none 0 0, av, bv] 87, slA 3 (Enc.int .i64) sv.val S2, slA 3 (Enc.int .i64) iv.val I2]) (Θ := [blk b4 [bu.val, .int .i64 b.kind, .int .i64 b.value, bv2.val] 56]) rfl rfl rfl rfl ok_79 rfl rfl (pick_only [4, 4, 1, 0, 1, 0, 0] _) (read_ok hR b2 b3 b1 wb sv iv (.pointer (some pF)) (.slice none 0 0) av bv S2 I2 (i : Int) b.value hval' (by omega) (by omega) (by omega) hi9) ?_; rintro _ _ rfl
          refine Run.nil ?_
          refine blk_norm ?_
          refine thn_next ⟨(S2, markR S2 I2 (i : Int) b.value), by unfold blkW; rw [← hz2]; simp [hval'], ⟨rfl, rfl, rfl, rfl, rfl, trivial⟩, pick_only [3, 2, 3, 2, 0] _⟩
        · refine WP.skip ?_; refine blk_norm ?_
          refine thn_next ⟨(S2, I2), by unfold blkW; rw [← hz2]; simp; intro h; omega, ⟨rfl, rfl, rfl, rfl, rfl, trivial⟩, pick_only [0, 0, 0, 0, 0] _⟩
      rintro _ rfl
      refine Zc ?_
      refine Za ?_
      refine Zm ?_
      refine Run.nil ?_
      have hl2 := blkW_len (i : Int) (S, I) b
      refine thn_next ⟨(i + 1, blkW (i : Int) (S, I) b), ⟨by simp only; omega, hl2.1.trans hSl, hl2.2.trans hIl, ?_⟩, by simp only; omega, ⟨rfl, rfl, rfl, rfl, rfl, trivial⟩, ent.refl _⟩
      simp only
      rw [← hz, hdr, blksW]
    · refine Zj ?_
      have e : i = F.blocks.length := by omega
      subst e
      rw [List.drop_length, blksW] at hz
      exact thn_next ⟨(S, I), hz, ⟨rfl, trivial⟩, ent.refl _⟩
  rintro ⟨S9, M⟩ hM
  have hlM := blksW_len F.blocks 0 (List.replicate R 0, List.replicate R 0)
  rw [← hM] at hlM
  simp only [List.length_replicate] at hlM
  have hM2 : M = (blksW 0 (List.replicate R 0, List.replicate R 0) F.blocks).2 := by rw [← hM]
  have hMF : marksF F = M := by unfold marksF; rw [eR, hM2]
  rw [hMF]
  clear hM hM2
  have hMR := hlM.2
  refine WP.sup (ρ' := [(1, .pointer (some ⟨b1, 0, none⟩))]) (Γ' := [blk wb [.pointer (some pF), iv.val, .slice none 0 0, av, bv] 87, blk b1 [.pointer (some ⟨wb, 0, none⟩)] 80, slA 3 (Enc.int .i64) iv.val M, slA 3 (Enc.int .i64) (.slice none 0 0) []]) (sup.refl _) ((pick_only [0, 0, 0] _).trans (slA_nil 3 (Enc.int .i64) _)) ?_
  refine Zp ?_
  refine Zl 1 ag_80 ?_
  refine Zn ?_
  refine Zf fo_87_1 ?_
  refine Zl 0 ag_22 ?_
  refine Run.lenO 2 rfl rfl sl_22 rfl rfl rfl ?_
  refine Zm ?_
  refine Ze ?_
  refine WP.block ?_
  refine WP.loopK (α := Nat × SV × List Int × List Int) (fun z => z.1 ≤ M.length ∧ z.2.2.1.length ≤ z.1 ∧ z.2.2.2.length = z.1 ∧ z.2.2.1 ++ namesW z.1 (M.drop z.1) = namesW 0 M ∧ z.2.2.2 ++ indexW z.2.2.1.length (M.drop z.1) = indexW 0 M) (fun z => [(88, .int .i64 (z.1 : Int))])
    (fun z => [blk wb [.pointer (some pF), iv.val, z.2.1.val, av, bv] 87, blk b1 [.pointer (some ⟨wb, 0, none⟩)] 80, slA 3 (Enc.int .i64) iv.val (z.2.2.2 ++ M.drop z.1), slA 3 (Enc.int .i64) z.2.1.val z.2.2.1]) (fun z => M.length - z.1) (0, ⟨none, 0, 0⟩, [], []) ⟨Nat.zero_le _, Nat.le_refl _, rfl, rfl, rfl⟩ ⟨(by repeat first | exact trivial | refine ⟨rfl, ?_⟩), rfl, rfl⟩ (ent.refl _) ?_
  rintro ⟨i, nv, ns, pre⟩ ⟨hi, hns, hpre, hn1, hn2⟩
  simp only at hi hns hpre hn1 hn2 ⊢
  refine Zp ?_
  refine Zi ?_
  refine Ze ?_
  refine WP.seq ?_
  refine WP.ite rfl (fun hlt => ?_) (fun hge => ?_)
  · refine Zb ?_
    obtain ⟨m, gm⟩ : ∃ y, M[i]? = some y := ⟨_, List.getElem?_eq_getElem (by omega)⟩
    have hdr : M.drop i = m :: M.drop (i + 1) := by rw [List.drop_eq_getElem_cons (by omega)]; congr 1; rw [List.getElem?_eq_getElem (by omega)] at gm; exact Option.some.inj gm
    have gx : (pre ++ M.drop i)[i]? = some m := by rw [hdr, List.getElem?_append_right (by omega), hpre]; simp
    have hxl : (pre ++ M.drop i).length = R := by simp; omega
    have hset : ∀ y : Int, (pre ++ M.drop i).set i y = (pre ++ [y]) ++ M.drop (i + 1) := fun y => by rw [hdr, List.set_append_right _ _ (by omega), hpre]; simp
    refine WP.seq ?_
    refine WP.block ?_
    refine Zp ?_
    refine Zm ?_
    refine Run.idxO 2 rfl rfl rfl sl_22 rfl rfl rfl rfl (by omega) (by omega) ?_
    refine Run.loadO 2 i 0 rfl rfl ag_3 rfl rfl rfl rfl gx rfl ?_
    refine Zm ?_
    refine Zm ?_
    refine Ze ?_
    refine Zp ?_
    refine Zm ?_
    refine Zi ?_
    refine Ze ?_
    refine WP.ite rfl (fun h1 => ?_) (fun h1 => ?_)
    · have hnew : (pre ++ M.drop i).length = R := hxl
      subst h1
      refine WP.seq ?_
      refine WP.via (Γ' := [slA 3 (Enc.int .i64) iv.val (pre ++ M.drop i), slA 3 (Enc.int .i64) nv.val ns] ++ [blk wb [.pointer (some pF), iv.val, nv.val, av, bv] 87, blk b1 [.pointer (some ⟨wb, 0, none⟩)] 80]) ent.go ?_
      refine WP.drawnF cfF [0, 1, 2, 3, 4, 5, 6, 7, 8, 9] [10] ([blk wb [.pointer (some pF), iv.val, nv.val, av, bv] 87, blk b1 [.pointer (some ⟨wb, 0, none⟩)] 80]) mixed rfl rfl (by kernel_rfl) (fun gF hgF hdF => ?_)
      refine Run.loadF rfl rfl ag_80 rfl rfl (lent_blk (v := .pointer (some ⟨wb, 0, none⟩)) 1 0 rfl rfl hgF hdF) ?_
      refine Run.loadF rfl rfl ag_80 rfl rfl (lent_blk (v := .pointer (some ⟨wb, 0, none⟩)) 1 0 rfl rfl hgF hdF) ?_
      refine Zn ?_
      refine Zf fo_87_2 ?_
      refine Run.loadF rfl rfl ag_22 rfl rfl (lent_blk (v := nv.val) 0 2 rfl rfl hgF hdF) ?_
      refine Zm ?_
      refine Run.buildSlice (E := (Enc.int .i64)) rfl sl_22 zr_3 ([(i : Int)]) rfl rfl rfl (by decide) rfl rfl ?_
      intro b101
      refine Run.append 1 rfl rfl rfl rfl rfl rfl sl_22 zr_3 rfl (src_own 2 rfl) (by first | omega | (simp <;> omega)) (by first | omega | (simp <;> omega)) ?_
      intro sv102 hv102
      refine Zn ?_
      refine Zf fo_87_2 ?_
      refine Run.nil ?_
      refine Run.storeB 3 rfl rfl rfl rfl ag_22 rfl rfl rfl rfl rfl ?_
      refine Ze ?_
      refine WP.drawn0 cf0 mixed rfl (by kernel_rfl) ?_
      refine Zl 4 ag_80 ?_
      refine Zn ?_
      refine Zf fo_87_1 ?_
      refine Zl 3 ag_22 ?_
      refine Zm ?_
      refine Zl 4 ag_80 ?_
      refine Zn ?_
      refine Zf fo_87_2 ?_
      refine Zl 3 ag_22 ?_
      refine Run.lenO 1 rfl rfl sl_22 rfl rfl rfl ?_
      refine Run.idxO 0 rfl rfl rfl sl_22 rfl rfl rfl rfl (by omega) (by omega) ?_
      refine Run.storeO 0 i 0 (y' := ((ns ++ [(i : Int)]).length : Int)) rfl rfl rfl rfl ag_3 rfl rfl rfl rfl gx rfl rfl ?_
      refine Run.nil ?_
      refine blk_norm ?_; refine thn_next ?_
      refine Zc ?_
      refine Za ?_
      refine Zm ?_
      refine Run.nil ?_
      refine thn_next ⟨(i + 1, sv102, ns ++ [(i : Int)], pre ++ [((ns ++ [(i : Int)]).length : Int)]), ⟨by simp only; omega, by simp; omega, by simp [hpre], ?_, ?_⟩, by simp only; omega, ⟨(by repeat first | exact trivial | refine ⟨rfl, ?_⟩), rfl, rfl⟩, by simp only; rw [← hset]; exact ent.go⟩
      · simp only; rw [← hn1, hdr, namesW, if_pos rfl]; simp
      · simp only; rw [← hn2, hdr, indexW, if_pos rfl]; simp
    · refine WP.skip ?_; refine blk_norm ?_; refine thn_next ?_
      refine Zc ?_
      refine Za ?_
      refine Zm ?_
      refine Run.nil ?_
      refine thn_next ⟨(i + 1, nv, ns, pre ++ [m]), ⟨by simp only; omega, by simp only; omega, by simp [hpre], ?_, ?_⟩, by simp only; omega, ⟨(by repeat first | exact trivial | refine ⟨rfl, ?_⟩), rfl, rfl⟩, ?_⟩
      · simp only; rw [← hn1, hdr, namesW, if_neg h1]
      · simp only; rw [← hn2, hdr, indexW, if_neg h1]; simp
      · simp only
        have e : pre ++ [m] ++ M.drop (i + 1) = pre ++ M.drop i := by rw [hdr]; simp
        rw [e]; exact ent.go
  · refine Zj ?_
    have e : i = M.length := by omega
    subst e
    rw [List.drop_length, namesW, List.append_nil] at hn1
    rw [List.drop_length, indexW, List.append_nil] at hn2
    refine retN [] [] rfl rfl ⟨iv, nv, ?_⟩
    rw [List.drop_length, List.append_nil, hn1, hn2]; exact ent.go
end Go.Proofs.YtjjfehdlmdhhmaaDoor
end
section
/- What is live, in plain Lean; the least sets that are closed. -/
namespace Go.Proofs.YtjjfehdlmdhhmaaDoor
open Go.Sep
set_option linter.unusedSimpArgs false
set_option linter.unusedVariables false
/-- is r read, ahead of being set, in a list of instructions; q: is it wanted behind them? -/
def needB (r : Int) : List LIns → Bool → Bool
  | [], q => q
  | x :: xs, q => x.args.contains r || (decide (x.dst ≠ r) && needB r xs q)
theorem needB_mono (r : Int) : ∀ (xs : List LIns) (p q : Bool), (p = true → q = true) → needB r xs p = true → needB r xs q = true
  | [], p, q, h, hp => h hp
  | x :: xs, p, q, h, hp => by
    simp only [needB, Bool.or_eq_true, Bool.and_eq_true] at hp ⊢
    exact hp.imp id fun h2 => ⟨h2.1, needB_mono r xs p q h h2.2⟩
theorem needB_or (r : Int) : ∀ (xs : List LIns) (p q : Bool), needB r xs (p || q) = (needB r xs p || needB r xs q)
  | [], p, q => rfl
  | x :: xs, p, q => by
    simp only [needB, needB_or r xs p q]
    cases x.args.contains r <;> cases decide (x.dst ≠ r) <;> cases needB r xs p <;> cases needB r xs q <;> rfl
inductive LiveIn (F : LFun) (r : Int) : Nat → Prop
  | here {i : Nat} {b : LBlk} : F.blocks[i]? = some b → needB r b.body (decide (b.value = r)) = true → LiveIn F r i
  | on {i : Nat} {b : LBlk} {c : Int} : F.blocks[i]? = some b → c ∈ b.to → needB r b.body true = true → LiveIn F r c.toNat → LiveIn F r i
def LiveOut (F : LFun) (r : Int) (i : Nat) : Prop := ∃ b c, F.blocks[i]? = some b ∧ c ∈ b.to ∧ LiveIn F r c.toNat
/-- sets that are closed hold what is live -/
theorem live_sub {F : LFun} {r : Int} {A B : Nat → Prop} (h1 : ∀ i b c, F.blocks[i]? = some b → c ∈ b.to → A c.toNat → B i)
    (h2 : ∀ i b (q : Bool), F.blocks[i]? = some b → (q = true → B i) → needB r b.body (decide (b.value = r) || q) = true → A i) : ∀ i, LiveIn F r i → A i := by
  intro i h
  induction h with
  | here hb hn => exact h2 _ _ false hb (fun h => by cases h) (by simpa using hn)
  | on hb hc hn _ ih => exact h2 _ _ true hb (fun _ => h1 _ _ _ hb hc ih) (by simpa using hn)
theorem liveOut_sub {F : LFun} {r : Int} {A B : Nat → Prop} (h1 : ∀ i b c, F.blocks[i]? = some b → c ∈ b.to → A c.toNat → B i)
    (h2 : ∀ i b (q : Bool), F.blocks[i]? = some b → (q = true → B i) → needB r b.body (decide (b.value = r) || q) = true → A i) : ∀ i, LiveOut F r i → B i :=
  fun i ⟨b, c, hb, hc, hl⟩ => h1 i b c hb hc (live_sub h1 h2 _ hl)
/-- one step keeps within what is live -/
theorem live_step {F : LFun} {r : Int} {i : Nat} {b : LBlk} {q : Bool} (hb : F.blocks[i]? = some b) (hq : q = true → LiveOut F r i) (h : needB r b.body (decide (b.value = r) || q) = true) : LiveIn F r i := by
  rw [needB_or, Bool.or_eq_true] at h
  rcases h with h | h
  · exact .here hb h
  · cases q with
    | true =>
      obtain ⟨b', c, hb', hc, hl⟩ := hq rfl
      rw [hb] at hb'; cases hb'
      exact .on hb hc h hl
    | false => exact .here hb (needB_mono r b.body false _ (fun h => by cases h) h)
/-- only registers that are read in some block ahead of being set are live -/
def Wants (F : LFun) (r : Int) : Prop := ∃ b ∈ F.blocks, needB r b.body (decide (b.value = r)) = true
theorem live_wants {F : LFun} {r : Int} {i : Nat} (h : LiveIn F r i) : Wants F r := by
  induction h with
  | here hb hn => exact ⟨_, List.mem_of_getElem? hb, hn⟩
  | on _ _ _ _ ih => exact ih
open Classical in
/-- the list that is answered -/
noncomputable def listOf (F : LFun) (p : Int → Prop) : List Int := (List.range F.regs.toNat).filterMap fun r : Nat => if p (r : Int) then some (r : Int) else none
noncomputable def aheadOf (F : LFun) (i : Nat) : List Int := listOf F fun r => LiveIn F r i
noncomputable def behindOf (F : LFun) (i : Nat) : List Int := listOf F fun r => LiveOut F r i
theorem mem_listOf {F : LFun} {p : Int → Prop} {r : Int} : r ∈ listOf F p ↔ 0 ≤ r ∧ r < F.regs ∧ p r := by
  unfold listOf
  rw [List.mem_filterMap]
  constructor
  · rintro ⟨k, hk, h⟩
    rw [List.mem_range] at hk
    split at h
    · rename_i hp; cases h; exact ⟨by omega, by omega, hp⟩
    · cases h
  · rintro ⟨h0, h1, hp⟩
    refine ⟨r.toNat, by rw [List.mem_range]; omega, ?_⟩
    have : ((r.toNat : Nat) : Int) = r := by omega
    rw [this, if_pos hp]
theorem listOf_sorted (F : LFun) (p : Int → Prop) : (listOf F p).Pairwise (· < ·) := by
  unfold listOf
  rw [List.pairwise_filterMap]
  refine List.Pairwise.imp ?_ List.pairwise_lt_range
  intro a b hab x hx y hy
  split at hx <;> cases hx
  split at hy <;> cases hy
  omega
/-- a rising list is told by what is in it -/
theorem sorted_eq : ∀ {xs ys : List Int}, xs.Pairwise (· < ·) → ys.Pairwise (· < ·) → (∀ x, x ∈ xs ↔ x ∈ ys) → xs = ys
  | [], [], _, _, _ => rfl
  | [], y :: ys, _, _, h => absurd ((h y).2 (by simp)) (by simp)
  | x :: xs, [], _, _, h => absurd ((h x).1 (by simp)) (by simp)
  | x :: xs, y :: ys, hx, hy, h => by
    rw [List.pairwise_cons] at hx hy
    have e : x = y := by
      have h1 := (h x).1 (by simp)
      have h2 := (h y).2 (by simp)
      rcases List.mem_cons.1 h1 with h1 | h1
      · exact h1
      · rcases List.mem_cons.1 h2 with h2 | h2
        · exact h2.symm
        · have := hx.1 _ h2; have := hy.1 _ h1; omega
    subst e
    congr 1
    refine sorted_eq hx.2 hy.2 fun z => ?_
    constructor
    · intro hz
      rcases List.mem_cons.1 ((h z).1 (List.mem_cons_of_mem _ hz)) with e | e
      · subst e; have := hx.1 _ hz; omega
      · exact e
    · intro hz
      rcases List.mem_cons.1 ((h z).2 (List.mem_cons_of_mem _ hz)) with e | e
      · subst e; have := hy.1 _ hz; omega
      · exact e
theorem listOf_uniq {F : LFun} {p : Int → Prop} {xs : List Int} (hs : xs.Pairwise (· < ·)) (h : ∀ r, r ∈ xs ↔ 0 ≤ r ∧ r < F.regs ∧ p r) : xs = listOf F p :=
  sorted_eq hs (listOf_sorted F p) fun r => by rw [h, mem_listOf]
end Go.Proofs.YtjjfehdlmdhhmaaDoor
end
section
/- The range over instructions from the last one back: its iterator; a read, in a block; walked. -/
namespace Go.Proofs.YtjjfehdlmdhhmaaDoor
open Go.Sep
set_option linter.unusedSimpArgs false
set_option linter.unusedVariables false
attribute [local irreducible] blk slA mp mpF rows rowsBut many
theorem backward_ok (hR : Heap) (bu : SV) : Tri Tryd.prog hR 82 #[bu.val] [] fun v Γ' => ∃ b1, v = .func (.func 91) #[] #[.pointer (some ⟨b1, 0, none⟩)] ∧ Γ' = [blk b1 [bu.val] 52] := by
  refine Tri.of (args := [bu.val]) Tryd.func82 rfl Tryd.ntmps82 (by simp) ?_
  refine Zp ?_
  refine Run.box rfl rfl rfl rfl rfl ?_
  intro b1
  refine Zm ?_
  refine Ze ?_
  refine Zp ?_
  refine Run.makeFunc rfl (fs := _) rfl (cs := _) rfl rfl rfl ?_
  refine Zm ?_
  refine Ze ?_
  refine WP.ret ?_
  exact retT [2] _ rfl rfl ⟨_, rfl, rfl⟩
set_option maxRecDepth 100000 in
theorem back_iter (hR : Heap) (b1 : Nat) (bu : SV) (xs : List LIns) (cs : Nat → List Value) (hbu : SlR rdIns hR bu.val xs) (hcs : ∀ i x, xs[i]? = some x → rowH hR (elemAddr bu.val (i * 4)) (cs i) ∧ (cs i).length = 4) (hlen : xs.length ≤ 1000000)
    (H : Nat → List HProp) (l : Nat) (r : Loop) (hY : ∀ i, i < xs.length → Yld Tryd.prog hR l [.int .i64 ((xs.length : Int) - 1 - (i : Int)), .agg ⟨cs (xs.length - 1 - i)⟩] (lop l r :: blk b1 [bu.val] 52 :: H i) (fun v Γ' => v = .bool true ∧ Γ' = lop l r :: blk b1 [bu.val] 52 :: H (i + 1))) :
    Tri Tryd.prog hR 91 #[yv l, .pointer (some ⟨b1, 0, none⟩)] (lop l r :: blk b1 [bu.val] 52 :: H 0) (fun _ Γ' => Γ' = lop l r :: blk b1 [bu.val] 52 :: H xs.length) := by
  refine Tri.of (args := [yv l, .pointer (some ⟨b1, 0, none⟩)]) Tryd.func91 rfl Tryd.ntmps91 (by simp) ?_
  refine Zp ?_
  refine Zl 1 ag_52 ?_
  refine Zh sl_52 hbu ?_
  refine Zs ?_
  refine Zm ?_
  refine Ze ?_
  refine WP.block ?_
  refine WP.loopK (α := Nat) (fun z => z ≤ xs.length) (fun z => [(3, .int .i64 ((xs.length : Int) - 1 - (z : Int)))]) (fun z => lop l r :: blk b1 [bu.val] 52 :: H z) (fun z => xs.length - z) 0 (Nat.zero_le _) ⟨⟨by simp [Env.get], trivial⟩, rfl, rfl⟩ (ent.refl _) ?_
  rintro i hi
  refine WP.seq ?_
  refine Zp ?_
  refine Zm ?_
  refine Zi ?_
  refine Ze ?_
  refine WP.ite rfl (fun hlt => ?_) (fun hge => ?_)
  · refine Zb ?_
    have hix : ((xs.length : Int) - 1 - (i : Int)) = ((xs.length - 1 - i : Nat) : Int) := by omega
    obtain ⟨x, gx⟩ : ∃ y, xs[xs.length - 1 - i]? = some y := ⟨_, List.getElem?_eq_getElem (by omega)⟩
    obtain ⟨hrow, hcl⟩ := hcs _ _ gx
    have hy := hY i (by omega)
    refine WP.seq ?_
    refine WP.block ?_
    refine WP.seq ?_
    refine WP.plainYk 6 cf0 (m := l) rfl rfl rfl rfl rfl rfl rfl rfl ?_
    refine Zm ?_
    refine Zm ?_
    refine Zl 1 ag_52 ?_
    refine Zm ?_
    refine Zx sl_52 hbu ?_
    refine Run.loadRagg rfl rfl ag_67 rfl rfl (by rw [hix]; exact hrow) hcl ?_
    refine Run.nil ?_
    refine ⟨_, _, [], _, rfl, rfl, ?_, hy, ?_⟩
    · rw [List.append_nil]; exact ent.refl _
    rintro _ _ ⟨rfl, rfl⟩
    refine Run.bnotB rfl rfl rfl rfl ?_
    refine Ze ?_
    refine Zno ?_
    refine WP.skip ?_; refine blk_norm ?_; refine thn_next ?_
    refine Zc ?_
    refine Zm ?_
    refine Zs ?_
    refine Zm ?_
    refine Run.nil ?_
    refine thn_next ⟨i + 1, by omega, by omega, ⟨⟨?_, trivial⟩, rfl, rfl⟩, by rw [List.append_nil]; exact ent.refl _⟩
    simp [Env.get]; omega
  · refine Zj ?_
    have e : i = xs.length := by omega
    subst e
    exact retN [] [] rfl rfl rfl
end Go.Proofs.YtjjfehdlmdhhmaaDoor
end
section
/- Back through a block, from what is live behind its end; walked. -/
namespace Go.Proofs.YtjjfehdlmdhhmaaDoor
open Go.Sep
set_option linter.unusedSimpArgs false
set_option linter.unusedVariables false
attribute [local irreducible] blk slA mp mpF rows rowsBut many
abbrev Ws := List (BitVec 64)
def idxAt (idx : List Int) (r : Int) : Int := idx.getD r.toNat 0
def readW (idx : List Int) (ws : Ws) (r : Int) : Ws := if 0 < idxAt idx r then putW ws (idxAt idx r - 1).toNat else ws
def killW (idx : List Int) (ws : Ws) (d : Int) : Ws := if 0 ≤ d ∧ 0 < idxAt idx d then dropW ws (idxAt idx d - 1).toNat else ws
def insT (idx : List Int) (ws : Ws) (x : LIns) : Ws := x.args.foldl (readW idx) (killW idx ws x.dst)
def thruW (idx : List Int) (b : LBlk) (ws : Ws) : Ws := b.body.reverse.foldl (insT idx) (if 0 ≤ b.value then readW idx ws b.value else ws)
theorem putW_len (ws : Ws) (n : Nat) : (putW ws n).length = ws.length := by unfold putW; split <;> simp
theorem dropW_len (ws : Ws) (n : Nat) : (dropW ws n).length = ws.length := by unfold dropW; split <;> simp
theorem readW_len (idx : List Int) (ws : Ws) (r : Int) : (readW idx ws r).length = ws.length := by unfold readW; split <;> simp [putW_len]
theorem killW_len (idx : List Int) (ws : Ws) (r : Int) : (killW idx ws r).length = ws.length := by unfold killW; split <;> simp [dropW_len]
theorem reads_len (idx : List Int) : ∀ (rs : List Int) (ws : Ws), (rs.foldl (readW idx) ws).length = ws.length
  | [], _ => rfl
  | r :: rs, ws => by rw [List.foldl_cons, reads_len idx rs, readW_len]
theorem insT_len (idx : List Int) (ws : Ws) (x : LIns) : (insT idx ws x).length = ws.length := by unfold insT; rw [reads_len, killW_len]
theorem inss_len (idx : List Int) : ∀ (xs : List LIns) (ws : Ws), (xs.foldl (insT idx) ws).length = ws.length
  | [], _ => rfl
  | r :: rs, ws => by rw [List.foldl_cons, inss_len idx rs, insT_len]
theorem thruW_len (idx : List Int) (b : LBlk) (ws : Ws) : (thruW idx b ws).length = ws.length := by unfold thruW; rw [inss_len]; split <;> simp [readW_len]
structure FlowR (hR : Heap) (pw : Addr) (pF : Addr) (iv : SV) (idx : List Int) (m : Nat) : Prop where
  c0 : cellH hR (pw.add 0) (.pointer (some pF))
  c1 : cellH hR (pw.add 1) iv.val
  hi : SlR rdI hR iv.val idx
  le : ∀ i ∈ idx, i ≤ 64 * (m : Int)
  sm : m ≤ 1000000
theorem idxAt_some {idx : List Int} {r k : Int} (h : idx[r.toNat]? = some k) : idxAt idx r = k := by unfold idxAt; rw [List.getD_eq_getElem?_getD, h]; rfl
set_option maxRecDepth 100000 in
theorem read2_ok (hR : Heap) (pw pF : Addr) (iv rv : SV) (idx : List Int) (ws : Ws) (b3 b5 : Nat) (r : Int) (hw : FlowR hR pw pF iv idx ws.length) (h0 : 0 ≤ r) (h1 : r < (idx.length : Int)) :
    Tri Tryd.prog hR 80 #[.int .i64 r, .pointer (some ⟨b3, 0, none⟩), .pointer (some ⟨b5, 0, none⟩)] [blk b3 [.pointer (some pw)] 80, blk b5 [rv.val] 84, slA 134 Enc.u64 rv.val ws] fun _ Γ' => Γ' = [blk b3 [.pointer (some pw)] 80, blk b5 [rv.val] 84, slA 134 Enc.u64 rv.val (readW idx ws r)] := by
  refine Tri.ent (Tri.of (args := [.int .i64 r, .pointer (some ⟨b3, 0, none⟩), .pointer (some ⟨b5, 0, none⟩)]) Tryd.func80 rfl Tryd.ntmps80 (by simp) ?_)
  obtain ⟨k, gk⟩ : ∃ s, idx[r.toNat]? = some s := ⟨_, List.getElem?_eq_getElem (by omega)⟩
  have hk := hw.le k (List.mem_of_getElem? gk)
  have ek := idxAt_some gk
  have hsm := hw.sm
  refine Zp ?_
  refine Zl 0 ag_80 ?_
  refine Zn ?_
  refine Zf fo_87_1 ?_
  refine Zr ag_22 hw.c1 ?_
  refine Zm ?_
  refine Zx sl_22 hw.hi ?_
  refine Zr ag_3 (SlR.cell0 hw.hi gk rfl) ?_
  refine Zm ?_
  refine Ze ?_
  refine Zp ?_
  refine Zm ?_
  refine Zi ?_
  refine Ze ?_
  refine WP.ite rfl (fun hp => ?_) (fun hp => ?_)
  · have hp' : 0 < k := by omega
    have e : readW idx ws r = putW ws (k - 1).toNat := by unfold readW; rw [ek, if_pos hp']
    have e2 : (k - 1) = (((k - 1).toNat : Nat) : Int) := by omega
    rw [e]
    refine Zc ?_
    refine Zl 1 ag_84 ?_
    refine Zm ?_
    refine Zs ?_
    refine Run.call (Δ := [slA 134 Enc.u64 rv.val ws]) (Θ := [blk b3 [.pointer (some pw)] 80, blk b5 [rv.val] 84]) rfl rfl rfl rfl ok_81 rfl rfl ent.go (by rw [e2]; exact put_ok hR rv ws (k - 1).toNat (by omega) hsm) ?_; rintro _ _ rfl
    refine Run.nil ?_
    exact retN [] [] rfl rfl ⟨_, ent.go, rfl⟩
  · refine WP.skip ?_
    have e : readW idx ws r = ws := by unfold readW; rw [ek, if_neg hp]
    rw [e]
    exact retN [] [] rfl rfl ⟨_, ent.go, rfl⟩
theorem ok_80 : calleeOk Tryd.prog 80 = true := by kernel_rfl
theorem ok_91 : calleeOk Tryd.prog 91 = true := by kernel_rfl
theorem cs_of {hR : Heap} {bu : SV} {xs : List LIns} (h : SlR rdIns hR bu.val xs) : ∃ (cs : Nat → List Value) (us : Nat → SV), ∀ i x, xs[i]? = some x → rowH hR (elemAddr bu.val (i * 4)) (cs i) ∧ cs i = [.int .i64 x.op, .int .i64 x.dst, .int .i64 x.imm, (us i).val] ∧ SlR rdI hR (us i).val x.args := by
  have h1 : ∀ i, ∃ p : List Value × SV, ∀ x, xs[i]? = some x → rowH hR (elemAddr bu.val (i * 4)) p.1 ∧ p.1 = [.int .i64 x.op, .int .i64 x.dst, .int .i64 x.imm, p.2.val] ∧ SlR rdI hR p.2.val x.args := by
    intro i
    cases hx : xs[i]? with
    | none => exact ⟨([], ⟨none, 0, 0⟩), fun x hx => by cases hx⟩
    | some x =>
      obtain ⟨c, ⟨u, rfl, hu⟩, hr⟩ := h.at hx
      obtain ⟨sv, rfl, _, _⟩ := SlR.sv hu
      exact ⟨(_, sv), fun y hy => by cases hy; exact ⟨hr, rfl, hu⟩⟩
  exact ⟨fun i => (Classical.choose (h1 i)).1, fun i => (Classical.choose (h1 i)).2, fun i => Classical.choose_spec (h1 i)⟩
set_option maxRecDepth 100000 in
theorem through_ok (hR : Heap) (pw pF : Addr) (F : LFun) (u v : Value) (iv rv : SV) (idx : List Int) (ws : Ws) (bi : Nat) (b : LBlk) (hF : FunAt hR pF F u v) (hS : SmallF F) (hG : RegsF F) (hw : FlowR hR pw pF iv idx ws.length) (hil : (idx.length : Int) = F.regs) (gb : F.blocks[bi]? = some b) :
    Tri Tryd.prog hR 63 #[.pointer (some pw), .int .i64 (bi : Int), rv.val] [slA 134 Enc.u64 rv.val ws] fun _ Γ' => Γ' = [slA 134 Enc.u64 rv.val (thruW idx b ws)] := by
  refine Tri.ent (Tri.ofWX (args := [.pointer (some pw), .int .i64 (bi : Int), rv.val]) Tryd.func63 rfl Tryd.ntmps63 (by simp) ?_)
  have c4 := hF.c4
  have hv := hF.hv
  have sb := hF.sb
  have hblt : bi < F.blocks.length := (List.getElem?_eq_some_iff.1 gb).1
  have hbm := List.mem_of_getElem? gb
  have hb1 := hS.bodies b hbm
  have hb3 := hS.args b hbm
  have hga := hG.args b hbm
  have hgd := hG.dst b hbm
  have hgv := hG.val b hbm
  obtain ⟨_, ⟨bu0, bv0, rfl, hbu, hbv⟩, hrow⟩ := hv.at gb
  obtain ⟨bu, rfl, hbn, hbc⟩ := SlR.sv hbu
  obtain ⟨bv2, rfl, _, _⟩ := SlR.sv hbv
  have r0 : cellH hR (elemAddr v (bi * 4)) bu.val := by have := hrow 0 _ rfl; exact this
  have r2 : cellH hR (((elemAddr v (bi * 4)).add 1).add 1) (.int .i64 b.value) := by have := hrow 2 _ rfl; rw [add_plus]; exact this
  refine WX.pre ?_
  refine Zc ?_
  refine Run.box rfl rfl rfl rfl rfl ?_
  intro b3
  refine Run.box rfl rfl rfl rfl rfl ?_
  intro b5
  refine Run.nil ?_
  refine ⟨rfl, ?_⟩
  refine WX.pre ?_
  refine Zc ?_
  refine Zl 1 ag_80 ?_
  refine Zn ?_
  refine Zf fo_87_0 ?_
  refine Zr ag_79 hw.c0 ?_
  refine Zn ?_
  refine Zf fo_25_4 ?_
  refine Zr ag_23 c4 ?_
  refine Zm ?_
  refine Zx sl_23 hv ?_
  refine Zm ?_
  refine Run.nil ?_
  refine ⟨rfl, ?_⟩
  refine WX.pre ?_
  refine Zc ?_
  refine Run.makeFunc rfl (fs := _) rfl (cs := _) rfl rfl rfl ?_
  refine Run.alloc rfl zr_130 rfl rfl rfl ?_
  intro b7
  refine Run.storeB 3 rfl rfl rfl rfl ag_130 rfl rfl rfl rfl rfl ?_
  refine Run.nil ?_
  refine ⟨rfl, ?_⟩
  refine WX.sup (ρ' := [(3, .pointer (some ⟨b3, 0, none⟩)), (5, .pointer (some ⟨b5, 0, none⟩)), (6, .pointer (some (elemAddr v (bi * 4)))), (7, .pointer (some ⟨b7, 0, none⟩))]) (Γ' := [blk b3 [.pointer (some pw)] 80, blk b5 [rv.val] 84, blk b7 [.func (.func 80) #[] #[.pointer (some ⟨b3, 0, none⟩), .pointer (some ⟨b5, 0, none⟩)]] 130, slA 134 Enc.u64 rv.val ws]) ?_ ?_ ?_
  · exact covers_get ⟨rfl, rfl, rfl, rfl, trivial⟩
  · exact ent.go
  refine WX.meetK (α := Unit) (fun _ => True) (fun _ => []) (fun _ => [blk b3 [.pointer (some pw)] 80, blk b5 [rv.val] 84, blk b7 [.func (.func 80) #[] #[.pointer (some ⟨b3, 0, none⟩), .pointer (some ⟨b5, 0, none⟩)]] 130, slA 134 Enc.u64 rv.val (if 0 ≤ b.value then readW idx ws b.value else ws)]) ?_ ?_
  · refine Zp ?_
    refine Zm ?_
    refine Zn ?_
    refine Zf fo_56_1 ?_
    refine Zf fo_54_1 ?_
    refine Zr ag_3 r2 ?_
    refine Zi ?_
    refine Ze ?_
    refine WP.ite rfl (fun h => ?_) (fun h => ?_) -- t27
    · have h' : 0 ≤ b.value := by omega
      have := hgv h'
      rw [if_pos h']
      refine WP.drawn0 cf0 mixed rfl (by kernel_rfl) ?_
      refine Zl 2 ag_130 ?_
      refine Zm ?_
      refine Zn ?_
      refine Zf fo_56_1 ?_
      refine Zf fo_54_1 ?_
      refine Zr ag_3 r2 ?_
      refine Run.call (Δ := [blk b3 [.pointer (some pw)] 80, blk b5 [rv.val] 84, slA 134 Enc.u64 rv.val ws]) (Θ := [blk b7 [.func (.func 80) #[] #[.pointer (some ⟨b3, 0, none⟩), .pointer (some ⟨b5, 0, none⟩)]] 130]) rfl rfl rfl rfl ok_80 rfl rfl ent.go (read2_ok hR pw pF iv rv idx ws b3 b5 b.value hw h' (by omega)) ?_; rintro _ _ rfl
      refine Run.nil ?_
      exact ⟨rfl, (), trivial, ⟨(by repeat first | exact trivial | refine ⟨rfl, ?_⟩), rfl, rfl⟩, ent.go⟩
    · rw [if_neg (by omega)]
      refine WP.skip ?_
      exact ⟨rfl, (), trivial, ⟨(by repeat first | exact trivial | refine ⟨rfl, ?_⟩), rfl, rfl⟩, ent.go⟩
  rintro _ _
  have hw0 : (if 0 ≤ b.value then readW idx ws b.value else ws).length = ws.length := by split <;> simp [readW_len]
  unfold thruW
  rw [← hw0] at hw
  generalize (if 0 ≤ b.value then readW idx ws b.value else ws) = ws0 at hw ⊢
  clear hw0 ws
  refine WX.pre ?_
  refine Zc ?_
  refine Zm ?_
  refine Zn ?_
  refine Zf fo_56_0 ?_
  refine Zr ag_52 r0 ?_
  refine Run.call (Δ := []) (Θ := [blk b3 [.pointer (some pw)] 80, blk b5 [rv.val] 84, blk b7 [.func (.func 80) #[] #[.pointer (some ⟨b3, 0, none⟩), .pointer (some ⟨b5, 0, none⟩)]] 130, slA 134 Enc.u64 rv.val ws0]) rfl rfl rfl rfl ok_82 rfl rfl (ent.refl _) (backward_ok hR bu) ?_; rintro _ _ ⟨b1, rfl, rfl⟩
  refine Run.nil ?_
  refine ⟨rfl, ?_⟩
  obtain ⟨cs, us, hcs⟩ := cs_of hbu
  have hM : ∀ i, i < b.body.length → ∃ x, b.body[b.body.length - 1 - i]? = some x ∧ b.body.reverse.take (i + 1) = b.body.reverse.take i ++ [x] := fun i hi => by
    obtain ⟨x, gx⟩ : ∃ y, b.body[b.body.length - 1 - i]? = some y := ⟨_, List.getElem?_eq_getElem (by omega)⟩
    refine ⟨x, gx, ?_⟩
    rw [List.take_add_one, List.getElem?_reverse (by omega), gx]; rfl
  refine WX.last rfl (G := fun i => blk b1 [bu.val] 52 :: [blk b3 [.pointer (some pw)] 80, blk b5 [rv.val] 84, blk b7 [.func (.func 80) #[] #[.pointer (some ⟨b3, 0, none⟩), .pointer (some ⟨b5, 0, none⟩)]] 130, slA 134 Enc.u64 rv.val ((b.body.reverse.take i).foldl (insT idx) ws0)]) (N := b.body.length) (argsOf := fun i => [.int .i64 ((b.body.length : Int) - 1 - (i : Int)), .agg ⟨cs (b.body.length - 1 - i)⟩]) (gf := 91) (lb := #[.pointer (some ⟨b1, 0, none⟩)]) ⟨rfl, ok_91, fun _ => rfl, ?_, ?_, ?_⟩ ?_
  · exact ent.go
  · intro l r hY
    exact back_iter hR b1 bu b.body cs hbu (fun i x hx => ⟨(hcs i x hx).1, by rw [(hcs i x hx).2.1]; rfl⟩) hb1 (fun i => [blk b3 [.pointer (some pw)] 80, blk b5 [rv.val] 84, blk b7 [.func (.func 80) #[] #[.pointer (some ⟨b3, 0, none⟩), .pointer (some ⟨b5, 0, none⟩)]] 130, slA 134 Enc.u64 rv.val ((b.body.reverse.take i).foldl (insT idx) ws0)]) l r hY
  · intro l i hi
    obtain ⟨x, gx, htk⟩ := hM i hi
    obtain ⟨hxr, hxc, hxa⟩ := hcs _ x gx
    have hxm := List.mem_of_getElem? gx
    have hx3 := hb3 x hxm
    have hxa2 := hga x hxm
    have hxd := hgd x hxm
    rw [htk, List.foldl_append, List.foldl_cons, List.foldl_nil]
    have hwl : ((b.body.reverse.take i).foldl (insT idx) ws0).length = ws0.length := inss_len _ _ _
    rw [← hwl] at hw
    generalize (b.body.reverse.take i).foldl (insT idx) ws0 = W at hw ⊢
    simp only [hxc]
    generalize us (b.body.length - 1 - i) = xa at hxa ⊢
    refine WP.plain cf0 rfl ?_ (hn := nd_of rfl)
    refine Run.alloc rfl zr_67 rfl rfl rfl ?_
    intro b9
    refine Run.storeB 5 rfl rfl rfl rfl ag_67 rfl rfl rfl rfl rfl ?_
    refine Run.nil ?_
    refine ⟨rfl, ?_⟩
    refine WP.block ?_
    refine WP.meetK (α := Unit) (fun _ => True) (fun _ => []) (fun _ => [blk b1 [bu.val] 52, blk b3 [.pointer (some pw)] 80, blk b5 [rv.val] 84, blk b7 [.func (.func 80) #[] #[.pointer (some ⟨b3, 0, none⟩), .pointer (some ⟨b5, 0, none⟩)]] 130, slA 134 Enc.u64 rv.val (killW idx W x.dst), blk b9 [.int .i64 x.op, .int .i64 x.dst, .int .i64 x.imm, xa.val] 67]) ?_ ?_
    · refine WP.seq ?_
      by_cases hd : 0 ≤ x.dst
      · have hd2 := hxd hd
        obtain ⟨k, gk⟩ : ∃ s, idx[x.dst.toNat]? = some s := ⟨_, List.getElem?_eq_getElem (by omega)⟩
        have hk := hw.le k (List.mem_of_getElem? gk)
        have ek := idxAt_some gk
        refine WP.drawn0 cf0 mixed rfl (by kernel_rfl) ?_ (hn := nd_of rfl)
        refine Zf fo_67_1 ?_
        refine Zl 5 ag_3 ?_
        refine Zi ?_
        refine Run.tt hd ?_
        refine Zm ?_
        refine Zl 1 ag_80 ?_
        refine Zn ?_
        refine Zf fo_87_1 ?_
        refine Zr ag_22 hw.c1 ?_
        refine Zf fo_67_1 ?_
        refine Zl 5 ag_3 ?_
        refine Zx sl_22 hw.hi ?_
        refine Zr ag_3 (SlR.cell0 hw.hi gk rfl) ?_
        refine Zi ?_
        refine Zq ?_
        refine Ze ?_
        refine WP.ite rfl (fun hp => ?_) (fun hp => ?_)
        · have hp' : 0 < k := by omega
          have e : killW idx W x.dst = dropW W (k - 1).toNat := by unfold killW; rw [ek, if_pos ⟨hd, hp'⟩]
          have e2 : (k - 1) = (((k - 1).toNat : Nat) : Int) := by omega
          have hsm := hw.sm
          rw [e]
          refine WP.drawn0 cf0 mixed rfl (by kernel_rfl) ?_ (hn := nd_of rfl)
          refine Zl 2 ag_84 ?_
          refine Zl 1 ag_80 ?_
          refine Zn ?_
          refine Zf fo_87_1 ?_
          refine Zr ag_22 hw.c1 ?_
          refine Zf fo_67_1 ?_
          refine Zl 5 ag_3 ?_
          refine Zx sl_22 hw.hi ?_
          refine Zr ag_3 (SlR.cell0 hw.hi gk rfl) ?_
          refine Zs ?_
          refine Run.call (Δ := [slA 134 Enc.u64 rv.val W]) (Θ := [blk b1 [bu.val] 52, blk b3 [.pointer (some pw)] 80, blk b5 [rv.val] 84, blk b7 [.func (.func 80) #[] #[.pointer (some ⟨b3, 0, none⟩), .pointer (some ⟨b5, 0, none⟩)]] 130, blk b9 [.int .i64 x.op, .int .i64 x.dst, .int .i64 x.imm, xa.val] 67]) rfl rfl rfl rfl ok_83 rfl rfl ent.go (by rw [e2]; exact drop_ok hR rv W (k - 1).toNat (by omega) hsm) ?_; rintro _ _ rfl
          refine Run.nil ?_
          exact thn_next ⟨(), trivial, ⟨(by repeat first | exact trivial | refine ⟨rfl, ?_⟩), rfl, rfl⟩, ent.go⟩
        · have e : killW idx W x.dst = W := by unfold killW; rw [ek, if_neg (by omega)]
          rw [e]
          refine WP.skip ?_
          exact thn_next ⟨(), trivial, ⟨(by repeat first | exact trivial | refine ⟨rfl, ?_⟩), rfl, rfl⟩, ent.go⟩
      · have e : killW idx W x.dst = W := by unfold killW; rw [if_neg (by omega)]
        rw [e]
        refine WP.drawn0 cf0 mixed rfl (by kernel_rfl) ?_ (hn := nd_of rfl)
        refine Zf fo_67_1 ?_
        refine Zl 5 ag_3 ?_
        refine Zi ?_
        refine Run.ff hd ?_
        refine Zm ?_
        iterate 9 refine Zv ?_
        refine Zq ?_
        refine Ze ?_
        refine Zno ?_
        refine WP.skip ?_
        exact thn_next ⟨(), trivial, ⟨(by repeat first | exact trivial | refine ⟨rfl, ?_⟩), rfl, rfl⟩, ent.go⟩
    rintro _ _
    have hkl : (killW idx W x.dst).length = W.length := killW_len _ _ _
    unfold insT
    rw [← hkl] at hw
    generalize killW idx W x.dst = W1 at hw ⊢
    refine WP.seq ?_
    refine WP.plain cf0 rfl ?_ (hn := nd_of rfl)
    refine Zf fo_67_3 ?_
    refine Zl 5 ag_22 ?_
    refine Zh sl_22 hxa ?_
    refine Zm ?_
    refine Ze ?_
    refine WP.block ?_
    refine WP.loopK (α := Nat × Ws) (fun z => z.1 ≤ x.args.length ∧ z.2.length = W1.length ∧ (x.args.drop z.1).foldl (readW idx) z.2 = x.args.foldl (readW idx) W1) (fun z => [(70, .int .i64 (z.1 : Int))])
      (fun z => [blk b1 [bu.val] 52, blk b3 [.pointer (some pw)] 80, blk b5 [rv.val] 84, blk b7 [.func (.func 80) #[] #[.pointer (some ⟨b3, 0, none⟩), .pointer (some ⟨b5, 0, none⟩)]] 130, slA 134 Enc.u64 rv.val z.2, blk b9 [.int .i64 x.op, .int .i64 x.dst, .int .i64 x.imm, xa.val] 67]) (fun z => x.args.length - z.1) (0, W1) ⟨Nat.zero_le _, rfl, rfl⟩ ⟨(by repeat first | exact trivial | refine ⟨rfl, ?_⟩), rfl, rfl⟩ ent.go ?_
    rintro ⟨j, W2⟩ ⟨hj, hl2, hz⟩
    simp only at hj hl2 hz ⊢
    refine WP.seq ?_
    refine WP.plain cf0 rfl ?_ (hn := nd_of rfl)
    refine Zi ?_
    refine Run.nil ?_
    refine WP.seq ?_
    refine WP.ite rfl (fun hlt => ?_) (fun hge => ?_)
    · refine Zb ?_
      obtain ⟨a, ga⟩ : ∃ y, x.args[j]? = some y := ⟨_, List.getElem?_eq_getElem (by omega)⟩
      obtain ⟨ha0, ha1⟩ := hxa2 a (List.mem_of_getElem? ga)
      have hdra : x.args.drop j = a :: x.args.drop (j + 1) := by rw [List.drop_eq_getElem_cons (by omega)]; congr 1; rw [List.getElem?_eq_getElem (by omega)] at ga; exact Option.some.inj ga
      rw [hdra, List.foldl_cons] at hz
      rw [← hl2] at hw
      refine WP.seq ?_
      refine WP.block ?_
      refine WP.seq ?_
      refine WP.plain cf0 rfl ?_ (hn := nd_of rfl)
      refine Zx sl_22 hxa ?_
      refine Zr ag_3 (SlR.cell0 hxa ga rfl) ?_
      refine Zm ?_
      refine Ze ?_
      refine WP.plain cf0 rfl ?_ (hn := nd_of rfl)
      refine Zl 3 ag_130 ?_
      refine Zm ?_
      refine Run.call (Δ := [blk b3 [.pointer (some pw)] 80, blk b5 [rv.val] 84, slA 134 Enc.u64 rv.val W2]) (Θ := [blk b1 [bu.val] 52, blk b7 [.func (.func 80) #[] #[.pointer (some ⟨b3, 0, none⟩), .pointer (some ⟨b5, 0, none⟩)]] 130, blk b9 [.int .i64 x.op, .int .i64 x.dst, .int .i64 x.imm, xa.val] 67]) rfl rfl rfl rfl ok_80 rfl rfl ent.go (read2_ok hR pw pF iv rv idx W2 b3 b5 a hw ha0 (by omega)) ?_; rintro _ _ rfl
      refine Run.nil ?_
      refine blk_norm ?_; refine thn_next ?_
      refine WP.plain cf0 rfl ?_ (hn := nd_of rfl)
      refine Za ?_
      refine Zm ?_
      refine Run.nil ?_
      exact thn_next ⟨(j + 1, readW idx W2 a), ⟨by simp only; omega, by simp only; rw [readW_len, hl2], hz⟩, by simp only; omega, ⟨(by repeat first | exact trivial | refine ⟨rfl, ?_⟩), rfl, rfl⟩, ent.go⟩
    · refine Zj ?_; refine blk_norm ?_
      have e : j = x.args.length := by omega
      subst e
      rw [List.drop_length, List.foldl_nil] at hz
      subst hz
      exact ⟨rfl, ent.go⟩
  · intro D
    refine retN [] [] rfl rfl ⟨_, ?_, rfl⟩
    rw [List.take_of_length_le (by simp)]
    exact ent.go
end Go.Proofs.YtjjfehdlmdhhmaaDoor
end
section
/- Bits of rows of words, in plain Lean. -/
namespace Go.Proofs.YtjjfehdlmdhhmaaDoor
open Go.Sep
set_option linter.unusedSimpArgs false
set_option linter.unusedVariables false
theorem bitW_put {ws : Ws} {n j : Nat} (h : n / 64 < ws.length) : bitW (putW ws n) j = (bitW ws j || decide (j = n)) := by
  have g : ws[n / 64]? = some ws[n / 64] := List.getElem?_eq_getElem h
  unfold putW bitW
  rw [g]
  simp only
  by_cases e : n / 64 = j / 64
  · rw [← e, List.getElem?_set_self h, g]
    simp only [BitVec.getLsbD_or, BitVec.getLsbD_shiftLeft, BitVec.getLsbD_one]
    have h1 : j % 64 < 64 := Nat.mod_lt _ (by decide)
    have h2 : n % 64 < 64 := Nat.mod_lt _ (by decide)
    by_cases e2 : j = n
    · subst e2; simp [h1]
    · have : ¬ (j % 64 = n % 64) := fun e3 => e2 (by omega)
      simp only [e2, decide_false, Bool.or_false]
      cases ws[n / 64].getLsbD (j % 64) <;> simp
      omega
  · rw [List.getElem?_set_ne e]
    have : j ≠ n := fun e2 => e (by rw [e2])
    simp [this]
theorem bitW_drop {ws : Ws} {n j : Nat} : bitW (dropW ws n) j = (bitW ws j && decide (j ≠ n)) := by
  unfold dropW
  cases g : ws[n / 64]? with
  | none =>
    simp only
    by_cases e : j = n
    · subst e; unfold bitW; rw [g]; simp
    · simp [e]
  | some w =>
    have hlt := (List.getElem?_eq_some_iff.1 g).1
    simp only
    unfold bitW
    by_cases e : n / 64 = j / 64
    · rw [← e, List.getElem?_set_self hlt, g]
      simp only [BitVec.getLsbD_and, BitVec.getLsbD_not, BitVec.getLsbD_shiftLeft, BitVec.getLsbD_one]
      have h1 : j % 64 < 64 := Nat.mod_lt _ (by decide)
      have h2 : n % 64 < 64 := Nat.mod_lt _ (by decide)
      by_cases e2 : j = n
      · subst e2; simp [h1]
      · have : ¬ (j % 64 = n % 64) := fun e3 => e2 (by omega)
        simp only [e2, ne_eq, not_false_eq_true, decide_true, Bool.and_true, h1]
        cases w.getLsbD (j % 64) <;> simp
        omega
    · rw [List.getElem?_set_ne e]
      have : j ≠ n := fun e2 => e (by rw [e2])
      simp [this]
theorem bitW_join {a b : Ws} (h : a.length = b.length) (j : Nat) : bitW (joinW a b) j = (bitW a j || bitW b j) := by
  unfold bitW joinW
  rw [List.getElem?_zipWith]
  cases ha : a[j / 64]? with
  | none =>
    have : b[j / 64]? = none := by rw [List.getElem?_eq_none_iff] at ha ⊢; omega
    rw [this]; rfl
  | some x =>
    have hlt := (List.getElem?_eq_some_iff.1 ha).1
    rw [List.getElem?_eq_getElem (by omega : j / 64 < b.length)]
    simp [BitVec.getLsbD_or]
theorem bitW_zeros (m j : Nat) : bitW (List.replicate m 0#64) j = false := by
  unfold bitW
  rw [List.getElem?_replicate]
  split
  · rename_i w h
    split at h
    · cases h; simp
    · cases h
  · rfl
theorem joinW_len {a b : Ws} (h : a.length = b.length) : (joinW a b).length = a.length := by unfold joinW; simp [h]
/-! ### what is not set yet -/
def rowM (ws : Ws) : Nat := (ws.map fun w => (~~~ w).toNat).sum
theorem rowM_join : ∀ (a b : Ws), a.length = b.length → rowM (joinW a b) ≤ rowM a ∧ (joinW a b ≠ a → rowM (joinW a b) < rowM a)
  | [], [], _ => ⟨Nat.le_refl _, fun h => absurd rfl h⟩
  | [], _ :: _, h => by simp at h
  | _ :: _, [], h => by simp at h
  | x :: a, y :: b, h => by
    obtain ⟨h1, h2⟩ := rowM_join a b (by simpa using h)
    have e : joinW (x :: a) (y :: b) = (x ||| y) :: joinW a b := rfl
    rw [e]
    have hle : (~~~ (x ||| y)).toNat ≤ (~~~ x).toNat := by
      rw [BitVec.not_or, BitVec.toNat_and]; exact Nat.and_le_left
    have hlt : x ||| y ≠ x → (~~~ (x ||| y)).toNat < (~~~ x).toNat := fun hne => by
      refine Nat.lt_of_le_of_ne hle fun e => hne ?_
      have := BitVec.eq_of_toNat_eq e
      have h3 := congrArg (fun z => ~~~ z) this
      simpa using h3
    unfold rowM at *
    simp only [List.map_cons, List.sum_cons]
    refine ⟨by omega, fun hne => ?_⟩
    by_cases hx : x ||| y = x
    · have : joinW a b ≠ a := fun e2 => hne (by rw [hx, e2])
      have := h2 this
      omega
    · have := hlt hx
      omega
/-! ### the list of the bits -/
theorem odd_bit (k m t : Nat) : (2 ^ k * (2 * m + 1)).testBit t = (decide (t = k) || (2 ^ (k + 1) * m).testBit t) := by
  by_cases hik : t < k
  · have h1 : (2 ^ k * (2 * m + 1)).testBit t = false := by rw [Nat.mul_comm, Nat.testBit_mul_two_pow]; simp; omega
    have h2 : (2 ^ (k + 1) * m).testBit t = false := by rw [Nat.mul_comm, Nat.testBit_mul_two_pow]; simp; omega
    rw [h1, h2]; simp; omega
  · obtain ⟨j, rfl⟩ : ∃ j, t = k + j := ⟨t - k, by omega⟩
    have h1 : (2 ^ k * (2 * m + 1)).testBit (k + j) = (2 * m + 1).testBit j := by rw [Nat.mul_comm, Nat.testBit_mul_two_pow]; simp
    have e2 : 2 ^ (k + 1) * m = 2 ^ k * (2 * m) := by rw [Nat.pow_succ, Nat.mul_assoc]
    have h2 : (2 ^ (k + 1) * m).testBit (k + j) = (2 * m).testBit j := by rw [e2, Nat.mul_comm, Nat.testBit_mul_two_pow]; simp
    rw [h1, h2]
    cases j with
    | zero => simp [Nat.testBit_zero]
    | succ j =>
      rw [Nat.testBit_succ, Nat.testBit_succ]
      have a1 : (2 * m + 1) / 2 = m := by omega
      have a2 : 2 * m / 2 = m := by omega
      rw [a1, a2]; simp
theorem bitsN_spec : ∀ (m j : Nat), 2 ^ j * m < 18446744073709551616 → (∀ t, t ∈ bitsN (2 ^ j * m) ↔ (2 ^ j * m).testBit t = true) ∧ (bitsN (2 ^ j * m)).Pairwise (· < ·) ∧ ∀ t ∈ bitsN (2 ^ j * m), j ≤ t := by
  intro m
  induction m using Nat.strongRecOn with
  | _ m ih =>
    intro j h
    by_cases hm : m = 0
    · subst hm; rw [Nat.mul_zero, bitsN_zero]; simp
    have hp : 0 < 2 ^ j := Nat.pow_pos (by decide)
    have hx : 2 ^ j * m ≠ 0 := by have := Nat.mul_pos hp (Nat.pos_of_ne_zero hm); omega
    obtain ⟨m2, e, hk⟩ := Lib.ctzFrom_spec 64 m (Nat.pos_of_ne_zero hm) (by have : m ≤ 2 ^ j * m := Nat.le_mul_of_pos_left _ hp; omega)
    generalize Lib.ctzFrom 64 m = s at e hk
    have e2 : 2 ^ j * m = 2 ^ (j + s) * (2 * m2 + 1) := by rw [e, Nat.pow_add, Nat.mul_assoc]
    have hm2 : m2 < m := by
      rw [e]
      have : 2 * m2 + 1 ≤ 2 ^ s * (2 * m2 + 1) := Nat.le_mul_of_pos_left _ (Nat.pow_pos (by decide))
      omega
    have hle : 2 ^ (j + s + 1) * m2 ≤ 2 ^ (j + s) * (2 * m2 + 1) := by rw [Nat.pow_succ, Nat.mul_assoc]; exact Nat.mul_le_mul_left _ (by omega)
    obtain ⟨i1, i2, i3⟩ := ih m2 hm2 (j + s + 1) (by omega)
    have hctz : Lib.ctz 64 (2 ^ j * m) = j + s := by
      rw [e2] at h ⊢
      obtain ⟨m3, e3, hk3⟩ := Lib.ctzFrom_spec 64 (2 ^ (j + s) * (2 * m2 + 1)) (by have := Nat.mul_pos (Nat.pow_pos (n := j + s) (by decide : 0 < 2)) (by omega : 0 < 2 * m2 + 1); omega) h
      have hc : Lib.ctz 64 (2 ^ (j + s) * (2 * m2 + 1)) = Lib.ctzFrom 64 (2 ^ (j + s) * (2 * m2 + 1)) := by
        first | rfl | (unfold Lib.ctz; rw [if_neg (by omega)])
      rw [hc]
      generalize Lib.ctzFrom 64 (2 ^ (j + s) * (2 * m2 + 1)) = r at e3 hk3
      have t1 := odd_bit r m3 (j + s)
      have t2 := odd_bit (j + s) m2 (j + s)
      have t3 := odd_bit r m3 r
      have t4 := odd_bit (j + s) m2 r
      rw [← e3] at t1 t3
      rw [t2] at t1
      rw [t4] at t3
      rcases Nat.lt_trichotomy r (j + s) with hlt | heq | hgt
      · exfalso
        have z : (2 ^ (j + s + 1) * m2).testBit r = false := by rw [Nat.mul_comm, Nat.testBit_mul_two_pow]; simp; omega
        rw [z] at t3
        simp at t3; omega
      · exact heq
      · exfalso
        have z : (2 ^ (r + 1) * m3).testBit (j + s) = false := by rw [Nat.mul_comm, Nat.testBit_mul_two_pow]; simp; omega
        rw [z] at t1
        simp at t1; omega
    rw [bitsN_pos hx, hctz, e2, and_pred]
    refine ⟨fun t => ?_, ?_, fun t ht => ?_⟩
    · rw [List.mem_cons, i1, odd_bit]; simp
    · rw [List.pairwise_cons]
      exact ⟨fun t ht => by have := i3 t ht; omega, i2⟩
    · rcases List.mem_cons.1 ht with e | ht
      · omega
      · have := i3 t ht; omega
theorem mem_bitsN (w : BitVec 64) (t : Nat) : t ∈ bitsN w.toNat ↔ w.getLsbD t = true := by
  have h := (bitsN_spec w.toNat 0 (by simpa using w.isLt)).1 t
  rw [Nat.pow_zero, Nat.one_mul] at h
  rw [h, BitVec.testBit_toNat]
theorem sorted_bitsN (w : BitVec 64) : (bitsN w.toNat).Pairwise (· < ·) := by
  have h := (bitsN_spec w.toNat 0 (by simpa using w.isLt)).2.1
  rwa [Nat.pow_zero, Nat.one_mul] at h
theorem mem_listW : ∀ (ws : Ws) (i : Nat) (x : Int), x ∈ listW i ws ↔ ∃ j : Nat, x = ((64 * i + j : Nat) : Int) ∧ bitW ws j = true
  | [], i, x => by simp [listW, bitW]
  | w :: ws, i, x => by
    rw [listW, List.mem_append, mem_listW ws (i + 1) x, List.mem_map]
    constructor
    · rintro (⟨t, ht, rfl⟩ | ⟨j, rfl, hj⟩)
      · rw [mem_bitsN] at ht
        have hlt := BitVec.lt_of_getLsbD ht
        refine ⟨t, rfl, ?_⟩
        unfold bitW
        rw [Nat.div_eq_of_lt hlt, Nat.mod_eq_of_lt hlt]; exact ht
      · refine ⟨64 + j, by congr 1; omega, ?_⟩
        unfold bitW at hj ⊢
        have e1 : (64 + j) / 64 = j / 64 + 1 := by omega
        have e2 : (64 + j) % 64 = j % 64 := by omega
        rw [e1, e2, List.getElem?_cons_succ]; exact hj
    · rintro ⟨j, rfl, hj⟩
      by_cases hlt : j < 64
      · left
        refine ⟨j, ?_, rfl⟩
        unfold bitW at hj
        rw [Nat.div_eq_of_lt hlt, Nat.mod_eq_of_lt hlt] at hj
        rw [mem_bitsN]; exact hj
      · right
        refine ⟨j - 64, by congr 1; omega, ?_⟩
        unfold bitW at hj ⊢
        have e1 : j / 64 = (j - 64) / 64 + 1 := by omega
        have e2 : j % 64 = (j - 64) % 64 := by omega
        rw [e1, e2, List.getElem?_cons_succ] at hj; exact hj
theorem sorted_listW : ∀ (ws : Ws) (i : Nat), (listW i ws).Pairwise (· < ·)
  | [], i => by simp [listW]
  | w :: ws, i => by
    rw [listW, List.pairwise_append]
    refine ⟨?_, sorted_listW ws (i + 1), fun x hx y hy => ?_⟩
    · rw [List.pairwise_map]
      exact (sorted_bitsN w).imp fun h => by omega
    · rw [List.mem_map] at hx
      obtain ⟨t, ht, rfl⟩ := hx
      rw [mem_bitsN] at ht
      have hlt := BitVec.lt_of_getLsbD ht
      obtain ⟨j, rfl, _⟩ := (mem_listW ws (i + 1) y).1 hy
      omega
end Go.Proofs.YtjjfehdlmdhhmaaDoor
end
