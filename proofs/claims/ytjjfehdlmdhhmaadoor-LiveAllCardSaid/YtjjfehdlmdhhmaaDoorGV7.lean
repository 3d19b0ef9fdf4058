/- small: is a function small? Walked. -/
import Derived.Test.YtjjfehdlmdhhmaaDoorGL7
import Derived.Test.YtjjfehdlmdhhmaaDoorGV1
section
/- small: is a function small? Walked. -/
namespace Go.Proofs.YtjjfehdlmdhhmaaDoor
open Go.Sep
set_option linter.unusedSimpArgs false
set_option linter.unusedVariables false
attribute [local irreducible] blk slA mp mpF rows rowsBut many
/-- what an argument's reading bounds -/
structure WideF (F : LFun) : Prop where
  name : F.name.size ≤ 140737488355327
  params : F.params.length ≤ 17592186044416
  blocks : F.blocks.length ≤ 17592186044416
  tos : ∀ b ∈ F.blocks, b.to.length ≤ 17592186044416
  bodies : ∀ b ∈ F.blocks, b.body.length ≤ 17592186044416
  args : ∀ b ∈ F.blocks, ∀ x ∈ b.body, x.args.length ≤ 17592186044416
def smallB (b : LBlk) : Prop := b.to.length ≤ 300000 ∧ b.body.length ≤ 300000 ∧ ∀ x ∈ b.body, x.args.length ≤ 300000
/-- what small tells -/
structure TinyF (F : LFun) : Prop where
  params : F.params.length ≤ 300000
  blocks : F.blocks.length ≤ 600
  each : ∀ b ∈ F.blocks, smallB b
theorem TinyF.small {F : LFun} (h : TinyF F) : SmallF F :=
  ⟨fun b hb => by have := (h.each b hb).2.1; omega, fun b hb => by have := (h.each b hb).1; omega, fun b hb x hx => by have := (h.each b hb).2.2 x hx; omega⟩
theorem und_9 : Tryd.prog.underlying 9 = some .string := by kernel_rfl
theorem quo65 {a : Nat} (h : a ≤ 140737488355327) : IntKind.i64.wrap ((a : Int).tdiv 65) = ((a / 65 : Nat) : Int) := by
  have e : (a : Int).tdiv 65 = ((a / 65 : Nat) : Int) := (Int.ofNat_tdiv a 65).symm
  rw [e]
  exact wrapI (by omega) (by omega)
set_option maxHeartbeats 2000000 in
set_option maxRecDepth 100000 in
theorem small_ok (hR : Heap) (F : LFun) (su sv : SV) (hu : SlR rdI hR su.val F.params) (hv : SlR rdBlk hR sv.val F.blocks) (hW : WideF F) :
    Tri Tryd.prog hR 10 #[.agg ⟨fcs F su sv⟩] [] fun u Γ' => (∃ s : Bool, u = .bool s ∧ (s = true → TinyF F)) ∧ Γ' = [] := by
  refine Tri.ent (Tri.of (args := [.agg ⟨fcs F su sv⟩]) Tryd.func10 rfl Tryd.ntmps10 (by simp) ?_)
  have w1 := hW.name
  have w2 := hW.params
  have w3 := hW.blocks
  refine Zp ?_
  refine Run.box rfl rfl rfl rfl rfl ?_
  intro b1
  refine Zm ?_
  refine Ze ?_
  refine Zp ?_
  refine Zf fo_25_0 ?_
  refine Zl 0 ag_9 ?_
  refine Run.lenStr rfl rfl und_9 rfl rfl ?_
  refine Zi ?_
  refine Run.eqv (v' := .int .i64 ((F.name.size / 65 : Nat) : Int)) (by rw [quo65 w1]) ?_
  refine Zf fo_25_4 ?_
  refine Zl 0 ag_23 ?_
  refine Zh sl_23 hv ?_
  refine Za ?_
  refine Zf fo_25_1 ?_
  refine Zl 0 ag_22 ?_
  refine Zh sl_22 hu ?_
  refine Za ?_
  refine Zm ?_
  refine Ze ?_
  obtain ⟨n0, hn0, e0⟩ : ∃ n0 : Nat, (n0 : Int) = ((F.name.size / 65 : Nat) : Int) + (F.blocks.length : Int) + (F.params.length : Int) ∧ F.blocks.length ≤ n0 ∧ F.params.length ≤ n0 ∧ n0 ≤ 4000000000000000 := ⟨F.name.size / 65 + F.blocks.length + F.params.length, by omega, by omega⟩
  refine WP.sup (ρ' := [(3, .int .i64 (n0 : Int)), (1, .pointer (some ⟨b1, 0, none⟩))]) (Γ' := [blk b1 (fcs F su sv) 25]) (covers_get ⟨by rw [hn0]; rfl, rfl, trivial⟩) ent.go ?_
  clear hn0
  refine WP.meetK (α := Nat) (fun n => F.blocks.length ≤ n ∧ F.params.length ≤ n ∧ n ≤ 5000000000000000000) (fun n => [(3, .int .i64 (n : Int))]) (fun n => [blk b1 (fcs F su sv) 25]) ?_ ?_
  · refine WP.seq ?_
    by_cases h0 : F.regs > 0
    · by_cases h1 : F.regs ≤ 262144
      · refine Zc ?_
        refine Zf fo_25_2 ?_
        refine Zl 0 ag_3 ?_
        refine Zi ?_
        refine Run.tt h0 ?_
        refine Zm ?_
        refine Zf fo_25_2 ?_
        refine Zl 0 ag_3 ?_
        refine Zi ?_
        refine Run.tt h1 ?_
        refine Zq ?_
        refine Ze ?_
        refine Zyes ?_
        obtain ⟨r, hr⟩ : ∃ r : Nat, F.regs = (r : Int) := ⟨F.regs.toNat, by omega⟩
        have hp : F.blocks.length * r ≤ 17592186044416 * 262144 := Nat.mul_le_mul w3 (by omega)
        have hpi : (F.blocks.length : Int) * F.regs = ((F.blocks.length * r : Nat) : Int) := by rw [hr, Int.natCast_mul]
        refine Zc ?_
        refine Zm ?_
        refine Zf fo_25_4 ?_
        refine Zl 0 ag_23 ?_
        refine Zh sl_23 hv ?_
        refine Zf fo_25_2 ?_
        refine Zl 0 ag_3 ?_
        refine Zu ?_
        refine Run.eqv (v' := .int .i64 ((F.blocks.length * r : Nat) : Int)) (by rw [← hpi]) ?_
        refine Za ?_
        refine Zm ?_
        refine Run.nil ?_
        exact thn_next ⟨n0 + F.blocks.length * r, ⟨by omega, by omega, by omega⟩, ⟨(by repeat first | exact trivial | refine ⟨rfl, ?_⟩), rfl, rfl⟩, ent.go⟩
      · refine Zc ?_
        refine Zf fo_25_2 ?_
        refine Zl 0 ag_3 ?_
        refine Zi ?_
        refine Run.tt h0 ?_
        refine Zm ?_
        refine Zf fo_25_2 ?_
        refine Zl 0 ag_3 ?_
        refine Zi ?_
        refine Run.ff h1 ?_
        refine Zq ?_
        refine Ze ?_
        refine Zno ?_
        refine WP.skip ?_
        exact thn_next ⟨n0, ⟨by omega, by omega, by omega⟩, ⟨(by repeat first | exact trivial | refine ⟨rfl, ?_⟩), rfl, rfl⟩, ent.go⟩
    · refine Zc ?_
      refine Zf fo_25_2 ?_
      refine Zl 0 ag_3 ?_
      refine Zi ?_
      refine Run.ff h0 ?_
      refine Zm ?_
      iterate 3 refine Zv ?_
      refine Zq ?_
      refine Ze ?_
      refine Zno ?_
      refine WP.skip ?_
      exact thn_next ⟨n0, ⟨by omega, by omega, by omega⟩, ⟨(by repeat first | exact trivial | refine ⟨rfl, ?_⟩), rfl, rfl⟩, ent.go⟩
  rintro n ⟨hn1, hn2, hn3⟩
  refine WP.sup (ρ' := [(3, .int .i64 (n : Int)), (1, .pointer (some ⟨b1, 0, none⟩))]) (Γ' := [blk b1 (fcs F su sv) 25]) (covers_get ⟨rfl, rfl, trivial⟩) ent.go ?_
  clear e0 n0
  refine WP.meetK (α := Nat) (fun z => n ≤ z ∧ z ≤ 5000000000000000000 ∧ (z ≤ 300000 → ∀ b ∈ F.blocks, smallB b)) (fun z => [(3, .int .i64 (z : Int))]) (fun z => [blk b1 (fcs F su sv) 25]) ?_ ?_
  · refine Zp ?_
    refine Zm ?_
    refine Ze ?_
    refine WP.block ?_
    refine WP.loopK (α := Nat × Nat) (fun z => z.1 ≤ F.blocks.length ∧ n ≤ z.2 ∧ z.2 ≤ 5000000000000000000 ∧ (z.2 ≤ 300000 → ∀ (k : Nat) (b : LBlk), k < z.1 → F.blocks[k]? = some b → smallB b)) (fun z => [(4, .int .i64 (z.1 : Int)), (3, .int .i64 (z.2 : Int))]) (fun z => [blk b1 (fcs F su sv) 25]) (fun z => F.blocks.length - z.1) (0, n) ⟨Nat.zero_le _, Nat.le_refl _, hn3, fun _ k b h => by omega⟩ ⟨(by repeat first | exact trivial | refine ⟨rfl, ?_⟩), rfl, rfl⟩ ent.go ?_
    rintro ⟨i, z⟩ ⟨hi, hz1, hz2, hz3⟩
    simp only at hi hz1 hz2 hz3 ⊢
    refine WP.seq ?_
    refine WP.seq ?_
    by_cases hlt : (i : Int) < (F.blocks.length : Int)
    · by_cases hz : (z : Int) ≤ 300000
      · refine Zc ?_
        refine Zm ?_
        refine Zf fo_25_4 ?_
        refine Zl 0 ag_23 ?_
        refine Zh sl_23 hv ?_
        refine Zi ?_
        refine Run.tt hlt ?_
        refine Zm ?_
        refine Zm ?_
        refine Zi ?_
        refine Run.tt hz ?_
        refine Zq ?_
        refine Ze ?_
        refine Zyes ?_
        refine Zb ?_
        obtain ⟨b, gB⟩ : ∃ y, F.blocks[(i : Int).toNat]? = some y := ⟨_, List.getElem?_eq_getElem (by omega)⟩
        have gB' : F.blocks[i]? = some b := gB
        have hbm := List.mem_of_getElem? gB'
        have hb1 := hW.tos b hbm
        have hb2 := hW.bodies b hbm
        have hb3 := hW.args b hbm
        obtain ⟨_, ⟨bu, bt, rfl, hbu, hbt⟩, hrow⟩ := hv.at gB
        have r0 : cellH hR ((elemAddr sv.val (i * 4)).add 0) bu := by have := hrow 0 _ rfl; exact this
        have r3 : cellH hR (((elemAddr sv.val (i * 4)).add 1).add 2) bt := by have := hrow 3 _ rfl; rw [add_plus]; exact this
        refine WP.sup (ρ' := [(4, .int .i64 (i : Int)), (3, .int .i64 (z : Int)), (4, .int .i64 0), (3, .int .i64 (n : Int)), (1, .pointer (some ⟨b1, 0, none⟩))]) (Γ' := [blk b1 (fcs F su sv) 25]) (Kp.sup (car := [(4, .int .i64 (i : Int)), (3, .int .i64 (z : Int))]) (ρ := [(4, .int .i64 0), (3, .int .i64 (n : Int)), (1, .pointer (some ⟨b1, 0, none⟩))]) ⟨(by repeat first | exact trivial | refine ⟨rfl, ?_⟩), rfl, rfl⟩) ent.go ?_
        refine WP.meetK (α := Nat) (fun y => z ≤ y ∧ y ≤ 5000000000000000000 ∧ (y ≤ 300000 → smallB b)) (fun y => [(3, .int .i64 (y : Int))]) (fun y => [blk b1 (fcs F su sv) 25]) ?_ ?_
        · refine WP.block ?_
          refine Zp ?_
          refine Zm ?_
          refine Zf fo_25_4 ?_
          refine Zl 0 ag_23 ?_
          refine Zm ?_
          refine Zx sl_23 hv ?_
          refine Zf fo_56_1 ?_
          refine Zf fo_54_2 ?_
          refine Zr ag_22 r3 ?_
          refine Zh sl_22 hbt ?_
          refine Za ?_
          refine Zm ?_
          refine Ze ?_
          refine Zp ?_
          refine Zm ?_
          refine Ze ?_
          refine WP.sup (ρ' := [(5, .int .i64 0), (3, .int .i64 ((z + b.to.length : Nat) : Int)), (4, .int .i64 (i : Int)), (3, .int .i64 (z : Int)), (4, .int .i64 0), (3, .int .i64 (n : Int)), (1, .pointer (some ⟨b1, 0, none⟩))]) (Γ' := [blk b1 (fcs F su sv) 25]) (Kp.sup (car := [(5, .int .i64 0), (3, .int .i64 ((z + b.to.length : Nat) : Int))]) (ρ := [(4, .int .i64 (i : Int)), (3, .int .i64 (z : Int)), (4, .int .i64 0), (3, .int .i64 (n : Int)), (1, .pointer (some ⟨b1, 0, none⟩))]) ⟨(by repeat first | exact trivial | refine ⟨rfl, ?_⟩), rfl, rfl⟩) ent.go ?_
          refine WP.block ?_
          refine WP.loopK (α := Nat × Nat) (fun y => y.1 ≤ b.body.length ∧ z + b.to.length + y.1 ≤ y.2 ∧ y.2 ≤ 5000000000000000000 ∧ (y.2 ≤ 300000 → ∀ (k : Nat) (x : LIns), k < y.1 → b.body[k]? = some x → x.args.length ≤ 300000)) (fun y => [(5, .int .i64 (y.1 : Int)), (3, .int .i64 (y.2 : Int))]) (fun y => [blk b1 (fcs F su sv) 25]) (fun y => b.body.length - y.1) (0, z + b.to.length) ⟨Nat.zero_le _, by simp, by simp only; omega, fun _ k x h => by omega⟩ ⟨(by repeat first | exact trivial | refine ⟨rfl, ?_⟩), rfl, rfl⟩ ent.go ?_
          rintro ⟨j, y⟩ ⟨hj, hy1, hy2, hy3⟩
          simp only at hj hy1 hy2 hy3 ⊢
          refine WP.seq ?_
          refine WP.seq ?_
          by_cases hlt2 : (j : Int) < (b.body.length : Int)
          · by_cases hy : (y : Int) ≤ 300000
            · refine Zc ?_
              refine Zm ?_
              refine Zf fo_25_4 ?_
              refine Zl 0 ag_23 ?_
              refine Zm ?_
              refine Zx sl_23 hv ?_
              refine Zf fo_56_0 ?_
              refine Zr ag_52 r0 ?_
              refine Zh sl_52 hbu ?_
              refine Zi ?_
              refine Run.tt hlt2 ?_
              refine Zm ?_
              refine Zm ?_
              refine Zi ?_
              refine Run.tt hy ?_
              refine Zq ?_
              refine Ze ?_
              refine Zyes ?_
              refine Zb ?_
              obtain ⟨x, gx⟩ : ∃ y, b.body[(j : Int).toNat]? = some y := ⟨_, List.getElem?_eq_getElem (by omega)⟩
              have gx' : b.body[j]? = some x := gx
              have hx3 := hb3 x (List.mem_of_getElem? gx')
              obtain ⟨_, ⟨xa, rfl, hxa⟩, hxrow⟩ := hbu.at gx
              have x3 : cellH hR ((elemAddr bu (j * 4)).add 3) xa := by have := hxrow 3 _ rfl; exact this
              refine WP.seq ?_
              refine WP.block ?_
              refine Zc ?_
              refine Zm ?_
              refine Zf fo_25_4 ?_
              refine Zl 0 ag_23 ?_
              refine Zm ?_
              refine Zx sl_23 hv ?_
              refine Zf fo_56_0 ?_
              refine Zr ag_52 r0 ?_
              refine Zm ?_
              refine Zx sl_52 hbu ?_
              refine Zf fo_67_3 ?_
              refine Zr ag_22 x3 ?_
              refine Zh sl_22 hxa ?_
              refine Za ?_
              refine Za ?_
              refine Zm ?_
              refine Run.nil ?_
              refine blk_norm ?_; refine thn_next ?_
              refine Zc ?_
              refine Zm ?_
              refine Za ?_
              refine Zm ?_
              refine Run.nil ?_
              refine thn_next ⟨(j + 1, y + (1 + x.args.length)), ⟨by simp only; omega, by simp only; omega, by simp only; omega, fun hs k x' hk gk => ?_⟩, by simp only; omega, ⟨(by repeat first | exact trivial | refine ⟨rfl, ?_⟩), rfl, rfl⟩, ent.go⟩
              simp only at hs hk
              by_cases e : k = j
              · subst e; rw [gx'] at gk; cases gk; omega
              · exact hy3 (by omega) k x' (by omega) gk
            · refine Zc ?_
              refine Zm ?_
              refine Zf fo_25_4 ?_
              refine Zl 0 ag_23 ?_
              refine Zm ?_
              refine Zx sl_23 hv ?_
              refine Zf fo_56_0 ?_
              refine Zr ag_52 r0 ?_
              refine Zh sl_52 hbu ?_
              refine Zi ?_
              refine Run.tt hlt2 ?_
              refine Zm ?_
              refine Zm ?_
              refine Zi ?_
              refine Run.ff hy ?_
              refine Zq ?_
              refine Ze ?_
              refine Zno ?_
              refine Zj ?_; refine blk_norm ?_
              exact thn_next ⟨y, ⟨by omega, hy2, fun h => by omega⟩, ⟨(by repeat first | exact trivial | refine ⟨rfl, ?_⟩), rfl, rfl⟩, ent.go⟩
          · refine Zc ?_
            refine Zm ?_
            refine Zf fo_25_4 ?_
            refine Zl 0 ag_23 ?_
            refine Zm ?_
            refine Zx sl_23 hv ?_
            refine Zf fo_56_0 ?_
            refine Zr ag_52 r0 ?_
            refine Zh sl_52 hbu ?_
            refine Zi ?_
            refine Run.ff hlt2 ?_
            refine Zm ?_
            refine Zv ?_
            refine Zv ?_
            refine Zq ?_
            refine Ze ?_
            refine Zno ?_
            refine Zj ?_; refine blk_norm ?_
            refine thn_next ⟨y, ⟨by omega, hy2, fun h => ⟨by omega, by omega, fun x hx => ?_⟩⟩, ⟨(by repeat first | exact trivial | refine ⟨rfl, ?_⟩), rfl, rfl⟩, ent.go⟩
            obtain ⟨k, hk⟩ := List.getElem?_of_mem hx
            exact hy3 h k x (by have := (List.getElem?_eq_some_iff.1 hk).1; omega) hk
        rintro y ⟨hy1, hy2, hy3⟩
        refine Zc ?_
        refine Zm ?_
        refine Za ?_
        refine Zm ?_
        refine Run.nil ?_
        refine thn_next ⟨(i + 1, y), ⟨by simp only; omega, by simp only; omega, by simp only; omega, fun hs k b' hk gk => ?_⟩, by simp only; omega, ⟨(by repeat first | exact trivial | refine ⟨rfl, ?_⟩), rfl, rfl⟩, ent.go⟩
        simp only at hs hk
        by_cases e : k = i
        · subst e; rw [gB'] at gk; cases gk; exact hy3 hs
        · exact hz3 (by omega) k b' (by omega) gk
      · refine Zc ?_
        refine Zm ?_
        refine Zf fo_25_4 ?_
        refine Zl 0 ag_23 ?_
        refine Zh sl_23 hv ?_
        refine Zi ?_
        refine Run.tt hlt ?_
        refine Zm ?_
        refine Zm ?_
        refine Zi ?_
        refine Run.ff hz ?_
        refine Zq ?_
        refine Ze ?_
        refine Zno ?_
        refine Zj ?_
        exact thn_next ⟨z, ⟨hz1, hz2, fun h => by omega⟩, ⟨(by repeat first | exact trivial | refine ⟨rfl, ?_⟩), rfl, rfl⟩, ent.go⟩
    · refine Zc ?_
      refine Zm ?_
      refine Zf fo_25_4 ?_
      refine Zl 0 ag_23 ?_
      refine Zh sl_23 hv ?_
      refine Zi ?_
      refine Run.ff hlt ?_
      refine Zm ?_
      refine Zv ?_
      refine Zv ?_
      refine Zq ?_
      refine Ze ?_
      refine Zno ?_
      refine Zj ?_
      refine thn_next ⟨z, ⟨hz1, hz2, fun h b hb => ?_⟩, ⟨(by repeat first | exact trivial | refine ⟨rfl, ?_⟩), rfl, rfl⟩, ent.go⟩
      obtain ⟨k, hk⟩ := List.getElem?_of_mem hb
      exact hz3 h k b (by have := (List.getElem?_eq_some_iff.1 hk).1; omega) hk
  rintro z ⟨hz1, hz2, hz3⟩
  refine WP.seq ?_
  by_cases hz : (z : Int) ≤ 300000
  · refine Zc ?_
    refine Zm ?_
    refine Zi ?_
    refine Run.tt hz ?_
    refine Zm ?_
    refine Zf fo_25_4 ?_
    refine Zl 0 ag_23 ?_
    refine Zh sl_23 hv ?_
    refine Zi ?_
    refine Zq ?_
    refine Zm ?_
    refine Ze ?_
    refine WP.ret ?_
    exact retT [2] _ rfl rfl ⟨_, ent.none _, ⟨_, rfl, fun h => ⟨by omega, by have := of_decide_eq_true h; omega, hz3 (by omega)⟩⟩, rfl⟩
  · refine Zc ?_
    refine Zm ?_
    refine Zi ?_
    refine Run.ff hz ?_
    refine Zm ?_
    iterate 4 refine Zv ?_
    refine Zq ?_
    refine Zm ?_
    refine Ze ?_
    refine WP.ret ?_
    exact retT [2] _ rfl rfl ⟨_, ent.none _, ⟨false, rfl, fun h => by cases h⟩, rfl⟩
end Go.Proofs.YtjjfehdlmdhhmaaDoor
end
