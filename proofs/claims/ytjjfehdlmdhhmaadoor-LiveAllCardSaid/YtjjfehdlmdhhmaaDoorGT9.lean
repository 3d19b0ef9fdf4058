/- Intervals that grow: a place is met; a block is met; walked. -/
import Derived.Test.YtjjfehdlmdhhmaaDoorGL7
import Derived.Test.YtjjfehdlmdhhmaaDoorGT8
import Derived.Test.YtjjfehdlmdhhmaaDoorGT6
section
/- Intervals that grow: a place is met; a block is met; walked. -/
namespace Go.Proofs.YtjjfehdlmdhhmaaDoor
open Go.Sep
set_option linter.unusedSimpArgs false
set_option linter.unusedVariables false
attribute [local irreducible] blk slA mp mpF rows rowsBut many
def meetI (x : Iv) (r p : Int) : Iv := if x.reg < 0 then ⟨r, p, p⟩ else ⟨x.reg, min x.fr p, max x.to p⟩
def meetS (s : List Iv) (r p : Int) : List Iv := match s[r.toNat]? with | some x => s.set r.toNat (meetI x r p) | none => s
def meetsS (s : List Iv) (p : Int) (rs : List Int) : List Iv := rs.foldl (fun s r => meetS s r p) s
def insS (k : Int) (s : List Iv) (x : LIns) : List Iv := if 0 ≤ x.dst then meetS (meetsS s (2 * k) x.args) x.dst (2 * k + 1) else meetsS s (2 * k) x.args
def bodyS : Int → List Iv → List LIns → List Iv
  | _, s, [] => s
  | k, s, x :: xs => bodyS (k + 1) (insS (k + 1) s x) xs
def termS (s : List Iv) (v p : Int) : List Iv := if 0 ≤ v then meetS s v p else s
def blockS (ah be : List Int) (b : LBlk) (k : Int) (s : List Iv) : List Iv :=
  meetsS (termS (bodyS k (meetsS s (2 * (k + 1)) ah) b.body) b.value (2 * (k + b.body.length + 1))) (2 * (k + b.body.length + 1) + 1) be
theorem meetS_len (s : List Iv) (r p : Int) : (meetS s r p).length = s.length := by unfold meetS; split <;> simp
theorem meetsS_len : ∀ (rs : List Int) (s : List Iv) (p : Int), (meetsS s p rs).length = s.length
  | [], _, _ => rfl
  | r :: rs, s, p => by unfold meetsS; rw [List.foldl_cons]; have := meetsS_len rs (meetS s r p) p; unfold meetsS at this; rw [this, meetS_len]
theorem insS_len (k : Int) (s : List Iv) (x : LIns) : (insS k s x).length = s.length := by unfold insS; split <;> simp [meetS_len, meetsS_len]
theorem bodyS_len : ∀ (xs : List LIns) (k : Int) (s : List Iv), (bodyS k s xs).length = s.length
  | [], _, _ => rfl
  | x :: xs, k, s => by rw [bodyS, bodyS_len xs, insS_len]
theorem termS_len (s : List Iv) (v p : Int) : (termS s v p).length = s.length := by unfold termS; split <;> simp [meetS_len]
theorem blockS_len (ah be : List Int) (b : LBlk) (k : Int) (s : List Iv) : (blockS ah be b k s).length = s.length := by unfold blockS; rw [meetsS_len, termS_len, bodyS_len, meetsS_len]
set_option maxRecDepth 100000 in
theorem meet_ok (hR : Heap) (sv : SV) (s : List Iv) (r p : Int) (h0 : 0 ≤ r) (h1 : r < (s.length : Int)) :
    Tri Tryd.prog hR 40 #[sv.val, .int .i64 r, .int .i64 p] [slA 62 encIv sv.val s] fun _ Γ' => Γ' = [slA 62 encIv sv.val (meetS s r p)] := by
  refine Tri.ent (Tri.of (args := [sv.val, .int .i64 r, .int .i64 p]) Tryd.func40 rfl Tryd.ntmps40 (by simp) ?_)
  obtain ⟨x, gx⟩ : ∃ y, s[r.toNat]? = some y := ⟨_, List.getElem?_eq_getElem (by omega)⟩
  have em : meetS s r p = s.set r.toNat (meetI x r p) := by unfold meetS; rw [gx]
  rw [em]
  refine Zp ?_
  refine Zm ?_
  refine Zm ?_
  refine Run.idxO 0 rfl rfl rfl sl_97 rfl rfl rfl rfl (by omega) (by omega) ?_
  refine Zm ?_
  refine Ze ?_
  refine WP.seq ?_
  refine Zp ?_
  refine Zm ?_
  refine Zn ?_
  refine Zf fo_62_0 ?_
  refine Run.loadO 0 r.toNat 0 rfl rfl ag_3 rfl rfl rfl rfl gx rfl ?_
  refine Zi ?_
  refine Ze ?_
  refine WP.ite rfl (fun h => ?_) (fun h => ?_)
  · have e : meetI x r p = ⟨r, p, p⟩ := by unfold meetI; rw [if_pos h]
    rw [e]
    refine Zp ?_
    iterate 4 refine Zm ?_
    refine Run.build rfl bd_62 rfl rfl rfl rfl ?_
    refine Zn ?_
    refine Run.storeO 0 r.toNat 0 (y' := (⟨r, p, p⟩ : Iv)) rfl rfl rfl rfl ag_62 rfl rfl rfl rfl gx rfl rfl ?_
    refine Ze ?_
    refine WP.ret ?_; refine thn_ret ?_
    exact retT [] [] rfl rfl ⟨_, ent.gn, rfl⟩
  · have e : meetI x r p = ⟨x.reg, min x.fr p, max x.to p⟩ := by unfold meetI; rw [if_neg h]
    rw [e]
    refine Zb ?_
    have g2 : (s.set r.toNat ⟨x.reg, min x.fr p, x.to⟩)[r.toNat]? = some (⟨x.reg, min x.fr p, x.to⟩ : Iv) := List.getElem?_set_self (by omega)
    refine WP.drawn0 cf0 mixed rfl (by kernel_rfl) ?_
    iterate 3 refine Zm ?_
    refine Zn ?_
    refine Zf fo_62_1 ?_
    refine Run.loadO 0 r.toNat 1 rfl rfl ag_3 rfl rfl rfl rfl gx rfl ?_
    refine Zm ?_
    refine Run.min2 rfl rfl rfl rfl rfl ?_
    refine Zm ?_
    refine Zn ?_
    refine Zf fo_62_2 ?_
    refine Run.loadO 0 r.toNat 2 rfl rfl ag_3 rfl rfl rfl rfl gx rfl ?_
    refine Zm ?_
    refine Run.max2 rfl rfl rfl rfl rfl ?_
    refine Zn ?_
    refine Zf fo_62_1 ?_
    refine Run.storeO 0 r.toNat 1 (y' := (⟨x.reg, min x.fr p, x.to⟩ : Iv)) rfl rfl rfl rfl ag_3 rfl rfl rfl rfl gx rfl rfl ?_
    refine Zn ?_
    refine Zf fo_62_2 ?_
    refine Run.storeO 0 r.toNat 2 (y' := (⟨x.reg, min x.fr p, max x.to p⟩ : Iv)) rfl rfl rfl rfl ag_3 rfl rfl rfl rfl g2 rfl rfl ?_
    refine Run.nil ?_
    refine retN [] [] rfl rfl ⟨_, ?_, rfl⟩
    simp only [List.set_cons_zero, List.set_set]
    exact ent.go
end Go.Proofs.YtjjfehdlmdhhmaaDoor
end
section
/- All places of a block; walked. -/
namespace Go.Proofs.YtjjfehdlmdhhmaaDoor
open Go.Sep
set_option linter.unusedSimpArgs false
set_option linter.unusedVariables false
attribute [local irreducible] blk slA mp mpF rows rowsBut many
structure FlowQ (hR : Heap) (pw pF : Addr) (nv av bv : SV) (names : List Int) (As Bs : List Ws) : Prop where
  c0 : cellH hR (pw.add 0) (.pointer (some pF))
  c2 : cellH hR (pw.add 2) nv.val
  c3 : cellH hR (pw.add 3) av.val
  c4 : cellH hR (pw.add 4) bv.val
  hn : SlR rdI hR nv.val names
  ha : SlR Enc.u64.rd.slice hR av.val As
  hb : SlR Enc.u64.rd.slice hR bv.val Bs
  sm : names.length ≤ 1000000
set_option maxHeartbeats 1000000 in
set_option maxRecDepth 100000 in
theorem block_ok (hR : Heap) (hT : TabH hR) (pw pF : Addr) (F : LFun) (u v : Value) (nv av bv sv : SV) (names : List Int) (As Bs : List Ws) (hF : FunAt hR pF F u v) (hS : SmallF F) (hG : RegsF F) (hQ : FlowQ hR pw pF nv av bv names As Bs)
    (bi : Nat) (b : LBlk) (a w : Ws) (ah be : List Int) (gb : F.blocks[bi]? = some b) (ga : As[bi]? = some a) (gw : Bs[bi]? = some w) (la : a.length ≤ 1000000) (lw : w.length ≤ 1000000)
    (ea : (listW 0 a).map (nameOf names) = ah) (eb : (listW 0 w).map (nameOf names) = be) (ia : ∀ t ∈ listW 0 a, 0 ≤ t ∧ t < (names.length : Int)) (ib : ∀ t ∈ listW 0 w, 0 ≤ t ∧ t < (names.length : Int))
    (hah : ∀ r ∈ ah, 0 ≤ r ∧ r < F.regs) (hbe : ∀ r ∈ be, 0 ≤ r ∧ r < F.regs) (s : List Iv) (hsR : (s.length : Int) = F.regs) (k : Int) (hk0 : 0 ≤ k) (hk1 : k ≤ 4000000000000) :
    Tri Tryd.prog hR 41 #[sv.val, .pointer (some pw), .int .i64 (bi : Int), .int .i64 k] [slA 62 encIv sv.val s] fun _ Γ' => Γ' = [slA 62 encIv sv.val (blockS ah be b k s)] := by
  refine Tri.ent (Tri.of (args := [sv.val, .pointer (some pw), .int .i64 (bi : Int), .int .i64 k]) Tryd.func41 rfl Tryd.ntmps41 (by simp) ?_)
  have c4 := hF.c4
  have hv := hF.hv
  have sb := hF.sb
  have hblt : bi < F.blocks.length := (List.getElem?_eq_some_iff.1 gb).1
  have halt : bi < As.length := (List.getElem?_eq_some_iff.1 ga).1
  have hwlt : bi < Bs.length := (List.getElem?_eq_some_iff.1 gw).1
  have hbm := List.mem_of_getElem? gb
  have hb1 := hS.bodies b hbm
  have hb3 := hS.args b hbm
  have hga := hG.args b hbm
  have hgd := hG.dst b hbm
  have hgv := hG.val b hbm
  have hQm := hQ.sm
  have hahl : ah.length ≤ 64000000 := by rw [← ea, List.length_map]; have := listW_len a 0; omega
  have hbel : be.length ≤ 64000000 := by rw [← eb, List.length_map]; have := listW_len w 0; omega
  obtain ⟨ua, cua, hua⟩ := hQ.ha.rowV ga
  obtain ⟨uw, cuw, huw⟩ := hQ.hb.rowV gw
  obtain ⟨_, ⟨bu0, bv0, rfl, hbu, hbv⟩, hrow⟩ := hv.at gb
  obtain ⟨bu, rfl, _, _⟩ := SlR.sv hbu
  obtain ⟨bv2, rfl, _, _⟩ := SlR.sv hbv
  have r0 : cellH hR ((elemAddr v (bi * 4)).add 0) bu.val := by have := hrow 0 _ rfl; exact this
  have r2 : cellH hR (((elemAddr v (bi * 4)).add 1).add 1) (.int .i64 b.value) := by have := hrow 2 _ rfl; rw [add_plus]; exact this
  obtain ⟨cs, us, hcs⟩ := cs_of hbu
  refine Zp ?_
  refine Zm ?_
  refine Zn ?_
  refine Zf fo_87_0 ?_
  refine Zr ag_79 hQ.c0 ?_
  refine Zn ?_
  refine Zf fo_25_4 ?_
  refine Zr ag_23 c4 ?_
  refine Zm ?_
  refine Zx sl_23 hv ?_
  refine Zm ?_
  refine Ze ?_
  refine WP.sup (ρ' := [(0, sv.val), (1, .pointer (some pw)), (2, .int .i64 (bi : Int)), (3, .int .i64 k), (8, .pointer (some (elemAddr v (bi * 4))))]) (Γ' := [slA 62 encIv sv.val s]) (covers_get ⟨rfl, rfl, rfl, rfl, rfl, trivial⟩) (ent.refl _) ?_
  unfold blockS
  -- ahead
  refine WP.meetK (α := Unit) (fun _ => True) (fun _ => []) (fun _ => [slA 62 encIv sv.val (meetsS s (2 * (k + 1)) ah)]) ?_ ?_
  · refine Zp ?_
    refine Zm ?_
    refine Zm ?_
    refine Zn ?_
    refine Zf fo_87_3 ?_
    refine Zr ag_85 hQ.c3 ?_
    refine Zm ?_
    refine Zx sl_85 hQ.ha ?_
    refine Zr ag_84 cua ?_
    refine Run.call (Δ := []) (Θ := [slA 62 encIv sv.val s]) rfl rfl rfl rfl ok_33 rfl rfl ent.go (told_ok hR hT pw nv.val names ua a hQ.c2 hQ.hn hua la ia hQm) ?_; rintro _ _ ⟨tv, rfl, _, rfl⟩; rw [ea]
    refine Run.lenO 0 rfl rfl sl_22 rfl rfl rfl ?_
    refine Zm ?_
    refine Ze ?_
    refine WP.block ?_
    refine WP.loopK (α := Nat × List Iv) (fun z => z.1 ≤ ah.length ∧ z.2.length = s.length ∧ meetsS z.2 (2 * (k + 1)) (ah.drop z.1) = meetsS s (2 * (k + 1)) ah) (fun z => [(36, .int .i64 (z.1 : Int))]) (fun z => [slA 62 encIv sv.val z.2, slA 3 (Enc.int .i64) tv.val ah]) (fun z => ah.length - z.1) (0, s) ⟨Nat.zero_le _, rfl, rfl⟩ ⟨(by repeat first | exact trivial | refine ⟨rfl, ?_⟩), rfl, rfl⟩ ent.go ?_
    rintro ⟨i, s1⟩ ⟨hi, hsl, hz⟩
    simp only at hi hsl hz ⊢
    refine Zp ?_
    refine Zi ?_
    refine Ze ?_
    refine WP.seq ?_
    refine WP.ite rfl (fun hlt => ?_) (fun hge => ?_)
    · refine Zb ?_
      obtain ⟨r, gr⟩ : ∃ y, ah[i]? = some y := ⟨_, List.getElem?_eq_getElem (by omega)⟩
      have hdr : ah.drop i = r :: ah.drop (i + 1) := by rw [List.drop_eq_getElem_cons (by omega)]; congr 1; rw [List.getElem?_eq_getElem (by omega)] at gr; exact Option.some.inj gr
      obtain ⟨r0, r1⟩ := hah r (List.mem_of_getElem? gr)
      rw [hdr] at hz
      refine WP.seq ?_
      refine WP.block ?_
      refine Zp ?_
      refine Run.idxO 1 rfl rfl rfl sl_22 rfl rfl rfl rfl (by omega) (by omega) ?_
      refine Run.loadO 1 i 0 rfl rfl ag_3 rfl rfl rfl rfl gr rfl ?_
      refine Zm ?_
      refine Ze ?_
      refine Zc ?_
      iterate 3 refine Zm ?_
      refine Za ?_
      refine Zu ?_
      refine Run.call (Δ := [slA 62 encIv sv.val s1]) (Θ := [slA 3 (Enc.int .i64) tv.val ah]) rfl rfl rfl rfl ok_40 rfl rfl ent.go (meet_ok hR sv s1 r _ r0 (by omega)) ?_; rintro _ _ rfl
      refine Run.nil ?_
      refine blk_norm ?_; refine thn_next ?_
      refine Zc ?_
      refine Za ?_
      refine Zm ?_
      refine Run.nil ?_
      exact thn_next ⟨(i + 1, meetS s1 r (2 * (k + 1))), ⟨by first | omega | (simp only; omega), by first | (rw [meetS_len, hsl]; done) | (simp only; rw [meetS_len, hsl]), hz⟩, by first | omega | (simp only; omega), ⟨(by repeat first | exact trivial | refine ⟨rfl, ?_⟩), rfl, rfl⟩, ent.go⟩
    · refine Zj ?_
      have e : i = ah.length := by omega
      subst e
      rw [List.drop_length] at hz
      have hz' : s1 = meetsS s (2 * (k + 1)) ah := hz
      rw [← hz']
      exact thn_next ⟨(), trivial, ⟨(by repeat first | exact trivial | refine ⟨rfl, ?_⟩), rfl, rfl⟩, ent.go⟩
  rintro _ _
  have hs1 : (meetsS s (2 * (k + 1)) ah).length = s.length := meetsS_len _ _ _
  generalize meetsS s (2 * (k + 1)) ah = s at hs1 ⊢
  -- the body
  refine WP.meetK (α := Unit) (fun _ => True) (fun _ => [(3, .int .i64 (k + (b.body.length : Int)))]) (fun _ => [slA 62 encIv sv.val (bodyS k s b.body)]) ?_ ?_
  · refine Zp ?_
    refine Zm ?_
    refine Zn ?_
    refine Zf fo_56_0 ?_
    refine Zr ag_52 r0 ?_
    refine Zh sl_52 hbu ?_
    refine Zm ?_
    refine Ze ?_
    refine WP.block ?_
    refine WP.sup (ρ' := [(52, .int .i64 0), (51, .int .i64 (b.body.length : Int)), (50, bu.val), (0, sv.val), (1, .pointer (some pw)), (2, .int .i64 (bi : Int)), (3, .int .i64 k), (8, .pointer (some (elemAddr v (bi * 4))))]) (Γ' := [slA 62 encIv sv.val s]) (Kp.sup (car := [(52, .int .i64 0), (51, .int .i64 (b.body.length : Int)), (50, bu.val)]) (ρ := [(0, sv.val), (1, .pointer (some pw)), (2, .int .i64 (bi : Int)), (3, .int .i64 k), (8, .pointer (some (elemAddr v (bi * 4))))]) ⟨(by repeat first | exact trivial | refine ⟨rfl, ?_⟩), rfl, rfl⟩) (ent.refl _) ?_
    refine WP.loopK (α := Nat × List Iv) (fun z => z.1 ≤ b.body.length ∧ z.2.length = s.length ∧ bodyS (k + (z.1 : Int)) z.2 (b.body.drop z.1) = bodyS k s b.body) (fun z => [(52, .int .i64 (z.1 : Int)), (3, .int .i64 (k + (z.1 : Int)))]) (fun z => [slA 62 encIv sv.val z.2]) (fun z => b.body.length - z.1) (0, s) ⟨Nat.zero_le _, rfl, by simp⟩ ⟨⟨rfl, by simp [Env.get]; rfl, trivial⟩, rfl, rfl⟩ (ent.refl _) ?_
    rintro ⟨j, sj⟩ ⟨hj, hsl, hz⟩
    simp only at hj hsl hz ⊢
    refine Zp ?_
    refine Zi ?_
    refine Ze ?_
    refine WP.seq ?_
    refine WP.ite rfl (fun hlt => ?_) (fun hge => ?_)
    · refine Zb ?_
      obtain ⟨x, gx⟩ : ∃ y, b.body[j]? = some y := ⟨_, List.getElem?_eq_getElem (by omega)⟩
      have hdr : b.body.drop j = x :: b.body.drop (j + 1) := by rw [List.drop_eq_getElem_cons (by omega)]; congr 1; rw [List.getElem?_eq_getElem (by omega)] at gx; exact Option.some.inj gx
      rw [hdr, bodyS] at hz
      obtain ⟨hxr, hxc, hxa⟩ := hcs _ x gx
      have hxm := List.mem_of_getElem? gx
      have hx3 := hb3 x hxm
      have hxa2 := hga x hxm
      have hxd := hgd x hxm
      rw [hxc] at hxr
      generalize us j = xa at hxr hxa
      have ek : k + (j : Int) + 1 = k + ((j + 1 : Nat) : Int) := by omega
      refine WP.seq ?_
      refine WP.block ?_
      refine Zp ?_
      refine Zx sl_52 hbu ?_
      refine Run.loadRagg rfl rfl ag_67 rfl rfl hxr rfl ?_
      refine Run.alloc rfl zr_67 rfl rfl rfl ?_
      intro b12
      refine Run.storeB 1 rfl rfl rfl rfl ag_67 rfl rfl rfl rfl rfl ?_
      refine Ze ?_
      refine Zp ?_
      refine Zm ?_
      refine Za ?_
      refine Zm ?_
      refine Ze ?_
      refine WP.sup (ρ' := [(12, .pointer (some ⟨b12, 0, none⟩)), (3, .int .i64 (k + (j : Int) + 1)), (52, .int .i64 (j : Int)), (52, .int .i64 0), (51, .int .i64 (b.body.length : Int)), (50, bu.val), (0, sv.val), (1, .pointer (some pw)), (2, .int .i64 (bi : Int)), (3, .int .i64 k), (8, .pointer (some (elemAddr v (bi * 4))))]) (Γ' := [slA 62 encIv sv.val sj, blk b12 [.int .i64 x.op, .int .i64 x.dst, .int .i64 x.imm, xa.val] 67]) (Kp.sup (car := [(12, .pointer (some ⟨b12, 0, none⟩)), (3, .int .i64 (k + (j : Int) + 1)), (52, .int .i64 (j : Int))]) (ρ := [(52, .int .i64 0), (51, .int .i64 (b.body.length : Int)), (50, bu.val), (0, sv.val), (1, .pointer (some pw)), (2, .int .i64 (bi : Int)), (3, .int .i64 k), (8, .pointer (some (elemAddr v (bi * 4))))]) ⟨(by repeat first | exact trivial | refine ⟨rfl, ?_⟩), rfl, rfl⟩) ent.go ?_
      refine WP.meetK (α := Unit) (fun _ => True) (fun _ => []) (fun _ => [slA 62 encIv sv.val (meetsS sj (2 * (k + (j : Int) + 1)) x.args), blk b12 [.int .i64 x.op, .int .i64 x.dst, .int .i64 x.imm, xa.val] 67]) ?_ ?_
      · refine Zp ?_
        refine Zf fo_67_3 ?_
        refine Zl 1 ag_22 ?_
        refine Zh sl_22 hxa ?_
        refine Zm ?_
        refine Ze ?_
        refine WP.block ?_
        refine WP.loopK (α := Nat × List Iv) (fun z => z.1 ≤ x.args.length ∧ z.2.length = s.length ∧ meetsS z.2 (2 * (k + (j : Int) + 1)) (x.args.drop z.1) = meetsS sj (2 * (k + (j : Int) + 1)) x.args) (fun z => [(61, .int .i64 (z.1 : Int))]) (fun z => [slA 62 encIv sv.val z.2, blk b12 [.int .i64 x.op, .int .i64 x.dst, .int .i64 x.imm, xa.val] 67]) (fun z => x.args.length - z.1) (0, sj) ⟨Nat.zero_le _, hsl, rfl⟩ ⟨(by repeat first | exact trivial | refine ⟨rfl, ?_⟩), rfl, rfl⟩ ent.go ?_
        rintro ⟨i, s1⟩ ⟨hi, hsl1, hz1⟩
        simp only at hi hsl1 hz1 ⊢
        refine Zp ?_
        refine Zi ?_
        refine Ze ?_
        refine WP.seq ?_
        refine WP.ite rfl (fun hlt2 => ?_) (fun hge2 => ?_)
        · refine Zb ?_
          obtain ⟨r, gr⟩ : ∃ y, x.args[i]? = some y := ⟨_, List.getElem?_eq_getElem (by omega)⟩
          have hdr2 : x.args.drop i = r :: x.args.drop (i + 1) := by rw [List.drop_eq_getElem_cons (by omega)]; congr 1; rw [List.getElem?_eq_getElem (by omega)] at gr; exact Option.some.inj gr
          obtain ⟨rr0, rr1⟩ := hxa2 r (List.mem_of_getElem? gr)
          rw [hdr2] at hz1
          refine WP.seq ?_
          refine WP.block ?_
          refine Zp ?_
          refine Zx sl_22 hxa ?_
          refine Zr ag_3 (SlR.cell0 hxa gr rfl) ?_
          refine Zm ?_
          refine Ze ?_
          refine Zc ?_
          iterate 3 refine Zm ?_
          refine Zu ?_
          refine Run.call (Δ := [slA 62 encIv sv.val s1]) (Θ := [blk b12 [.int .i64 x.op, .int .i64 x.dst, .int .i64 x.imm, xa.val] 67]) rfl rfl rfl rfl ok_40 rfl rfl ent.go (meet_ok hR sv s1 r _ rr0 (by omega)) ?_; rintro _ _ rfl
          refine Run.nil ?_
          refine blk_norm ?_; refine thn_next ?_
          refine Zc ?_
          refine Za ?_
          refine Zm ?_
          refine Run.nil ?_
          exact thn_next ⟨(i + 1, meetS s1 r (2 * (k + (j : Int) + 1))), ⟨by simp only; omega, by simp only; rw [meetS_len, hsl1], hz1⟩, by simp only; omega, ⟨(by repeat first | exact trivial | refine ⟨rfl, ?_⟩), rfl, rfl⟩, ent.go⟩
        · refine Zj ?_
          have e : i = x.args.length := by omega
          subst e
          rw [List.drop_length] at hz1
          have hz' : s1 = meetsS sj (2 * (k + (j : Int) + 1)) x.args := hz1
          rw [← hz']
          exact thn_next ⟨(), trivial, ⟨(by repeat first | exact trivial | refine ⟨rfl, ?_⟩), rfl, rfl⟩, ent.go⟩
      rintro _ _
      have hml : (meetsS sj (2 * (k + (j : Int) + 1)) x.args).length = s.length := by rw [meetsS_len, hsl]
      refine Zp ?_
      refine Zf fo_67_1 ?_
      refine Zl 1 ag_3 ?_
      refine Zi ?_
      refine Ze ?_
      refine WP.ite rfl (fun hd => ?_) (fun hd => ?_)
      · have hd' : 0 ≤ x.dst := by omega
        have hd2 := hxd hd'
        have ei : insS (k + (j : Int) + 1) sj x = meetS (meetsS sj (2 * (k + (j : Int) + 1)) x.args) x.dst (2 * (k + (j : Int) + 1) + 1) := by unfold insS; rw [if_pos hd']
        refine Zc ?_
        refine Zm ?_
        refine Zf fo_67_1 ?_
        refine Zl 1 ag_3 ?_
        refine Zm ?_
        refine Zu ?_
        refine Za ?_
        refine Run.call (Δ := [slA 62 encIv sv.val (meetsS sj (2 * (k + (j : Int) + 1)) x.args)]) (Θ := [blk b12 [.int .i64 x.op, .int .i64 x.dst, .int .i64 x.imm, xa.val] 67]) rfl rfl rfl rfl ok_40 rfl rfl ent.go (meet_ok hR sv _ x.dst _ hd' (by rw [hml]; omega)) ?_; rintro _ _ rfl
        refine Run.nil ?_
        refine blk_norm ?_; refine thn_next ?_
        refine Zc ?_
        refine Za ?_
        refine Zm ?_
        refine Run.nil ?_
        refine thn_next ⟨(j + 1, insS (k + (j : Int) + 1) sj x), ⟨by simp only; omega, by simp only; rw [insS_len, hsl], by simp only; rw [← ek]; exact hz⟩, by simp only; omega, ⟨⟨rfl, by simp only [← ek]; rfl, trivial⟩, rfl, rfl⟩, ?_⟩
        simp only
        rw [ei]; exact ent.go
      · have ei : insS (k + (j : Int) + 1) sj x = meetsS sj (2 * (k + (j : Int) + 1)) x.args := by unfold insS; rw [if_neg (by omega)]
        refine WP.skip ?_; refine blk_norm ?_; refine thn_next ?_
        refine Zc ?_
        refine Za ?_
        refine Zm ?_
        refine Run.nil ?_
        refine thn_next ⟨(j + 1, insS (k + (j : Int) + 1) sj x), ⟨by simp only; omega, by simp only; rw [insS_len, hsl], by simp only; rw [← ek]; exact hz⟩, by simp only; omega, ⟨⟨rfl, by simp only [← ek]; rfl, trivial⟩, rfl, rfl⟩, ?_⟩
        simp only
        rw [ei]; exact ent.go
    · refine Zj ?_
      have e : j = b.body.length := by omega
      subst e
      rw [List.drop_length, bodyS] at hz
      rw [← hz]
      exact thn_next ⟨(), trivial, ⟨(by repeat first | exact trivial | refine ⟨rfl, ?_⟩), rfl, rfl⟩, ent.go⟩
  rintro _ _
  have hs2 : (bodyS k s b.body).length = s.length := bodyS_len _ _ _
  generalize bodyS k s b.body = s2 at hs2 ⊢
  refine Zp ?_
  refine Zm ?_
  refine Za ?_
  refine Zm ?_
  refine Ze ?_
  refine WP.sup (ρ' := [(3, .int .i64 (k + (b.body.length : Int) + 1)), (0, sv.val), (1, .pointer (some pw)), (2, .int .i64 (bi : Int)), (3, .int .i64 k), (8, .pointer (some (elemAddr v (bi * 4))))]) (Γ' := [slA 62 encIv sv.val s2]) (Kp.sup (car := [(3, .int .i64 (k + (b.body.length : Int) + 1))]) (ρ := [(0, sv.val), (1, .pointer (some pw)), (2, .int .i64 (bi : Int)), (3, .int .i64 k), (8, .pointer (some (elemAddr v (bi * 4))))]) ⟨(by repeat first | exact trivial | refine ⟨rfl, ?_⟩), rfl, rfl⟩) (ent.refl _) ?_
  generalize hk2 : k + (b.body.length : Int) + 1 = k2
  -- the end
  refine WP.meetK (α := Unit) (fun _ => True) (fun _ => []) (fun _ => [slA 62 encIv sv.val (termS s2 b.value (2 * k2))]) ?_ ?_
  · refine Zp ?_
    refine Zm ?_
    refine Zn ?_
    refine Zf fo_56_1 ?_
    refine Zf fo_54_1 ?_
    refine Zr ag_3 r2 ?_
    refine Zi ?_
    refine Ze ?_
    refine WP.ite rfl (fun hd => ?_) (fun hd => ?_)
    · have hd' : 0 ≤ b.value := by omega
      have hd2 := hgv hd'
      have et : termS s2 b.value (2 * k2) = meetS s2 b.value (2 * k2) := by unfold termS; rw [if_pos hd']
      rw [et]
      refine Zc ?_
      refine Zm ?_
      refine Zm ?_
      refine Zn ?_
      refine Zf fo_56_1 ?_
      refine Zf fo_54_1 ?_
      refine Zr ag_3 r2 ?_
      refine Zm ?_
      refine Zu ?_
      refine Run.call (Δ := [slA 62 encIv sv.val s2]) (Θ := []) rfl rfl rfl rfl ok_40 rfl rfl ent.go (meet_ok hR sv s2 b.value _ hd' (by omega)) ?_; rintro _ _ rfl
      refine Run.nil ?_
      exact thn_next ⟨(), trivial, ⟨(by repeat first | exact trivial | refine ⟨rfl, ?_⟩), rfl, rfl⟩, ent.go⟩
    · have et : termS s2 b.value (2 * k2) = s2 := by unfold termS; rw [if_neg (by omega)]
      rw [et]
      refine WP.skip ?_
      exact thn_next ⟨(), trivial, ⟨(by repeat first | exact trivial | refine ⟨rfl, ?_⟩), rfl, rfl⟩, ent.go⟩
  rintro _ _
  have hs3 : (termS s2 b.value (2 * k2)).length = s.length := by rw [termS_len, hs2]
  generalize termS s2 b.value (2 * k2) = s3 at hs3 ⊢
  -- behind
  refine Zp ?_
  refine Zm ?_
  refine Zm ?_
  refine Zn ?_
  refine Zf fo_87_4 ?_
  refine Zr ag_85 hQ.c4 ?_
  refine Zm ?_
  refine Zx sl_85 hQ.hb ?_
  refine Zr ag_84 cuw ?_
  refine Run.call (Δ := []) (Θ := [slA 62 encIv sv.val s3]) rfl rfl rfl rfl ok_33 rfl rfl ent.go (told_ok hR hT pw nv.val names uw w hQ.c2 hQ.hn huw lw ib hQm) ?_; rintro _ _ ⟨tv, rfl, _, rfl⟩; rw [eb]
  refine Run.lenO 0 rfl rfl sl_22 rfl rfl rfl ?_
  refine Zm ?_
  refine Ze ?_
  refine WP.block ?_
  refine WP.loopK (α := Nat × List Iv) (fun z => z.1 ≤ be.length ∧ z.2.length = s3.length ∧ meetsS z.2 (2 * k2 + 1) (be.drop z.1) = meetsS s3 (2 * k2 + 1) be) (fun z => [(109, .int .i64 (z.1 : Int))]) (fun z => [slA 62 encIv sv.val z.2, slA 3 (Enc.int .i64) tv.val be]) (fun z => be.length - z.1) (0, s3) ⟨Nat.zero_le _, rfl, rfl⟩ ⟨(by repeat first | exact trivial | refine ⟨rfl, ?_⟩), rfl, rfl⟩ ent.go ?_
  rintro ⟨i, s1⟩ ⟨hi, hsl, hz⟩
  simp only at hi hsl hz ⊢
  refine Zp ?_
  refine Zi ?_
  refine Ze ?_
  refine WP.seq ?_
  refine WP.ite rfl (fun hlt => ?_) (fun hge => ?_)
  · refine Zb ?_
    obtain ⟨r, gr⟩ : ∃ y, be[i]? = some y := ⟨_, List.getElem?_eq_getElem (by omega)⟩
    have hdr : be.drop i = r :: be.drop (i + 1) := by rw [List.drop_eq_getElem_cons (by omega)]; congr 1; rw [List.getElem?_eq_getElem (by omega)] at gr; exact Option.some.inj gr
    obtain ⟨r0, r1⟩ := hbe r (List.mem_of_getElem? gr)
    rw [hdr] at hz
    refine WP.seq ?_
    refine WP.block ?_
    refine Zp ?_
    refine Run.idxO 1 rfl rfl rfl sl_22 rfl rfl rfl rfl (by omega) (by omega) ?_
    refine Run.loadO 1 i 0 rfl rfl ag_3 rfl rfl rfl rfl gr rfl ?_
    refine Zm ?_
    refine Ze ?_
    refine Zc ?_
    iterate 3 refine Zm ?_
    refine Zu ?_
    refine Za ?_
    refine Run.call (Δ := [slA 62 encIv sv.val s1]) (Θ := [slA 3 (Enc.int .i64) tv.val be]) rfl rfl rfl rfl ok_40 rfl rfl ent.go (meet_ok hR sv s1 r _ r0 (by omega)) ?_; rintro _ _ rfl
    refine Run.nil ?_
    refine blk_norm ?_; refine thn_next ?_
    refine Zc ?_
    refine Za ?_
    refine Zm ?_
    refine Run.nil ?_
    exact thn_next ⟨(i + 1, meetS s1 r (2 * k2 + 1)), ⟨by first | omega | (simp only; omega), by first | (rw [meetS_len, hsl]; done) | (simp only; rw [meetS_len, hsl]), hz⟩, by first | omega | (simp only; omega), ⟨(by repeat first | exact trivial | refine ⟨rfl, ?_⟩), rfl, rfl⟩, ent.go⟩
  · refine Zj ?_
    have e : i = be.length := by omega
    subst e
    rw [List.drop_length] at hz
    have hz' : s1 = meetsS s3 (2 * k2 + 1) be := hz
    refine retN [] [] rfl rfl ⟨_, ?_, rfl⟩
    rw [← hz']; exact ent.go
end Go.Proofs.YtjjfehdlmdhhmaaDoor
end
section
/- Intervals along a line, in plain Lean. -/
namespace Go.Proofs.YtjjfehdlmdhhmaaDoor
open Go.Sep
set_option linter.unusedSimpArgs false
set_option linter.unusedVariables false
abbrev sortI (l : List Int) : List Int := l.mergeSort fun x y => decide (x ≤ y)
/-- is a line taken? -/
def lineB (line : List Int) (n : Nat) : Bool :=
  decide (line.length = n) && decide ((sortI line)[0]? = some 0) && decide ((sortI line)[n - 1]? = some ((n : Int) - 1)) && decide ((Lib.compact (sortI line)).length = n)
theorem sortI_mem {l : List Int} {x : Int} : x ∈ sortI l ↔ x ∈ l := List.mem_mergeSort
theorem sortI_sorted (l : List Int) : (sortI l).Pairwise (· ≤ ·) := by
  have := List.pairwise_mergeSort (le := fun x y : Int => decide (x ≤ y)) (fun a b c h1 h2 => by simp at *; omega) (fun a b => by simp; omega) l
  exact this.imp fun h => by simpa using h
theorem line_in {line : List Int} {n : Nat} (h : lineB line n = true) : line.length = n ∧ ∀ x ∈ line, 0 ≤ x ∧ x < (n : Int) := by
  unfold lineB at h
  simp only [Bool.and_eq_true, decide_eq_true_eq] at h
  obtain ⟨⟨⟨h1, h2⟩, h3⟩, _⟩ := h
  refine ⟨h1, fun x hx => ?_⟩
  have hl : (sortI line).length = n := by rw [List.length_mergeSort]; exact h1
  obtain ⟨i, hi⟩ := List.getElem?_of_mem (sortI_mem.2 hx)
  obtain ⟨i1, e1⟩ := List.getElem?_eq_some_iff.1 hi
  obtain ⟨z1, e2⟩ := List.getElem?_eq_some_iff.1 h2
  obtain ⟨n1, e3⟩ := List.getElem?_eq_some_iff.1 h3
  have hs := List.pairwise_iff_getElem.1 (sortI_sorted line)
  refine ⟨?_, ?_⟩
  · rcases Nat.eq_zero_or_pos i with e | e
    · subst e; rw [e1] at e2; omega
    · have := hs 0 i z1 i1 e; omega
  · by_cases e : i = n - 1
    · subst e; rw [e1] at e3; omega
    · have := hs i (n - 1) i1 n1 (by omega); omega
def bodyLen (F : LFun) (i : Int) : Int := match F.blocks[i.toNat]? with | some b => (b.body.length : Int) | none => 0
noncomputable def lineS (F : LFun) : Int → List Iv → List Int → List Iv
  | _, s, [] => s
  | k, s, i :: is => match F.blocks[i.toNat]? with
    | some b => lineS F (k + (b.body.length + 1)) (blockS (aheadOf F i.toNat) (behindOf F i.toNat) b k s) is
    | none => s
noncomputable def spansF (F : LFun) (line : List Int) : List Iv := lineS F 0 (meetsS (List.replicate F.regs.toNat ⟨-1, 0, 0⟩) 0 F.params) line
structure OkS (R : Nat) (s : List Iv) : Prop where
  len : s.length = R
  at' : ∀ (i : Nat) (x : Iv), s[i]? = some x → (x.reg = -1 ∨ x.reg = (i : Int)) ∧ 0 ≤ x.fr ∧ x.fr ≤ 10000000000000
section
variable {R : Nat} {s : List Iv}
theorem OkS.new (R : Nat) : OkS R (List.replicate R ⟨-1, 0, 0⟩) := ⟨by simp, fun i x h => by
  have := List.mem_of_getElem? h
  simp at this
  rw [this.2]; simp⟩
theorem OkS.meet (H : OkS R s) {r p : Int} (r0 : 0 ≤ r) (p0 : 0 ≤ p) (p1 : p ≤ 10000000000000) : OkS R (meetS s r p) := by
  refine ⟨by rw [meetS_len]; exact H.len, fun i x h => ?_⟩
  unfold meetS at h
  split at h
  · rename_i y gy
    have hlt := (List.getElem?_eq_some_iff.1 gy).1
    by_cases e : r.toNat = i
    · subst e
      rw [List.getElem?_set_self hlt] at h
      cases h
      have hy := H.at' _ y gy
      unfold meetI
      split
      · exact ⟨.inr (by simp only; omega), p0, p1⟩
      · simp only; omega
    · rw [List.getElem?_set_ne e] at h; exact H.at' i x h
  · exact H.at' i x h
theorem OkS.meets {p : Int} (p0 : 0 ≤ p) (p1 : p ≤ 10000000000000) : ∀ (rs : List Int) {s : List Iv}, OkS R s → (∀ r ∈ rs, 0 ≤ r) → OkS R (meetsS s p rs)
  | [], _, H, _ => H
  | r :: rs, s, H, h => OkS.meets p0 p1 rs (H.meet (h r (by simp)) p0 p1) (fun x hx => h x (by simp [hx]))
theorem OkS.ins (H : OkS R s) {k : Int} {x : LIns} (k0 : 0 ≤ k) (k1 : 2 * k + 1 ≤ 10000000000000) (hx : ∀ a ∈ x.args, 0 ≤ a) : OkS R (insS k s x) := by
  have h1 := OkS.meets (R := R) (p := 2 * k) (by omega) (by omega) x.args H hx
  unfold insS
  split
  · rename_i h; exact h1.meet h (by omega) k1
  · exact h1
theorem OkS.body : ∀ (xs : List LIns) {k : Int} {s : List Iv}, OkS R s → 0 ≤ k → 2 * (k + xs.length) + 1 ≤ 10000000000000 → (∀ x ∈ xs, ∀ a ∈ x.args, 0 ≤ a) → OkS R (bodyS k s xs)
  | [], _, _, H, _, _, _ => H
  | x :: xs, k, s, H, k0, k1, h => by
    simp only [List.length_cons] at k1
    rw [bodyS]
    exact OkS.body xs (H.ins (by omega) (by omega) (h x (by simp))) (by omega) (by omega) (fun y hy => h y (by simp [hy]))
theorem OkS.block (H : OkS R s) {F : LFun} (hG : RegsF F) {i : Nat} {b : LBlk} (gb : F.blocks[i]? = some b) {k : Int} (k0 : 0 ≤ k) (k1 : 2 * (k + b.body.length + 1) + 1 ≤ 10000000000000) : OkS R (blockS (aheadOf F i) (behindOf F i) b k s) := by
  have hm := List.mem_of_getElem? gb
  have h1 := OkS.meets (R := R) (p := 2 * (k + 1)) (by omega) (by omega) (aheadOf F i) H (fun r hr => (mem_listOf.1 hr).1)
  have h2 := OkS.body b.body h1 k0 (by omega) (fun x hx a ha => (hG.args b hm x hx a ha).1)
  have h3 : OkS R (termS (bodyS k (meetsS s (2 * (k + 1)) (aheadOf F i)) b.body) b.value (2 * (k + b.body.length + 1))) := by
    unfold termS
    split
    · rename_i h; exact h2.meet h (by omega) (by omega)
    · exact h2
  exact OkS.meets (by omega) k1 (behindOf F i) h3 (fun r hr => (mem_listOf.1 hr).1)
theorem OkS.line {F : LFun} (hG : RegsF F) (hS : SmallF F) : ∀ (is : List Int) {k : Int} {s : List Iv}, OkS R s → 0 ≤ k → k + (is.length : Int) * 1000001 ≤ 4000000000000 → OkS R (lineS F k s is)
  | [], _, _, H, _, _ => H
  | i :: is, k, s, H, k0, k1 => by
    simp only [List.length_cons] at k1
    rw [lineS]
    split
    · rename_i b gb
      have hb := hS.bodies b (List.mem_of_getElem? gb)
      exact OkS.line hG hS is (H.block hG gb k0 (by omega)) (by omega) (by omega)
    · exact H
theorem OkS.regs (H : OkS R s) : (s.filter keepB).Pairwise fun x y => x.reg < y.reg := by
  have key : ∀ (s : List Iv) (o : Nat), (∀ (i : Nat) (x : Iv), s[i]? = some x → x.reg = -1 ∨ x.reg = ((o + i : Nat) : Int)) → (s.filter keepB).Pairwise (fun x y => x.reg < y.reg) ∧ ∀ x ∈ s.filter keepB, (o : Int) ≤ x.reg := fun s => by
    induction s with
    | nil => intro o _; simp
    | cons x s ih =>
      intro o h
      obtain ⟨h1, h2⟩ := ih (o + 1) (fun i y hy => by have := h (i + 1) y (by simpa using hy); rw [show o + 1 + i = o + (i + 1) by omega]; exact this)
      have hx := h 0 x rfl
      rw [List.filter_cons]
      split
      · rename_i hk
        have hk' : 0 ≤ x.reg := by unfold keepB at hk; simpa using hk
        refine ⟨List.pairwise_cons.2 ⟨fun y hy => by have := h2 y hy; omega, h1⟩, fun y hy => ?_⟩
        rcases List.mem_cons.1 hy with e | hy
        · subst e; omega
        · have := h2 y hy; omega
      · exact ⟨h1, fun y hy => by have := h2 y hy; omega⟩
  exact (key s 0 fun i x hx => by have := (H.at' i x hx).1; simpa using this).1
theorem OkS.small (H : OkS R s) : ∀ x ∈ s.filter keepB, smallV x := fun x hx => by
  obtain ⟨i, hi⟩ := List.getElem?_of_mem (List.mem_filter.1 hx).1
  have := (H.at' i x hi).2
  exact ⟨by omega, this.2⟩
end
theorem spans_ok {F : LFun} {line : List Int} (hQ : FormQ F) (hS : SmallF F) (hl : line.length ≤ 1000000) : OkS F.regs.toNat (spansF F line) :=
  OkS.line hQ.regs hS line (OkS.meets (Int.le_refl 0) (by decide) F.params (OkS.new _) (fun r hr => (hQ.ps r hr).1)) (Int.le_refl 0) (by omega)
def IvRes (F : LFun) (line : List Int) (x : Value) (Γ' : List HProp) : Prop :=
  (formB F = false ∧ x = .tuple #[.slice none 0 0, .int .i64 140] ∧ Γ' = []) ∨
  (formB F = true ∧ lineB line F.blocks.length = false ∧ x = .tuple #[.slice none 0 0, .int .i64 170] ∧ Γ' = []) ∨
  (formB F = true ∧ lineB line F.blocks.length = true ∧ ∃ (sv : SV) (ys : List Iv), x = .tuple #[sv.val, .int .i64 0] ∧ ys.Perm ((spansF F line).filter keepB) ∧ ys.Pairwise ltV ∧ Γ' = [slA 62 encIv sv.val ys])
end Go.Proofs.YtjjfehdlmdhhmaaDoor
end
section
/- Intervals, as it is answered; walked (at most twenty registers). -/
namespace Go.Proofs.YtjjfehdlmdhhmaaDoor
open Go.Sep
set_option linter.unusedSimpArgs false
set_option linter.unusedVariables false
attribute [local irreducible] blk slA mp mpF rows rowsBut many
theorem drop_set_next {A : Type} {i : Nat} {x y : A} (n : Nat) (hi : i < n) : ((List.replicate i x ++ List.replicate (n - i) y).set i x) = List.replicate (i + 1) x ++ List.replicate (n - (i + 1)) y := by
  have : n - i = (n - (i + 1)) + 1 := by omega
  rw [List.set_append_right _ _ (by simp), this, List.replicate_succ, List.replicate_succ']; simp
set_option maxHeartbeats 4000000 in
set_option maxRecDepth 100000 in
theorem intervals_ok (few : Nat) (hstab : ∀ (hR : Heap) (sv : SV) (xs : List Iv), xs.Pairwise (fun x y => x.reg < y.reg) → (∀ x ∈ xs, smallV x) → xs.length ≤ few → Tri Tryd.prog hR 44 #[sv.val, cmpF] [slA 62 encIv sv.val xs] fun _ Γ' => ∃ ys : List Iv, ys.Perm xs ∧ ys.Pairwise ltV ∧ Γ' = [slA 62 encIv sv.val ys])
    (hR : Heap) (hT : TabH hR) (F : LFun) (su sv lv : SV) (line : List Int) (hV : FunV hR F su sv) (hS : SmallF F) (hlv : SlR rdI hR lv.val line) (hll : line.length ≤ 17592186043906) (hfew : formB F = true → F.regs ≤ (few : Int)) :
    Tri Tryd.prog hR 17 #[.agg ⟨fcs F su sv⟩, lv.val] [] (IvRes F line) := by
  refine Tri.ent (Tri.of (args := [.agg ⟨fcs F su sv⟩, lv.val]) Tryd.func17 rfl Tryd.ntmps17 (by simp) ?_)
  have hv := hV.hv
  have hu := hV.hu
  have hsb := hV.sb
  refine Zp ?_
  refine Run.box rfl rfl rfl rfl rfl ?_
  intro b2
  refine Zm ?_
  refine Zm ?_
  refine Ze ?_
  refine WP.sup (ρ' := [(1, lv.val), (2, .pointer (some ⟨b2, 0, none⟩)), (4, .slice none 0 0), (5, .int .i64 0)]) (Γ' := [blk b2 (fcs F su sv) 25]) (covers_get ⟨rfl, rfl, rfl, rfl, trivial⟩) ent.go ?_
  refine WP.seq ?_
  refine Zp ?_
  refine Run.callLend (Δ := []) (Θ := [blk b2 (fcs F su sv) 25]) (Ξ := []) rfl rfl rfl rfl ok_31 rfl rfl ent.go (fun g hg hd => formed_ok (un hR g) ⟨b2, 0, none⟩ F su.val sv.val (funAt_box 0 hV rfl hg hd) hS) ?_; rintro _ _ ⟨rfl, rfl⟩
  refine Run.bnotB rfl rfl rfl rfl ?_
  refine Ze ?_
  cases hform : formB F with
  | false =>
    refine Zyes ?_
    refine Zp ?_
    refine Zm ?_
    refine Zm ?_
    refine Ze ?_
    refine WP.ret ?_; refine thn_ret ?_
    exact retT [4, 5] _ rfl rfl ⟨[], ent.go, .inl ⟨hform, rfl, rfl⟩⟩
  | true =>
  refine Zno ?_
  refine Zb ?_
  have hQ := formQ hform
  have hn0 := hQ.ne
  have hsl : (sortI line).length = line.length := List.length_mergeSort line
  refine WP.sup (ρ' := [(1, lv.val), (2, .pointer (some ⟨b2, 0, none⟩)), (4, .slice none 0 0), (5, .int .i64 0)]) (Γ' := [blk b2 (fcs F su sv) 25]) (covers_get ⟨rfl, rfl, rfl, rfl, trivial⟩) ent.go ?_
  refine WP.seq ?_
  refine Zp ?_
  refine Zm ?_
  refine Run.call (Δ := []) (Θ := [blk b2 (fcs F su sv) 25]) rfl rfl rfl rfl ok_38 rfl rfl ent.go (values_ok hR lv) ?_; rintro _ _ ⟨bq, rfl, rfl⟩
  refine Run.call (Δ := [blk bq [lv.val] 22]) (Θ := [blk b2 (fcs F su sv) 25]) rfl rfl rfl rfl ok_37 rfl rfl ent.go (sorted_ok hR lv line hlv hll bq) ?_; rintro _ _ ⟨ss, rfl, rfl⟩
  refine Zm ?_
  refine Ze ?_
  refine WP.sup (ρ' := [(6, ss.val), (1, lv.val), (2, .pointer (some ⟨b2, 0, none⟩)), (4, .slice none 0 0), (5, .int .i64 0)]) (Γ' := [blk b2 (fcs F su sv) 25, slA 3 (Enc.int .i64) ss.val (sortI line)]) (covers_get ⟨rfl, rfl, rfl, rfl, rfl, trivial⟩) ent.go ?_
  refine WP.meetK (α := Unit) (fun _ => True) (fun _ => [(52, .bool (!lineB line F.blocks.length))]) (fun _ => [blk b2 (fcs F su sv) 25]) ?_ ?_
  · have hlenR := hlv
    by_cases hlen : line.length = F.blocks.length
    · obtain ⟨s0, g0⟩ : ∃ y, (sortI line)[0]? = some y := ⟨_, List.getElem?_eq_getElem (by omega)⟩
      obtain ⟨sl, gl⟩ : ∃ y, (sortI line)[F.blocks.length - 1]? = some y := ⟨_, List.getElem?_eq_getElem (by omega)⟩
      by_cases h0 : s0 = 0
      · by_cases h1 : sl = (line.length : Int) - 1
        · by_cases h2 : (Lib.compact (sortI line)).length = line.length
          · have hL : lineB line F.blocks.length = true := by unfold lineB; rw [g0, gl, h2, h0, h1, hlen]; simp
            refine Zc ?_
            refine Zm ?_
            refine Zh sl_22 hlv ?_
            refine Zf fo_25_4 ?_
            refine Zl 0 ag_23 ?_
            refine Zh sl_23 hv ?_
            refine Zi ?_
            refine Run.ff (by omega) ?_
            refine Zm ?_
            refine Zm ?_
            refine Run.idxO 1 rfl rfl rfl sl_22 rfl rfl rfl rfl (by omega) (by omega) ?_
            refine Run.loadO 1 0 0 rfl rfl ag_3 rfl rfl rfl rfl g0 rfl ?_
            refine Zi ?_
            refine Run.ff (fun h => h h0) ?_
            refine Zq ?_
            iterate 3 refine Zm ?_
            refine Zh sl_22 hlv ?_
            refine Zs ?_
            refine Run.eqv (v' := .int .i64 ((F.blocks.length - 1 : Nat) : Int)) (by congr 1; omega) ?_
            refine Run.idxO 1 rfl rfl rfl sl_22 rfl rfl rfl rfl (by omega) (by omega) ?_
            refine Run.loadO 1 (F.blocks.length - 1) 0 rfl rfl ag_3 rfl rfl rfl rfl gl rfl ?_
            refine Zm ?_
            refine Zh sl_22 hlv ?_
            refine Zs ?_
            refine Zi ?_
            refine Run.ff (fun h => h h1) ?_
            refine Zq ?_
            refine Zm ?_
            refine Zm ?_
            refine Run.call (Δ := [slA 3 (Enc.int .i64) ss.val (sortI line)]) (Θ := [blk b2 (fcs F su sv) 25]) rfl rfl rfl rfl ok_39 rfl rfl ent.go (compact_ok hR ss (sortI line) (by omega)) ?_; rintro _ _ ⟨ys, rfl, hyn, rfl⟩
            refine Run.len rfl rfl sl_22 rfl rfl ?_
            refine Zm ?_
            refine Zh sl_22 hlv ?_
            refine Zi ?_
            refine Run.ff (by omega) ?_
            refine Zq ?_
            refine Run.nil ?_
            refine thn_next ⟨(), trivial, ⟨⟨by rw [hL]; rfl, trivial⟩, rfl, rfl⟩, ent.go⟩
          · have hL : lineB line F.blocks.length = false := by unfold lineB; rw [g0, gl, h0, h1, hlen]; simp; omega
            refine Zc ?_
            refine Zm ?_
            refine Zh sl_22 hlv ?_
            refine Zf fo_25_4 ?_
            refine Zl 0 ag_23 ?_
            refine Zh sl_23 hv ?_
            refine Zi ?_
            refine Run.ff (by omega) ?_
            refine Zm ?_
            refine Zm ?_
            refine Run.idxO 1 rfl rfl rfl sl_22 rfl rfl rfl rfl (by omega) (by omega) ?_
            refine Run.loadO 1 0 0 rfl rfl ag_3 rfl rfl rfl rfl g0 rfl ?_
            refine Zi ?_
            refine Run.ff (fun h => h h0) ?_
            refine Zq ?_
            iterate 3 refine Zm ?_
            refine Zh sl_22 hlv ?_
            refine Zs ?_
            refine Run.eqv (v' := .int .i64 ((F.blocks.length - 1 : Nat) : Int)) (by congr 1; omega) ?_
            refine Run.idxO 1 rfl rfl rfl sl_22 rfl rfl rfl rfl (by omega) (by omega) ?_
            refine Run.loadO 1 (F.blocks.length - 1) 0 rfl rfl ag_3 rfl rfl rfl rfl gl rfl ?_
            refine Zm ?_
            refine Zh sl_22 hlv ?_
            refine Zs ?_
            refine Zi ?_
            refine Run.ff (fun h => h h1) ?_
            refine Zq ?_
            refine Zm ?_
            refine Zm ?_
            refine Run.call (Δ := [slA 3 (Enc.int .i64) ss.val (sortI line)]) (Θ := [blk b2 (fcs F su sv) 25]) rfl rfl rfl rfl ok_39 rfl rfl ent.go (compact_ok hR ss (sortI line) (by omega)) ?_; rintro _ _ ⟨ys, rfl, hyn, rfl⟩
            refine Run.len rfl rfl sl_22 rfl rfl ?_
            refine Zm ?_
            refine Zh sl_22 hlv ?_
            refine Zi ?_
            refine Run.tt (by omega) ?_
            refine Zq ?_
            refine Run.nil ?_
            refine thn_next ⟨(), trivial, ⟨⟨by rw [hL]; rfl, trivial⟩, rfl, rfl⟩, ent.go⟩
        · have hL : lineB line F.blocks.length = false := by unfold lineB; rw [g0, gl, h0]; simp; omega
          refine Zc ?_
          refine Zm ?_
          refine Zh sl_22 hlv ?_
          refine Zf fo_25_4 ?_
          refine Zl 0 ag_23 ?_
          refine Zh sl_23 hv ?_
          refine Zi ?_
          refine Run.ff (by omega) ?_
          refine Zm ?_
          refine Zm ?_
          refine Run.idxO 1 rfl rfl rfl sl_22 rfl rfl rfl rfl (by omega) (by omega) ?_
          refine Run.loadO 1 0 0 rfl rfl ag_3 rfl rfl rfl rfl g0 rfl ?_
          refine Zi ?_
          refine Run.ff (fun h => h h0) ?_
          refine Zq ?_
          iterate 3 refine Zm ?_
          refine Zh sl_22 hlv ?_
          refine Zs ?_
          refine Run.eqv (v' := .int .i64 ((F.blocks.length - 1 : Nat) : Int)) (by congr 1; omega) ?_
          refine Run.idxO 1 rfl rfl rfl sl_22 rfl rfl rfl rfl (by omega) (by omega) ?_
          refine Run.loadO 1 (F.blocks.length - 1) 0 rfl rfl ag_3 rfl rfl rfl rfl gl rfl ?_
          refine Zm ?_
          refine Zh sl_22 hlv ?_
          refine Zs ?_
          refine Zi ?_
          refine Run.tt h1 ?_
          refine Zq ?_
          refine Zm ?_
          iterate 6 refine Zv ?_
          refine Zq ?_
          refine Run.nil ?_
          refine thn_next ⟨(), trivial, ⟨⟨by rw [hL]; rfl, trivial⟩, rfl, rfl⟩, ent.go⟩
      · have hL : lineB line F.blocks.length = false := by unfold lineB; rw [g0]; simp [h0]
        refine Zc ?_
        refine Zm ?_
        refine Zh sl_22 hlv ?_
        refine Zf fo_25_4 ?_
        refine Zl 0 ag_23 ?_
        refine Zh sl_23 hv ?_
        refine Zi ?_
        refine Run.ff (by omega) ?_
        refine Zm ?_
        refine Zm ?_
        refine Run.idxO 1 rfl rfl rfl sl_22 rfl rfl rfl rfl (by omega) (by omega) ?_
        refine Run.loadO 1 0 0 rfl rfl ag_3 rfl rfl rfl rfl g0 rfl ?_
        refine Zi ?_
        refine Run.tt h0 ?_
        refine Zq ?_
        refine Zm ?_
        iterate 10 refine Zv ?_
        refine Zq ?_
        refine Zm ?_
        iterate 6 refine Zv ?_
        refine Zq ?_
        refine Run.nil ?_
        refine thn_next ⟨(), trivial, ⟨⟨by rw [hL]; rfl, trivial⟩, rfl, rfl⟩, ent.go⟩
    · have hL : lineB line F.blocks.length = false := by unfold lineB; simp [hlen]
      refine Zc ?_
      refine Zm ?_
      refine Zh sl_22 hlv ?_
      refine Zf fo_25_4 ?_
      refine Zl 0 ag_23 ?_
      refine Zh sl_23 hv ?_
      refine Zi ?_
      refine Run.tt (by omega) ?_
      refine Zm ?_
      iterate 4 refine Zv ?_
      refine Zq ?_
      refine Zm ?_
      iterate 10 refine Zv ?_
      refine Zq ?_
      refine Zm ?_
      iterate 6 refine Zv ?_
      refine Zq ?_
      refine Run.nil ?_
      refine thn_next ⟨(), trivial, ⟨⟨by rw [hL]; rfl, trivial⟩, rfl, rfl⟩, ent.go⟩
  rintro _ _
  cases hline : lineB line F.blocks.length with
  | false =>
    refine Zyes ?_
    refine Zp ?_
    refine Zm ?_
    refine Zm ?_
    refine Ze ?_
    refine WP.ret ?_; refine thn_ret ?_
    exact retT [4, 5] _ rfl rfl ⟨[], ent.go, .inr (.inl ⟨hform, hline, rfl, rfl⟩)⟩
  | true =>
  refine Zno ?_
  refine Zb ?_
  obtain ⟨hlen, hlin⟩ := line_in hline
  have hfw := hfew hform
  have hI := idxOK F hQ.regs hQ.r0
  have hnl := names_len F
  have hr0 := hQ.r0
  have hr1 := hQ.r1
  have hszm : (namesW 0 (marksF F)).length ≤ 64 * sizeW F := by unfold sizeW; omega
  have hszl : sizeW F ≤ 4097 := by unfold sizeW; omega
  obtain ⟨R, hRR⟩ : ∃ R : Nat, (R : Int) = F.regs := ⟨F.regs.toNat, by omega⟩
  have eR : F.regs.toNat = R := by omega
  refine WP.sup (ρ' := [(1, lv.val), (2, .pointer (some ⟨b2, 0, none⟩)), (4, .slice none 0 0), (5, .int .i64 0)]) (Γ' := [blk b2 (fcs F su sv) 25]) (covers_get ⟨rfl, rfl, rfl, rfl, trivial⟩) ent.go ?_
  refine Zp ?_
  refine Run.callLend (Δ := []) (Θ := [blk b2 (fcs F su sv) 25]) (Ξ := []) rfl rfl rfl rfl ok_32 rfl rfl ent.go (fun g hg hd => flowing_ok (un hR g) ⟨b2, 0, none⟩ F su.val sv.val (funAt_box 0 hV rfl hg hd) hS hQ.regs hQ.to hQ.r0 hQ.r1) ?_; rintro _ _ ⟨wb, iv, nv, av, bv, A, B, T, rfl, hFI, rfl⟩
  refine Zm ?_
  refine Ze ?_
  have hA : A.length = F.blocks.length := by have := hFI.la; simpa using this
  have hB : B.length = F.blocks.length := by have := hFI.lb; simpa using this
  have hah := fun {q : Nat} {a : Ws} (g : (A.map Prod.snd)[q]? = some a) => hFI.ahead hI hQ hszm g
  have hbe := fun {q : Nat} {a : Ws} (g : (B.map Prod.snd)[q]? = some a) => hFI.behind hI hQ hszm g
  have hra := hFI.ra
  have hrb := hFI.rb
  clear hFI hI
  generalize sizeW F = m at hszm hszl hra hrb
  generalize namesW 0 (marksF F) = names at hnl hszm hah hbe ⊢
  generalize indexW 0 (marksF F) = idx
  refine Zp ?_
  refine Zf fo_25_2 ?_
  refine Zl 7 ag_3 ?_
  refine Run.makeSlice (E := encIv) ((⟨0, 0, 0⟩ : Iv)) rfl rfl rfl sl_97 zr_62 rfl rfl rfl (by first | omega | (simp <;> omega)) (by first | omega | (simp <;> omega)) (by first | omega | (simp <;> omega)) (by first | omega | (simp <;> omega)) ?_
  intro b56
  refine Zm ?_
  refine Ze ?_
  obtain ⟨pv, hpv⟩ : ∃ pv : SV, pv.val = .slice (some ⟨b56, 0, none⟩) F.regs.toNat F.regs.toNat := ⟨⟨some ⟨b56, 0, none⟩, F.regs.toNat, F.regs.toNat⟩, rfl⟩
  refine WP.sup (ρ' := [(1, lv.val), (2, .pointer (some ⟨b2, 0, none⟩)), (7, .pointer (some ⟨wb, 0, none⟩)), (8, pv.val)]) (Γ' := [blk b2 (fcs F su sv) 25, blk wb [.pointer (some ⟨b2, 0, none⟩), iv.val, nv.val, av.val, bv.val] 87, slA 3 (Enc.int .i64) nv.val names, slA 84 Enc.slice av.val (A.map Prod.fst), rows 134 Enc.u64 A, slA 84 Enc.slice bv.val (B.map Prod.fst), rows 134 Enc.u64 B, slA 62 encIv pv.val (List.replicate R (⟨0, 0, 0⟩ : Iv))]) (covers_get ⟨rfl, rfl, rfl, hpv.symm ▸ rfl, trivial⟩) (by rw [hpv, ← eR]; exact ent.go) ?_
  clear hpv
  -- no register has been met
  refine WP.meetK (α := Unit) (fun _ => True) (fun _ => []) (fun _ => [blk b2 (fcs F su sv) 25, blk wb [.pointer (some ⟨b2, 0, none⟩), iv.val, nv.val, av.val, bv.val] 87, slA 3 (Enc.int .i64) nv.val names, slA 84 Enc.slice av.val (A.map Prod.fst), rows 134 Enc.u64 A, slA 84 Enc.slice bv.val (B.map Prod.fst), rows 134 Enc.u64 B, slA 62 encIv pv.val (List.replicate R (⟨-1, 0, 0⟩ : Iv))]) ?_ ?_
  · refine Zp ?_
    refine Zm ?_
    refine Run.lenO 7 rfl rfl sl_97 rfl rfl rfl ?_
    refine Run.eqv (v' := .int .i64 (R : Int)) (by simp) ?_
    refine Zm ?_
    refine Ze ?_
    refine WP.block ?_
    refine WP.loopK (α := Nat) (fun z => z ≤ R) (fun z => [(59, .int .i64 (z : Int))]) (fun z => [blk b2 (fcs F su sv) 25, blk wb [.pointer (some ⟨b2, 0, none⟩), iv.val, nv.val, av.val, bv.val] 87, slA 3 (Enc.int .i64) nv.val names, slA 84 Enc.slice av.val (A.map Prod.fst), rows 134 Enc.u64 A, slA 84 Enc.slice bv.val (B.map Prod.fst), rows 134 Enc.u64 B, slA 62 encIv pv.val (List.replicate z (⟨-1, 0, 0⟩ : Iv) ++ List.replicate (R - z) (⟨0, 0, 0⟩ : Iv))]) (fun z => R - z) 0 (Nat.zero_le _) ⟨(by repeat first | exact trivial | refine ⟨rfl, ?_⟩), rfl, rfl⟩ (by simp only [List.replicate_zero, List.nil_append, Nat.sub_zero]; exact ent.go) ?_
    rintro i hi
    refine Zp ?_
    refine Zi ?_
    refine Ze ?_
    refine WP.seq ?_
    refine WP.ite rfl (fun hlt => ?_) (fun hge => ?_)
    · refine Zb ?_
      have gx : (List.replicate i (⟨-1, 0, 0⟩ : Iv) ++ List.replicate (R - i) (⟨0, 0, 0⟩ : Iv))[i]? = some (⟨0, 0, 0⟩ : Iv) := by rw [List.getElem?_append_right (by simp), List.length_replicate, Nat.sub_self, List.getElem?_replicate, if_pos (by omega)]
      have hxl : (List.replicate i (⟨-1, 0, 0⟩ : Iv) ++ List.replicate (R - i) (⟨0, 0, 0⟩ : Iv)).length = R := by simp; omega
      refine WP.seq ?_
      refine WP.block ?_
      refine Zp ?_
      refine Zm ?_
      refine Zm ?_
      refine Ze ?_
      refine Zc ?_
      refine Zm ?_
      refine Zm ?_
      refine Run.idxO 7 rfl rfl rfl sl_97 rfl rfl rfl rfl (by omega) (by rw [hxl]; omega) ?_
      refine Zf fo_62_0 ?_
      refine Run.storeO 7 i 0 (y' := (⟨-1, 0, 0⟩ : Iv)) rfl rfl rfl rfl ag_3 rfl rfl rfl rfl gx rfl rfl ?_
      refine Run.nil ?_
      refine blk_norm ?_; refine thn_next ?_
      refine Zc ?_
      refine Za ?_
      refine Zm ?_
      refine Run.nil ?_
      refine thn_next ⟨i + 1, by omega, by omega, ⟨(by repeat first | exact trivial | refine ⟨rfl, ?_⟩), rfl, rfl⟩, ?_⟩
      rw [← drop_set_next R (by omega)]; exact ent.gn
    · refine Zj ?_
      have e : i = R := by omega
      subst e
      refine thn_next ⟨(), trivial, ⟨(by repeat first | exact trivial | refine ⟨rfl, ?_⟩), rfl, rfl⟩, ?_⟩
      simp only [Nat.sub_self, List.replicate_zero, List.append_nil]; exact ent.go
  rintro _ _
  have hs0 : (List.replicate R (⟨-1, 0, 0⟩ : Iv)).length = R := by simp
  have hspan : lineS F 0 (meetsS (List.replicate R (⟨-1, 0, 0⟩ : Iv)) 0 F.params) line = spansF F line := by unfold spansF; rw [eR]
  generalize List.replicate R (⟨-1, 0, 0⟩ : Iv) = s0 at hs0 hspan ⊢
  -- parameters
  refine WP.meetK (α := Unit) (fun _ => True) (fun _ => []) (fun _ => [blk b2 (fcs F su sv) 25, blk wb [.pointer (some ⟨b2, 0, none⟩), iv.val, nv.val, av.val, bv.val] 87, slA 3 (Enc.int .i64) nv.val names, slA 84 Enc.slice av.val (A.map Prod.fst), rows 134 Enc.u64 A, slA 84 Enc.slice bv.val (B.map Prod.fst), rows 134 Enc.u64 B, slA 62 encIv pv.val (meetsS s0 0 F.params)]) ?_ ?_
  · refine Zp ?_
    refine Zf fo_25_1 ?_
    refine Zl 0 ag_22 ?_
    refine Zh sl_22 hu ?_
    refine Zm ?_
    refine Ze ?_
    refine WP.block ?_
    have hpl := hQ.pl
    refine WP.loopK (α := Nat × List Iv) (fun z => z.1 ≤ F.params.length ∧ z.2.length = R ∧ meetsS z.2 0 (F.params.drop z.1) = meetsS s0 0 F.params) (fun z => [(70, .int .i64 (z.1 : Int))]) (fun z => [blk b2 (fcs F su sv) 25, blk wb [.pointer (some ⟨b2, 0, none⟩), iv.val, nv.val, av.val, bv.val] 87, slA 3 (Enc.int .i64) nv.val names, slA 84 Enc.slice av.val (A.map Prod.fst), rows 134 Enc.u64 A, slA 84 Enc.slice bv.val (B.map Prod.fst), rows 134 Enc.u64 B, slA 62 encIv pv.val z.2]) (fun z => F.params.length - z.1) (0, s0) ⟨Nat.zero_le _, hs0, rfl⟩ ⟨(by repeat first | exact trivial | refine ⟨rfl, ?_⟩), rfl, rfl⟩ ent.go ?_
    rintro ⟨i, s1⟩ ⟨hi, hsl1, hz1⟩
    simp only at hi hsl1 hz1 ⊢
    refine Zp ?_
    refine Zi ?_
    refine Ze ?_
    refine WP.seq ?_
    refine WP.ite rfl (fun hlt => ?_) (fun hge => ?_)
    · refine Zb ?_
      obtain ⟨r, gr⟩ : ∃ y, F.params[i]? = some y := ⟨_, List.getElem?_eq_getElem (by omega)⟩
      have hdr2 : F.params.drop i = r :: F.params.drop (i + 1) := by rw [List.drop_eq_getElem_cons (by omega)]; congr 1; rw [List.getElem?_eq_getElem (by omega)] at gr; exact Option.some.inj gr
      obtain ⟨rr0, rr1⟩ := hQ.ps r (List.mem_of_getElem? gr)
      rw [hdr2] at hz1
      refine WP.seq ?_
      refine WP.block ?_
      refine Zp ?_
      refine Zx sl_22 hu ?_
      refine Zr ag_3 (SlR.cell0 hu gr rfl) ?_
      refine Zm ?_
      refine Ze ?_
      refine Zc ?_
      refine Zm ?_
      refine Zm ?_
      refine Run.call (Δ := [slA 62 encIv pv.val s1]) (Θ := [blk b2 (fcs F su sv) 25, blk wb [.pointer (some ⟨b2, 0, none⟩), iv.val, nv.val, av.val, bv.val] 87, slA 3 (Enc.int .i64) nv.val names, slA 84 Enc.slice av.val (A.map Prod.fst), rows 134 Enc.u64 A, slA 84 Enc.slice bv.val (B.map Prod.fst), rows 134 Enc.u64 B]) rfl rfl rfl rfl ok_40 rfl rfl ent.go (meet_ok hR pv s1 r 0 rr0 (by omega)) ?_; rintro _ _ rfl
      refine Run.nil ?_
      refine blk_norm ?_; refine thn_next ?_
      refine Zc ?_
      refine Za ?_
      refine Zm ?_
      refine Run.nil ?_
      exact thn_next ⟨(i + 1, meetS s1 r 0), ⟨by simp only; omega, by simp only; rw [meetS_len, hsl1], hz1⟩, by simp only; omega, ⟨(by repeat first | exact trivial | refine ⟨rfl, ?_⟩), rfl, rfl⟩, ent.go⟩
    · refine Zj ?_
      have e : i = F.params.length := by omega
      subst e
      rw [List.drop_length] at hz1
      have hz' : s1 = meetsS s0 0 F.params := hz1
      rw [← hz']
      exact thn_next ⟨(), trivial, ⟨(by repeat first | exact trivial | refine ⟨rfl, ?_⟩), rfl, rfl⟩, ent.go⟩
  rintro _ _
  have hs1 : (meetsS s0 0 F.params).length = R := by rw [meetsS_len, hs0]
  generalize meetsS s0 0 F.params = s1 at hs1 hspan ⊢
  refine Zp ?_
  refine Zm ?_
  refine Ze ?_
  -- the line
  refine WP.meetK (α := Int) (fun _ => True) (fun k => [(12, .int .i64 k)]) (fun _ => [slA 62 encIv pv.val (spansF F line)]) ?_ ?_
  · refine Zp ?_
    refine Zm ?_
    refine Zh sl_22 hlv ?_
    refine Zm ?_
    refine Ze ?_
    refine WP.block ?_
    refine WP.loopK (α := Nat × List Iv × Int) (fun z => z.1 ≤ line.length ∧ z.2.1.length = R ∧ 0 ≤ z.2.2 ∧ z.2.2 ≤ (z.1 : Int) * 1000001 ∧ lineS F z.2.2 z.2.1 (line.drop z.1) = spansF F line) (fun z => [(12, .int .i64 z.2.2), (80, .int .i64 (z.1 : Int))]) (fun z => [blk b2 (fcs F su sv) 25, blk wb [.pointer (some ⟨b2, 0, none⟩), iv.val, nv.val, av.val, bv.val] 87, slA 3 (Enc.int .i64) nv.val names, slA 84 Enc.slice av.val (A.map Prod.fst), rows 134 Enc.u64 A, slA 84 Enc.slice bv.val (B.map Prod.fst), rows 134 Enc.u64 B, slA 62 encIv pv.val z.2.1]) (fun z => line.length - z.1) (0, s1, 0) ⟨Nat.zero_le _, hs1, Int.le_refl 0, by simp, hspan⟩ ⟨(by repeat first | exact trivial | refine ⟨rfl, ?_⟩), rfl, rfl⟩ ent.go ?_
    rintro ⟨i, s, k⟩ ⟨hi, hsl, hk0, hk1, hz⟩
    simp only at hi hsl hk0 hk1 hz ⊢
    refine Zp ?_
    refine Zi ?_
    refine Ze ?_
    refine WP.seq ?_
    refine WP.ite rfl (fun hlt => ?_) (fun hge => ?_)
    · refine Zb ?_
      obtain ⟨c, gc⟩ : ∃ y, line[i]? = some y := ⟨_, List.getElem?_eq_getElem (by omega)⟩
      have hdr : line.drop i = c :: line.drop (i + 1) := by rw [List.drop_eq_getElem_cons (by omega)]; congr 1; rw [List.getElem?_eq_getElem (by omega)] at gc; exact Option.some.inj gc
      obtain ⟨c0, c1⟩ := hlin c (List.mem_of_getElem? gc)
      obtain ⟨bi, rfl⟩ : ∃ bi : Nat, c = (bi : Int) := ⟨c.toNat, by omega⟩
      have hbin : bi < F.blocks.length := by omega
      obtain ⟨b, gb⟩ : ∃ y, F.blocks[bi]? = some y := ⟨_, List.getElem?_eq_getElem hbin⟩
      have gb' : F.blocks[(bi : Int).toNat]? = some b := gb
      rw [hdr, lineS, gb'] at hz
      simp only [Int.toNat_natCast] at hz
      have hb1 := hS.bodies b (List.mem_of_getElem? gb)
      obtain ⟨⟨sa, a⟩, ga⟩ : ∃ y, A[bi]? = some y := ⟨_, List.getElem?_eq_getElem (by omega)⟩
      obtain ⟨⟨sw, w⟩, gw⟩ : ∃ y, B[bi]? = some y := ⟨_, List.getElem?_eq_getElem (by omega)⟩
      have ga2 : (A.map Prod.snd)[bi]? = some a := by rw [List.getElem?_map, ga]; rfl
      have gw2 : (B.map Prod.snd)[bi]? = some w := by rw [List.getElem?_map, gw]; rfl
      have ham : a.length = m := hra a (List.mem_of_getElem? ga2)
      have hwm : w.length = m := hrb w (List.mem_of_getElem? gw2)
      obtain ⟨ea, ia⟩ := hah ga2
      obtain ⟨eb, ib⟩ := hbe gw2
      obtain ⟨_, ⟨bu0, bv0, rfl, hbu, hbv⟩, hrow⟩ := hv.at gb
      have r0 : cellH hR ((elemAddr sv.val (bi * 4)).add 0) bu0 := by have := hrow 0 _ rfl; exact this
      refine WP.seq ?_
      refine WP.block ?_
      refine Zp ?_
      refine Zx sl_22 hlv ?_
      refine Zr ag_3 (SlR.cell0 hlv gc rfl) ?_
      refine Zm ?_
      refine Ze ?_
      refine Zp ?_
      iterate 4 refine Zm ?_
      refine Run.callLend (Δ := [slA 62 encIv pv.val s]) (Θ := [blk b2 (fcs F su sv) 25, blk wb [.pointer (some ⟨b2, 0, none⟩), iv.val, nv.val, av.val, bv.val] 87, slA 3 (Enc.int .i64) nv.val names, slA 84 Enc.slice av.val (A.map Prod.fst), rows 134 Enc.u64 A, slA 84 Enc.slice bv.val (B.map Prod.fst), rows 134 Enc.u64 B]) (Ξ := []) rfl rfl rfl rfl ok_41 rfl rfl ent.go (fun g hg hd => block_ok (un hR g) (hT.mono (sub_un_left hR g)) ⟨wb, 0, none⟩ ⟨b2, 0, none⟩ F su.val sv.val nv av bv pv names (A.map Prod.snd) (B.map Prod.snd) (funAt_box 0 hV rfl hg hd) hS hQ.regs ⟨lent_blk 1 0 rfl rfl hg hd, lent_blk 1 2 rfl rfl hg hd, lent_blk 1 3 rfl rfl hg hd, lent_blk 1 4 rfl rfl hg hd, lent_at 2 rfl hg hd, lent_rows 3 4 rfl rfl hg hd, lent_rows 5 6 rfl rfl hg hd, by omega⟩ bi b a w (aheadOf F bi) (behindOf F bi) gb ga2 gw2 (by omega) (by omega) ea eb ia ib (fun r hr => by have := mem_listOf.1 hr; exact ⟨this.1, this.2.1⟩) (fun r hr => by have := mem_listOf.1 hr; exact ⟨this.1, this.2.1⟩) s (by omega) k hk0 (by omega)) ?_; rintro _ _ rfl
      refine Ze ?_
      refine Zc ?_
      refine Zm ?_
      refine Zf fo_25_4 ?_
      refine Zl 1 ag_23 ?_
      refine Zm ?_
      refine Zx sl_23 hv ?_
      refine Zf fo_56_0 ?_
      refine Zr ag_52 r0 ?_
      refine Zh sl_52 hbu ?_
      refine Za ?_
      refine Za ?_
      refine Zm ?_
      refine Run.nil ?_
      refine blk_norm ?_; refine thn_next ?_
      refine Zc ?_
      refine Za ?_
      refine Zm ?_
      refine Run.nil ?_
      refine thn_next ⟨(i + 1, blockS (aheadOf F bi) (behindOf F bi) b k s, k + ((b.body.length : Int) + 1)), ⟨by simp only; omega, by simp only; rw [blockS_len, hsl], by simp only; omega, by simp only; omega, hz⟩, by simp only; omega, ⟨(by repeat first | exact trivial | refine ⟨rfl, ?_⟩), rfl, rfl⟩, ent.go⟩
    · refine Zj ?_
      have e : i = line.length := by omega
      subst e
      rw [List.drop_length, lineS] at hz
      subst hz
      exact thn_next ⟨k, trivial, ⟨(by repeat first | exact trivial | refine ⟨rfl, ?_⟩), rfl, rfl⟩, ent.go⟩
  rintro k _
  have hok := spans_ok (line := line) hQ hS (by omega)
  rw [eR] at hok
  have hol := hok.len
  have horeg := hok.regs
  have hosm := hok.small
  have hofl : ((spansF F line).filter keepB).length ≤ R := by rw [← hol]; exact List.length_filter_le _ _
  generalize hspe : spansF F line = s at hok hol horeg hosm hofl ⊢
  refine Zp ?_
  refine Zm ?_
  refine Run.call (Δ := [slA 62 encIv pv.val s]) (Θ := []) rfl rfl rfl rfl ok_42 rfl rfl ent.go (deleteFunc_ok hR pv s (by omega)) ?_; rintro _ _ ⟨ov, rfl, rfl⟩
  refine Zm ?_
  refine Ze ?_
  refine Zp ?_
  refine Zm ?_
  refine Run.call (Δ := [slA 62 encIv ov.val (s.filter keepB)]) (Θ := []) rfl rfl rfl rfl ok_44 rfl rfl ent.go (hstab hR ov _ horeg hosm (by omega)) ?_; rintro _ _ ⟨ys, hp, hs, rfl⟩
  refine Ze ?_
  refine Zp ?_
  iterate 3 refine Zm ?_
  refine Ze ?_
  refine WP.ret ?_
  exact retT [4, 5] _ rfl rfl ⟨_, ent.go, .inr (.inr ⟨hform, hline, ov, ys, rfl, by rw [hspe]; exact hp, hs, rfl⟩)⟩
end Go.Proofs.YtjjfehdlmdhhmaaDoor
end
