/- LiveAll: walked. -/
import Derived.Test.YtjjfehdlmdhhmaaDoorGL7
import Derived.Test.YtjjfehdlmdhhmaaDoorGY2
import Derived.Test.YtjjfehdlmdhhmaaDoorGY4
import Derived.Test.YtjjfehdlmdhhmaaDoorGU1
section
/- LiveAll: walked. -/
namespace Go.Proofs.YtjjfehdlmdhhmaaDoor
open Go.Sep
set_option linter.unusedSimpArgs false
set_option linter.unusedVariables false
attribute [local irreducible] blk slA mp mpF rows rowsBut many KK
theorem KK.pick (l : Bool) (a b n : Nat) (Γ : List HProp) : ent (KK false a n :: KK true b n :: Γ) (KK l (if l = true then b else a) n :: KK (!l) (if l = true then a else b) n :: Γ) := by
  cases l
  · exact ent.refl _
  · exact ent.perm (List.Perm.swap _ _ _)
theorem KK.unpick (l : Bool) (a b n : Nat) (Γ : List HProp) : ent (KK l (if l = true then b else a) n :: KK (!l) (if l = true then a else b) n :: Γ) (KK false a n :: KK true b n :: Γ) := by
  cases l
  · exact ent.refl _
  · exact ent.perm (List.Perm.swap _ _ _)
theorem KK.mono2 {l l' : Bool} {a b m m' n : Nat} (h1 : m ≤ n) (h2 : m' ≤ n) (Γ : List HProp) : ent (KK l a m :: KK l' b m' :: Γ) (KK l a n :: KK l' b n :: Γ) := ent.cons (KK.mono h1) (ent.cons (KK.mono h2) (ent.refl _))
set_option maxHeartbeats 2000000 in
set_option maxRecDepth 100000 in
theorem liveAll_ok (hR : Heap) (hT : TabH hR) (Fs : List LFun) (fv : SV) (hf : SlR rdFun hR fv.val Fs) (hn : Fs.length ≤ 17592186044416) (hW : ∀ F ∈ Fs, WideF F) :
    Tri Tryd.prog hR 8 #[fv.val] [] fun u Γ' => u = .bool true ∧ Γ' = [] := by
  refine Tri.ent (Tri.of (args := [fv.val]) Tryd.func8 rfl Tryd.ntmps8 (by simp) ?_)
  refine Zp ?_
  refine Zm ?_
  refine Ze ?_
  refine Zp ?_
  refine Run.callP [] ok_9 (alive_ok hR hT) ?_; rintro _ _ ⟨rfl, rfl⟩
  refine Zm ?_
  refine Ze ?_
  refine Zp ?_
  refine Run.build rfl bd_73 rfl rfl rfl rfl ?_
  refine Run.box rfl rfl rfl rfl rfl ?_
  intro b25
  refine Zm ?_
  refine Ze ?_
  refine WP.trim [4, 3, 0] [0] ?_
  refine WP.via (KK.new0 b25 _) ?_
  refine Zp ?_
  refine Run.build rfl bd_73 rfl rfl rfl rfl ?_
  refine Run.box rfl rfl rfl rfl rfl ?_
  intro b27
  refine Zm ?_
  refine Ze ?_
  refine WP.trim [5, 4, 3, 0] [1, 0] ?_
  refine WP.via (KK.new1 b27 _) ?_
  refine WP.trim [5, 4, 3, 0] [1, 0] ?_
  refine WP.seq ?_
  refine Zp ?_
  refine Zm ?_
  refine Ze ?_
  refine WP.block ?_
  refine WP.trim [6, 5, 4, 3, 0] [0, 1] ?_
  refine WP.loopC (α := Nat) (fun i => i ≤ Fs.length ∧ i ≤ 12) (fun i => [(6, .int .i64 (i : Int))]) (fun i => [(0, KK false b25 (189 * i)), (1, KK true b27 (189 * i))]) (fun i => 12 - i) 0 ⟨by omega, by omega⟩ ?_
  rintro i ⟨hi, hi2⟩
  refine WP.trim [6, 5, 4, 3, 0] [0, 1] ?_
  try simp only
  refine WP.seq ?_
  refine WP.seqCut [(35, .bool (decide ((i : Int) < Fs.length ∧ (i : Int) < 12))), (6, .int .i64 (i : Int)), (5, .pointer (some ⟨b27, 0, none⟩)), (4, .pointer (some ⟨b25, 0, none⟩)), (3, .bool true), (0, fv.val)] [KK false b25 (189 * i), KK true b27 (189 * i)] ?_ ?_
  · refine Zc ?_
    all_goals (first | refine Zm ?_)
    all_goals (first | refine Zm ?_)
    all_goals (first | refine Zh sl_34 hf ?_)
    all_goals (first | refine Zi ?_)
    all_goals (first | refine Run.tt (by first | assumption | omega) ?_ | refine Run.ff (by first | assumption | omega) ?_ | refine Run.split (fun hc31 => ?_) (fun hc31 => ?_) | refine Run.splitB (fun hc31 => ?_) (fun hc31 => ?_) | skip)
    all_goals (first | refine Zm ?_)
    all_goals (first | refine Zv ?_ | refine Zm ?_)
    all_goals (first | refine Zv ?_ | refine Zi ?_)
    all_goals (first | refine Zq ?_)
    all_goals (refine Run.nil ?_)
    all_goals refine thn_next ⟨⟨?_, rfl, rfl, rfl, rfl, rfl, trivial⟩, ent.refl _⟩
    all_goals first | (have h31 : i < Fs.length := by omega
                       simp [Env.get, h31]; done) | (have h31 : ¬ i < Fs.length := by omega
                                                     simp [Env.get, h31]; done)
  refine WP.ite rfl (fun hlt => ?_) (fun hge => ?_)
  · refine Zb ?_
    obtain ⟨hlt1, hlt2⟩ := hlt
    obtain ⟨F, gF0⟩ : ∃ y, Fs[(i : Int).toNat]? = some y := ⟨_, List.getElem?_eq_getElem (by omega)⟩
    have hWF := hW F (List.mem_of_getElem? gF0)
    obtain ⟨_, ⟨u0, v0, rfl, hu, hv⟩, hrow⟩ := hf.at gF0
    obtain ⟨su, rfl, _, _⟩ := SlR.sv hu
    obtain ⟨sv, rfl, _, _⟩ := SlR.sv hv
    refine WP.seq ?_
    refine WP.block ?_
    refine Zp ?_
    refine Zm ?_
    refine Zm ?_
    refine Zx sl_34 hf ?_
    refine Run.loadRagg rfl rfl ag_25 rfl rfl hrow rfl ?_
    refine Run.alloc rfl zr_25 rfl rfl rfl ?_
    intro b7
    refine Run.storeB 2 rfl rfl rfl rfl ag_25 rfl rfl rfl rfl rfl ?_
    refine Ze ?_
    refine WP.trim [7, 6, 5, 4, 3, 0] [0, 1, 2] ?_
    refine Zp ?_
    refine Run.loadBagg 2 rfl rfl ag_25 rfl rfl rfl rfl rfl ?_
    refine Run.callP [] ok_10 (small_ok hR F su sv hu hv hWF) ?_; rintro _ _ ⟨⟨s, rfl, hs⟩, rfl⟩
    refine Zm ?_
    refine Ze ?_
    refine WP.trim [8, 7, 6, 5, 4, 3, 0] [0, 1, 2] ?_
    refine WP.seq ?_
    refine WP.seqCut [(56, .bool (decide ¬ (s = true ∧ F.blocks.length ≤ 30 ∧ F.regs ≤ 60))), (7, .pointer (some ⟨b7, 0, none⟩)), (6, .int .i64 (i : Int)), (5, .pointer (some ⟨b27, 0, none⟩)), (4, .pointer (some ⟨b25, 0, none⟩)), (3, .bool true), (0, fv.val)] [KK false b25 (189 * i), KK true b27 (189 * i), blk b7 (fcs F su sv) 25] ?_ ?_
    · cases s with
      | false =>
        refine Zc ?_
        refine Zm ?_
        first | refine Run.bnot rfl rfl rfl rfl ?_ | refine Run.bnotB rfl rfl rfl rfl ?_ | refine Run.neg rfl rfl rfl rfl ?_
        refine Run.eqv (v' := .bool true) rfl ?_
        refine Zm ?_
        iterate 4 refine Zv ?_
        refine Zq ?_
        refine Zm ?_
        iterate 3 refine Zv ?_
        refine Zq ?_
        refine Run.nil ?_
        refine thn_next ⟨⟨?_, rfl, rfl, rfl, rfl, rfl, rfl, trivial⟩, ent.refl _⟩
        simp [Env.get]
      | true =>
        by_cases h1 : F.blocks.length ≤ 30
        · refine Zc ?_
          refine Zm ?_
          first | refine Run.bnot rfl rfl rfl rfl ?_ | refine Run.bnotB rfl rfl rfl rfl ?_ | refine Run.neg rfl rfl rfl rfl ?_
          refine Run.eqv (v' := .bool false) rfl ?_
          refine Zm ?_
          refine Zf fo_25_4 ?_
          refine Zl 2 ag_23 ?_
          refine Zh sl_23 hv ?_
          refine Zi ?_
          refine Run.ff (by omega) ?_
          refine Zq ?_
          refine Zm ?_
          refine Zf fo_25_2 ?_
          refine Zl 2 ag_3 ?_
          refine Zi ?_
          refine Zq ?_
          refine Run.nil ?_
          refine thn_next ⟨⟨?_, rfl, rfl, rfl, rfl, rfl, rfl, trivial⟩, ent.refl _⟩
          simp [Env.get, h1]
        · refine Zc ?_
          refine Zm ?_
          first | refine Run.bnot rfl rfl rfl rfl ?_ | refine Run.bnotB rfl rfl rfl rfl ?_ | refine Run.neg rfl rfl rfl rfl ?_
          refine Run.eqv (v' := .bool false) rfl ?_
          refine Zm ?_
          refine Zf fo_25_4 ?_
          refine Zl 2 ag_23 ?_
          refine Zh sl_23 hv ?_
          refine Zi ?_
          refine Run.tt (by omega) ?_
          refine Zq ?_
          refine Zm ?_
          iterate 3 refine Zv ?_
          refine Zq ?_
          refine Run.nil ?_
          refine thn_next ⟨⟨?_, rfl, rfl, rfl, rfl, rfl, rfl, trivial⟩, ent.refl _⟩
          simp [Env.get, h1]
    refine WP.ite rfl (fun hyes => ?_) (fun hno => ?_)
    · refine WP.trim [6, 5, 4, 3, 0] [0, 1] ?_
      refine WP.via (KK.mono2 (n := 189 * (i + 1)) (by omega) (by omega) _) ?_
      refine WP.exit ?_
      repeat refine thn_exit ?_
      refine blk_hit ?_; refine thn_next ?_
      refine Zc ?_
      refine Zm ?_
      refine Za ?_
      refine Zm ?_
      refine Run.nil ?_
      refine thn_next ⟨i + 1, ⟨by omega, by omega⟩, by omega, Ko.go, ent.gc⟩
    refine Zb ?_
    obtain ⟨hs1, hb30, hr60⟩ := Classical.not_not.1 hno
    have hY := hs hs1
    have hSF := hY.small
    have y1 := hY.params
    have y2 := hY.blocks
    have hV : FunV hR F su sv := ⟨hu, hv, by omega, by omega⟩
    refine WP.trim [7, 6, 5, 4, 3, 0] [0, 1, 2] ?_
    refine Zp ?_
    refine Zm ?_
    refine Ze ?_
    refine WP.seq ?_
    refine Zp ?_
    refine Zm ?_
    refine Ze ?_
    refine WP.block ?_
    refine WP.via (slA_nil 3 (Enc.int .i64) _) ?_
    refine WP.trim [10, 9, 7, 6, 5, 4, 3, 0] [0, 1, 2, 3] ?_
    refine WP.loopC (α := Nat × SV × List Int) (fun z => z.1 ≤ F.blocks.length ∧ z.2.2.length = z.1) (fun z => [(10, .int .i64 (z.1 : Int)), (9, z.2.1.val)]) (fun z => [(3, slA 3 (Enc.int .i64) z.2.1.val z.2.2)]) (fun z => F.blocks.length - z.1) (0, nilS, []) ⟨Nat.zero_le _, rfl⟩ ?_
    rintro ⟨k, lv, line⟩ ⟨hk, hll⟩
    simp only at hk hll
    refine WP.trim [10, 9, 7, 6, 5, 4, 3, 0] [0, 1, 2, 3] ?_
    try simp only
    refine WP.seq ?_
    refine Zp ?_
    refine Zm ?_
    refine Zf fo_25_4 ?_
    refine Zl 2 ag_23 ?_
    refine Zh sl_23 hv ?_
    refine Zi ?_
    refine Ze ?_
    refine WP.ite rfl (fun hlt => ?_) (fun hge => ?_)
    · refine Zb ?_
      have h1l : [(k : Int)].length = 1 := rfl
      refine WP.seq ?_
      refine WP.block ?_
      refine Zc ?_
      refine Zm ?_
      refine Zm ?_
      refine Run.buildSlice (E := (Enc.int .i64)) rfl sl_22 zr_3 ([(k : Int)]) rfl rfl rfl (by decide) rfl rfl ?_
      intro b66
      refine Run.append 3 rfl rfl rfl rfl rfl rfl sl_22 zr_3 rfl (src_own 4 rfl) (by first | omega | (simp <;> omega)) (by first | omega | (simp <;> omega)) ?_
      intro sv67 hv67
      refine Zm ?_
      refine Run.nil ?_
      refine blk_norm ?_; refine thn_next ?_
      refine Zc ?_
      refine Zm ?_
      refine Za ?_
      refine Zm ?_
      refine Run.nil ?_
      refine thn_next ⟨(k + 1, sv67, line ++ [(k : Int)]), ⟨by simp only; omega, by simp [hll]⟩, by simp only; omega, Ko.go, ent.gc⟩
    refine Zj ?_; refine thn_next ?_
    refine WP.trim [9, 7, 6, 5, 4, 3, 0] [0, 1, 2, 3] ?_
    refine Zp ?_
    refine Run.loadBagg 2 rfl rfl ag_25 rfl rfl rfl rfl rfl ?_
    refine Run.callP [] ok_13 (refLive_ok hR F su sv hV hSF) ?_; rintro _ _ hres; obtain ⟨o1, o2, P, Q, rfl, he1, hP, hQ⟩ := live_uni hres; refine Run.via (ent.app he1 (ent.refl _)) ?_
    refine Zm ?_
    refine Run.extract rfl rfl rfl rfl rfl ?_
    refine Run.extract rfl rfl rfl rfl rfl ?_
    refine Run.extract rfl rfl rfl rfl rfl ?_
    iterate 3 refine Zm ?_
    refine Ze ?_
    refine WP.trim [11, 12, 13, 9, 7, 6, 5, 4, 3, 0] [4, 5, 6, 7, 0, 1, 2, 3] ?_
    refine Zp ?_
    refine Run.loadBagg 2 rfl rfl ag_25 rfl rfl rfl rfl rfl ?_
    refine Zm ?_
    refine Run.callL [] [3] ok_18 (fun g hg hd => refIv_ok (un hR g) F su sv lv line (hV.mono (sub_un_left hR g)) hSF (lent_at 0 rfl hg hd) (by omega) (by omega)) ?_; rintro _ _ hres; obtain ⟨o3, zs, rfl, he2, hz⟩ := iv_uni hSF (by omega) hres; refine Run.via (ent.app (ent.app he2 (ent.refl _)) (ent.refl _)) ?_
    refine Zm ?_
    refine Run.extract rfl rfl rfl rfl rfl ?_
    refine Run.extract rfl rfl rfl rfl rfl ?_
    refine Zm ?_
    refine Zm ?_
    refine Ze ?_
    refine WP.trim [14, 15, 11, 12, 13, 9, 7, 6, 5, 4, 3, 0] [2, 3, 4, 1, 5, 6, 7, 8, 0] ?_
    refine WP.seq ?_
    refine Zp ?_
    refine Run.loadBagg 2 rfl rfl ag_25 rfl rfl rfl rfl rfl ?_
    refine Zm ?_
    refine Run.callL [] [3] ok_26 (fun g hg hd => again_ok (un hR g) (hT.mono (sub_un_left hR g)) F su sv lv line (hV.mono (sub_un_left hR g)) hY hr60 (lent_at 0 rfl hg hd) (by omega)) ?_; rintro _ _ ⟨rfl, rfl⟩
    first | refine Run.bnot rfl rfl rfl rfl ?_ | refine Run.bnotB rfl rfl rfl rfl ?_ | refine Run.neg rfl rfl rfl rfl ?_
    refine Run.eqv (v' := .bool false) rfl ?_
    refine Ze ?_
    refine Zno ?_
    refine Zb ?_
    refine WP.trim [14, 15, 11, 12, 13, 9, 7, 6, 5, 4, 3, 0] [1, 2, 3, 0, 4, 5, 6, 7, 8] ?_
    refine Zp ?_
    refine Zm ?_
    refine Ze ?_
    refine WP.block ?_
    refine WP.trim [16, 14, 15, 11, 12, 13, 9, 7, 6, 5, 4, 3, 0] [0, 1, 2, 3, 4, 5, 6, 7, 8] ?_
    refine WP.loopC (α := Nat) (fun t => t ≤ 3) (fun t => [(16, .int .i64 (t : Int))]) (fun t => [(0, KK false b25 (189 * i + 63 * t)), (1, KK true b27 (189 * i + 63 * t))]) (fun t => 3 - t) 0 (by omega) ?_
    intro t ht
    refine WP.trim [16, 14, 15, 11, 12, 13, 9, 7, 6, 5, 4, 3, 0] [0, 1, 2, 3, 4, 5, 6, 7, 8] ?_
    try simp only
    refine WP.seq ?_
    refine Zp ?_
    refine Zm ?_
    refine Zi ?_
    refine Ze ?_
    refine WP.ite rfl (fun hlt => ?_) (fun hge => ?_)
    · refine Zb ?_
      refine WP.seq ?_
      refine WP.block ?_
      refine Zp ?_
      refine Zm ?_
      refine Zm ?_
      refine Ze ?_
      refine WP.trim [17, 16, 14, 15, 11, 12, 13, 9, 7, 6, 5, 4, 3, 0] [0, 1, 2, 3, 4, 5, 6, 7, 8] ?_
      refine WP.meetC (α := Bool) (fun _ => True) (fun l => [(17, .pointer (some ⟨if l = true then b27 else b25, 0, none⟩))]) (fun _ => []) ?_ ?_
      · refine Zp ?_
        refine Zm ?_
        refine Zi ?_
        refine Ze ?_
        refine WP.ite rfl (fun hgt => ?_) (fun hle => ?_)
        · refine Zc ?_
          refine Zm ?_
          refine Zm ?_
          refine Run.nil ?_
          exact thn_next ⟨true, trivial, Ko.go, ent.gc⟩
        · exact WP.skip (thn_next ⟨false, trivial, Ko.go, ent.gc⟩)
      intro l _
      refine WP.trim [17, 16, 14, 15, 11, 12, 13, 9, 7, 6, 5, 4, 3, 0] [0, 1, 2, 3, 4, 5, 6, 7, 8] ?_
      refine WP.via (KK.pick l b25 b27 _ _) ?_
      refine Zp ?_
      refine Run.loadBagg 2 rfl rfl ag_25 rfl rfl rfl rfl rfl ?_
      refine Run.callP [] ok_12 (live_ok hR hT F su sv hV hSF) ?_; rintro _ _ hres; obtain ⟨o4, o5, P2, Q2, rfl, he4, hP2, hQ2⟩ := live_uni hres; refine Run.via (ent.app he4 (ent.refl _)) ?_
      refine Zm ?_
      refine Run.extract rfl rfl rfl rfl rfl ?_
      refine Run.extract rfl rfl rfl rfl rfl ?_
      refine Run.extract rfl rfl rfl rfl rfl ?_
      iterate 3 refine Zm ?_
      refine Ze ?_
      refine WP.trim [18, 19, 20, 17, 16, 14, 15, 11, 12, 13, 9, 7, 6, 5, 4, 3, 0] [4, 5, 6, 7, 8, 9, 10, 11, 12, 0, 1, 2, 3] ?_
      refine Zp ?_
      refine Run.loadBagg 2 rfl rfl ag_25 rfl rfl rfl rfl rfl ?_
      refine Zm ?_
      refine Run.callL [] [3] ok_17 (fun g hg hd => intervals_ok 262144 sortStableF (un hR g) (hT.mono (sub_un_left hR g)) F su sv lv line (hV.mono (sub_un_left hR g)) hSF (lent_at 0 rfl hg hd) (by omega) (fun h => (formQ h).r1)) ?_; rintro _ _ hres; obtain ⟨o6, zs2, rfl, he6, hz2⟩ := iv_uni hSF (by omega) hres; refine Run.via (ent.app (ent.app he6 (ent.refl _)) (ent.refl _)) ?_
      refine Zm ?_
      refine Run.extract rfl rfl rfl rfl rfl ?_
      refine Run.extract rfl rfl rfl rfl rfl ?_
      refine Zm ?_
      refine Zm ?_
      refine Ze ?_
      obtain rfl := okAns_uniq hz hz2
      have hzl := okAns_len hz
      obtain ⟨la1, la2⟩ := aheads_len F
      obtain ⟨lb1, lb2⟩ := behinds_len F
      have hPl : P2.length ≤ 30 := by have := congrArg List.length hP2; simp only [List.length_map] at this; omega
      have hQl : Q2.length ≤ 30 := by have := congrArg List.length hQ2; simp only [List.length_map] at this; omega
      have hPn : ∀ q ∈ P2, q.2.length ≤ 1000000 := fun q hq => la2 q.2 (hP2 ▸ List.mem_map_of_mem hq)
      have hQn : ∀ q ∈ Q2, q.2.length ≤ 1000000 := fun q hq => lb2 q.2 (hQ2 ▸ List.mem_map_of_mem hq)
      refine WP.trim [21, 22, 18, 19, 20, 17, 16, 14, 15, 11, 12, 13, 9, 7, 6, 5, 4, 3, 0] [2, 3, 4, 1, 5, 6, 7, 8, 9, 10, 11, 12, 13, 0] ?_
      refine WP.seq ?_
      refine Zp ?_
      refine Zm ?_
      refine Zm ?_
      refine Zi ?_
      refine Run.eqv (v' := .bool false) (by simp) ?_
      iterate 3 refine Zm ?_
      refine Zi ?_
      refine Run.eqv (v' := .bool false) (by simp) ?_
      refine Zq ?_
      iterate 3 refine Zm ?_
      refine Run.callL [] [9, 10, 4, 5] ok_14 (fun g hg hd => sameLists_ok (un hR g) o4.val o1.val (aheads F) (aheads F) (lent_rowsE hg hd hP2 0 1 rfl rfl) (lent_rowsE hg hd hP 2 3 rfl rfl) (by omega) (fun x hx => by have := la2 x hx; omega)) ?_; rintro _ _ ⟨rfl, rfl⟩; refine Run.eqv (v' := .bool true) (by simp) ?_
      first | refine Run.bnot rfl rfl rfl rfl ?_ | refine Run.bnotB rfl rfl rfl rfl ?_ | refine Run.neg rfl rfl rfl rfl ?_
      refine Run.eqv (v' := .bool false) rfl ?_
      refine Zq ?_
      iterate 3 refine Zm ?_
      refine Run.callL [] [11, 12, 8, 9] ok_14 (fun g hg hd => sameLists_ok (un hR g) o5.val o2.val (behinds F) (behinds F) (lent_rowsE hg hd hQ2 0 1 rfl rfl) (lent_rowsE hg hd hQ 2 3 rfl rfl) (by omega) (fun x hx => by have := lb2 x hx; omega)) ?_; rintro _ _ ⟨rfl, rfl⟩; refine Run.eqv (v' := .bool true) (by simp) ?_
      first | refine Run.bnot rfl rfl rfl rfl ?_ | refine Run.bnotB rfl rfl rfl rfl ?_ | refine Run.neg rfl rfl rfl rfl ?_
      refine Run.eqv (v' := .bool false) rfl ?_
      refine Zq ?_
      iterate 3 refine Zm ?_
      refine Run.callL [] [13, 12] ok_19 (fun g hg hd => sameSpans_ok (un hR g) o6.val o3.val zs zs (lent_at 0 rfl hg hd) (lent_at 1 rfl hg hd) (by omega)) ?_; rintro _ _ ⟨rfl, rfl⟩; refine Run.eqv (v' := .bool true) (by simp) ?_
      first | refine Run.bnot rfl rfl rfl rfl ?_ | refine Run.bnotB rfl rfl rfl rfl ?_ | refine Run.neg rfl rfl rfl rfl ?_
      refine Run.eqv (v' := .bool false) rfl ?_
      refine Zq ?_
      refine Ze ?_
      refine Zno ?_
      refine Zb ?_
      refine WP.trim [21, 18, 19, 17, 16, 14, 15, 11, 12, 13, 9, 7, 6, 5, 4, 3, 0] [10, 11, 12, 13, 8, 9, 4, 5, 1, 6, 7, 2, 3, 0] ?_
      refine Zp ?_
      refine Zm ?_
      refine Zm ?_
      refine Run.callP [0, 9, 10] ok_27 (keepSets_ok hR l _ (189 * i + 63 * t) o4 P2 (by omega) hPn) ?_; rintro _ _ rfl
      refine Ze ?_
      refine Zp ?_
      refine Zm ?_
      refine Zm ?_
      refine Run.callP [0, 9, 10] ok_27 (keepSets_ok hR l _ (189 * i + 63 * t + (P2.length + 1)) o5 Q2 (by omega) hQn) ?_; rintro _ _ rfl
      refine Ze ?_
      refine Zc ?_
      refine Zm ?_
      refine Zm ?_
      refine Run.callP [0, 9] ok_28 (keepRow_ok hR l _ (189 * i + 63 * t + (P2.length + 1) + (Q2.length + 1)) o6 zs (by omega) (by omega)) ?_; rintro _ _ rfl
      refine Run.nil ?_
      refine blk_norm ?_; refine thn_next ?_
      refine WP.trim [16, 14, 15, 11, 12, 13, 9, 7, 6, 5, 4, 3, 0] [0, 1, 2, 3, 4, 5, 6, 7, 8] ?_
      refine WP.via (KK.mono2 (n := 189 * i + 63 * (t + 1)) (by omega) (by omega) _) ?_
      refine WP.via (KK.unpick l b25 b27 _ _) ?_
      refine Zc ?_
      refine Zm ?_
      refine Za ?_
      refine Zm ?_
      refine Run.nil ?_
      refine thn_next ⟨t + 1, by omega, by omega, Ko.go, ent.gc⟩
    · refine Zj ?_
      refine blk_norm ?_; refine thn_next ?_
      refine WP.trim [6, 5, 4, 3, 0] [0, 1] ?_
      refine WP.via (KK.mono2 (n := 189 * (i + 1)) (by omega) (by omega) _) ?_
      refine Zc ?_
      refine Zm ?_
      refine Za ?_
      refine Zm ?_
      refine Run.nil ?_
      refine thn_next ⟨i + 1, ⟨by omega, by omega⟩, by omega, Ko.go, ent.gc⟩
  · refine Zj ?_; refine thn_next ?_
    refine WP.trim [5, 4, 3] [0, 1] ?_
    refine Zp ?_
    iterate 3 refine Zm ?_
    refine Run.callP [0] ok_29 (keepWhole_ok hR false b25 (189 * i) (by omega)) ?_; rintro _ _ ⟨rfl, rfl⟩
    refine Zq ?_
    refine Zm ?_
    refine Zm ?_
    refine Run.callP [0] ok_29 (keepWhole_ok hR true b27 (189 * i) (by omega)) ?_; rintro _ _ ⟨rfl, rfl⟩
    refine Zq ?_
    refine Zm ?_
    refine Ze ?_
    refine WP.ret ?_
    exact retT [2] _ rfl rfl ⟨_, ent.none _, rfl, rfl⟩
end Go.Proofs.YtjjfehdlmdhhmaaDoor
end
