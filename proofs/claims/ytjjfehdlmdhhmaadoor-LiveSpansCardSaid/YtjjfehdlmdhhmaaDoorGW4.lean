/- places: the least and the greatest place of a register along a line, by ways; walked. -/
import Derived.Test.YtjjfehdlmdhhmaaDoorGW2
import Derived.Test.YtjjfehdlmdhhmaaDoorGV5
import Derived.Test.YtjjfehdlmdhhmaaDoorGL7
section
/- places: the least and the greatest place of a register along a line, by ways; walked. -/
namespace Go.Proofs.YtjjfehdlmdhhmaaDoor
open Go.Sep
set_option linter.unusedSimpArgs false
set_option linter.unusedVariables false
attribute [local irreducible] blk slA mp mpF rows rowsBut many

theorem baseL_le {F : LFun} (hS : SmallF F) : ∀ (l : List Int), baseL F l ≤ 1000001 * l.length
  | [] => by simp [baseL]
  | i :: is => by
    have h1 := baseL_le hS is
    have h2 : bodyLen F i ≤ 1000000 := by
      unfold bodyLen
      split
      · rename_i b hb; have := hS.bodies b (List.mem_of_getElem? hb); omega
      · omega
    simp only [baseL, List.length_cons]; omega
theorem PI.zero {F : LFun} {r : Int} {line : List Int} {fr to : Int} (h : PI (fun p => r ∈ F.params ∧ p = 0) fr to 0) : PI (WaysB F r line 0) fr to 0 :=
  h.iff fun p => ⟨.inl, fun h => h.elim id fun ⟨q, _, _, hq, _⟩ => by omega⟩

set_option maxHeartbeats 4000000 in
set_option maxRecDepth 100000 in
theorem places_ok (hR : Heap) (F : LFun) (su sv : SV) (hu : SlR rdI hR su.val F.params) (hv : SlR rdBlk hR sv.val F.blocks) (hS : SmallF F) (hp : F.params.length ≤ 8) (hn : F.blocks.length ≤ 1000000) (hto : ∀ b ∈ F.blocks, ∀ c ∈ b.to, 0 ≤ c ∧ c < (F.blocks.length : Int))
    (line : List Int) (lv : SV) (hl : SlR rdI hR lv.val line) (hln : ∀ x ∈ line, 0 ≤ x ∧ x < (F.blocks.length : Int)) (hlen : line.length ≤ 1000000) (r : Int) :
    Tri Tryd.prog hR 25 #[.agg ⟨fcs F su sv⟩, lv.val, .int .i64 r] [] fun u Γ' => (∃ fr to k : Int, u = .tuple #[.int .i64 fr, .int .i64 to] ∧ PI (WaysB F r line line.length) fr to k) ∧ Γ' = [] := by
  refine Tri.ent (Tri.of (args := [.agg ⟨fcs F su sv⟩, lv.val, .int .i64 r]) Tryd.func25 rfl Tryd.ntmps25 (by simp) ?_)
  refine WP.seq ?_
  refine WP.plain cf0 rfl ?_
  refine Run.box rfl rfl rfl rfl rfl ?_
  intro b3
  refine Run.mv rfl rfl rfl rfl ?_
  refine Run.mv rfl rfl rfl rfl ?_
  refine Run.nil ?_
  refine thn_next ?_
  refine WP.trim [3, 1, 2] [0] ?_
  refine WP.freeze (Γ := []) [blk b3 (fcs F su sv) 25] fun g hg hd => ?_
  have sR : Sub hR (un hR g) := sub_un_left hR g
  have c1 := lent_blk (v := su.val) 0 1 rfl rfl hg hd
  have c4 := lent_blk (v := sv.val) 0 4 rfl rfl hg hd
  have cc : rowH (un hR g) ⟨b3, 0, none⟩ (fcs F su sv) := fun j v hj => by have h5 := lent_blk (v := v) 0 j rfl hj hg hd; have e : (⟨b3, 0, none⟩ : Addr).add j = ⟨b3, j, none⟩ := (by cases j <;> simp [Addr.add]); rw [e]; exact h5
  have hu2 := hu.mono sR
  have hv2 := hv.mono sR
  have hl2 := hl.mono sR
  generalize un hR g = hX at c1 c4 cc hu2 hv2 hl2
  clear hg hd sR
  refine WP.seq ?_
  refine WP.plain cf0 rfl ?_
  refine Run.mv rfl rfl rfl rfl ?_
  refine Run.mv rfl rfl rfl rfl ?_
  refine Run.nil ?_
  refine thn_next ?_
  refine WP.meetC (α := Int × Int) (fun z => PI (fun p => r ∈ F.params ∧ p = 0) z.1 z.2 0) (fun z => [(8, .int .i64 z.1), (9, .int .i64 z.2)]) (fun _ => []) ?_ ?_
  · refine WP.seq ?_
    refine WP.plain cf0 rfl ?_
    refine Run.fieldAddr rfl rfl fo_25_1 rfl rfl ?_
    refine Run.loadR rfl rfl ag_22 rfl rfl c1 ?_
    refine Run.mv rfl rfl rfl rfl ?_
    refine Run.callP [] ok_24 (has_ok hX su.val F.params r hu2 (by omega)) ?_; rintro _ _ ⟨rfl, rfl⟩
    refine Run.nil ?_
    refine thn_next ?_
    refine WP.ite rfl (fun h => ?_) (fun h => ?_)
    · refine WP.plain cf0 rfl ?_
      refine Run.mv rfl rfl rfl rfl ?_
      refine Run.mv rfl rfl rfl rfl ?_
      refine Run.nil ?_
      exact thn_next ⟨(0, 0), ⟨fun p hp => by omega, .inr ⟨Int.le_refl _, ⟨h, rfl⟩, ⟨h, rfl⟩, fun p hp => by simp only; omega⟩⟩, Ko.go, ent.gc⟩
    · refine WP.skip ?_
      exact thn_next ⟨(-1, -1), ⟨fun p hp => absurd hp.1 h, .inl ⟨rfl, rfl, fun p hp => h hp.1⟩⟩, Ko.go, ent.gc⟩
  rintro ⟨fr, to⟩ hP0
  simp only at hP0
  refine WP.trim [8, 9, 3, 1, 2] [] ?_
  refine WP.seq ?_
  refine WP.plain cf0 rfl ?_
  refine Run.mv rfl rfl rfl rfl ?_
  refine Run.nil ?_
  refine thn_next ?_
  refine WP.meetC (α := Int × Int × Int) (fun z => PI (WaysB F r line line.length) z.1 z.2.1 z.2.2) (fun z => [(8, .int .i64 z.1), (9, .int .i64 z.2.1), (10, .int .i64 z.2.2)]) (fun _ => []) ?_ ?_
  · refine WP.seq ?_
    refine WP.plain cf0 rfl ?_
    refine Run.mv rfl rfl rfl rfl ?_
    refine Run.nil ?_
    refine thn_next ?_
    refine WP.block ?_
    refine WP.loopC (α := Nat × Int × Int) (fun z => z.1 ≤ line.length ∧ PI (WaysB F r line z.1) z.2.1 z.2.2 (baseL F (line.take z.1))) (fun z => [(11, .int .i64 (z.1 : Int)), (8, .int .i64 z.2.1), (9, .int .i64 z.2.2), (10, .int .i64 (baseL F (line.take z.1)))]) (fun _ => []) (fun z => line.length - z.1) (0, fr, to) ⟨Nat.zero_le _, hP0.zero⟩ ?_
    rintro ⟨i, f, t⟩ ⟨hi, hP⟩
    simp only at hi hP
    refine WP.trim [11, 8, 9, 10, 3, 1, 2] [] ?_
    simp only
    refine WP.seq ?_
    refine WP.seq ?_
    refine WP.plain cf0 rfl ?_
    refine Run.mv rfl rfl rfl rfl ?_
    refine Run.mv rfl rfl rfl rfl ?_
    refine Run.lenR rfl rfl sl_22 rfl rfl hl2 ?_
    refine Run.int2 rfl rfl rfl rfl rfl rfl ?_
    refine Run.nil ?_
    refine thn_next ?_
    refine WP.ite rfl (fun hlt => ?_) (fun hge => ?_)
    · refine WP.skip ?_; refine thn_next ?_
      have hlt' : i < line.length := by omega
      obtain ⟨x, gx⟩ : ∃ y, line[(i : Int).toNat]? = some y := ⟨_, List.getElem?_eq_getElem hlt'⟩
      have gx' : line[i]? = some x := gx
      have hx := hln x (List.mem_of_getElem? gx)
      obtain ⟨xn, rfl⟩ : ∃ xn : Nat, x = (xn : Int) := ⟨x.toNat, by omega⟩
      have hxn : xn < F.blocks.length := by omega
      obtain ⟨b, gB⟩ : ∃ y, F.blocks[(xn : Int).toNat]? = some y := ⟨_, List.getElem?_eq_getElem hxn⟩
      have gB' : F.blocks[xn]? = some b := gB
      have hbm := List.mem_of_getElem? gB'
      have hb1 := hS.bodies b hbm
      have hb2 := hS.tos b hbm
      have hb4 := hto b hbm
      obtain ⟨_, ⟨bu0, bt0, rfl, hbu, hbt⟩, hrow⟩ := hv2.at gB
      obtain ⟨bu, rfl, _, _⟩ := SlR.sv hbu
      obtain ⟨bt, rfl, _, _⟩ := SlR.sv hbt
      have hbase := baseL_take gx' gB
      have hK0 := baseL_pos F (line.take i)
      have hK1 := baseL_le hS (line.take i)
      rw [List.length_take] at hK1
      have hK2 : baseL F (line.take i) ≤ 1000001000000 := by omega
      have hL := fun p => LineP.succ (r := r) gx' gB (p := p)
      clear hK1
      generalize baseL F (line.take i) = K at hP hbase hK0 hK2 hL ⊢
      refine WP.trim [11, 8, 9, 10, 3, 1, 2] [] ?_
      refine WP.meetC (α := Int × Int) (fun z => PI (WaysB F r line (i + 1)) z.1 z.2 (baseL F (line.take (i + 1)))) (fun z => [(8, .int .i64 z.1), (9, .int .i64 z.2), (10, .int .i64 (baseL F (line.take (i + 1))))]) (fun _ => []) ?_ ?_
      · refine WP.block ?_
        refine WP.seq ?_
        refine WP.drawn0 cf0 mixed rfl (by kernel_rfl) ?_
        refine Run.fieldAddr rfl rfl fo_25_4 rfl rfl ?_
        refine Run.loadR rfl rfl ag_23 rfl rfl c4 ?_
        refine Run.mv rfl rfl rfl rfl ?_
        refine Run.mv rfl rfl rfl rfl ?_
        refine Run.idxR rfl rfl rfl sl_22 rfl rfl hl2 (by rfl) (by omega) (by omega) ?_
        refine Run.loadR rfl rfl ag_3 rfl rfl (SlR.cell0 hl2 gx rfl) ?_
        refine Run.idxR rfl rfl rfl sl_23 rfl rfl hv2 (by rfl) (by omega) (by omega) ?_
        refine Run.loadRagg rfl rfl ag_56 rfl rfl hrow rfl ?_
        refine Run.alloc rfl zr_56 rfl rfl rfl ?_
        intro b12
        refine Run.storeB 0 rfl rfl rfl rfl ag_56 rfl rfl rfl rfl rfl ?_
        refine Run.nil ?_
        refine thn_next ?_
        refine WP.trim [12, 11, 8, 9, 10, 3, 1, 2] [0] ?_
        refine WP.freeze (Γ := []) [blk b12 [bu.val, .int .i64 b.kind, .int .i64 b.value, bt.val] 56] fun g hg hd => ?_
        have sR : Sub hX (un hX g) := sub_un_left hX g
        have d0 := lent_blk (v := bu.val) 0 0 rfl rfl hg hd
        have d3 := lent_blk (v := bt.val) 0 3 rfl rfl hg hd
        have cc := cc.mono sR
        have hv2 := hv2.mono sR
        have hl2 := hl2.mono sR
        have hbu := hbu.mono sR
        have hbt := hbt.mono sR
        generalize un hX g = hY at d0 d3 cc hv2 hl2 hbu hbt
        clear hg hd sR hrow
        refine WP.seq ?_
        refine WP.plain cf0 rfl ?_
        refine Run.mv rfl rfl rfl rfl ?_
        refine Run.nil ?_
        refine thn_next ?_
        refine WP.block ?_
        refine WP.loopC (α := Nat × Int × Int) (fun z => z.1 ≤ b.body.length + 1 ∧ PI (fun p => WaysB F r line i p ∨ BlkP F r xn b K z.1 p) z.2.1 z.2.2 (K + (z.1 : Int))) (fun z => [(13, .int .i64 (z.1 : Int)), (8, .int .i64 z.2.1), (9, .int .i64 z.2.2), (10, .int .i64 (K + (z.1 : Int)))]) (fun _ => []) (fun z => b.body.length + 1 - z.1) (0, f, t) ⟨Nat.zero_le _, by
          have := hP.iff (C := fun p => WaysB F r line i p ∨ BlkP F r xn b K 0 p) (fun p => ⟨.inl, fun h => h.elim id fun ⟨j, hj, _⟩ => by omega⟩)
          simpa using this⟩ ?_ (hc := Ko.go ⟨rfl, rfl, rfl, by rw [show K + (((0, f, t) : Nat × Int × Int).1 : Int) = K by simp]; rfl, trivial⟩)
        rintro ⟨j, f, t⟩ ⟨hj, hP⟩
        simp only at hj hP
        refine WP.trim [13, 8, 9, 10, 12, 11, 3, 1, 2] [] ?_
        simp only
        refine WP.seq ?_
        refine WP.seq ?_
        refine WP.plain cf0 rfl ?_
        refine Run.mv rfl rfl rfl rfl ?_
        refine Run.fieldAddr rfl rfl fo_56_0 rfl rfl ?_
        refine Run.loadR rfl rfl ag_52 rfl rfl d0 ?_
        refine Run.lenR rfl rfl sl_52 rfl rfl hbu ?_
        refine Run.int2 rfl rfl rfl rfl rfl rfl ?_
        refine Run.nil ?_
        refine thn_next ?_
        refine WP.ite rfl (fun hjl => ?_) (fun hjg => ?_)
        · refine WP.skip ?_; refine thn_next ?_
          refine WP.seq ?_
          refine WP.block ?_
          refine WP.seq ?_
          refine WP.plain cf0 rfl ?_
          refine Run.mv rfl rfl rfl rfl ?_
          refine Run.add64 rfl rfl rfl rfl rfl (by first | omega | (simp <;> omega)) (by first | omega | (simp <;> omega)) ?_
          refine Run.mv rfl rfl rfl rfl ?_
          refine Run.nil ?_
          refine thn_next ?_
          refine WP.seq ?_
          refine WP.drawn0 cfF mixed rfl (by kernel_rfl) ?_
          refine Run.loadFagg rfl rfl ag_25 rfl rfl cc rfl ?_
          refine Run.mv rfl rfl rfl rfl ?_
          refine Run.mv rfl rfl rfl rfl ?_
          refine Run.idxR rfl rfl rfl sl_22 rfl rfl hl2 (by rfl) (by omega) (by omega) ?_
          refine Run.loadF rfl rfl ag_3 rfl rfl (SlR.cell0 hl2 gx rfl) ?_
          refine Run.mv rfl rfl rfl rfl ?_
          refine Run.build rfl bd_60 rfl rfl rfl rfl ?_
          refine Run.mv rfl rfl rfl rfl ?_
          refine Run.callP [] ok_23 (wantL_ok hY F su sv hv2 hS hn hto xn j hxn r) ?_; rintro _ _ ⟨⟨s1, rfl, hs1⟩, rfl⟩
          refine Run.mv rfl rfl rfl rfl ?_
          refine Run.nil ?_
          refine thn_next ?_
          refine WP.seq ?_
          refine WP.plain cf0 rfl ?_
          refine Run.mv rfl rfl rfl rfl ?_
          refine Run.nil ?_
          refine thn_next ?_
          refine WP.trim [13, 8, 9, 10, 12, 11, 14, 15, 3, 1, 2] [] ?_
          refine WP.meetC (α := Bool) (fun s => s = true ↔ BehP F r xn b j) (fun s => [(15, .bool s)]) (fun _ => []) ?_ ?_
          · refine WP.seq ?_
            refine WP.plain cf0 rfl ?_
            refine Run.mv rfl rfl rfl rfl ?_
            refine Run.fieldAddr rfl rfl fo_56_0 rfl rfl ?_
            refine Run.loadR rfl rfl ag_52 rfl rfl d0 ?_
            refine Run.lenR rfl rfl sl_52 rfl rfl hbu ?_
            refine Run.int2 rfl rfl rfl rfl rfl rfl ?_
            refine Run.nil ?_
            refine thn_next ?_
            refine WP.ite rfl (fun hjb => ?_) (fun hjb => ?_)
            · have hjb' : j < b.body.length := by omega
              obtain ⟨y, gy⟩ : ∃ y, b.body[(j : Int).toNat]? = some y := ⟨_, List.getElem?_eq_getElem hjb'⟩
              have gy' : b.body[j]? = some y := gy
              obtain ⟨_, ⟨ya, rfl, hya⟩, hyrow⟩ := hbu.at gy
              have y1 : cellH hY ((elemAddr bu.val (j * 4)).add 1) (.int .i64 y.dst) := by have := hyrow 1 _ rfl; exact this
              have hB : BehP F r xn b j ↔ y.dst = r ∨ AtP F r xn (j + 1) := by
                unfold BehP; rw [if_pos hjb']
                constructor
                · rintro (⟨x, hx, h⟩ | h)
                  · rw [gy'] at hx; cases hx; exact .inl h
                  · exact .inr h
                · rintro (h | h)
                  · exact .inl ⟨y, gy', h⟩
                  · exact .inr h
              by_cases he : y.dst = r
              · refine WP.drawn0 cfF mixed rfl (by kernel_rfl) ?_
                refine Run.fieldAddr rfl rfl fo_56_0 rfl rfl ?_
                refine Run.loadF rfl rfl ag_52 rfl rfl d0 ?_
                refine Run.mv rfl rfl rfl rfl ?_
                refine Run.idxR rfl rfl rfl sl_52 rfl rfl hbu (by rfl) (by omega) (by omega) ?_
                refine Run.fieldAddr rfl rfl fo_67_1 rfl rfl ?_
                refine Run.loadF rfl rfl ag_3 rfl rfl y1 ?_
                refine Run.mv rfl rfl rfl rfl ?_
                refine Run.int2 rfl rfl rfl rfl rfl rfl ?_
                refine Run.tt he ?_
                refine Run.mv rfl rfl rfl rfl ?_
                refine Run.not rfl rfl ?_
                refine Run.not rfl rfl ?_
                refine Run.not rfl rfl ?_
                refine Run.not rfl rfl ?_
                refine Run.not rfl rfl ?_
                refine Run.not rfl rfl ?_
                refine Run.not rfl rfl ?_
                refine Run.not rfl rfl ?_
                refine Run.not rfl rfl ?_
                refine Run.not rfl rfl ?_
                refine Run.pick rfl rfl rfl rfl rfl ?_
                refine Run.mv rfl rfl rfl rfl ?_
                refine Run.nil ?_
                exact thn_next ⟨true, by rw [hB]; simp [he], Ko.go, ent.gc⟩
              · refine WP.drawn0 cfF mixed rfl (by kernel_rfl) ?_
                refine Run.fieldAddr rfl rfl fo_56_0 rfl rfl ?_
                refine Run.loadF rfl rfl ag_52 rfl rfl d0 ?_
                refine Run.mv rfl rfl rfl rfl ?_
                refine Run.idxR rfl rfl rfl sl_52 rfl rfl hbu (by rfl) (by omega) (by omega) ?_
                refine Run.fieldAddr rfl rfl fo_67_1 rfl rfl ?_
                refine Run.loadF rfl rfl ag_3 rfl rfl y1 ?_
                refine Run.mv rfl rfl rfl rfl ?_
                refine Run.int2 rfl rfl rfl rfl rfl rfl ?_
                refine Run.ff he ?_
                refine Run.mv rfl rfl rfl rfl ?_
                refine Run.loadFagg rfl rfl ag_25 rfl rfl cc rfl ?_
                refine Run.mv rfl rfl rfl rfl ?_
                refine Run.mv rfl rfl rfl rfl ?_
                refine Run.idxR rfl rfl rfl sl_22 rfl rfl hl2 (by rfl) (by omega) (by omega) ?_
                refine Run.loadF rfl rfl ag_3 rfl rfl (SlR.cell0 hl2 gx rfl) ?_
                refine Run.mv rfl rfl rfl rfl ?_
                refine Run.add64 rfl rfl rfl rfl rfl (by first | omega | (simp <;> omega)) (by first | omega | (simp <;> omega)) ?_
                refine Run.build rfl bd_60 rfl rfl rfl rfl ?_
                refine Run.mv rfl rfl rfl rfl ?_
                refine Run.callP [] ok_23 (wantL_ok hY F su sv hv2 hS hn hto xn (j + 1) hxn r) ?_; rintro _ _ ⟨⟨s2, rfl, hs2⟩, rfl⟩
                refine Run.pick rfl rfl rfl rfl rfl ?_
                refine Run.mv rfl rfl rfl rfl ?_
                refine Run.nil ?_
                exact thn_next ⟨s2, by rw [hB, hs2]; simp [he], Ko.go, ent.gc⟩
            · refine WP.seq ?_
              refine WP.plain cf0 rfl ?_
              refine Run.mv rfl rfl rfl rfl ?_
              refine Run.nil ?_
              refine thn_next ?_
              refine WP.trim [16, 13, 8, 9, 10, 12, 11, 14, 15, 3, 1, 2] [] ?_
              refine WP.block ?_
              refine WP.loopC (α := Nat × Bool) (fun z => z.1 ≤ b.to.length ∧ (z.2 = true ↔ ∃ (q : Nat) (c : Int), q < z.1 ∧ b.to[q]? = some c ∧ AtP F r c.toNat 0)) (fun z => [(16, .int .i64 (z.1 : Int)), (15, .bool z.2)]) (fun _ => []) (fun z => b.to.length - z.1) (0, false) ⟨Nat.zero_le _, fun h => (by cases h), fun ⟨q, c, h, _⟩ => by omega⟩ ?_
              rintro ⟨m, s⟩ ⟨hm, hst⟩
              simp only at hm hst
              refine WP.trim [15, 16, 13, 8, 9, 10, 12, 11, 14, 3, 1, 2] [] ?_
              simp only
              refine WP.seq ?_
              refine WP.seq ?_
              refine WP.plain cf0 rfl ?_
              refine Run.mv rfl rfl rfl rfl ?_
              refine Run.fieldAddr rfl rfl fo_56_1 rfl rfl ?_
              refine Run.fieldAddr rfl rfl fo_54_2 rfl rfl ?_
              refine Run.loadR rfl rfl ag_22 rfl rfl d3 ?_
              refine Run.lenR rfl rfl sl_22 rfl rfl hbt ?_
              refine Run.int2 rfl rfl rfl rfl rfl rfl ?_
              refine Run.nil ?_
              refine thn_next ?_
              refine WP.ite rfl (fun hlt2 => ?_) (fun hge2 => ?_)
              · refine WP.skip ?_; refine thn_next ?_
                have hlt2' : m < b.to.length := by omega
                obtain ⟨c, gc⟩ : ∃ y, b.to[m]? = some y := ⟨_, List.getElem?_eq_getElem hlt2'⟩
                have gc' : b.to[(m : Int).toNat]? = some c := gc
                obtain ⟨hc0, hc1⟩ := hb4 c (List.mem_of_getElem? gc)
                obtain ⟨cn, rfl⟩ : ∃ cn : Nat, c = (cn : Int) := ⟨c.toNat, by omega⟩
                refine WP.seq ?_
                refine WP.block ?_
                cases s with
                | true =>
                  refine WP.drawn0 cfF mixed rfl (by kernel_rfl) ?_
                  refine Run.mv rfl rfl rfl rfl ?_
                  refine Run.mv rfl rfl rfl rfl ?_
                  refine Run.not rfl rfl ?_
                  refine Run.not rfl rfl ?_
                  refine Run.not rfl rfl ?_
                  refine Run.not rfl rfl ?_
                  refine Run.not rfl rfl ?_
                  refine Run.not rfl rfl ?_
                  refine Run.not rfl rfl ?_
                  refine Run.not rfl rfl ?_
                  refine Run.not rfl rfl ?_
                  refine Run.not rfl rfl ?_
                  refine Run.pick rfl rfl rfl rfl rfl ?_
                  refine Run.mv rfl rfl rfl rfl ?_
                  refine Run.nil ?_
                  refine blk_norm ?_; refine thn_next ?_
                  refine WP.plain cf0 rfl ?_
                  refine Run.mv rfl rfl rfl rfl ?_
                  refine Run.add64 rfl rfl rfl rfl rfl (by first | omega | (simp <;> omega)) (by first | omega | (simp <;> omega)) ?_
                  refine Run.mv rfl rfl rfl rfl ?_
                  refine Run.nil ?_
                  refine thn_next ⟨(m + 1, true), ⟨hlt2', fun _ => ?_, fun _ => rfl⟩, by simp only; omega, Ko.go, ent.gc⟩
                  obtain ⟨q, c, h1, h2, h3⟩ := hst.1 rfl
                  exact ⟨q, c, by simp only; omega, h2, h3⟩
                | false =>
                  refine WP.drawn0 cfF mixed rfl (by kernel_rfl) ?_
                  refine Run.mv rfl rfl rfl rfl ?_
                  refine Run.mv rfl rfl rfl rfl ?_
                  refine Run.loadFagg rfl rfl ag_25 rfl rfl cc rfl ?_
                  refine Run.fieldAddr rfl rfl fo_56_1 rfl rfl ?_
                  refine Run.fieldAddr rfl rfl fo_54_2 rfl rfl ?_
                  refine Run.loadF rfl rfl ag_22 rfl rfl d3 ?_
                  refine Run.mv rfl rfl rfl rfl ?_
                  refine Run.idxR rfl rfl rfl sl_22 rfl rfl hbt (by rfl) (by omega) (by omega) ?_
                  refine Run.loadF rfl rfl ag_3 rfl rfl (SlR.cell0 hbt gc' rfl) ?_
                  refine Run.build rfl bd_60 rfl rfl rfl rfl ?_
                  refine Run.mv rfl rfl rfl rfl ?_
                  refine Run.callP [] ok_23 (wantL_ok hY F su sv hv2 hS hn hto cn 0 (by omega) r) ?_; rintro _ _ ⟨⟨s2, rfl, hs2⟩, rfl⟩
                  refine Run.pick rfl rfl rfl rfl rfl ?_
                  refine Run.mv rfl rfl rfl rfl ?_
                  refine Run.nil ?_
                  refine blk_norm ?_; refine thn_next ?_
                  refine WP.plain cf0 rfl ?_
                  refine Run.mv rfl rfl rfl rfl ?_
                  refine Run.add64 rfl rfl rfl rfl rfl (by first | omega | (simp <;> omega)) (by first | omega | (simp <;> omega)) ?_
                  refine Run.mv rfl rfl rfl rfl ?_
                  refine Run.nil ?_
                  refine thn_next ⟨(m + 1, s2), ⟨hlt2', fun h => ⟨m, _, Nat.lt_succ_self m, gc, hs2.1 h⟩, fun ⟨q, c, h1, h2, h3⟩ => ?_⟩, by simp only; omega, Ko.go, ent.gc⟩
                  by_cases e : q = m
                  · subst e; rw [gc] at h2; cases h2; exact hs2.2 h3
                  · have := hst.2 ⟨q, c, by simp only at h1; omega, h2, h3⟩; cases this
              · refine WP.exit ?_; refine thn_exit ?_; refine thn_exit ?_; refine blk_hit ?_
                refine thn_next ⟨s, ?_, Ko.go, ent.gc⟩
                unfold BehP
                rw [hst, if_neg (by omega)]
                constructor
                · rintro ⟨q, c, h1, h2, h3⟩; exact ⟨c, List.mem_of_getElem? h2, h3⟩
                · rintro ⟨c, h2, h3⟩
                  obtain ⟨q, gq⟩ := List.getElem?_of_mem h2
                  exact ⟨q, c, by have := (List.getElem?_eq_some_iff.1 gq).1; omega, gq, h3⟩
          rintro s2 hs2
          have hkj : ∀ ρ : Env, ρ.get 10 = some (.int .i64 (K + (j : Int) + 1)) → ρ.get 10 = some (.int .i64 (K + ((j + 1 : Nat) : Int))) := fun ρ h => by rw [h, show K + (j : Int) + 1 = K + ((j + 1 : Nat) : Int) by omega]
          have hK' : K + ((j + 1 : Nat) : Int) = K + (j : Int) + 1 := by omega
          have hPn := (hP.at (a := s1 = true) (b := s2 = true) (by omega)).iff (C := fun p => WaysB F r line i p ∨ BlkP F r xn b K (j + 1) p) (fun p => by
            rw [BlkP.succ, StepP, ← hs1, ← hs2, show K + (j : Int) + 1 = K + 1 + j by omega, or_assoc])
          refine WP.trim [15, 13, 8, 9, 10, 12, 11, 14, 3, 1, 2] [] ?_
          refine WP.meetC (α := Int) (fun z => z = if s1 = true ∧ f < 0 then 2 * (K + (j : Int) + 1) else f) (fun z => [(8, .int .i64 z)]) (fun _ => []) ?_ ?_
          · refine WP.seq ?_
            cases s1 with
            | false =>
              refine WP.plain cf0 rfl ?_
              refine Run.mv rfl rfl rfl rfl ?_
              refine Run.mv rfl rfl rfl rfl ?_
              refine Run.not rfl rfl ?_
              refine Run.not rfl rfl ?_
              refine Run.pick rfl rfl rfl rfl rfl ?_
              refine Run.nil ?_
              refine thn_next ?_
              refine WP.cond (t := false) rfl (fun h => by cases h) (fun _ => ?_)
              refine WP.skip ?_
              exact thn_next ⟨f, by simp, Ko.go, ent.gc⟩
            | true =>
              refine WP.plain cf0 rfl ?_
              refine Run.mv rfl rfl rfl rfl ?_
              refine Run.mv rfl rfl rfl rfl ?_
              refine Run.mv rfl rfl rfl rfl ?_
              refine Run.int2 rfl rfl rfl rfl rfl rfl ?_
              refine Run.pick rfl rfl rfl rfl rfl ?_
              refine Run.nil ?_
              refine thn_next ?_
              refine WP.ite rfl (fun h => ?_) (fun h => ?_)
              · refine WP.plain cf0 rfl ?_
                refine Run.mv rfl rfl rfl rfl ?_
                refine Run.mul64 rfl rfl rfl rfl rfl (by first | omega | (simp <;> omega)) (by first | omega | (simp <;> omega)) ?_
                refine Run.mv rfl rfl rfl rfl ?_
                refine Run.nil ?_
                exact thn_next ⟨_, by rw [if_pos ⟨rfl, h⟩], Ko.go, ent.gc⟩
              · refine WP.skip ?_
                exact thn_next ⟨f, by rw [if_neg (fun h2 => h h2.2)], Ko.go, ent.gc⟩
          rintro f1 hf1
          rw [← hf1] at hPn
          refine WP.trim [8, 15, 13, 9, 10, 12, 11, 14, 3, 1, 2] [] ?_
          refine WP.meetC (α := Int) (fun z => z = if s2 = true ∧ f1 < 0 then 2 * (K + (j : Int) + 1) + 1 else f1) (fun z => [(8, .int .i64 z)]) (fun _ => []) ?_ ?_
          · refine WP.seq ?_
            cases s2 with
            | false =>
              refine WP.plain cf0 rfl ?_
              refine Run.mv rfl rfl rfl rfl ?_
              refine Run.mv rfl rfl rfl rfl ?_
              refine Run.not rfl rfl ?_
              refine Run.not rfl rfl ?_
              refine Run.pick rfl rfl rfl rfl rfl ?_
              refine Run.nil ?_
              refine thn_next ?_
              refine WP.cond (t := false) rfl (fun h => by cases h) (fun _ => ?_)
              refine WP.skip ?_
              exact thn_next ⟨f1, by simp, Ko.go, ent.gc⟩
            | true =>
              refine WP.plain cf0 rfl ?_
              refine Run.mv rfl rfl rfl rfl ?_
              refine Run.mv rfl rfl rfl rfl ?_
              refine Run.mv rfl rfl rfl rfl ?_
              refine Run.int2 rfl rfl rfl rfl rfl rfl ?_
              refine Run.pick rfl rfl rfl rfl rfl ?_
              refine Run.nil ?_
              refine thn_next ?_
              refine WP.ite rfl (fun h => ?_) (fun h => ?_)
              · refine WP.plain cf0 rfl ?_
                refine Run.mv rfl rfl rfl rfl ?_
                refine Run.mul64 rfl rfl rfl rfl rfl (by first | omega | (simp <;> omega)) (by first | omega | (simp <;> omega)) ?_
                refine Run.add64 rfl rfl rfl rfl rfl (by first | omega | (simp <;> omega)) (by first | omega | (simp <;> omega)) ?_
                refine Run.mv rfl rfl rfl rfl ?_
                refine Run.nil ?_
                exact thn_next ⟨_, by rw [if_pos ⟨rfl, h⟩], Ko.go, ent.gc⟩
              · refine WP.skip ?_
                exact thn_next ⟨f1, by rw [if_neg (fun h2 => h h2.2)], Ko.go, ent.gc⟩
          rintro f2 hf2
          rw [← hf2] at hPn
          refine WP.trim [8, 15, 13, 9, 10, 12, 11, 14, 3, 1, 2] [] ?_
          refine WP.meetC (α := Int) (fun z => z = if s1 = true then 2 * (K + (j : Int) + 1) else t) (fun z => [(9, .int .i64 z)]) (fun _ => []) ?_ ?_
          · refine WP.seq ?_
            refine WP.plain cf0 rfl ?_
            refine Run.mv rfl rfl rfl rfl ?_
            refine Run.nil ?_
            refine thn_next ?_
            refine WP.cond rfl (fun h => ?_) (fun h => ?_)
            · refine WP.plain cf0 rfl ?_
              refine Run.mv rfl rfl rfl rfl ?_
              refine Run.mul64 rfl rfl rfl rfl rfl (by first | omega | (simp <;> omega)) (by first | omega | (simp <;> omega)) ?_
              refine Run.mv rfl rfl rfl rfl ?_
              refine Run.nil ?_
              exact thn_next ⟨_, by rw [if_pos h], Ko.go, ent.gc⟩
            · refine WP.skip ?_
              exact thn_next ⟨t, by rw [if_neg (by rw [h]; simp)], Ko.go, ent.gc⟩
          rintro t1 ht1
          rw [← ht1] at hPn
          refine WP.trim [8, 15, 13, 9, 10, 12, 11, 14, 3, 1, 2] [] ?_
          refine WP.seq ?_
          refine WP.plain cf0 rfl ?_
          refine Run.mv rfl rfl rfl rfl ?_
          refine Run.nil ?_
          refine thn_next ?_
          refine WP.cond rfl (fun h => ?_) (fun h => ?_)
          · rw [if_pos h] at hPn
            refine WP.plain cf0 rfl ?_
            refine Run.mv rfl rfl rfl rfl ?_
            refine Run.mul64 rfl rfl rfl rfl rfl (by first | omega | (simp <;> omega)) (by first | omega | (simp <;> omega)) ?_
            refine Run.add64 rfl rfl rfl rfl rfl (by first | omega | (simp <;> omega)) (by first | omega | (simp <;> omega)) ?_
            refine Run.mv rfl rfl rfl rfl ?_
            refine Run.nil ?_
            refine blk_norm ?_; refine thn_next ?_
            refine WP.plain cf0 rfl ?_
            refine Run.mv rfl rfl rfl rfl ?_
            refine Run.add64 rfl rfl rfl rfl rfl (by first | omega | (simp <;> omega)) (by first | omega | (simp <;> omega)) ?_
            refine Run.mv rfl rfl rfl rfl ?_
            refine Run.nil ?_
            exact thn_next ⟨(j + 1, f2, 2 * (K + (j : Int) + 1) + 1), ⟨by simp only; omega, by simp only; rw [hK']; exact hPn⟩, by simp only; omega, Ko.go ⟨rfl, rfl, rfl, hkj _ rfl, trivial⟩, ent.gc⟩
          · rw [if_neg (by rw [h]; simp)] at hPn
            refine WP.skip ?_; refine blk_norm ?_; refine thn_next ?_
            refine WP.plain cf0 rfl ?_
            refine Run.mv rfl rfl rfl rfl ?_
            refine Run.add64 rfl rfl rfl rfl rfl (by first | omega | (simp <;> omega)) (by first | omega | (simp <;> omega)) ?_
            refine Run.mv rfl rfl rfl rfl ?_
            refine Run.nil ?_
            exact thn_next ⟨(j + 1, f2, t1), ⟨by simp only; omega, by simp only; rw [hK']; exact hPn⟩, by simp only; omega, Ko.go ⟨rfl, rfl, rfl, hkj _ rfl, trivial⟩, ent.gc⟩
        · refine WP.exit ?_; refine thn_exit ?_; refine thn_exit ?_; refine blk_hit ?_; refine blk_norm ?_
          have ej : j = b.body.length + 1 := by omega
          subst ej
          have hPe := hP.iff (C := WaysB F r line (i + 1)) (fun p => by unfold WaysB; rw [hL p, or_assoc]; exact Iff.rfl)
          have ek : K + ((b.body.length + 1 : Nat) : Int) = baseL F (line.take (i + 1)) := by omega
          rw [ek] at hPe ⊢
          exact thn_next ⟨(f, t), hPe, Ko.go, ent.gc⟩
      rintro ⟨f1, t1⟩ hP1
      refine WP.trim [8, 9, 10, 11, 3, 1, 2] [] ?_
      refine WP.plain cf0 rfl ?_
      refine Run.mv rfl rfl rfl rfl ?_
      refine Run.add64 rfl rfl rfl rfl rfl (by first | omega | (simp <;> omega)) (by first | omega | (simp <;> omega)) ?_
      refine Run.mv rfl rfl rfl rfl ?_
      refine Run.nil ?_
      exact thn_next ⟨(i + 1, f1, t1), ⟨hlt', hP1⟩, by simp only; omega, Ko.go, ent.gc⟩
    · refine WP.exit ?_; refine thn_exit ?_; refine thn_exit ?_; refine blk_hit ?_
      have ei : i = line.length := by omega
      subst ei
      exact thn_next ⟨(f, t, baseL F (line.take line.length)), hP, Ko.go, ent.gc⟩
  rintro ⟨fr, to, k⟩ hP
  refine WP.seq ?_
  refine WP.plain cf0 rfl ?_
  refine Run.mv rfl rfl rfl rfl ?_
  refine Run.mv rfl rfl rfl rfl ?_
  refine Run.mv rfl rfl rfl rfl ?_
  refine Run.mv rfl rfl rfl rfl ?_
  refine Run.nil ?_
  refine thn_next ?_
  refine WP.ret ?_
  exact retT [6, 7] _ rfl rfl ⟨_, ent.none _, ⟨fr, to, k, rfl, hP⟩, rfl⟩
end Go.Proofs.YtjjfehdlmdhhmaaDoor
end
