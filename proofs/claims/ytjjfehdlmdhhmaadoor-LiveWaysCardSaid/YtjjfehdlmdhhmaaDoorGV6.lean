/- LiveWays: walked. -/
import Derived.Test.YtjjfehdlmdhhmaaDoorGV8
import Derived.Test.YtjjfehdlmdhhmaaDoorGU1
import Derived.Test.YtjjfehdlmdhhmaaDoorGT2
import Derived.Test.YtjjfehdlmdhhmaaDoorGV5
section
/- LiveWays: walked. -/
namespace Go.Proofs.YtjjfehdlmdhhmaaDoor
open Go.Sep
set_option linter.unusedSimpArgs false
set_option linter.unusedVariables false
attribute [local irreducible] blk slA mp mpF rows rowsBut

theorem und_4 : Tryd.prog.underlying 4 = some .bool := by kernel_rfl
theorem funP_mono {r : RFun} {F : LFun} {h g : Heap} (H : funP r F h) (hd : Disj h g) : funP r F (un h g) := by
  obtain ⟨wp, w, rs, e, hl, hs⟩ := H
  exact ⟨wp, w, rs, e, hl, sat_mono hs hd⟩
/-- a lease, taken apart; its function as it is read -/
theorem lease_open {lb : Nat} {F : LFun} {Γ : List HProp} : ∀ h, sat (leaseP lb [F] :: Γ) h → ∃ z : SV × SV × SV × Int, sat ([blk lb [(z.1.cut 5 0 1).val, .int .i64 z.2.2.2] 38, slA 25 encFun (z.1.cut 5 0 1).val [((F, z.2.1, z.2.2.1) : RFun)], funP (F, z.2.1, z.2.2.1) F] ++ Γ) h := by
  rintro h ⟨h1, h2, ⟨w, ys, m, hl, hs⟩, g2, hd, e⟩
  match ys, hl with
  | [y], _ =>
    obtain ⟨a1, a2, p1, ⟨a3, a4, p2, ⟨a5, a6, p3, _, d3, e3⟩, d2, e2⟩, d1, e1⟩ := hs
    obtain ⟨a7, a8, p4, _, d4, e4⟩ : sat (List.zipWith funP [y] [F]) a5 := p3
    obtain ⟨y1, y2, y3⟩ := y
    have hy : y1 = F := by
      obtain ⟨_, _, _, e, _⟩ := p4
      simp only [Prod.mk.injEq] at e
      exact e.1
    subst hy
    have q2 : slA 25 encFun (w.cut 5 0 1).val [((y1, y2, y3) : RFun)] a3 := by
      have := slA_cut p2 (lo := 0) (hi := 1) (Nat.zero_le _) (by simp)
      exact this
    refine ⟨(w, y2, y3, m), sat_append.2 ⟨h1, h2, ?_, g2, hd, e⟩⟩
    exact ⟨a1, a2, p1, ⟨a3, a4, q2, ⟨a5, a6, by rw [e4]; exact (show funP (y1, y2, y3) y1 (un a7 a8) from funP_mono p4 d4), trivial, d3, e3⟩, d2, e2⟩, d1, e1⟩
theorem lease_live {hR g : Heap} (hT : TabH hR) {F : LFun} {su sv : SV} (hS : SmallF F) (h1 : F.params.length ≤ 1000000) (h2 : F.blocks.length ≤ 1000000) (hg : sat [funP (F, su, sv) F] g) (hd : Disj hR g) :
    Tri Tryd.prog (un hR g) 12 #[.agg ⟨fcs F su sv⟩] [] (LiveRes F) := by
  obtain ⟨g0, hg0, s0⟩ := sat_at 0 hg rfl (Sub.refl g)
  have hRd := fun_reads hg0 (s0.trans (sub_un_right hd))
  exact live_ok (un hR g) (hT.mono (sub_un_left hR g)) F su sv (hRd.read h1 h2).2 hS

set_option maxHeartbeats 4000000 in
set_option maxRecDepth 100000 in
theorem liveWays_ok (hR : Heap) (hT : TabH hR) (F : LFun) (su sv : SV) (hu : SlR rdI hR su.val F.params) (hv : SlR rdBlk hR sv.val F.blocks) (hW : WideF F) :
    Tri Tryd.prog hR 5 #[.agg ⟨fcs F su sv⟩] [] fun u Γ' => u = .bool true ∧ Γ' = [] := by
  refine Tri.ent (Tri.of (args := [.agg ⟨fcs F su sv⟩]) Tryd.func5 rfl Tryd.ntmps5 (by simp) ?_)
  refine WP.seq ?_
  refine WP.plain cf0 rfl ?_
  refine Run.box rfl rfl rfl rfl rfl ?_
  intro b1
  refine Run.mv rfl rfl rfl rfl ?_
  refine Run.nil ?_
  refine thn_next ?_
  refine WP.seq ?_
  refine WP.plain cf0 rfl ?_
  refine Run.call (Δ := []) (Θ := [blk b1 (fcs F su sv) 25]) rfl rfl rfl rfl ok_9 rfl rfl (by repeat first | exact ent.none _ | refine ent.at 0 rfl ?_ | refine ent.at 1 rfl ?_ | refine ent.at 2 rfl ?_ | refine ent.at 3 rfl ?_ | refine ent.at 4 rfl ?_ | refine ent.at 5 rfl ?_ | refine ent.at 6 rfl ?_ | refine ent.at 7 rfl ?_ | refine ent.at 8 rfl ?_ | refine ent.at 9 rfl ?_ | refine ent.at 10 rfl ?_ | refine ent.at 11 rfl ?_ | refine ent.at 12 rfl ?_ | refine ent.at 13 rfl ?_ | refine ent.at 14 rfl ?_ | refine ent.at 15 rfl ?_ | refine ent.at 16 rfl ?_ | refine ent.at 17 rfl ?_) (alive_ok hR hT) ?_; rintro _ _ ⟨rfl, rfl⟩
  refine Run.mv rfl rfl rfl rfl ?_
  refine Run.nil ?_
  refine thn_next ?_
  refine WP.seq ?_
  refine WP.plain cf0 rfl ?_
  refine Run.loadBagg 0 rfl rfl ag_25 rfl rfl rfl rfl rfl ?_
  refine Run.call (Δ := []) (Θ := [blk b1 (fcs F su sv) 25]) rfl rfl rfl rfl ok_10 rfl rfl (by repeat first | exact ent.none _ | refine ent.at 0 rfl ?_ | refine ent.at 1 rfl ?_ | refine ent.at 2 rfl ?_ | refine ent.at 3 rfl ?_ | refine ent.at 4 rfl ?_ | refine ent.at 5 rfl ?_ | refine ent.at 6 rfl ?_ | refine ent.at 7 rfl ?_ | refine ent.at 8 rfl ?_ | refine ent.at 9 rfl ?_ | refine ent.at 10 rfl ?_ | refine ent.at 11 rfl ?_ | refine ent.at 12 rfl ?_ | refine ent.at 13 rfl ?_ | refine ent.at 14 rfl ?_ | refine ent.at 15 rfl ?_ | refine ent.at 16 rfl ?_ | refine ent.at 17 rfl ?_) (small_ok hR F su sv hu hv hW) ?_; rintro _ _ ⟨⟨s, rfl, hs⟩, rfl⟩
  refine Run.mv rfl rfl rfl rfl ?_
  refine Run.nil ?_
  refine thn_next ?_
  refine WP.seq ?_
  refine WP.seq ?_
  refine WP.plain cf0 rfl ?_
  refine Run.mv rfl rfl rfl rfl ?_
  refine Run.bnotB rfl rfl rfl rfl ?_
  refine Run.eqv (v' := .bool false) rfl ?_
  refine Run.mv rfl rfl rfl rfl ?_
  refine Run.mv rfl rfl rfl rfl ?_
  refine Run.bnotB rfl rfl rfl rfl ?_
  refine Run.pick rfl rfl rfl rfl rfl ?_
  refine Run.nil ?_
  refine thn_next ?_
  cases s with
  | false =>
    refine WP.cond (t := true) rfl (fun _ => ?_) (fun h => by cases h)
    refine WP.seq ?_
    refine WP.plain cf0 rfl ?_
    refine Run.mv rfl rfl rfl rfl ?_
    refine Run.mv rfl rfl rfl rfl ?_
    refine Run.nil ?_
    refine thn_next ?_
    refine WP.ret ?_; refine thn_ret ?_
    exact retT [2] _ rfl rfl ⟨_, ent.none _, rfl, rfl⟩
  | true =>
  refine WP.cond (t := false) rfl (fun h => by cases h) (fun _ => ?_)
  refine WP.skip ?_; refine thn_next ?_
  have hY := hs rfl
  have hS := hY.small
  have y1 := hY.params
  have y2 := hY.blocks
  have hV : FunV hR F su sv := ⟨hu, hv, by omega, by omega⟩
  refine WP.seq ?_
  refine WP.plain cf0 rfl ?_
  refine Run.loadBagg 0 rfl rfl ag_25 rfl rfl rfl rfl rfl ?_
  refine Run.call (Δ := []) (Θ := [blk b1 (fcs F su sv) 25]) rfl rfl rfl rfl ok_21 rfl rfl (by repeat first | exact ent.none _ | refine ent.at 0 rfl ?_ | refine ent.at 1 rfl ?_ | refine ent.at 2 rfl ?_ | refine ent.at 3 rfl ?_ | refine ent.at 4 rfl ?_ | refine ent.at 5 rfl ?_ | refine ent.at 6 rfl ?_ | refine ent.at 7 rfl ?_ | refine ent.at 8 rfl ?_ | refine ent.at 9 rfl ?_ | refine ent.at 10 rfl ?_ | refine ent.at 11 rfl ?_ | refine ent.at 12 rfl ?_ | refine ent.at 13 rfl ?_ | refine ent.at 14 rfl ?_ | refine ent.at 15 rfl ?_ | refine ent.at 16 rfl ?_ | refine ent.at 17 rfl ?_) (refFormed_ok hR F su sv hV hS) ?_; rintro _ _ ⟨rfl, rfl⟩
  refine Run.mv rfl rfl rfl rfl ?_
  refine Run.nil ?_
  refine thn_next ?_
  refine WP.seq ?_
  refine WP.plain cf0 rfl ?_
  refine Run.mv rfl rfl rfl rfl ?_
  refine Run.nil ?_
  refine thn_next ?_
  refine WP.sup (ρ' := [(6, .int .i64 0), (5, .bool (formB F)), (1, .pointer (some ⟨b1, 0, none⟩)), (3, .bool true)]) (Γ' := [blk b1 (fcs F su sv) 25]) (covers_get ⟨rfl, rfl, rfl, rfl, trivial⟩) (by repeat first | exact ent.none _ | refine ent.at 0 rfl ?_ | refine ent.at 1 rfl ?_ | refine ent.at 2 rfl ?_ | refine ent.at 3 rfl ?_ | refine ent.at 4 rfl ?_ | refine ent.at 5 rfl ?_ | refine ent.at 6 rfl ?_ | refine ent.at 7 rfl ?_ | refine ent.at 8 rfl ?_ | refine ent.at 9 rfl ?_ | refine ent.at 10 rfl ?_ | refine ent.at 11 rfl ?_ | refine ent.at 12 rfl ?_ | refine ent.at 13 rfl ?_ | refine ent.at 14 rfl ?_ | refine ent.at 15 rfl ?_ | refine ent.at 16 rfl ?_ | refine ent.at 17 rfl ?_) ?_
  refine WP.meetK (α := Nat) (fun n => n ≤ 1000000000) (fun n => [(6, .int .i64 (n : Int))]) (fun _ => [blk b1 (fcs F su sv) 25]) ?_ ?_
  · refine WP.seq ?_
    refine WP.plain cf0 rfl ?_
    refine Run.mv rfl rfl rfl rfl ?_
    refine Run.nil ?_
    refine thn_next ?_
    refine WP.block ?_
    refine WP.loopK (α := Nat × Nat) (fun z => z.1 ≤ F.blocks.length ∧ z.2 ≤ 300000 * z.1) (fun z => [(7, .int .i64 (z.1 : Int)), (6, .int .i64 (z.2 : Int))]) (fun _ => [blk b1 (fcs F su sv) 25]) (fun z => F.blocks.length - z.1) (0, 0) ⟨Nat.zero_le _, Nat.le_refl _⟩ ⟨(by repeat first | exact trivial | refine ⟨rfl, ?_⟩), rfl, rfl⟩ (by repeat first | exact ent.none _ | refine ent.at 0 rfl ?_ | refine ent.at 1 rfl ?_ | refine ent.at 2 rfl ?_ | refine ent.at 3 rfl ?_ | refine ent.at 4 rfl ?_ | refine ent.at 5 rfl ?_ | refine ent.at 6 rfl ?_ | refine ent.at 7 rfl ?_ | refine ent.at 8 rfl ?_ | refine ent.at 9 rfl ?_ | refine ent.at 10 rfl ?_ | refine ent.at 11 rfl ?_ | refine ent.at 12 rfl ?_ | refine ent.at 13 rfl ?_ | refine ent.at 14 rfl ?_ | refine ent.at 15 rfl ?_ | refine ent.at 16 rfl ?_ | refine ent.at 17 rfl ?_) ?_
    rintro ⟨i, n⟩ ⟨hi, hn⟩
    simp only at hi hn ⊢
    refine WP.seq ?_
    refine WP.seq ?_
    refine WP.plain cf0 rfl ?_
    refine Run.mv rfl rfl rfl rfl ?_
    refine Run.fieldAddr rfl rfl fo_25_4 rfl rfl ?_
    refine Run.loadB 0 rfl rfl ag_23 rfl rfl rfl rfl rfl ?_
    refine Run.lenR rfl rfl sl_23 rfl rfl hv ?_
    refine Run.int2 rfl rfl rfl rfl rfl rfl ?_
    refine Run.nil ?_
    refine thn_next ?_
    refine WP.ite rfl (fun hlt => ?_) (fun hge => ?_)
    · refine WP.skip ?_; refine thn_next ?_
      obtain ⟨b, gB⟩ : ∃ y, F.blocks[(i : Int).toNat]? = some y := ⟨_, List.getElem?_eq_getElem (by omega)⟩
      have gB' : F.blocks[i]? = some b := gB
      have hb1 := (hY.each b (List.mem_of_getElem? gB')).2.1
      obtain ⟨_, ⟨bu, bt, rfl, hbu, hbt⟩, hrow⟩ := hv.at gB
      have r0 : cellH hR ((elemAddr sv.val (i * 4)).add 0) bu := by have := hrow 0 _ rfl; exact this
      refine WP.seq ?_
      refine WP.block ?_
      refine WP.plain cf0 rfl ?_
      refine Run.mv rfl rfl rfl rfl ?_
      refine Run.fieldAddr rfl rfl fo_25_4 rfl rfl ?_
      refine Run.loadB 0 rfl rfl ag_23 rfl rfl rfl rfl rfl ?_
      refine Run.mv rfl rfl rfl rfl ?_
      refine Run.idxR rfl rfl rfl sl_23 rfl rfl hv (by rfl) (by omega) (by omega) ?_
      refine Run.fieldAddr rfl rfl fo_56_0 rfl rfl ?_
      refine Run.loadR rfl rfl ag_52 rfl rfl r0 ?_
      refine Run.lenR rfl rfl sl_52 rfl rfl hbu ?_
      refine Run.add64 rfl rfl rfl rfl rfl (by first | omega | (simp <;> omega)) (by first | omega | (simp <;> omega)) ?_
      refine Run.mv rfl rfl rfl rfl ?_
      refine Run.nil ?_
      refine blk_norm ?_; refine thn_next ?_
      refine WP.plain cf0 rfl ?_
      refine Run.mv rfl rfl rfl rfl ?_
      refine Run.add64 rfl rfl rfl rfl rfl (by first | omega | (simp <;> omega)) (by first | omega | (simp <;> omega)) ?_
      refine Run.mv rfl rfl rfl rfl ?_
      refine Run.nil ?_
      exact thn_next ⟨(i + 1, n + b.body.length), ⟨by simp only; omega, by simp only; omega⟩, by simp only; omega, ⟨(by repeat first | exact trivial | refine ⟨rfl, ?_⟩), rfl, rfl⟩, (by repeat first | exact ent.none _ | refine ent.at 0 rfl ?_ | refine ent.at 1 rfl ?_ | refine ent.at 2 rfl ?_ | refine ent.at 3 rfl ?_ | refine ent.at 4 rfl ?_ | refine ent.at 5 rfl ?_ | refine ent.at 6 rfl ?_ | refine ent.at 7 rfl ?_ | refine ent.at 8 rfl ?_ | refine ent.at 9 rfl ?_ | refine ent.at 10 rfl ?_ | refine ent.at 11 rfl ?_ | refine ent.at 12 rfl ?_ | refine ent.at 13 rfl ?_ | refine ent.at 14 rfl ?_ | refine ent.at 15 rfl ?_ | refine ent.at 16 rfl ?_ | refine ent.at 17 rfl ?_)⟩
    · refine WP.exit ?_; refine thn_exit ?_; refine thn_exit ?_; refine blk_hit ?_
      exact thn_next ⟨n, by omega, ⟨(by repeat first | exact trivial | refine ⟨rfl, ?_⟩), rfl, rfl⟩, (by repeat first | exact ent.none _ | refine ent.at 0 rfl ?_ | refine ent.at 1 rfl ?_ | refine ent.at 2 rfl ?_ | refine ent.at 3 rfl ?_ | refine ent.at 4 rfl ?_ | refine ent.at 5 rfl ?_ | refine ent.at 6 rfl ?_ | refine ent.at 7 rfl ?_ | refine ent.at 8 rfl ?_ | refine ent.at 9 rfl ?_ | refine ent.at 10 rfl ?_ | refine ent.at 11 rfl ?_ | refine ent.at 12 rfl ?_ | refine ent.at 13 rfl ?_ | refine ent.at 14 rfl ?_ | refine ent.at 15 rfl ?_ | refine ent.at 16 rfl ?_ | refine ent.at 17 rfl ?_)⟩
  rintro n hn
  refine WP.meetK (α := Unit) (fun _ => formB F = true) (fun _ => []) (fun _ => [blk b1 (fcs F su sv) 25]) ?_ ?_
  · refine WP.seq ?_
    cases hform : formB F with
    | false =>
      refine WP.plain cf0 rfl ?_
      refine Run.mv rfl rfl rfl rfl ?_
      refine Run.bnotB rfl rfl rfl rfl ?_
      refine Run.eqv (v' := .bool true) rfl ?_
      refine Run.mv rfl rfl rfl rfl ?_
      refine Run.not rfl rfl ?_
      refine Run.not rfl rfl ?_
      refine Run.not rfl rfl ?_
      refine Run.not rfl rfl ?_
      refine Run.pick rfl rfl rfl rfl rfl ?_
      refine Run.mv rfl rfl rfl rfl ?_
      refine Run.not rfl rfl ?_
      refine Run.not rfl rfl ?_
      refine Run.not rfl rfl ?_
      refine Run.pick rfl rfl rfl rfl rfl ?_
      refine Run.mv rfl rfl rfl rfl ?_
      refine Run.not rfl rfl ?_
      refine Run.not rfl rfl ?_
      refine Run.pick rfl rfl rfl rfl rfl ?_
      refine Run.nil ?_
      refine thn_next ?_
      refine WP.cond (t := true) rfl (fun _ => ?_) (fun h => by cases h)
      refine WP.seq ?_
      refine WP.plain cf0 rfl ?_
      refine Run.mv rfl rfl rfl rfl ?_
      refine Run.mv rfl rfl rfl rfl ?_
      refine Run.nil ?_
      refine thn_next ?_
      refine WP.ret ?_; refine thn_ret ?_
      exact retT [2] _ rfl rfl ⟨_, ent.none _, rfl, rfl⟩
    | true =>
      by_cases h1 : (F.blocks.length : Int) > 30
      · refine WP.plain cf0 rfl ?_
        refine Run.mv rfl rfl rfl rfl ?_
        refine Run.bnotB rfl rfl rfl rfl ?_
        refine Run.eqv (v' := .bool false) rfl ?_
        refine Run.mv rfl rfl rfl rfl ?_
        refine Run.fieldAddr rfl rfl fo_25_4 rfl rfl ?_
        refine Run.loadB 0 rfl rfl ag_23 rfl rfl rfl rfl rfl ?_
        refine Run.lenR rfl rfl sl_23 rfl rfl hv ?_
        refine Run.int2 rfl rfl rfl rfl rfl rfl ?_
        refine Run.tt h1 ?_
        refine Run.pick rfl rfl rfl rfl rfl ?_
        refine Run.mv rfl rfl rfl rfl ?_
        refine Run.not rfl rfl ?_
        refine Run.not rfl rfl ?_
        refine Run.not rfl rfl ?_
        refine Run.pick rfl rfl rfl rfl rfl ?_
        refine Run.mv rfl rfl rfl rfl ?_
        refine Run.not rfl rfl ?_
        refine Run.not rfl rfl ?_
        refine Run.pick rfl rfl rfl rfl rfl ?_
        refine Run.nil ?_
        refine thn_next ?_
        refine WP.cond (t := true) rfl (fun _ => ?_) (fun h => by cases h)
        refine WP.seq ?_
        refine WP.plain cf0 rfl ?_
        refine Run.mv rfl rfl rfl rfl ?_
        refine Run.mv rfl rfl rfl rfl ?_
        refine Run.nil ?_
        refine thn_next ?_
        refine WP.ret ?_; refine thn_ret ?_
        exact retT [2] _ rfl rfl ⟨_, ent.none _, rfl, rfl⟩
      by_cases h2 : F.regs > 40
      · refine WP.plain cf0 rfl ?_
        refine Run.mv rfl rfl rfl rfl ?_
        refine Run.bnotB rfl rfl rfl rfl ?_
        refine Run.eqv (v' := .bool false) rfl ?_
        refine Run.mv rfl rfl rfl rfl ?_
        refine Run.fieldAddr rfl rfl fo_25_4 rfl rfl ?_
        refine Run.loadB 0 rfl rfl ag_23 rfl rfl rfl rfl rfl ?_
        refine Run.lenR rfl rfl sl_23 rfl rfl hv ?_
        refine Run.int2 rfl rfl rfl rfl rfl rfl ?_
        refine Run.ff h1 ?_
        refine Run.pick rfl rfl rfl rfl rfl ?_
        refine Run.mv rfl rfl rfl rfl ?_
        refine Run.fieldAddr rfl rfl fo_25_2 rfl rfl ?_
        refine Run.loadB 0 rfl rfl ag_3 rfl rfl rfl rfl rfl ?_
        refine Run.int2 rfl rfl rfl rfl rfl rfl ?_
        refine Run.tt h2 ?_
        refine Run.pick rfl rfl rfl rfl rfl ?_
        refine Run.mv rfl rfl rfl rfl ?_
        refine Run.not rfl rfl ?_
        refine Run.not rfl rfl ?_
        refine Run.pick rfl rfl rfl rfl rfl ?_
        refine Run.nil ?_
        refine thn_next ?_
        refine WP.cond (t := true) rfl (fun _ => ?_) (fun h => by cases h)
        refine WP.seq ?_
        refine WP.plain cf0 rfl ?_
        refine Run.mv rfl rfl rfl rfl ?_
        refine Run.mv rfl rfl rfl rfl ?_
        refine Run.nil ?_
        refine thn_next ?_
        refine WP.ret ?_; refine thn_ret ?_
        exact retT [2] _ rfl rfl ⟨_, ent.none _, rfl, rfl⟩
      by_cases h3 : (n : Int) > 2000
      · refine WP.plain cf0 rfl ?_
        refine Run.mv rfl rfl rfl rfl ?_
        refine Run.bnotB rfl rfl rfl rfl ?_
        refine Run.eqv (v' := .bool false) rfl ?_
        refine Run.mv rfl rfl rfl rfl ?_
        refine Run.fieldAddr rfl rfl fo_25_4 rfl rfl ?_
        refine Run.loadB 0 rfl rfl ag_23 rfl rfl rfl rfl rfl ?_
        refine Run.lenR rfl rfl sl_23 rfl rfl hv ?_
        refine Run.int2 rfl rfl rfl rfl rfl rfl ?_
        refine Run.ff h1 ?_
        refine Run.pick rfl rfl rfl rfl rfl ?_
        refine Run.mv rfl rfl rfl rfl ?_
        refine Run.fieldAddr rfl rfl fo_25_2 rfl rfl ?_
        refine Run.loadB 0 rfl rfl ag_3 rfl rfl rfl rfl rfl ?_
        refine Run.int2 rfl rfl rfl rfl rfl rfl ?_
        refine Run.ff h2 ?_
        refine Run.pick rfl rfl rfl rfl rfl ?_
        refine Run.mv rfl rfl rfl rfl ?_
        refine Run.mv rfl rfl rfl rfl ?_
        refine Run.int2 rfl rfl rfl rfl rfl rfl ?_
        refine Run.tt h3 ?_
        refine Run.pick rfl rfl rfl rfl rfl ?_
        refine Run.nil ?_
        refine thn_next ?_
        refine WP.cond (t := true) rfl (fun _ => ?_) (fun h => by cases h)
        refine WP.seq ?_
        refine WP.plain cf0 rfl ?_
        refine Run.mv rfl rfl rfl rfl ?_
        refine Run.mv rfl rfl rfl rfl ?_
        refine Run.nil ?_
        refine thn_next ?_
        refine WP.ret ?_; refine thn_ret ?_
        exact retT [2] _ rfl rfl ⟨_, ent.none _, rfl, rfl⟩
      refine WP.plain cf0 rfl ?_
      refine Run.mv rfl rfl rfl rfl ?_
      refine Run.bnotB rfl rfl rfl rfl ?_
      refine Run.eqv (v' := .bool false) rfl ?_
      refine Run.mv rfl rfl rfl rfl ?_
      refine Run.fieldAddr rfl rfl fo_25_4 rfl rfl ?_
      refine Run.loadB 0 rfl rfl ag_23 rfl rfl rfl rfl rfl ?_
      refine Run.lenR rfl rfl sl_23 rfl rfl hv ?_
      refine Run.int2 rfl rfl rfl rfl rfl rfl ?_
      refine Run.ff h1 ?_
      refine Run.pick rfl rfl rfl rfl rfl ?_
      refine Run.mv rfl rfl rfl rfl ?_
      refine Run.fieldAddr rfl rfl fo_25_2 rfl rfl ?_
      refine Run.loadB 0 rfl rfl ag_3 rfl rfl rfl rfl rfl ?_
      refine Run.int2 rfl rfl rfl rfl rfl rfl ?_
      refine Run.ff h2 ?_
      refine Run.pick rfl rfl rfl rfl rfl ?_
      refine Run.mv rfl rfl rfl rfl ?_
      refine Run.mv rfl rfl rfl rfl ?_
      refine Run.int2 rfl rfl rfl rfl rfl rfl ?_
      refine Run.ff h3 ?_
      refine Run.pick rfl rfl rfl rfl rfl ?_
      refine Run.nil ?_
      refine thn_next ?_
      refine WP.cond (t := false) rfl (fun h => by cases h) (fun _ => ?_)
      refine WP.skip ?_
      exact thn_next ⟨(), rfl, ⟨(by repeat first | exact trivial | refine ⟨rfl, ?_⟩), rfl, rfl⟩, (by repeat first | exact ent.none _ | refine ent.at 0 rfl ?_ | refine ent.at 1 rfl ?_ | refine ent.at 2 rfl ?_ | refine ent.at 3 rfl ?_ | refine ent.at 4 rfl ?_ | refine ent.at 5 rfl ?_ | refine ent.at 6 rfl ?_ | refine ent.at 7 rfl ?_ | refine ent.at 8 rfl ?_ | refine ent.at 9 rfl ?_ | refine ent.at 10 rfl ?_ | refine ent.at 11 rfl ?_ | refine ent.at 12 rfl ?_ | refine ent.at 13 rfl ?_ | refine ent.at 14 rfl ?_ | refine ent.at 15 rfl ?_ | refine ent.at 16 rfl ?_ | refine ent.at 17 rfl ?_)⟩
  rintro _ hform
  have hQ := formQ hform
  have q1 := hQ.r1
  refine WP.sup (ρ' := [(1, .pointer (some ⟨b1, 0, none⟩))]) (Γ' := [blk b1 (fcs F su sv) 25]) (covers_get ⟨rfl, trivial⟩) (by repeat first | exact ent.none _ | refine ent.at 0 rfl ?_ | refine ent.at 1 rfl ?_ | refine ent.at 2 rfl ?_ | refine ent.at 3 rfl ?_ | refine ent.at 4 rfl ?_ | refine ent.at 5 rfl ?_ | refine ent.at 6 rfl ?_ | refine ent.at 7 rfl ?_ | refine ent.at 8 rfl ?_ | refine ent.at 9 rfl ?_ | refine ent.at 10 rfl ?_ | refine ent.at 11 rfl ?_ | refine ent.at 12 rfl ?_ | refine ent.at 13 rfl ?_ | refine ent.at 14 rfl ?_ | refine ent.at 15 rfl ?_ | refine ent.at 16 rfl ?_ | refine ent.at 17 rfl ?_) ?_
  refine WP.seq ?_
  refine WP.plain cf0 rfl ?_
  refine Run.loadBagg 0 rfl rfl ag_25 rfl rfl rfl rfl rfl ?_
  refine Run.call (Δ := []) (Θ := [blk b1 (fcs F su sv) 25]) rfl rfl rfl rfl ok_11 rfl rfl (by repeat first | exact ent.none _ | refine ent.at 0 rfl ?_ | refine ent.at 1 rfl ?_ | refine ent.at 2 rfl ?_ | refine ent.at 3 rfl ?_ | refine ent.at 4 rfl ?_ | refine ent.at 5 rfl ?_ | refine ent.at 6 rfl ?_ | refine ent.at 7 rfl ?_ | refine ent.at 8 rfl ?_ | refine ent.at 9 rfl ?_ | refine ent.at 10 rfl ?_ | refine ent.at 11 rfl ?_ | refine ent.at 12 rfl ?_ | refine ent.at 13 rfl ?_ | refine ent.at 14 rfl ?_ | refine ent.at 15 rfl ?_ | refine ent.at 16 rfl ?_ | refine ent.at 17 rfl ?_) (one_ok hR F su sv hV hS) ?_; rintro _ _ ⟨lb, rfl, rfl⟩; refine Run.opens lease_open ?_; rintro ⟨w, su', sv', m⟩
  refine Run.nilCheck rfl rfl rfl rfl ?_
  refine Run.fieldAddr rfl rfl fo_38_0 rfl rfl ?_
  refine Run.fieldAddr rfl rfl fo_36_0 rfl rfl ?_
  refine Run.loadB 0 rfl rfl ag_34 rfl rfl rfl rfl rfl ?_
  refine Run.idxO 1 rfl rfl rfl sl_34 rfl rfl rfl rfl (by omega) (by simp) ?_
  refine Run.loadOagg 1 0 (y := ((F, su', sv') : RFun)) rfl rfl ag_25 rfl rfl rfl rfl rfl rfl ?_
  refine Run.callLend (Δ := []) (Θ := [funP (F, su', sv') F]) (Ξ := [blk b1 (fcs F su sv) 25]) rfl rfl rfl rfl ok_12 rfl rfl (by (try simp only [List.set_cons_zero, List.set_cons_succ, List.cons_append, List.nil_append]); repeat first | exact ent.none _ | refine ent.at 0 rfl ?_ | refine ent.at 1 rfl ?_ | refine ent.at 2 rfl ?_ | refine ent.at 3 rfl ?_ | refine ent.at 4 rfl ?_ | refine ent.at 5 rfl ?_ | refine ent.at 6 rfl ?_ | refine ent.at 7 rfl ?_ | refine ent.at 8 rfl ?_ | refine ent.at 9 rfl ?_ | refine ent.at 10 rfl ?_ | refine ent.at 11 rfl ?_ | refine ent.at 12 rfl ?_ | refine ent.at 13 rfl ?_ | refine ent.at 14 rfl ?_ | refine ent.at 15 rfl ?_ | refine ent.at 16 rfl ?_ | refine ent.at 17 rfl ?_) (fun g hg hd => lease_live (F := F) hT hS (by omega) (by omega) hg hd) ?_; rintro _ _ hres; obtain ⟨o1, o2, P, Q, rfl, hP, hQ', rfl⟩ := live_true hform hres
  refine Run.mv rfl rfl rfl rfl ?_
  refine Run.extract rfl rfl rfl rfl rfl ?_
  refine Run.extract rfl rfl rfl rfl rfl ?_
  refine Run.extract rfl rfl rfl rfl rfl ?_
  refine Run.mv rfl rfl rfl rfl ?_
  refine Run.mv rfl rfl rfl rfl ?_
  refine Run.mv rfl rfl rfl rfl ?_
  refine Run.nil ?_
  refine thn_next ?_
  refine WP.sup (ρ' := [(1, .pointer (some ⟨b1, 0, none⟩)), (8, o1.val), (9, o2.val), (10, .int .i64 0)]) (Γ' := [] ++ [slA 22 Enc.slice o1.val (P.map Prod.fst), rows 3 (Enc.int .i64) P, slA 22 Enc.slice o2.val (Q.map Prod.fst), rows 3 (Enc.int .i64) Q, blk b1 (fcs F su sv) 25]) (covers_get ⟨rfl, rfl, rfl, rfl, trivial⟩) (by (try simp only [List.set_cons_zero, List.set_cons_succ, List.cons_append, List.nil_append]); repeat first | exact ent.none _ | refine ent.at 0 rfl ?_ | refine ent.at 1 rfl ?_ | refine ent.at 2 rfl ?_ | refine ent.at 3 rfl ?_ | refine ent.at 4 rfl ?_ | refine ent.at 5 rfl ?_ | refine ent.at 6 rfl ?_ | refine ent.at 7 rfl ?_ | refine ent.at 8 rfl ?_ | refine ent.at 9 rfl ?_ | refine ent.at 10 rfl ?_ | refine ent.at 11 rfl ?_ | refine ent.at 12 rfl ?_ | refine ent.at 13 rfl ?_ | refine ent.at 14 rfl ?_ | refine ent.at 15 rfl ?_ | refine ent.at 16 rfl ?_ | refine ent.at 17 rfl ?_) ?_
  refine WP.freeze [slA 22 Enc.slice o1.val (P.map Prod.fst), rows 3 (Enc.int .i64) P, slA 22 Enc.slice o2.val (Q.map Prod.fst), rows 3 (Enc.int .i64) Q, blk b1 (fcs F su sv) 25] fun g hg hd => ?_
  have sR : Sub hR (un hR g) := sub_un_left hR g
  have ha : SlR rdI.slice (un hR g) o1.val ((List.range F.blocks.length).map (aheadOf F)) := by have := lent_rows 0 1 rfl rfl hg hd; rw [hP] at this; exact this
  have hb : SlR rdI.slice (un hR g) o2.val ((List.range F.blocks.length).map (behindOf F)) := by have := lent_rows 2 3 rfl rfl hg hd; rw [hQ'] at this; exact this
  have c2 := lent_blk (v := .int .i64 F.regs) 4 2 rfl rfl hg hd
  have c4 := lent_blk (v := sv.val) 4 4 rfl rfl hg hd
  have cc : rowH (un hR g) ⟨b1, 0, none⟩ (fcs F su sv) := fun j v hj => by have h5 := lent_blk (v := v) 4 j rfl hj hg hd; have e : (⟨b1, 0, none⟩ : Addr).add j = ⟨b1, j, none⟩ := (by cases j <;> simp [Addr.add]); rw [e]; exact h5
  have hv2 := hv.mono sR
  generalize un hR g = hX at ha hb c2 c4 cc hv2
  clear hg hd sR
  have lenA : ∀ i, (aheadOf F i).length ≤ 10000000000000 := fun i => by
    have := listOf_len F (fun r => LiveIn F r i)
    unfold aheadOf; omega
  have lenB : ∀ i, (behindOf F i).length ≤ 10000000000000 := fun i => by
    have := listOf_len F (fun r => LiveOut F r i)
    unfold behindOf; omega
  have hll : ((List.range F.blocks.length).map (aheadOf F)).length = F.blocks.length := by simp
  have hlb : ((List.range F.blocks.length).map (behindOf F)).length = F.blocks.length := by simp
  refine WP.seq ?_
  refine WP.seq ?_
  refine WP.plain cf0 rfl ?_
  refine Run.mv rfl rfl rfl rfl ?_
  refine Run.int2 rfl rfl rfl rfl rfl rfl ?_
  refine Run.ff (by omega) ?_
  refine Run.mv rfl rfl rfl rfl ?_
  refine Run.mv rfl rfl rfl rfl ?_
  refine Run.lenR rfl rfl sl_30 rfl rfl ha ?_
  refine Run.fieldAddr rfl rfl fo_25_4 rfl rfl ?_
  refine Run.loadR rfl rfl ag_23 rfl rfl c4 ?_
  refine Run.lenR rfl rfl sl_23 rfl rfl hv2 ?_
  refine Run.int2 rfl rfl rfl rfl rfl rfl ?_
  refine Run.ff (by omega) ?_
  refine Run.pick rfl rfl rfl rfl rfl ?_
  refine Run.mv rfl rfl rfl rfl ?_
  refine Run.mv rfl rfl rfl rfl ?_
  refine Run.lenR rfl rfl sl_30 rfl rfl hb ?_
  refine Run.fieldAddr rfl rfl fo_25_4 rfl rfl ?_
  refine Run.loadR rfl rfl ag_23 rfl rfl c4 ?_
  refine Run.lenR rfl rfl sl_23 rfl rfl hv2 ?_
  refine Run.int2 rfl rfl rfl rfl rfl rfl ?_
  refine Run.ff (by omega) ?_
  refine Run.pick rfl rfl rfl rfl rfl ?_
  refine Run.nil ?_
  refine thn_next ?_
  refine WP.cond (t := false) rfl (fun h => by cases h) (fun _ => ?_)
  refine WP.skip ?_; refine thn_next ?_
  refine WP.sup (ρ' := [(1, .pointer (some ⟨b1, 0, none⟩)), (8, o1.val), (9, o2.val)]) (Γ' := []) (covers_get ⟨rfl, rfl, rfl, trivial⟩) (by repeat first | exact ent.none _ | refine ent.at 0 rfl ?_ | refine ent.at 1 rfl ?_ | refine ent.at 2 rfl ?_ | refine ent.at 3 rfl ?_ | refine ent.at 4 rfl ?_ | refine ent.at 5 rfl ?_ | refine ent.at 6 rfl ?_ | refine ent.at 7 rfl ?_ | refine ent.at 8 rfl ?_ | refine ent.at 9 rfl ?_ | refine ent.at 10 rfl ?_ | refine ent.at 11 rfl ?_ | refine ent.at 12 rfl ?_ | refine ent.at 13 rfl ?_ | refine ent.at 14 rfl ?_ | refine ent.at 15 rfl ?_ | refine ent.at 16 rfl ?_ | refine ent.at 17 rfl ?_) ?_
  refine WP.meetK (α := Unit) (fun _ => True) (fun _ => []) (fun _ => []) ?_ ?_
  · refine WP.seq ?_
    refine WP.plain cf0 rfl ?_
    refine Run.mv rfl rfl rfl rfl ?_
    refine Run.nil ?_
    refine thn_next ?_
    refine WP.block ?_
    refine WP.loopK (α := Nat) (fun z => z ≤ F.blocks.length) (fun z => [(11, .int .i64 (z : Int))]) (fun _ => []) (fun z => F.blocks.length - z) 0 (Nat.zero_le _) ⟨(by repeat first | exact trivial | refine ⟨rfl, ?_⟩), rfl, rfl⟩ (by repeat first | exact ent.none _ | refine ent.at 0 rfl ?_ | refine ent.at 1 rfl ?_ | refine ent.at 2 rfl ?_ | refine ent.at 3 rfl ?_ | refine ent.at 4 rfl ?_ | refine ent.at 5 rfl ?_ | refine ent.at 6 rfl ?_ | refine ent.at 7 rfl ?_ | refine ent.at 8 rfl ?_ | refine ent.at 9 rfl ?_ | refine ent.at 10 rfl ?_ | refine ent.at 11 rfl ?_ | refine ent.at 12 rfl ?_ | refine ent.at 13 rfl ?_ | refine ent.at 14 rfl ?_ | refine ent.at 15 rfl ?_ | refine ent.at 16 rfl ?_ | refine ent.at 17 rfl ?_) ?_
    intro i hi
    refine WP.seq ?_
    refine WP.seq ?_
    refine WP.plain cf0 rfl ?_
    refine Run.mv rfl rfl rfl rfl ?_
    refine Run.fieldAddr rfl rfl fo_25_4 rfl rfl ?_
    refine Run.loadR rfl rfl ag_23 rfl rfl c4 ?_
    refine Run.lenR rfl rfl sl_23 rfl rfl hv2 ?_
    refine Run.int2 rfl rfl rfl rfl rfl rfl ?_
    refine Run.nil ?_
    refine thn_next ?_
    refine WP.ite rfl (fun hlt => ?_) (fun hge => ?_)
    · refine WP.skip ?_; refine thn_next ?_
      have hlt' : i < F.blocks.length := by omega
      obtain ⟨b, gB⟩ : ∃ y, F.blocks[(i : Int).toNat]? = some y := ⟨_, List.getElem?_eq_getElem hlt'⟩
      have gB' : F.blocks[i]? = some b := gB
      have hbm := List.mem_of_getElem? gB'
      have hb2 := hS.tos b hbm
      have hb4 := hQ.to b hbm
      obtain ⟨_, ⟨bu, bt, rfl, hbu, hbt⟩, hrow⟩ := hv2.at gB
      have r3 : cellH hX (((elemAddr sv.val (i * 4)).add 1).add 2) bt := by have := hrow 3 _ rfl; rw [add_plus]; exact this
      have ga : ((List.range F.blocks.length).map (aheadOf F))[(i : Int).toNat]? = some (aheadOf F i) := by rw [Int.toNat_natCast, List.getElem?_map, List.getElem?_range hlt']; rfl
      have gb : ((List.range F.blocks.length).map (behindOf F))[(i : Int).toNat]? = some (behindOf F i) := by rw [Int.toNat_natCast, List.getElem?_map, List.getElem?_range hlt']; rfl
      obtain ⟨_, ⟨ua, rfl, hua⟩, rowa⟩ := ha.at ga
      obtain ⟨_, ⟨ub, rfl, hub⟩, rowb⟩ := hb.at gb
      have ca : cellH hX (elemAddr o1.val (i * 1)) ua := by have := rowa 0 _ rfl; exact this
      have cb : cellH hX (elemAddr o2.val (i * 1)) ub := by have := rowb 0 _ rfl; exact this
      refine WP.sup (ρ' := [(11, .int .i64 (i : Int)), (11, .int .i64 0), (1, .pointer (some ⟨b1, 0, none⟩)), (8, o1.val), (9, o2.val)]) (Γ' := []) (Kp.sup (car := [(11, .int .i64 (i : Int))]) (ρ := [(11, .int .i64 0), (1, .pointer (some ⟨b1, 0, none⟩)), (8, o1.val), (9, o2.val)]) ⟨(by repeat first | exact trivial | refine ⟨rfl, ?_⟩), rfl, rfl⟩) (by repeat first | exact ent.none _ | refine ent.at 0 rfl ?_ | refine ent.at 1 rfl ?_ | refine ent.at 2 rfl ?_ | refine ent.at 3 rfl ?_ | refine ent.at 4 rfl ?_ | refine ent.at 5 rfl ?_ | refine ent.at 6 rfl ?_ | refine ent.at 7 rfl ?_ | refine ent.at 8 rfl ?_ | refine ent.at 9 rfl ?_ | refine ent.at 10 rfl ?_ | refine ent.at 11 rfl ?_ | refine ent.at 12 rfl ?_ | refine ent.at 13 rfl ?_ | refine ent.at 14 rfl ?_ | refine ent.at 15 rfl ?_ | refine ent.at 16 rfl ?_ | refine ent.at 17 rfl ?_) ?_
      refine WP.meetK (α := Unit) (fun _ => True) (fun _ => []) (fun _ => []) ?_ ?_
      · refine WP.block ?_
        refine WP.seq ?_
        refine WP.seq ?_
        refine WP.drawn0 cfF mixed rfl (by kernel_rfl) ?_
        refine Run.mv rfl rfl rfl rfl ?_
        refine Run.mv rfl rfl rfl rfl ?_
        refine Run.idxR rfl rfl rfl sl_30 rfl rfl ha (by rfl) (by omega) (by omega) ?_
        refine Run.loadF rfl rfl ag_22 rfl rfl ca ?_
        refine Run.fieldAddr rfl rfl fo_25_2 rfl rfl ?_
        refine Run.loadF rfl rfl ag_3 rfl rfl c2 ?_
        refine Run.call (Δ := []) (Θ := []) rfl rfl rfl rfl ok_22 rfl rfl (by repeat first | exact ent.none _ | refine ent.at 0 rfl ?_ | refine ent.at 1 rfl ?_ | refine ent.at 2 rfl ?_ | refine ent.at 3 rfl ?_ | refine ent.at 4 rfl ?_ | refine ent.at 5 rfl ?_ | refine ent.at 6 rfl ?_ | refine ent.at 7 rfl ?_ | refine ent.at 8 rfl ?_ | refine ent.at 9 rfl ?_ | refine ent.at 10 rfl ?_ | refine ent.at 11 rfl ?_ | refine ent.at 12 rfl ?_ | refine ent.at 13 rfl ?_ | refine ent.at 14 rfl ?_ | refine ent.at 15 rfl ?_ | refine ent.at 16 rfl ?_ | refine ent.at 17 rfl ?_) (rises_ok hX ua _ F.regs hua (lenA i) (listOf_sorted F _) (fun x hx => by have := mem_listOf.1 hx; exact ⟨this.1, this.2.1⟩)) ?_; rintro _ _ ⟨rfl, rfl⟩
        refine Run.bnotB rfl rfl rfl rfl ?_
        refine Run.eqv (v' := .bool false) rfl ?_
        refine Run.mv rfl rfl rfl rfl ?_
        refine Run.mv rfl rfl rfl rfl ?_
        refine Run.mv rfl rfl rfl rfl ?_
        refine Run.idxR rfl rfl rfl sl_30 rfl rfl hb (by rfl) (by omega) (by omega) ?_
        refine Run.loadF rfl rfl ag_22 rfl rfl cb ?_
        refine Run.fieldAddr rfl rfl fo_25_2 rfl rfl ?_
        refine Run.loadF rfl rfl ag_3 rfl rfl c2 ?_
        refine Run.call (Δ := []) (Θ := []) rfl rfl rfl rfl ok_22 rfl rfl (by repeat first | exact ent.none _ | refine ent.at 0 rfl ?_ | refine ent.at 1 rfl ?_ | refine ent.at 2 rfl ?_ | refine ent.at 3 rfl ?_ | refine ent.at 4 rfl ?_ | refine ent.at 5 rfl ?_ | refine ent.at 6 rfl ?_ | refine ent.at 7 rfl ?_ | refine ent.at 8 rfl ?_ | refine ent.at 9 rfl ?_ | refine ent.at 10 rfl ?_ | refine ent.at 11 rfl ?_ | refine ent.at 12 rfl ?_ | refine ent.at 13 rfl ?_ | refine ent.at 14 rfl ?_ | refine ent.at 15 rfl ?_ | refine ent.at 16 rfl ?_ | refine ent.at 17 rfl ?_) (rises_ok hX ub _ F.regs hub (lenB i) (listOf_sorted F _) (fun x hx => by have := mem_listOf.1 hx; exact ⟨this.1, this.2.1⟩)) ?_; rintro _ _ ⟨rfl, rfl⟩
        refine Run.bnotB rfl rfl rfl rfl ?_
        refine Run.eqv (v' := .bool false) rfl ?_
        refine Run.pick rfl rfl rfl rfl rfl ?_
        refine Run.nil ?_
        refine thn_next ?_
        refine WP.cond (t := false) rfl (fun h => by cases h) (fun _ => ?_)
        refine WP.skip ?_; refine thn_next ?_
        refine WP.sup (ρ' := [(11, .int .i64 (i : Int)), (11, .int .i64 0), (1, .pointer (some ⟨b1, 0, none⟩)), (8, o1.val), (9, o2.val)]) (Γ' := []) (Kp.sup (car := []) (ρ := [(11, .int .i64 (i : Int)), (11, .int .i64 0), (1, .pointer (some ⟨b1, 0, none⟩)), (8, o1.val), (9, o2.val)]) ⟨(by repeat first | exact trivial | refine ⟨rfl, ?_⟩), rfl, rfl⟩) (by repeat first | exact ent.none _ | refine ent.at 0 rfl ?_ | refine ent.at 1 rfl ?_ | refine ent.at 2 rfl ?_ | refine ent.at 3 rfl ?_ | refine ent.at 4 rfl ?_ | refine ent.at 5 rfl ?_ | refine ent.at 6 rfl ?_ | refine ent.at 7 rfl ?_ | refine ent.at 8 rfl ?_ | refine ent.at 9 rfl ?_ | refine ent.at 10 rfl ?_ | refine ent.at 11 rfl ?_ | refine ent.at 12 rfl ?_ | refine ent.at 13 rfl ?_ | refine ent.at 14 rfl ?_ | refine ent.at 15 rfl ?_ | refine ent.at 16 rfl ?_ | refine ent.at 17 rfl ?_) ?_
        refine WP.seq ?_
        refine WP.plain cf0 rfl ?_
        refine Run.mv rfl rfl rfl rfl ?_
        refine Run.nil ?_
        refine thn_next ?_
        refine WP.block ?_
        refine WP.loopK (α := Nat) (fun r => (r : Int) ≤ F.regs) (fun r => [(12, .int .i64 (r : Int))]) (fun _ => []) (fun r => F.regs.toNat - r) 0 (by have := hQ.r0; omega) ⟨(by repeat first | exact trivial | refine ⟨rfl, ?_⟩), rfl, rfl⟩ (by repeat first | exact ent.none _ | refine ent.at 0 rfl ?_ | refine ent.at 1 rfl ?_ | refine ent.at 2 rfl ?_ | refine ent.at 3 rfl ?_ | refine ent.at 4 rfl ?_ | refine ent.at 5 rfl ?_ | refine ent.at 6 rfl ?_ | refine ent.at 7 rfl ?_ | refine ent.at 8 rfl ?_ | refine ent.at 9 rfl ?_ | refine ent.at 10 rfl ?_ | refine ent.at 11 rfl ?_ | refine ent.at 12 rfl ?_ | refine ent.at 13 rfl ?_ | refine ent.at 14 rfl ?_ | refine ent.at 15 rfl ?_ | refine ent.at 16 rfl ?_ | refine ent.at 17 rfl ?_) ?_
        intro r hr
        refine WP.seq ?_
        refine WP.seq ?_
        refine WP.plain cf0 rfl ?_
        refine Run.mv rfl rfl rfl rfl ?_
        refine Run.fieldAddr rfl rfl fo_25_2 rfl rfl ?_
        refine Run.loadR rfl rfl ag_3 rfl rfl c2 ?_
        refine Run.int2 rfl rfl rfl rfl rfl rfl ?_
        refine Run.nil ?_
        refine thn_next ?_
        refine WP.ite rfl (fun hlr => ?_) (fun hgr => ?_)
        · refine WP.skip ?_; refine thn_next ?_
          refine WP.sup (ρ' := [(12, .int .i64 (r : Int)), (12, .int .i64 0), (11, .int .i64 (i : Int)), (11, .int .i64 0), (1, .pointer (some ⟨b1, 0, none⟩)), (8, o1.val), (9, o2.val)]) (Γ' := []) (Kp.sup (car := [(12, .int .i64 (r : Int))]) (ρ := [(12, .int .i64 0), (11, .int .i64 (i : Int)), (11, .int .i64 0), (1, .pointer (some ⟨b1, 0, none⟩)), (8, o1.val), (9, o2.val)]) ⟨(by repeat first | exact trivial | refine ⟨rfl, ?_⟩), rfl, rfl⟩) (by repeat first | exact ent.none _ | refine ent.at 0 rfl ?_ | refine ent.at 1 rfl ?_ | refine ent.at 2 rfl ?_ | refine ent.at 3 rfl ?_ | refine ent.at 4 rfl ?_ | refine ent.at 5 rfl ?_ | refine ent.at 6 rfl ?_ | refine ent.at 7 rfl ?_ | refine ent.at 8 rfl ?_ | refine ent.at 9 rfl ?_ | refine ent.at 10 rfl ?_ | refine ent.at 11 rfl ?_ | refine ent.at 12 rfl ?_ | refine ent.at 13 rfl ?_ | refine ent.at 14 rfl ?_ | refine ent.at 15 rfl ?_ | refine ent.at 16 rfl ?_ | refine ent.at 17 rfl ?_) ?_
          refine WP.meetK (α := Unit) (fun _ => True) (fun _ => []) (fun _ => []) ?_ ?_
          · refine WP.block ?_
            refine WP.seq ?_
            refine WP.plain cf0 rfl ?_
            refine Run.mv rfl rfl rfl rfl ?_
            refine Run.nil ?_
            refine thn_next ?_
            refine WP.meetK (α := Bool) (fun s => s = true ↔ LiveOut F (r : Int) i) (fun s => [(13, .bool s)]) (fun _ => []) ?_ ?_
            · refine WP.seq ?_
              refine WP.plain cf0 rfl ?_
              refine Run.mv rfl rfl rfl rfl ?_
              refine Run.nil ?_
              refine thn_next ?_
              refine WP.block ?_
              refine WP.loopK (α := Nat × Bool) (fun z => z.1 ≤ b.to.length ∧ (z.2 = true ↔ ∃ (q : Nat) (c : Int), q < z.1 ∧ b.to[q]? = some c ∧ AtP F (r : Int) c.toNat 0)) (fun z => [(14, .int .i64 (z.1 : Int)), (13, .bool z.2)]) (fun _ => []) (fun z => b.to.length - z.1) (0, false) ⟨Nat.zero_le _, fun h => (by cases h), fun ⟨q, c, h, _⟩ => by omega⟩ ⟨(by repeat first | exact trivial | refine ⟨rfl, ?_⟩), rfl, rfl⟩ (by repeat first | exact ent.none _ | refine ent.at 0 rfl ?_ | refine ent.at 1 rfl ?_ | refine ent.at 2 rfl ?_ | refine ent.at 3 rfl ?_ | refine ent.at 4 rfl ?_ | refine ent.at 5 rfl ?_ | refine ent.at 6 rfl ?_ | refine ent.at 7 rfl ?_ | refine ent.at 8 rfl ?_ | refine ent.at 9 rfl ?_ | refine ent.at 10 rfl ?_ | refine ent.at 11 rfl ?_ | refine ent.at 12 rfl ?_ | refine ent.at 13 rfl ?_ | refine ent.at 14 rfl ?_ | refine ent.at 15 rfl ?_ | refine ent.at 16 rfl ?_ | refine ent.at 17 rfl ?_) ?_
              rintro ⟨t, s⟩ ⟨ht, hst⟩
              simp only at ht hst ⊢
              refine WP.seq ?_
              refine WP.seq ?_
              refine WP.plain cf0 rfl ?_
              refine Run.mv rfl rfl rfl rfl ?_
              refine Run.fieldAddr rfl rfl fo_25_4 rfl rfl ?_
              refine Run.loadR rfl rfl ag_23 rfl rfl c4 ?_
              refine Run.mv rfl rfl rfl rfl ?_
              refine Run.idxR rfl rfl rfl sl_23 rfl rfl hv2 (by rfl) (by omega) (by omega) ?_
              refine Run.fieldAddr rfl rfl fo_56_1 rfl rfl ?_
              refine Run.fieldAddr rfl rfl fo_54_2 rfl rfl ?_
              refine Run.loadR rfl rfl ag_22 rfl rfl r3 ?_
              refine Run.lenR rfl rfl sl_22 rfl rfl hbt ?_
              refine Run.int2 rfl rfl rfl rfl rfl rfl ?_
              refine Run.nil ?_
              refine thn_next ?_
              refine WP.ite rfl (fun hlt2 => ?_) (fun hge2 => ?_)
              · refine WP.skip ?_; refine thn_next ?_
                have hlt2' : t < b.to.length := by omega
                obtain ⟨c, gc⟩ : ∃ y, b.to[t]? = some y := ⟨_, List.getElem?_eq_getElem hlt2'⟩
                have gc' : b.to[(t : Int).toNat]? = some c := gc
                obtain ⟨hc0, hc1⟩ := hb4 c (List.mem_of_getElem? gc)
                obtain ⟨cn, rfl⟩ : ∃ cn : Nat, c = (cn : Int) := ⟨c.toNat, by omega⟩
                refine WP.seq ?_
                refine WP.block ?_
                cases s with
                | true =>
                  refine WP.drawn0 cfF mixed rfl (by kernel_rfl) ?_
                  refine Run.mv rfl rfl rfl rfl ?_
                  refine Run.mv rfl rfl rfl rfl ?_
                  refine Run.not rfl rfl ?_
                  refine Run.not rfl rfl ?_
                  refine Run.not rfl rfl ?_
                  refine Run.not rfl rfl ?_
                  refine Run.not rfl rfl ?_
                  refine Run.not rfl rfl ?_
                  refine Run.not rfl rfl ?_
                  refine Run.not rfl rfl ?_
                  refine Run.not rfl rfl ?_
                  refine Run.not rfl rfl ?_
                  refine Run.not rfl rfl ?_
                  refine Run.not rfl rfl ?_
                  refine Run.not rfl rfl ?_
                  refine Run.not rfl rfl ?_
                  refine Run.pick rfl rfl rfl rfl rfl ?_
                  refine Run.mv rfl rfl rfl rfl ?_
                  refine Run.nil ?_
                  refine blk_norm ?_; refine thn_next ?_
                  refine WP.plain cf0 rfl ?_
                  refine Run.mv rfl rfl rfl rfl ?_
                  refine Run.add64 rfl rfl rfl rfl rfl (by first | omega | (simp <;> omega)) (by first | omega | (simp <;> omega)) ?_
                  refine Run.mv rfl rfl rfl rfl ?_
                  refine Run.nil ?_
                  refine thn_next ⟨(t + 1, true), ⟨hlt2', fun _ => ?_, fun _ => rfl⟩, by simp only; omega, ⟨(by repeat first | exact trivial | refine ⟨rfl, ?_⟩), rfl, rfl⟩, (by repeat first | exact ent.none _ | refine ent.at 0 rfl ?_ | refine ent.at 1 rfl ?_ | refine ent.at 2 rfl ?_ | refine ent.at 3 rfl ?_ | refine ent.at 4 rfl ?_ | refine ent.at 5 rfl ?_ | refine ent.at 6 rfl ?_ | refine ent.at 7 rfl ?_ | refine ent.at 8 rfl ?_ | refine ent.at 9 rfl ?_ | refine ent.at 10 rfl ?_ | refine ent.at 11 rfl ?_ | refine ent.at 12 rfl ?_ | refine ent.at 13 rfl ?_ | refine ent.at 14 rfl ?_ | refine ent.at 15 rfl ?_ | refine ent.at 16 rfl ?_ | refine ent.at 17 rfl ?_)⟩
                  obtain ⟨q, c, h1, h2, h3⟩ := hst.1 rfl
                  exact ⟨q, c, by simp only; omega, h2, h3⟩
                | false =>
                  refine WP.drawn0 cfF mixed rfl (by kernel_rfl) ?_
                  refine Run.mv rfl rfl rfl rfl ?_
                  refine Run.mv rfl rfl rfl rfl ?_
                  refine Run.loadFagg rfl rfl ag_25 rfl rfl cc rfl ?_
                  refine Run.fieldAddr rfl rfl fo_25_4 rfl rfl ?_
                  refine Run.loadF rfl rfl ag_23 rfl rfl c4 ?_
                  refine Run.mv rfl rfl rfl rfl ?_
                  refine Run.idxR rfl rfl rfl sl_23 rfl rfl hv2 (by rfl) (by omega) (by omega) ?_
                  refine Run.fieldAddr rfl rfl fo_56_1 rfl rfl ?_
                  refine Run.fieldAddr rfl rfl fo_54_2 rfl rfl ?_
                  refine Run.loadF rfl rfl ag_22 rfl rfl r3 ?_
                  refine Run.mv rfl rfl rfl rfl ?_
                  refine Run.idxR rfl rfl rfl sl_22 rfl rfl hbt (by rfl) (by omega) (by omega) ?_
                  refine Run.loadF rfl rfl ag_3 rfl rfl (SlR.cell0 hbt gc' rfl) ?_
                  refine Run.build rfl bd_60 rfl rfl rfl rfl ?_
                  refine Run.mv rfl rfl rfl rfl ?_
                  refine Run.call (Δ := []) (Θ := []) rfl rfl rfl rfl ok_23 rfl rfl (by repeat first | exact ent.none _ | refine ent.at 0 rfl ?_ | refine ent.at 1 rfl ?_ | refine ent.at 2 rfl ?_ | refine ent.at 3 rfl ?_ | refine ent.at 4 rfl ?_ | refine ent.at 5 rfl ?_ | refine ent.at 6 rfl ?_ | refine ent.at 7 rfl ?_ | refine ent.at 8 rfl ?_ | refine ent.at 9 rfl ?_ | refine ent.at 10 rfl ?_ | refine ent.at 11 rfl ?_ | refine ent.at 12 rfl ?_ | refine ent.at 13 rfl ?_ | refine ent.at 14 rfl ?_ | refine ent.at 15 rfl ?_ | refine ent.at 16 rfl ?_ | refine ent.at 17 rfl ?_) (wantL_ok hX F su sv hv2 hS (by omega) hQ.to cn 0 (by omega) (r : Int)) ?_; rintro _ _ ⟨⟨s2, rfl, hs2⟩, rfl⟩
                  refine Run.pick rfl rfl rfl rfl rfl ?_
                  refine Run.mv rfl rfl rfl rfl ?_
                  refine Run.nil ?_
                  refine blk_norm ?_; refine thn_next ?_
                  refine WP.plain cf0 rfl ?_
                  refine Run.mv rfl rfl rfl rfl ?_
                  refine Run.add64 rfl rfl rfl rfl rfl (by first | omega | (simp <;> omega)) (by first | omega | (simp <;> omega)) ?_
                  refine Run.mv rfl rfl rfl rfl ?_
                  refine Run.nil ?_
                  refine thn_next ⟨(t + 1, s2), ⟨hlt2', fun h => ⟨t, _, Nat.lt_succ_self t, gc, hs2.1 h⟩, fun ⟨q, c, h1, h2, h3⟩ => ?_⟩, by simp only; omega, ⟨(by repeat first | exact trivial | refine ⟨rfl, ?_⟩), rfl, rfl⟩, (by repeat first | exact ent.none _ | refine ent.at 0 rfl ?_ | refine ent.at 1 rfl ?_ | refine ent.at 2 rfl ?_ | refine ent.at 3 rfl ?_ | refine ent.at 4 rfl ?_ | refine ent.at 5 rfl ?_ | refine ent.at 6 rfl ?_ | refine ent.at 7 rfl ?_ | refine ent.at 8 rfl ?_ | refine ent.at 9 rfl ?_ | refine ent.at 10 rfl ?_ | refine ent.at 11 rfl ?_ | refine ent.at 12 rfl ?_ | refine ent.at 13 rfl ?_ | refine ent.at 14 rfl ?_ | refine ent.at 15 rfl ?_ | refine ent.at 16 rfl ?_ | refine ent.at 17 rfl ?_)⟩
                  by_cases e : q = t
                  · subst e; rw [gc] at h2; cases h2; exact hs2.2 h3
                  · have := hst.2 ⟨q, c, by simp only at h1; omega, h2, h3⟩; cases this
              · refine WP.exit ?_; refine thn_exit ?_; refine thn_exit ?_; refine blk_hit ?_
                refine thn_next ⟨s, ?_, ⟨(by repeat first | exact trivial | refine ⟨rfl, ?_⟩), rfl, rfl⟩, (by repeat first | exact ent.none _ | refine ent.at 0 rfl ?_ | refine ent.at 1 rfl ?_ | refine ent.at 2 rfl ?_ | refine ent.at 3 rfl ?_ | refine ent.at 4 rfl ?_ | refine ent.at 5 rfl ?_ | refine ent.at 6 rfl ?_ | refine ent.at 7 rfl ?_ | refine ent.at 8 rfl ?_ | refine ent.at 9 rfl ?_ | refine ent.at 10 rfl ?_ | refine ent.at 11 rfl ?_ | refine ent.at 12 rfl ?_ | refine ent.at 13 rfl ?_ | refine ent.at 14 rfl ?_ | refine ent.at 15 rfl ?_ | refine ent.at 16 rfl ?_ | refine ent.at 17 rfl ?_)⟩
                rw [hst, liveOut_at gB']
                constructor
                · rintro ⟨q, c, h1, h2, h3⟩; exact ⟨c, List.mem_of_getElem? h2, h3⟩
                · rintro ⟨c, h2, h3⟩
                  obtain ⟨q, gq⟩ := List.getElem?_of_mem h2
                  exact ⟨q, c, by have := (List.getElem?_eq_some_iff.1 gq).1; omega, gq, h3⟩
            rintro s hs
            have m1 : (r : Int) ∈ aheadOf F i ↔ AtP F (r : Int) i 0 := by rw [atP_zero]; unfold aheadOf; rw [mem_listOf]; exact ⟨fun h => h.2.2, fun h => ⟨by omega, by omega, h⟩⟩
            have m2 : (r : Int) ∈ behindOf F i ↔ s = true := by rw [hs]; unfold behindOf; rw [mem_listOf]; exact ⟨fun h => h.2.2, fun h => ⟨by omega, by omega, h⟩⟩
            refine WP.seq ?_
            refine WP.drawn0 cfF mixed rfl (by kernel_rfl) ?_
            refine Run.mv rfl rfl rfl rfl ?_
            refine Run.mv rfl rfl rfl rfl ?_
            refine Run.idxR rfl rfl rfl sl_30 rfl rfl ha (by rfl) (by omega) (by omega) ?_
            refine Run.loadF rfl rfl ag_22 rfl rfl ca ?_
            refine Run.mv rfl rfl rfl rfl ?_
            refine Run.call (Δ := []) (Θ := []) rfl rfl rfl rfl ok_24 rfl rfl (by repeat first | exact ent.none _ | refine ent.at 0 rfl ?_ | refine ent.at 1 rfl ?_ | refine ent.at 2 rfl ?_ | refine ent.at 3 rfl ?_ | refine ent.at 4 rfl ?_ | refine ent.at 5 rfl ?_ | refine ent.at 6 rfl ?_ | refine ent.at 7 rfl ?_ | refine ent.at 8 rfl ?_ | refine ent.at 9 rfl ?_ | refine ent.at 10 rfl ?_ | refine ent.at 11 rfl ?_ | refine ent.at 12 rfl ?_ | refine ent.at 13 rfl ?_ | refine ent.at 14 rfl ?_ | refine ent.at 15 rfl ?_ | refine ent.at 16 rfl ?_ | refine ent.at 17 rfl ?_) (has_ok hX ua _ (r : Int) hua (lenA i)) ?_; rintro _ _ ⟨rfl, rfl⟩
            refine Run.loadFagg rfl rfl ag_25 rfl rfl cc rfl ?_
            refine Run.mv rfl rfl rfl rfl ?_
            refine Run.build rfl bd_60 rfl rfl rfl rfl ?_
            refine Run.mv rfl rfl rfl rfl ?_
            refine Run.call (Δ := []) (Θ := []) rfl rfl rfl rfl ok_23 rfl rfl (by repeat first | exact ent.none _ | refine ent.at 0 rfl ?_ | refine ent.at 1 rfl ?_ | refine ent.at 2 rfl ?_ | refine ent.at 3 rfl ?_ | refine ent.at 4 rfl ?_ | refine ent.at 5 rfl ?_ | refine ent.at 6 rfl ?_ | refine ent.at 7 rfl ?_ | refine ent.at 8 rfl ?_ | refine ent.at 9 rfl ?_ | refine ent.at 10 rfl ?_ | refine ent.at 11 rfl ?_ | refine ent.at 12 rfl ?_ | refine ent.at 13 rfl ?_ | refine ent.at 14 rfl ?_ | refine ent.at 15 rfl ?_ | refine ent.at 16 rfl ?_ | refine ent.at 17 rfl ?_) (wantL_ok hX F su sv hv2 hS (by omega) hQ.to i 0 hlt' (r : Int)) ?_; rintro _ _ ⟨⟨s2, rfl, hs2⟩, rfl⟩
            refine Run.neB rfl rfl rfl und_4 rfl rfl ?_; refine Run.eqv (v' := .bool false) (by rw [show decide ((r : Int) ∈ aheadOf F i) = s2 from Bool.eq_iff_iff.2 (by rw [decide_eq_true_iff, m1, hs2])]; simp) ?_
            refine Run.mv rfl rfl rfl rfl ?_
            refine Run.mv rfl rfl rfl rfl ?_
            refine Run.mv rfl rfl rfl rfl ?_
            refine Run.idxR rfl rfl rfl sl_30 rfl rfl hb (by rfl) (by omega) (by omega) ?_
            refine Run.loadF rfl rfl ag_22 rfl rfl cb ?_
            refine Run.mv rfl rfl rfl rfl ?_
            refine Run.call (Δ := []) (Θ := []) rfl rfl rfl rfl ok_24 rfl rfl (by repeat first | exact ent.none _ | refine ent.at 0 rfl ?_ | refine ent.at 1 rfl ?_ | refine ent.at 2 rfl ?_ | refine ent.at 3 rfl ?_ | refine ent.at 4 rfl ?_ | refine ent.at 5 rfl ?_ | refine ent.at 6 rfl ?_ | refine ent.at 7 rfl ?_ | refine ent.at 8 rfl ?_ | refine ent.at 9 rfl ?_ | refine ent.at 10 rfl ?_ | refine ent.at 11 rfl ?_ | refine ent.at 12 rfl ?_ | refine ent.at 13 rfl ?_ | refine ent.at 14 rfl ?_ | refine ent.at 15 rfl ?_ | refine ent.at 16 rfl ?_ | refine ent.at 17 rfl ?_) (has_ok hX ub _ (r : Int) hub (lenB i)) ?_; rintro _ _ ⟨rfl, rfl⟩
            refine Run.mv rfl rfl rfl rfl ?_
            refine Run.neB rfl rfl rfl und_4 rfl rfl ?_; refine Run.eqv (v' := .bool false) (by rw [show decide ((r : Int) ∈ behindOf F i) = s from Bool.eq_iff_iff.2 (by rw [decide_eq_true_iff, m2])]; simp) ?_
            refine Run.pick rfl rfl rfl rfl rfl ?_
            refine Run.nil ?_
            refine thn_next ?_
            refine WP.cond (t := false) rfl (fun h => by cases h) (fun _ => ?_)
            refine WP.skip ?_; refine blk_norm ?_
            exact thn_next ⟨(), trivial, ⟨(by repeat first | exact trivial | refine ⟨rfl, ?_⟩), rfl, rfl⟩, (by repeat first | exact ent.none _ | refine ent.at 0 rfl ?_ | refine ent.at 1 rfl ?_ | refine ent.at 2 rfl ?_ | refine ent.at 3 rfl ?_ | refine ent.at 4 rfl ?_ | refine ent.at 5 rfl ?_ | refine ent.at 6 rfl ?_ | refine ent.at 7 rfl ?_ | refine ent.at 8 rfl ?_ | refine ent.at 9 rfl ?_ | refine ent.at 10 rfl ?_ | refine ent.at 11 rfl ?_ | refine ent.at 12 rfl ?_ | refine ent.at 13 rfl ?_ | refine ent.at 14 rfl ?_ | refine ent.at 15 rfl ?_ | refine ent.at 16 rfl ?_ | refine ent.at 17 rfl ?_)⟩
          rintro _ _
          refine WP.plain cf0 rfl ?_
          refine Run.mv rfl rfl rfl rfl ?_
          refine Run.add64 rfl rfl rfl rfl rfl (by first | omega | (simp <;> omega)) (by first | omega | (simp <;> omega)) ?_
          refine Run.mv rfl rfl rfl rfl ?_
          refine Run.nil ?_
          exact thn_next ⟨r + 1, by omega, by omega, ⟨(by repeat first | exact trivial | refine ⟨rfl, ?_⟩), rfl, rfl⟩, (by repeat first | exact ent.none _ | refine ent.at 0 rfl ?_ | refine ent.at 1 rfl ?_ | refine ent.at 2 rfl ?_ | refine ent.at 3 rfl ?_ | refine ent.at 4 rfl ?_ | refine ent.at 5 rfl ?_ | refine ent.at 6 rfl ?_ | refine ent.at 7 rfl ?_ | refine ent.at 8 rfl ?_ | refine ent.at 9 rfl ?_ | refine ent.at 10 rfl ?_ | refine ent.at 11 rfl ?_ | refine ent.at 12 rfl ?_ | refine ent.at 13 rfl ?_ | refine ent.at 14 rfl ?_ | refine ent.at 15 rfl ?_ | refine ent.at 16 rfl ?_ | refine ent.at 17 rfl ?_)⟩
        · refine WP.exit ?_; refine thn_exit ?_; refine thn_exit ?_; refine blk_hit ?_; refine blk_norm ?_
          exact thn_next ⟨(), trivial, ⟨(by repeat first | exact trivial | refine ⟨rfl, ?_⟩), rfl, rfl⟩, (by repeat first | exact ent.none _ | refine ent.at 0 rfl ?_ | refine ent.at 1 rfl ?_ | refine ent.at 2 rfl ?_ | refine ent.at 3 rfl ?_ | refine ent.at 4 rfl ?_ | refine ent.at 5 rfl ?_ | refine ent.at 6 rfl ?_ | refine ent.at 7 rfl ?_ | refine ent.at 8 rfl ?_ | refine ent.at 9 rfl ?_ | refine ent.at 10 rfl ?_ | refine ent.at 11 rfl ?_ | refine ent.at 12 rfl ?_ | refine ent.at 13 rfl ?_ | refine ent.at 14 rfl ?_ | refine ent.at 15 rfl ?_ | refine ent.at 16 rfl ?_ | refine ent.at 17 rfl ?_)⟩
      rintro _ _
      refine WP.plain cf0 rfl ?_
      refine Run.mv rfl rfl rfl rfl ?_
      refine Run.add64 rfl rfl rfl rfl rfl (by first | omega | (simp <;> omega)) (by first | omega | (simp <;> omega)) ?_
      refine Run.mv rfl rfl rfl rfl ?_
      refine Run.nil ?_
      exact thn_next ⟨i + 1, by omega, by omega, ⟨(by repeat first | exact trivial | refine ⟨rfl, ?_⟩), rfl, rfl⟩, (by repeat first | exact ent.none _ | refine ent.at 0 rfl ?_ | refine ent.at 1 rfl ?_ | refine ent.at 2 rfl ?_ | refine ent.at 3 rfl ?_ | refine ent.at 4 rfl ?_ | refine ent.at 5 rfl ?_ | refine ent.at 6 rfl ?_ | refine ent.at 7 rfl ?_ | refine ent.at 8 rfl ?_ | refine ent.at 9 rfl ?_ | refine ent.at 10 rfl ?_ | refine ent.at 11 rfl ?_ | refine ent.at 12 rfl ?_ | refine ent.at 13 rfl ?_ | refine ent.at 14 rfl ?_ | refine ent.at 15 rfl ?_ | refine ent.at 16 rfl ?_ | refine ent.at 17 rfl ?_)⟩
    · refine WP.exit ?_; refine thn_exit ?_; refine thn_exit ?_; refine blk_hit ?_
      exact thn_next ⟨(), trivial, ⟨(by repeat first | exact trivial | refine ⟨rfl, ?_⟩), rfl, rfl⟩, (by repeat first | exact ent.none _ | refine ent.at 0 rfl ?_ | refine ent.at 1 rfl ?_ | refine ent.at 2 rfl ?_ | refine ent.at 3 rfl ?_ | refine ent.at 4 rfl ?_ | refine ent.at 5 rfl ?_ | refine ent.at 6 rfl ?_ | refine ent.at 7 rfl ?_ | refine ent.at 8 rfl ?_ | refine ent.at 9 rfl ?_ | refine ent.at 10 rfl ?_ | refine ent.at 11 rfl ?_ | refine ent.at 12 rfl ?_ | refine ent.at 13 rfl ?_ | refine ent.at 14 rfl ?_ | refine ent.at 15 rfl ?_ | refine ent.at 16 rfl ?_ | refine ent.at 17 rfl ?_)⟩
  rintro _ _
  refine WP.seq ?_
  refine WP.plain cf0 rfl ?_
  refine Run.mv rfl rfl rfl rfl ?_
  refine Run.nil ?_
  refine thn_next ?_
  refine WP.ret ?_
  exact retT [2] _ rfl rfl ⟨_, ent.none _, rfl, rfl⟩
end Go.Proofs.YtjjfehdlmdhhmaaDoor
end
