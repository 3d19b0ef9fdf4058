/- LiveSpans: walked. -/
import Derived.Test.YtjjfehdlmdhhmaaDoorGW3
import Derived.Test.YtjjfehdlmdhhmaaDoorGU1
import Derived.Test.YtjjfehdlmdhhmaaDoorGT2
import Derived.Test.YtjjfehdlmdhhmaaDoorGW4
import Derived.Test.YtjjfehdlmdhhmaaDoorGW2
section
/- LiveSpans: walked. -/
namespace Go.Proofs.YtjjfehdlmdhhmaaDoor
open Go.Sep
set_option linter.unusedSimpArgs false
set_option linter.unusedVariables false
attribute [local irreducible] blk slA mp mpF rows rowsBut many

theorem and_one (x : Int) : ∃ e : Nat, (e = 0 ∨ e = 1) ∧ IntKind.i64.wrap ((BitVec.ofInt IntKind.i64.bits x &&& BitVec.ofInt IntKind.i64.bits 1).toNat : Int) = (e : Int) := by
  have h1 : (BitVec.ofInt IntKind.i64.bits x &&& BitVec.ofInt IntKind.i64.bits 1).toNat = (BitVec.ofInt IntKind.i64.bits x).toNat % 2 := by
    rw [BitVec.toNat_and, show (BitVec.ofInt IntKind.i64.bits 1).toNat = 1 from rfl, Nat.and_one_is_mod]
  rw [h1]
  have h2 := Nat.mod_lt (BitVec.ofInt IntKind.i64.bits x).toNat (show 0 < 2 by omega)
  generalize (BitVec.ofInt IntKind.i64.bits x).toNat % 2 = e at h2
  exact ⟨e, by omega, wrapI (by omega) (by omega)⟩

set_option maxHeartbeats 4000000 in
set_option maxRecDepth 100000 in
theorem liveSpans_ok (hR : Heap) (hT : TabH hR) (F : LFun) (su sv : SV) (hu : SlR rdI hR su.val F.params) (hv : SlR rdBlk hR sv.val F.blocks) (hW : WideF F) (turn : Int) :
    Tri Tryd.prog hR 6 #[.agg ⟨fcs F su sv⟩, .int .i64 turn] [] fun u Γ' => u = .bool true ∧ Γ' = [] := by
  refine Tri.ent (Tri.of (args := [.agg ⟨fcs F su sv⟩, .int .i64 turn]) Tryd.func6 rfl Tryd.ntmps6 (by simp) ?_)
  refine WP.seq ?_
  refine WP.plain cf0 rfl ?_
  refine Run.box rfl rfl rfl rfl rfl ?_
  intro b2
  refine Run.mv rfl rfl rfl rfl ?_
  refine Run.nil ?_
  refine thn_next ?_
  refine WP.seq ?_
  refine WP.plain cf0 rfl ?_
  refine Run.callP [] ok_9 (alive_ok hR hT) ?_; rintro _ _ ⟨rfl, rfl⟩
  refine Run.mv rfl rfl rfl rfl ?_
  refine Run.nil ?_
  refine thn_next ?_
  refine WP.seq ?_
  refine WP.plain cf0 rfl ?_
  refine Run.loadBagg 0 rfl rfl ag_25 rfl rfl rfl rfl rfl ?_
  refine Run.callP [] ok_10 (small_ok hR F su sv hu hv hW) ?_; rintro _ _ ⟨⟨s, rfl, hs⟩, rfl⟩
  refine Run.mv rfl rfl rfl rfl ?_
  refine Run.nil ?_
  refine thn_next ?_
  refine WP.trim [2, 5, 6, 1] [0] ?_
  refine WP.seq ?_
  refine WP.seq ?_
  refine WP.plain cf0 rfl ?_
  refine Run.mv rfl rfl rfl rfl ?_
  refine Run.bnotB rfl rfl rfl rfl ?_
  refine Run.eqv (v' := .bool false) rfl ?_
  refine Run.mv rfl rfl rfl rfl ?_
  refine Run.mv rfl rfl rfl rfl ?_
  refine Run.bnotB rfl rfl rfl rfl ?_
  refine Run.pick rfl rfl rfl rfl rfl ?_
  refine Run.nil ?_
  refine thn_next ?_
  cases s with
  | false =>
    refine WP.cond (t := true) rfl (fun _ => ?_) (fun h => by cases h)
    refine WP.seq ?_
    refine WP.plain cf0 rfl ?_
    refine Run.mv rfl rfl rfl rfl ?_
    refine Run.mv rfl rfl rfl rfl ?_
    refine Run.nil ?_
    refine thn_next ?_
    refine WP.ret ?_; refine thn_ret ?_
    exact retT [4] _ rfl rfl ⟨_, ent.none _, rfl, rfl⟩
  | true =>
  refine WP.cond (t := false) rfl (fun h => by cases h) (fun _ => ?_)
  refine WP.skip ?_; refine thn_next ?_
  have hY := hs rfl
  have hS := hY.small
  have y1 := hY.params
  have y2 := hY.blocks
  have hV : FunV hR F su sv := ⟨hu, hv, by omega, by omega⟩
  refine WP.seq ?_
  refine WP.plain cf0 rfl ?_
  refine Run.loadBagg 0 rfl rfl ag_25 rfl rfl rfl rfl rfl ?_
  refine Run.callP [] ok_21 (refFormed_ok hR F su sv hV hS) ?_; rintro _ _ ⟨rfl, rfl⟩
  refine Run.mv rfl rfl rfl rfl ?_
  refine Run.nil ?_
  refine thn_next ?_
  refine WP.seq ?_
  refine WP.plain cf0 rfl ?_
  refine Run.mv rfl rfl rfl rfl ?_
  refine Run.nil ?_
  refine thn_next ?_
  refine WP.trim [8, 7, 2, 5, 1] [0] ?_
  refine WP.meetC (α := Nat × Nat) (fun z => z.1 ≤ 1000000000) (fun z => [(8, .int .i64 (z.1 : Int)), (9, .int .i64 (z.2 : Int))]) (fun _ => []) ?_ ?_
  · refine WP.seq ?_
    refine WP.plain cf0 rfl ?_
    refine Run.mv rfl rfl rfl rfl ?_
    refine Run.nil ?_
    refine thn_next ?_
    refine WP.block ?_
    refine WP.loopC (α := Nat × Nat) (fun z => z.1 ≤ F.blocks.length ∧ z.2 ≤ 300000 * z.1) (fun z => [(9, .int .i64 (z.1 : Int)), (8, .int .i64 (z.2 : Int))]) (fun _ => []) (fun z => F.blocks.length - z.1) (0, 0) ⟨Nat.zero_le _, Nat.le_refl _⟩ ?_
    rintro ⟨i, n⟩ ⟨hi, hn⟩
    simp only at hi hn
    refine WP.trim [9, 8, 7, 2, 5, 1] [0] ?_
    try simp only
    refine WP.seq ?_
    refine WP.seq ?_
    refine WP.plain cf0 rfl ?_
    refine Run.mv rfl rfl rfl rfl ?_
    refine Run.fieldAddr rfl rfl fo_25_4 rfl rfl ?_
    refine Run.loadB 0 rfl rfl ag_23 rfl rfl rfl rfl rfl ?_
    refine Run.lenR rfl rfl sl_23 rfl rfl hv ?_
    refine Run.int2 rfl rfl rfl rfl rfl rfl ?_
    refine Run.nil ?_
    refine thn_next ?_
    refine WP.ite rfl (fun hlt => ?_) (fun hge => ?_)
    · refine WP.skip ?_; refine thn_next ?_
      obtain ⟨b, gB⟩ : ∃ y, F.blocks[(i : Int).toNat]? = some y := ⟨_, List.getElem?_eq_getElem (by omega)⟩
      have gB' : F.blocks[i]? = some b := gB
      have hb1 := (hY.each b (List.mem_of_getElem? gB')).2.1
      obtain ⟨_, ⟨bu, bt, rfl, hbu, hbt⟩, hrow⟩ := hv.at gB
      have r0 : cellH hR ((elemAddr sv.val (i * 4)).add 0) bu := by have := hrow 0 _ rfl; exact this
      refine WP.seq ?_
      refine WP.block ?_
      refine WP.plain cf0 rfl ?_
      refine Run.mv rfl rfl rfl rfl ?_
      refine Run.fieldAddr rfl rfl fo_25_4 rfl rfl ?_
      refine Run.loadB 0 rfl rfl ag_23 rfl rfl rfl rfl rfl ?_
      refine Run.mv rfl rfl rfl rfl ?_
      refine Run.idxR rfl rfl rfl sl_23 rfl rfl hv (by rfl) (by omega) (by omega) ?_
      refine Run.fieldAddr rfl rfl fo_56_0 rfl rfl ?_
      refine Run.loadR rfl rfl ag_52 rfl rfl r0 ?_
      refine Run.lenR rfl rfl sl_52 rfl rfl hbu ?_
      refine Run.add64 rfl rfl rfl rfl rfl (by first | omega | (simp <;> omega)) (by first | omega | (simp <;> omega)) ?_
      refine Run.mv rfl rfl rfl rfl ?_
      refine Run.nil ?_
      refine blk_norm ?_; refine thn_next ?_
      refine WP.plain cf0 rfl ?_
      refine Run.mv rfl rfl rfl rfl ?_
      refine Run.add64 rfl rfl rfl rfl rfl (by first | omega | (simp <;> omega)) (by first | omega | (simp <;> omega)) ?_
      refine Run.mv rfl rfl rfl rfl ?_
      refine Run.nil ?_
      exact thn_next ⟨(i + 1, n + b.body.length), ⟨by simp only; omega, by simp only; omega⟩, by simp only; omega, Ko.go, ent.gc⟩
    · refine WP.exit ?_; refine thn_exit ?_; refine thn_exit ?_; refine blk_hit ?_
      exact thn_next ⟨(n, i), by simp only; omega, Ko.go, ent.gc⟩
  rintro ⟨n, n9⟩ hn
  simp only at hn
  refine WP.trim [8, 7, 2, 5, 1] [0] ?_
  try simp only
  refine WP.meetC (α := Unit) (fun _ => formB F = true ∧ F.blocks.length ≤ 12 ∧ F.regs ≤ 20) (fun _ => []) (fun _ => []) ?_ ?_
  · refine WP.seq ?_
    cases hform : formB F with
    | false =>
      refine WP.plain cf0 rfl ?_
      refine Run.mv rfl rfl rfl rfl ?_
      refine Run.bnotB rfl rfl rfl rfl ?_
      refine Run.eqv (v' := .bool true) rfl ?_
      refine Run.mv rfl rfl rfl rfl ?_
      refine Run.not rfl rfl ?_
      refine Run.not rfl rfl ?_
      refine Run.not rfl rfl ?_
      refine Run.not rfl rfl ?_
      refine Run.pick rfl rfl rfl rfl rfl ?_
      refine Run.mv rfl rfl rfl rfl ?_
      refine Run.not rfl rfl ?_
      refine Run.not rfl rfl ?_
      refine Run.not rfl rfl ?_
      refine Run.pick rfl rfl rfl rfl rfl ?_
      refine Run.mv rfl rfl rfl rfl ?_
      refine Run.not rfl rfl ?_
      refine Run.not rfl rfl ?_
      refine Run.pick rfl rfl rfl rfl rfl ?_
      refine Run.nil ?_
      refine thn_next ?_
      refine WP.cond (t := true) rfl (fun _ => ?_) (fun h => by cases h)
      refine WP.seq ?_
      refine WP.plain cf0 rfl ?_
      refine Run.mv rfl rfl rfl rfl ?_
      refine Run.mv rfl rfl rfl rfl ?_
      refine Run.nil ?_
      refine thn_next ?_
      refine WP.ret ?_; refine thn_ret ?_
      exact retT [4] _ rfl rfl ⟨_, ent.none _, rfl, rfl⟩
    | true =>
      by_cases h1 : (F.blocks.length : Int) > 12
      · refine WP.plain cf0 rfl ?_
        refine Run.mv rfl rfl rfl rfl ?_
        refine Run.bnotB rfl rfl rfl rfl ?_
        refine Run.eqv (v' := .bool false) rfl ?_
        refine Run.mv rfl rfl rfl rfl ?_
        refine Run.fieldAddr rfl rfl fo_25_4 rfl rfl ?_
        refine Run.loadB 0 rfl rfl ag_23 rfl rfl rfl rfl rfl ?_
        refine Run.lenR rfl rfl sl_23 rfl rfl hv ?_
        refine Run.int2 rfl rfl rfl rfl rfl rfl ?_
        refine Run.tt h1 ?_
        refine Run.pick rfl rfl rfl rfl rfl ?_
        refine Run.mv rfl rfl rfl rfl ?_
        refine Run.not rfl rfl ?_
        refine Run.not rfl rfl ?_
        refine Run.not rfl rfl ?_
        refine Run.pick rfl rfl rfl rfl rfl ?_
        refine Run.mv rfl rfl rfl rfl ?_
        refine Run.not rfl rfl ?_
        refine Run.not rfl rfl ?_
        refine Run.pick rfl rfl rfl rfl rfl ?_
        refine Run.nil ?_
        refine thn_next ?_
        refine WP.cond (t := true) rfl (fun _ => ?_) (fun h => by cases h)
        refine WP.seq ?_
        refine WP.plain cf0 rfl ?_
        refine Run.mv rfl rfl rfl rfl ?_
        refine Run.mv rfl rfl rfl rfl ?_
        refine Run.nil ?_
        refine thn_next ?_
        refine WP.ret ?_; refine thn_ret ?_
        exact retT [4] _ rfl rfl ⟨_, ent.none _, rfl, rfl⟩
      by_cases h2 : F.regs > 20
      · refine WP.plain cf0 rfl ?_
        refine Run.mv rfl rfl rfl rfl ?_
        refine Run.bnotB rfl rfl rfl rfl ?_
        refine Run.eqv (v' := .bool false) rfl ?_
        refine Run.mv rfl rfl rfl rfl ?_
        refine Run.fieldAddr rfl rfl fo_25_4 rfl rfl ?_
        refine Run.loadB 0 rfl rfl ag_23 rfl rfl rfl rfl rfl ?_
        refine Run.lenR rfl rfl sl_23 rfl rfl hv ?_
        refine Run.int2 rfl rfl rfl rfl rfl rfl ?_
        refine Run.ff h1 ?_
        refine Run.pick rfl rfl rfl rfl rfl ?_
        refine Run.mv rfl rfl rfl rfl ?_
        refine Run.fieldAddr rfl rfl fo_25_2 rfl rfl ?_
        refine Run.loadB 0 rfl rfl ag_3 rfl rfl rfl rfl rfl ?_
        refine Run.int2 rfl rfl rfl rfl rfl rfl ?_
        refine Run.tt h2 ?_
        refine Run.pick rfl rfl rfl rfl rfl ?_
        refine Run.mv rfl rfl rfl rfl ?_
        refine Run.not rfl rfl ?_
        refine Run.not rfl rfl ?_
        refine Run.pick rfl rfl rfl rfl rfl ?_
        refine Run.nil ?_
        refine thn_next ?_
        refine WP.cond (t := true) rfl (fun _ => ?_) (fun h => by cases h)
        refine WP.seq ?_
        refine WP.plain cf0 rfl ?_
        refine Run.mv rfl rfl rfl rfl ?_
        refine Run.mv rfl rfl rfl rfl ?_
        refine Run.nil ?_
        refine thn_next ?_
        refine WP.ret ?_; refine thn_ret ?_
        exact retT [4] _ rfl rfl ⟨_, ent.none _, rfl, rfl⟩
      by_cases h3 : (n : Int) > 60
      · refine WP.plain cf0 rfl ?_
        refine Run.mv rfl rfl rfl rfl ?_
        refine Run.bnotB rfl rfl rfl rfl ?_
        refine Run.eqv (v' := .bool false) rfl ?_
        refine Run.mv rfl rfl rfl rfl ?_
        refine Run.fieldAddr rfl rfl fo_25_4 rfl rfl ?_
        refine Run.loadB 0 rfl rfl ag_23 rfl rfl rfl rfl rfl ?_
        refine Run.lenR rfl rfl sl_23 rfl rfl hv ?_
        refine Run.int2 rfl rfl rfl rfl rfl rfl ?_
        refine Run.ff h1 ?_
        refine Run.pick rfl rfl rfl rfl rfl ?_
        refine Run.mv rfl rfl rfl rfl ?_
        refine Run.fieldAddr rfl rfl fo_25_2 rfl rfl ?_
        refine Run.loadB 0 rfl rfl ag_3 rfl rfl rfl rfl rfl ?_
        refine Run.int2 rfl rfl rfl rfl rfl rfl ?_
        refine Run.ff h2 ?_
        refine Run.pick rfl rfl rfl rfl rfl ?_
        refine Run.mv rfl rfl rfl rfl ?_
        refine Run.mv rfl rfl rfl rfl ?_
        refine Run.int2 rfl rfl rfl rfl rfl rfl ?_
        refine Run.tt h3 ?_
        refine Run.pick rfl rfl rfl rfl rfl ?_
        refine Run.nil ?_
        refine thn_next ?_
        refine WP.cond (t := true) rfl (fun _ => ?_) (fun h => by cases h)
        refine WP.seq ?_
        refine WP.plain cf0 rfl ?_
        refine Run.mv rfl rfl rfl rfl ?_
        refine Run.mv rfl rfl rfl rfl ?_
        refine Run.nil ?_
        refine thn_next ?_
        refine WP.ret ?_; refine thn_ret ?_
        exact retT [4] _ rfl rfl ⟨_, ent.none _, rfl, rfl⟩
      refine WP.plain cf0 rfl ?_
      refine Run.mv rfl rfl rfl rfl ?_
      refine Run.bnotB rfl rfl rfl rfl ?_
      refine Run.eqv (v' := .bool false) rfl ?_
      refine Run.mv rfl rfl rfl rfl ?_
      refine Run.fieldAddr rfl rfl fo_25_4 rfl rfl ?_
      refine Run.loadB 0 rfl rfl ag_23 rfl rfl rfl rfl rfl ?_
      refine Run.lenR rfl rfl sl_23 rfl rfl hv ?_
      refine Run.int2 rfl rfl rfl rfl rfl rfl ?_
      refine Run.ff h1 ?_
      refine Run.pick rfl rfl rfl rfl rfl ?_
      refine Run.mv rfl rfl rfl rfl ?_
      refine Run.fieldAddr rfl rfl fo_25_2 rfl rfl ?_
      refine Run.loadB 0 rfl rfl ag_3 rfl rfl rfl rfl rfl ?_
      refine Run.int2 rfl rfl rfl rfl rfl rfl ?_
      refine Run.ff h2 ?_
      refine Run.pick rfl rfl rfl rfl rfl ?_
      refine Run.mv rfl rfl rfl rfl ?_
      refine Run.mv rfl rfl rfl rfl ?_
      refine Run.int2 rfl rfl rfl rfl rfl rfl ?_
      refine Run.ff h3 ?_
      refine Run.pick rfl rfl rfl rfl rfl ?_
      refine Run.nil ?_
      refine thn_next ?_
      refine WP.cond (t := false) rfl (fun h => by cases h) (fun _ => ?_)
      refine WP.skip ?_
      exact thn_next ⟨(), ⟨rfl, by omega, by omega⟩, Ko.go, ent.gc⟩
  rintro _ ⟨hform, hm1, hm2⟩
  have hQ := formQ hform
  have q0 := hQ.r0
  have hne := hQ.ne
  refine WP.trim [2, 1] [0] ?_
  refine WP.seq ?_
  refine WP.plain cf0 rfl ?_
  refine Run.mv rfl rfl rfl rfl ?_
  refine Run.nil ?_
  refine thn_next ?_
  obtain ⟨e, he, hand⟩ := and_one turn
  obtain ⟨m, hm⟩ : ∃ m : Nat, (m = 1 ∨ m + 1 = F.blocks.length) ∧ (e : Int) * ((F.blocks.length : Int) - 2) = (m : Int) - 1 := by
    rcases he with rfl | rfl
    · exact ⟨1, .inl rfl, by simp⟩
    · exact ⟨F.blocks.length - 1, .inr (by omega), by omega⟩
  obtain ⟨hm, hme⟩ := hm
  have hm12 : m ≤ 12 := by omega
  have hT0 := Int.natAbs_tmod turn (F.blocks.length : Int)
  have hT1 : (turn.tmod (F.blocks.length : Int)).natAbs < F.blocks.length := by rw [hT0]; exact Nat.mod_lt _ (by omega)
  refine WP.seq ?_
  refine WP.plain cf0 rfl ?_
  refine Run.mv rfl rfl rfl rfl ?_
  refine Run.fieldAddr rfl rfl fo_25_4 rfl rfl ?_
  refine Run.loadB 0 rfl rfl ag_23 rfl rfl rfl rfl rfl ?_
  refine Run.lenR rfl rfl sl_23 rfl rfl hv ?_
  refine Run.int2 rfl rfl rfl (by simp only [intOpR]; rw [if_neg (by omega)]) rfl rfl ?_
  refine Run.mv rfl rfl rfl rfl ?_
  refine Run.nil ?_
  refine thn_next ?_
  generalize turn.tmod (F.blocks.length : Int) = t0 at hT1
  refine WP.trim [11, 10, 2, 1] [0] ?_
  refine WP.meetC (α := Unit) (fun _ => True) (fun _ => [(11, .int .i64 (t0.natAbs : Int))]) (fun _ => []) ?_ ?_
  · refine WP.seq ?_
    refine WP.plain cf0 rfl ?_
    refine Run.mv rfl rfl rfl rfl ?_
    refine Run.int2 rfl rfl rfl rfl rfl rfl ?_
    refine Run.nil ?_
    refine thn_next ?_
    refine WP.ite rfl (fun h => ?_) (fun h => ?_)
    · refine WP.plain cf0 rfl ?_
      refine Run.mv rfl rfl rfl rfl ?_
      refine Run.neg rfl rfl rfl rfl ?_
      refine Run.eqv (v' := .int .i64 (t0.natAbs : Int)) (by rw [wrapI (by omega) (by omega)]; congr 1; omega) ?_
      refine Run.mv rfl rfl rfl rfl ?_
      refine Run.nil ?_
      exact thn_next ⟨(), trivial, Ko.go, ent.gc⟩
    · refine WP.skip ?_
      have e0 : t0 = (t0.natAbs : Int) := by omega
      exact thn_next ⟨(), trivial, Ko.go ⟨by rw [← e0]; rfl, trivial⟩, ent.gc⟩
  rintro _ _
  generalize t0.natAbs = T at hT1
  refine WP.trim [11, 10, 2, 1] [0] ?_
  try simp only
  have hna := slA_nil 3 (Enc.int .i64) [blk b2 (fcs F su sv) 25]
  refine WP.via hna ?_
  refine WP.sup (ρ' := [(11, .int .i64 (T : Int)), (10, nilS.val), (2, .pointer (some ⟨b2, 0, none⟩)), (1, .int .i64 turn)]) (Γ' := [blk b2 (fcs F su sv) 25, slA 3 (Enc.int .i64) nilS.val (lineN F.blocks.length m T 0)]) (sup.refl _) ent.gc ?_
  refine WP.meetC (α := SV × Nat) (fun z => True) (fun z => [(10, z.1.val), (12, .int .i64 (z.2 : Int))]) (fun z => [(1, slA 3 (Enc.int .i64) z.1.val (lineN F.blocks.length m T F.blocks.length))]) ?_ ?_
  · refine WP.seq ?_
    refine WP.plain cf0 rfl ?_
    refine Run.mv rfl rfl rfl rfl ?_
    refine Run.nil ?_
    refine thn_next ?_
    refine WP.block ?_
    refine WP.loopC (α := Nat × SV) (fun z => z.1 ≤ F.blocks.length) (fun z => [(12, .int .i64 (z.1 : Int)), (10, z.2.val)]) (fun z => [(1, slA 3 (Enc.int .i64) z.2.val (lineN F.blocks.length m T z.1))]) (fun z => F.blocks.length - z.1) (0, nilS) (Nat.zero_le _) ?_
    rintro ⟨i, ls⟩ hi
    simp only at hi
    refine WP.trim [12, 10, 11, 2, 1] [0, 1] ?_
    try simp only
    refine WP.seq ?_
    refine WP.seq ?_
    refine WP.plain cf0 rfl ?_
    refine Run.mv rfl rfl rfl rfl ?_
    refine Run.fieldAddr rfl rfl fo_25_4 rfl rfl ?_
    refine Run.loadB 0 rfl rfl ag_23 rfl rfl rfl rfl rfl ?_
    refine Run.lenR rfl rfl sl_23 rfl rfl hv ?_
    refine Run.int2 rfl rfl rfl rfl rfl rfl ?_
    refine Run.nil ?_
    refine thn_next ?_
    refine WP.ite rfl (fun hlt => ?_) (fun hge => ?_)
    · refine WP.skip ?_; refine thn_next ?_
      have him : i * m ≤ 144 := Nat.le_trans (Nat.mul_le_mul (show i ≤ 12 by omega) hm12) (by omega)
      have him2 : (i : Int) * (m : Int) = ((i * m : Nat) : Int) := by simp
      have hll := lineN_len F.blocks.length m T i
      have hrem : ((i : Int) * (m : Int) + (T : Int)).tmod (F.blocks.length : Int) = (((i * m + T) % F.blocks.length : Nat) : Int) := by rw [Int.ofNat_tmod]; simp
      refine WP.seq ?_
      refine WP.block ?_
      refine WP.plain cf0 rfl ?_
      refine Run.mv rfl rfl rfl rfl ?_
      refine Run.mv rfl rfl rfl rfl ?_
      refine Run.mv rfl rfl rfl rfl ?_
      refine Run.int2 rfl rfl rfl rfl rfl rfl ?_
      refine Run.eqv (v' := .int .i64 (e : Int)) (by rw [hand]) ?_
      refine Run.fieldAddr rfl rfl fo_25_4 rfl rfl ?_
      refine Run.loadB 0 rfl rfl ag_23 rfl rfl rfl rfl rfl ?_
      refine Run.lenR rfl rfl sl_23 rfl rfl hv ?_
      refine Run.sub64 rfl rfl rfl rfl rfl (by first | omega | (simp <;> omega)) (by first | omega | (simp <;> omega)) ?_
      refine Run.mul64 rfl rfl rfl rfl rfl (by first | omega | (simp <;> omega)) (by first | omega | (simp <;> omega)) ?_
      refine Run.add64 rfl rfl rfl rfl rfl (by first | omega | (simp <;> omega)) (by first | omega | (simp <;> omega)) ?_
      refine Run.eqv (v' := .int .i64 (m : Int)) (by congr 1; omega) ?_
      refine Run.mul64 rfl rfl rfl rfl rfl (by first | omega | (simp <;> omega)) (by first | omega | (simp <;> omega)) ?_
      refine Run.mv rfl rfl rfl rfl ?_
      refine Run.add64 rfl rfl rfl rfl rfl (by first | omega | (simp <;> omega)) (by first | omega | (simp <;> omega)) ?_
      refine Run.fieldAddr rfl rfl fo_25_4 rfl rfl ?_
      refine Run.loadB 0 rfl rfl ag_23 rfl rfl rfl rfl rfl ?_
      refine Run.lenR rfl rfl sl_23 rfl rfl hv ?_
      refine Run.int2 rfl rfl rfl (by simp only [intOpR]; rw [if_neg (by omega)]) rfl rfl ?_
      refine Run.eqv (v' := .int .i64 (((i * m + T) % F.blocks.length : Nat) : Int)) (by rw [hrem]) ?_
      refine Run.buildSlice (E := (Enc.int .i64)) rfl sl_22 zr_3 ([(((i * m + T) % F.blocks.length : Nat) : Int)]) rfl rfl rfl (by decide) rfl rfl ?_
      intro b101
      refine Run.append 1 rfl rfl rfl rfl rfl rfl sl_22 zr_3 rfl (src_own 2 rfl) (by first | omega | (simp <;> omega)) (by first | omega | (simp <;> omega)) ?_
      intro sv102 hv102
      refine Run.mv rfl rfl rfl rfl ?_
      refine Run.nil ?_
      refine blk_norm ?_; refine thn_next ?_
      refine WP.plain cf0 rfl ?_
      refine Run.mv rfl rfl rfl rfl ?_
      refine Run.add64 rfl rfl rfl rfl rfl (by first | omega | (simp <;> omega)) (by first | omega | (simp <;> omega)) ?_
      refine Run.mv rfl rfl rfl rfl ?_
      refine Run.nil ?_
      exact thn_next ⟨(i + 1, sv102), by simp only; omega, by simp only; omega, Ko.go, by simp only; rw [lineN_snoc]; exact ent.gc⟩
    · refine WP.exit ?_; refine thn_exit ?_; refine thn_exit ?_; refine blk_hit ?_
      have ei : i = F.blocks.length := by omega
      subst ei
      exact thn_next ⟨(ls, F.blocks.length), trivial, Ko.go, ent.gc⟩
  rintro ⟨ls, n12⟩ _
  refine WP.trim [10, 2] [0, 1] ?_
  try simp only
  have hlin := lineN_in (m := m) (T := T) (k := F.blocks.length) (show 0 < F.blocks.length by omega)
  have hll := lineN_len F.blocks.length m T F.blocks.length
  have hline := lineB_of (n := F.blocks.length) (by omega) hll (lineN_nodup (T := T) hm) hlin
  generalize lineN F.blocks.length m T F.blocks.length = line at hlin hll hline
  have hbl : ∀ i ∈ line, F.blocks[i.toNat]? ≠ none := fun i hi => by
    have := hlin i hi
    rw [List.getElem?_eq_getElem (by omega)]; simp
  refine WP.seq ?_
  refine WP.plain cf0 rfl ?_
  refine Run.loadBagg 0 rfl rfl ag_25 rfl rfl rfl rfl rfl ?_
  refine Run.callP [] ok_11 (one_ok hR F su sv hV hS) ?_; rintro _ _ ⟨lb, rfl, rfl⟩; refine Run.opens lease_open ?_; rintro ⟨w, su', sv', m⟩
  refine Run.nilCheck rfl rfl rfl rfl ?_
  refine Run.fieldAddr rfl rfl fo_38_0 rfl rfl ?_
  refine Run.fieldAddr rfl rfl fo_36_0 rfl rfl ?_
  refine Run.loadB 0 rfl rfl ag_34 rfl rfl rfl rfl rfl ?_
  refine Run.idxO 1 rfl rfl rfl sl_34 rfl rfl rfl rfl (by omega) (by simp) ?_
  refine Run.loadOagg 1 0 (y := ((F, su', sv') : RFun)) rfl rfl ag_25 rfl rfl rfl rfl rfl rfl ?_
  refine Run.mv rfl rfl rfl rfl ?_
  refine Run.callL [] [2, 4] ok_17 (fun g hg hd => lease_iv 20 (fun hR sv xs h1 h2 h3 => sortStable20_ok hR sv xs h1 h2 h3) (F := F) (su := su') (sv := sv') (lv := ls) (line := line) hT hS (by omega) (by omega) (by omega) (fun _ => by omega) hg hd) ?_; rintro _ _ hres; obtain ⟨ov, ys, rfl, hperm, hsort, rfl⟩ := iv_true hform hline hres
  refine Run.mv rfl rfl rfl rfl ?_
  refine Run.extract rfl rfl rfl rfl rfl ?_
  refine Run.extract rfl rfl rfl rfl rfl ?_
  refine Run.mv rfl rfl rfl rfl ?_
  refine Run.mv rfl rfl rfl rfl ?_
  refine Run.nil ?_
  refine thn_next ?_
  refine WP.trim [14, 13, 10, 2] [5, 2, 0] ?_
  refine WP.seq ?_
  refine WP.seq ?_
  refine WP.plain cf0 rfl ?_
  refine Run.mv rfl rfl rfl rfl ?_
  refine Run.int2 rfl rfl rfl rfl rfl rfl ?_
  refine Run.eqv (v' := .bool false) rfl ?_
  refine Run.nil ?_
  refine thn_next ?_
  refine WP.cond (t := false) rfl (fun h => by cases h) (fun _ => ?_)
  refine WP.skip ?_; refine thn_next ?_
  refine WP.trim [13, 10, 2] [0, 1, 2] ?_
  refine WP.know (slA_know 2 rfl) (fun hkn => ?_)
  obtain ⟨hkn, _⟩ := hkn
  refine WP.freeze (Γ := []) [blk b2 (fcs F su sv) 25, slA 3 (Enc.int .i64) ls.val line, slA 62 encIv ov.val ys] fun g hg hd => ?_
  have sR : Sub hR (un hR g) := sub_un_left hR g
  have c2 := lent_blk (v := .int .i64 F.regs) 0 2 rfl rfl hg hd
  have cc : rowH (un hR g) ⟨b2, 0, none⟩ (fcs F su sv) := fun j v hj => by have h5 := lent_blk (v := v) 0 j rfl hj hg hd; have e : (⟨b2, 0, none⟩ : Addr).add j = ⟨b2, j, none⟩ := (by cases j <;> simp [Addr.add]); rw [e]; exact h5
  have hl : SlR rdI (un hR g) ls.val line := lent_at 1 rfl hg hd
  have ho : SlR encIv.rd (un hR g) ov.val ys := lent_at 2 rfl hg hd
  have hu := hu.mono sR
  have hv := hv.mono sR
  generalize un hR g = hX at c2 cc hl ho hu hv
  clear hg hd sR
  have hsp := spans_ok hQ hS (line := line) (by omega)
  have hyl : ys.length = ((spansF F line).filter keepB).length := hperm.length_eq
  have hyl2 : ys.length ≤ 20 := by
    have := List.length_filter_le keepB (spansF F line)
    have := hsp.len
    omega
  refine WP.seq ?_
  refine WP.plain cf0 rfl ?_
  refine Run.mv rfl rfl rfl rfl ?_
  refine Run.nil ?_
  refine thn_next ?_
  refine WP.meetC (α := Nat) (fun _ => True) (fun z => [(16, .int .i64 (z : Int))]) (fun _ => []) ?_ ?_
  · refine WP.seq ?_
    refine WP.plain cf0 rfl ?_
    refine Run.mv rfl rfl rfl rfl ?_
    refine Run.nil ?_
    refine thn_next ?_
    refine WP.block ?_
    refine WP.loopC (α := Nat) (fun z => z ≤ ys.length) (fun z => [(16, .int .i64 (z : Int))]) (fun _ => []) (fun z => ys.length - z) 0 (Nat.zero_le _) ?_
    intro i hi
    refine WP.trim [16, 15, 13, 10, 2] [] ?_
    refine WP.seq ?_
    refine WP.seq ?_
    refine WP.plain cf0 rfl ?_
    refine Run.mv rfl rfl rfl rfl ?_
    refine Run.mv rfl rfl rfl rfl ?_
    refine Run.lenR rfl rfl sl_44 rfl rfl ho ?_
    refine Run.int2 rfl rfl rfl rfl rfl rfl ?_
    refine Run.nil ?_
    refine thn_next ?_
    refine WP.ite rfl (fun hlt => ?_) (fun hge => ?_)
    · refine WP.skip ?_; refine thn_next ?_
      refine WP.trim [16, 15, 13, 10, 2] [] ?_
      have hlt' : i < ys.length := by omega
      refine WP.meetC (α := Unit) (fun _ => True) (fun _ => []) (fun _ => []) ?_ ?_
      · refine WP.block ?_
        refine WP.seq ?_
        by_cases h0 : (i : Int) > 0
        · obtain ⟨y, gy⟩ : ∃ y, ys[(i : Int).toNat]? = some y := ⟨_, List.getElem?_eq_getElem hlt'⟩
          obtain ⟨x, gx⟩ : ∃ y, ys[((i : Int) - 1).toNat]? = some y := ⟨_, List.getElem?_eq_getElem (by omega)⟩
          have hxy : ltV x y := by
            obtain ⟨a1, e1⟩ := List.getElem?_eq_some_iff.1 gx
            obtain ⟨a2, e2⟩ := List.getElem?_eq_some_iff.1 gy
            have := List.pairwise_iff_getElem.1 hsort _ _ a1 a2 (by omega)
            rw [e1, e2] at this; exact this
          have hxy' : x.fr < y.fr ∨ (x.fr = y.fr ∧ x.reg < y.reg) := hxy
          by_cases heq : y.fr = x.fr
          · refine WP.drawn0 cf0 mixed rfl (by kernel_rfl) ?_
            refine Run.mv rfl rfl rfl rfl ?_
            refine Run.int2 rfl rfl rfl rfl rfl rfl ?_
            refine Run.tt h0 ?_
            refine Run.mv rfl rfl rfl rfl ?_
            refine Run.mv rfl rfl rfl rfl ?_
            refine Run.mv rfl rfl rfl rfl ?_
            refine Run.idxR rfl rfl rfl sl_44 rfl rfl ho (by rfl) (by omega) (by omega) ?_
            refine Run.fieldAddr rfl rfl fo_62_1 rfl rfl ?_
            refine Run.loadR rfl rfl ag_3 rfl rfl (SlR.cell ho gy rfl) ?_
            refine Run.mv rfl rfl rfl rfl ?_
            refine Run.mv rfl rfl rfl rfl ?_
            refine Run.sub64 rfl rfl rfl rfl rfl (by first | omega | (simp <;> omega)) (by first | omega | (simp <;> omega)) ?_
            refine Run.idxR rfl rfl rfl sl_44 rfl rfl ho (by rfl) (by omega) (by omega) ?_
            refine Run.fieldAddr rfl rfl fo_62_1 rfl rfl ?_
            refine Run.loadR rfl rfl ag_3 rfl rfl (SlR.cell ho gx rfl) ?_
            refine Run.int2 rfl rfl rfl rfl rfl rfl ?_
            refine Run.ff (by omega) ?_
            refine Run.mv rfl rfl rfl rfl ?_
            refine Run.mv rfl rfl rfl rfl ?_
            refine Run.mv rfl rfl rfl rfl ?_
            refine Run.idxR rfl rfl rfl sl_44 rfl rfl ho (by rfl) (by omega) (by omega) ?_
            refine Run.fieldAddr rfl rfl fo_62_1 rfl rfl ?_
            refine Run.loadR rfl rfl ag_3 rfl rfl (SlR.cell ho gy rfl) ?_
            refine Run.mv rfl rfl rfl rfl ?_
            refine Run.mv rfl rfl rfl rfl ?_
            refine Run.sub64 rfl rfl rfl rfl rfl (by first | omega | (simp <;> omega)) (by first | omega | (simp <;> omega)) ?_
            refine Run.idxR rfl rfl rfl sl_44 rfl rfl ho (by rfl) (by omega) (by omega) ?_
            refine Run.fieldAddr rfl rfl fo_62_1 rfl rfl ?_
            refine Run.loadR rfl rfl ag_3 rfl rfl (SlR.cell ho gx rfl) ?_
            refine Run.int2 rfl rfl rfl rfl rfl rfl ?_
            refine Run.tt heq ?_
            refine Run.mv rfl rfl rfl rfl ?_
            refine Run.mv rfl rfl rfl rfl ?_
            refine Run.mv rfl rfl rfl rfl ?_
            refine Run.idxR rfl rfl rfl sl_44 rfl rfl ho (by rfl) (by omega) (by omega) ?_
            refine Run.fieldAddr rfl rfl fo_62_0 rfl rfl ?_
            refine Run.loadR rfl rfl ag_3 rfl rfl (SlR.cell0 ho gy rfl) ?_
            refine Run.mv rfl rfl rfl rfl ?_
            refine Run.mv rfl rfl rfl rfl ?_
            refine Run.sub64 rfl rfl rfl rfl rfl (by first | omega | (simp <;> omega)) (by first | omega | (simp <;> omega)) ?_
            refine Run.idxR rfl rfl rfl sl_44 rfl rfl ho (by rfl) (by omega) (by omega) ?_
            refine Run.fieldAddr rfl rfl fo_62_0 rfl rfl ?_
            refine Run.loadR rfl rfl ag_3 rfl rfl (SlR.cell0 ho gx rfl) ?_
            refine Run.int2 rfl rfl rfl rfl rfl rfl ?_
            refine Run.ff (by omega) ?_
            refine Run.pick rfl rfl rfl rfl rfl ?_
            refine Run.pick rfl rfl rfl rfl rfl ?_
            refine Run.pick rfl rfl rfl rfl rfl ?_
            refine Run.nil ?_
            refine thn_next ?_
            refine WP.cond (t := false) rfl (fun h => by cases h) (fun _ => ?_)
            refine WP.skip ?_; refine blk_norm ?_
            exact thn_next ⟨(), trivial, Ko.go, ent.gc⟩
          · refine WP.drawn0 cf0 mixed rfl (by kernel_rfl) ?_
            refine Run.mv rfl rfl rfl rfl ?_
            refine Run.int2 rfl rfl rfl rfl rfl rfl ?_
            refine Run.tt h0 ?_
            refine Run.mv rfl rfl rfl rfl ?_
            refine Run.mv rfl rfl rfl rfl ?_
            refine Run.mv rfl rfl rfl rfl ?_
            refine Run.idxR rfl rfl rfl sl_44 rfl rfl ho (by rfl) (by omega) (by omega) ?_
            refine Run.fieldAddr rfl rfl fo_62_1 rfl rfl ?_
            refine Run.loadR rfl rfl ag_3 rfl rfl (SlR.cell ho gy rfl) ?_
            refine Run.mv rfl rfl rfl rfl ?_
            refine Run.mv rfl rfl rfl rfl ?_
            refine Run.sub64 rfl rfl rfl rfl rfl (by first | omega | (simp <;> omega)) (by first | omega | (simp <;> omega)) ?_
            refine Run.idxR rfl rfl rfl sl_44 rfl rfl ho (by rfl) (by omega) (by omega) ?_
            refine Run.fieldAddr rfl rfl fo_62_1 rfl rfl ?_
            refine Run.loadR rfl rfl ag_3 rfl rfl (SlR.cell ho gx rfl) ?_
            refine Run.int2 rfl rfl rfl rfl rfl rfl ?_
            refine Run.ff (by omega) ?_
            refine Run.mv rfl rfl rfl rfl ?_
            refine Run.mv rfl rfl rfl rfl ?_
            refine Run.mv rfl rfl rfl rfl ?_
            refine Run.idxR rfl rfl rfl sl_44 rfl rfl ho (by rfl) (by omega) (by omega) ?_
            refine Run.fieldAddr rfl rfl fo_62_1 rfl rfl ?_
            refine Run.loadR rfl rfl ag_3 rfl rfl (SlR.cell ho gy rfl) ?_
            refine Run.mv rfl rfl rfl rfl ?_
            refine Run.mv rfl rfl rfl rfl ?_
            refine Run.sub64 rfl rfl rfl rfl rfl (by first | omega | (simp <;> omega)) (by first | omega | (simp <;> omega)) ?_
            refine Run.idxR rfl rfl rfl sl_44 rfl rfl ho (by rfl) (by omega) (by omega) ?_
            refine Run.fieldAddr rfl rfl fo_62_1 rfl rfl ?_
            refine Run.loadR rfl rfl ag_3 rfl rfl (SlR.cell ho gx rfl) ?_
            refine Run.int2 rfl rfl rfl rfl rfl rfl ?_
            refine Run.ff heq ?_
            refine Run.mv rfl rfl rfl rfl ?_
            refine Run.not rfl rfl ?_
            refine Run.not rfl rfl ?_
            refine Run.not rfl rfl ?_
            refine Run.not rfl rfl ?_
            refine Run.not rfl rfl ?_
            refine Run.not rfl rfl ?_
            refine Run.not rfl rfl ?_
            refine Run.not rfl rfl ?_
            refine Run.not rfl rfl ?_
            refine Run.not rfl rfl ?_
            refine Run.not rfl rfl ?_
            refine Run.not rfl rfl ?_
            refine Run.pick rfl rfl rfl rfl rfl ?_
            refine Run.pick rfl rfl rfl rfl rfl ?_
            refine Run.pick rfl rfl rfl rfl rfl ?_
            refine Run.nil ?_
            refine thn_next ?_
            refine WP.cond (t := false) rfl (fun h => by cases h) (fun _ => ?_)
            refine WP.skip ?_; refine blk_norm ?_
            exact thn_next ⟨(), trivial, Ko.go, ent.gc⟩
        · refine WP.drawn0 cf0 mixed rfl (by kernel_rfl) ?_
          refine Run.mv rfl rfl rfl rfl ?_
          refine Run.int2 rfl rfl rfl rfl rfl rfl ?_
          refine Run.ff h0 ?_
          refine Run.mv rfl rfl rfl rfl ?_
          refine Run.not rfl rfl ?_
          refine Run.not rfl rfl ?_
          refine Run.not rfl rfl ?_
          refine Run.not rfl rfl ?_
          refine Run.not rfl rfl ?_
          refine Run.not rfl rfl ?_
          refine Run.not rfl rfl ?_
          refine Run.not rfl rfl ?_
          refine Run.not rfl rfl ?_
          refine Run.not rfl rfl ?_
          refine Run.not rfl rfl ?_
          refine Run.not rfl rfl ?_
          refine Run.not rfl rfl ?_
          refine Run.not rfl rfl ?_
          refine Run.not rfl rfl ?_
          refine Run.not rfl rfl ?_
          refine Run.not rfl rfl ?_
          refine Run.not rfl rfl ?_
          refine Run.not rfl rfl ?_
          refine Run.not rfl rfl ?_
          refine Run.not rfl rfl ?_
          refine Run.not rfl rfl ?_
          refine Run.not rfl rfl ?_
          refine Run.not rfl rfl ?_
          refine Run.not rfl rfl ?_
          refine Run.not rfl rfl ?_
          refine Run.not rfl rfl ?_
          refine Run.not rfl rfl ?_
          refine Run.not rfl rfl ?_
          refine Run.not rfl rfl ?_
          refine Run.not rfl rfl ?_
          refine Run.not rfl rfl ?_
          refine Run.not rfl rfl ?_
          refine Run.not rfl rfl ?_
          refine Run.not rfl rfl ?_
          refine Run.not rfl rfl ?_
          refine Run.not rfl rfl ?_
          refine Run.not rfl rfl ?_
          refine Run.not rfl rfl ?_
          refine Run.not rfl rfl ?_
          refine Run.pick rfl rfl rfl rfl rfl ?_
          refine Run.nil ?_
          refine thn_next ?_
          refine WP.cond (t := false) rfl (fun h => by cases h) (fun _ => ?_)
          refine WP.skip ?_; refine blk_norm ?_
          exact thn_next ⟨(), trivial, Ko.go, ent.gc⟩
      rintro _ _
      refine WP.trim [16, 15, 13, 10, 2] [] ?_
      refine WP.plain cf0 rfl ?_
      refine Run.mv rfl rfl rfl rfl ?_
      refine Run.add64 rfl rfl rfl rfl rfl (by first | omega | (simp <;> omega)) (by first | omega | (simp <;> omega)) ?_
      refine Run.mv rfl rfl rfl rfl ?_
      refine Run.nil ?_
      exact thn_next ⟨i + 1, hlt', by omega, Ko.go, ent.gc⟩
    · refine WP.exit ?_; refine thn_exit ?_; refine thn_exit ?_; refine blk_hit ?_
      exact thn_next ⟨i, trivial, Ko.go, ent.gc⟩
  rintro n16 _
  refine WP.trim [15, 13, 10, 2] [] ?_
  refine WP.meetC (α := Nat) (fun _ => True) (fun z => [(15, .int .i64 (ys.length : Int)), (17, .int .i64 (z : Int))]) (fun _ => []) ?_ ?_
  · refine WP.seq ?_
    refine WP.plain cf0 rfl ?_
    refine Run.mv rfl rfl rfl rfl ?_
    refine Run.nil ?_
    refine thn_next ?_
    refine WP.block ?_
    refine WP.loopC (α := Nat) (fun z => (z : Int) ≤ F.regs) (fun z => [(17, .int .i64 (z : Int)), (15, .int .i64 ((((spansF F line).take z).filter keepB).length : Int))]) (fun _ => []) (fun z => F.regs.toNat - z) 0 (by simpa using q0) ?_
    intro r hr
    refine WP.trim [17, 15, 13, 10, 2] [] ?_
    refine WP.seq ?_
    refine WP.seq ?_
    refine WP.plain cf0 rfl ?_
    refine Run.mv rfl rfl rfl rfl ?_
    refine Run.fieldAddr rfl rfl fo_25_2 rfl rfl ?_
    refine Run.loadR rfl rfl ag_3 rfl rfl c2 ?_
    refine Run.int2 rfl rfl rfl rfl rfl rfl ?_
    refine Run.nil ?_
    refine thn_next ?_
    refine WP.ite rfl (fun hlt => ?_) (fun hge => ?_)
    · refine WP.skip ?_; refine thn_next ?_
      obtain ⟨y, gy, hy⟩ := slot_ways hQ hbl hlt
      have hcs := count_step gy
      have hcl : (((spansF F line).take r).filter keepB).length ≤ 20 := by
        have := List.length_filter_le keepB ((spansF F line).take r)
        rw [List.length_take] at this; omega
      refine WP.trim [17, 15, 13, 10, 2] [] ?_
      refine WP.meetC (α := Unit) (fun _ => True) (fun _ => [(15, .int .i64 ((((spansF F line).take (r + 1)).filter keepB).length : Int))]) (fun _ => []) ?_ ?_
      · refine WP.block ?_
        refine WP.seq ?_
        refine WP.plain cf0 rfl ?_
        refine Run.loadRagg rfl rfl ag_25 rfl rfl cc rfl ?_
        refine Run.mv rfl rfl rfl rfl ?_
        refine Run.mv rfl rfl rfl rfl ?_
        refine Run.callP [] ok_25 (places_ok hX F su sv hu hv hS hQ.pl (by omega) hQ.to line ls hl hlin (by omega) (r : Int)) ?_; rintro _ _ ⟨⟨fr, to, k, rfl, hP⟩, rfl⟩
        refine Run.mv rfl rfl rfl rfl ?_
        refine Run.extract rfl rfl rfl rfl rfl ?_
        refine Run.extract rfl rfl rfl rfl rfl ?_
        refine Run.mv rfl rfl rfl rfl ?_
        refine Run.mv rfl rfl rfl rfl ?_
        refine Run.nil ?_
        refine thn_next ?_
        refine WP.trim [18, 19, 17, 15, 13, 10, 2] [] ?_
        refine WP.seq ?_
        refine WP.seq ?_
        refine WP.plain cf0 rfl ?_
        refine Run.mv rfl rfl rfl rfl ?_
        refine Run.int2 rfl rfl rfl rfl rfl rfl ?_
        refine Run.nil ?_
        refine thn_next ?_
        refine WP.ite rfl (fun hf => ?_) (fun hf => ?_)
        · refine WP.exit ?_; refine thn_exit ?_; refine blk_hit ?_
          have hk := span_none (by omega) hy hP hf
          rw [hk] at hcs
          exact thn_next ⟨(), trivial, Ko.go ⟨by rw [hcs]; rfl, trivial⟩, ent.gc⟩
        refine WP.skip ?_; refine thn_next ?_
        obtain ⟨hk, rfl⟩ := span_some (by omega) hy hP hf
        rw [if_pos hk] at hcs
        have hmem : (⟨(r : Int), fr, to⟩ : Iv) ∈ ys := hperm.mem_iff.2 (List.mem_filter.2 ⟨List.mem_of_getElem? gy, hk⟩)
        refine WP.seq ?_
        refine WP.plain cf0 rfl ?_
        refine Run.mv rfl rfl rfl rfl ?_
        refine Run.add64 rfl rfl rfl rfl rfl (by first | omega | (simp <;> omega)) (by first | omega | (simp <;> omega)) ?_
        refine Run.mv rfl rfl rfl rfl ?_
        refine Run.nil ?_
        refine thn_next ?_
        refine WP.seq ?_
        refine WP.plain cf0 rfl ?_
        refine Run.mv rfl rfl rfl rfl ?_
        refine Run.nil ?_
        refine thn_next ?_
        refine WP.trim [20, 18, 19, 17, 15, 13, 10, 2] [] ?_
        refine WP.meetC (α := Nat) (fun z => True) (fun z => [(21, .int .i64 (z : Int)), (20, .bool true)]) (fun _ => []) ?_ ?_
        · refine WP.seq ?_
          refine WP.plain cf0 rfl ?_
          refine Run.mv rfl rfl rfl rfl ?_
          refine Run.nil ?_
          refine thn_next ?_
          refine WP.block ?_
          refine WP.loopC (α := Nat × Bool) (fun z => z.1 ≤ ys.length ∧ (z.2 = true ↔ ∃ q : Nat, q < z.1 ∧ ys[q]? = some (⟨(r : Int), fr, to⟩ : Iv))) (fun z => [(21, .int .i64 (z.1 : Int)), (20, .bool z.2)]) (fun _ => []) (fun z => ys.length - z.1) (0, false) ⟨Nat.zero_le _, fun h => (by cases h), fun ⟨q, h, _⟩ => by omega⟩ ?_
          rintro ⟨i, s⟩ ⟨hi, hst⟩
          simp only at hi hst
          refine WP.trim [21, 20, 18, 19, 17, 15, 13, 10, 2] [] ?_
          try simp only
          refine WP.seq ?_
          refine WP.seq ?_
          refine WP.plain cf0 rfl ?_
          refine Run.mv rfl rfl rfl rfl ?_
          refine Run.mv rfl rfl rfl rfl ?_
          refine Run.lenR rfl rfl sl_44 rfl rfl ho ?_
          refine Run.int2 rfl rfl rfl rfl rfl rfl ?_
          refine Run.nil ?_
          refine thn_next ?_
          refine WP.ite rfl (fun hlt2 => ?_) (fun hge2 => ?_)
          · refine WP.skip ?_; refine thn_next ?_
            have hlt2' : i < ys.length := by omega
            obtain ⟨x, gx⟩ : ∃ y, ys[(i : Int).toNat]? = some y := ⟨_, List.getElem?_eq_getElem hlt2'⟩
            have gx' : ys[i]? = some x := gx
            refine WP.seq ?_
            refine WP.block ?_
            cases s with
            | true =>
              refine WP.plain cf0 rfl ?_
              refine Run.mv rfl rfl rfl rfl ?_
              refine Run.mv rfl rfl rfl rfl ?_
              refine Run.not rfl rfl ?_
              refine Run.not rfl rfl ?_
              refine Run.not rfl rfl ?_
              refine Run.not rfl rfl ?_
              refine Run.not rfl rfl ?_
              refine Run.not rfl rfl ?_
              refine Run.not rfl rfl ?_
              refine Run.not rfl rfl ?_
              refine Run.not rfl rfl ?_
              refine Run.pick rfl rfl rfl rfl rfl ?_
              refine Run.mv rfl rfl rfl rfl ?_
              refine Run.nil ?_
              refine blk_norm ?_; refine thn_next ?_
              refine WP.plain cf0 rfl ?_
              refine Run.mv rfl rfl rfl rfl ?_
              refine Run.add64 rfl rfl rfl rfl rfl (by first | omega | (simp <;> omega)) (by first | omega | (simp <;> omega)) ?_
              refine Run.mv rfl rfl rfl rfl ?_
              refine Run.nil ?_
              refine thn_next ⟨(i + 1, true), ⟨hlt2', fun _ => ?_, fun _ => rfl⟩, by simp only; omega, Ko.go, ent.gc⟩
              obtain ⟨q, h1, h2⟩ := hst.1 rfl
              exact ⟨q, by simp only; omega, h2⟩
            | false =>
              refine WP.plain cf0 rfl ?_
              refine Run.mv rfl rfl rfl rfl ?_
              refine Run.mv rfl rfl rfl rfl ?_
              refine Run.mv rfl rfl rfl rfl ?_
              refine Run.mv rfl rfl rfl rfl ?_
              refine Run.idxR rfl rfl rfl sl_44 rfl rfl ho (by rfl) (by omega) (by omega) ?_
              refine Run.loadRagg rfl rfl ag_62 rfl rfl (SlR.row ho gx) rfl ?_
              refine Run.mv rfl rfl rfl rfl ?_
              refine Run.mv rfl rfl rfl rfl ?_
              refine Run.mv rfl rfl rfl rfl ?_
              refine Run.build rfl bd_62 rfl rfl rfl rfl ?_
              refine Run.eqS rfl rfl rfl is_62 nf_62 (eqI_iv x ⟨(r : Int), fr, to⟩) rfl rfl rfl ?_
              refine Run.pick rfl rfl rfl rfl rfl ?_
              refine Run.mv rfl rfl rfl rfl ?_
              refine Run.nil ?_
              refine blk_norm ?_; refine thn_next ?_
              refine WP.plain cf0 rfl ?_
              refine Run.mv rfl rfl rfl rfl ?_
              refine Run.add64 rfl rfl rfl rfl rfl (by first | omega | (simp <;> omega)) (by first | omega | (simp <;> omega)) ?_
              refine Run.mv rfl rfl rfl rfl ?_
              refine Run.nil ?_
              refine thn_next ⟨(i + 1, decide (x = ⟨(r : Int), fr, to⟩)), ⟨hlt2', fun h => ⟨i, Nat.lt_succ_self i, by rw [gx', of_decide_eq_true h]⟩, fun ⟨q, h1, h2⟩ => ?_⟩, by simp only; omega, Ko.go, ent.gc⟩
              by_cases e : q = i
              · subst e; rw [gx'] at h2; cases h2; exact decide_eq_true rfl
              · have := hst.2 ⟨q, by simp only at h1; omega, h2⟩; cases this
          · refine WP.exit ?_; refine thn_exit ?_; refine thn_exit ?_; refine blk_hit ?_
            obtain ⟨q, gq⟩ := List.getElem?_of_mem hmem
            have es : s = true := hst.2 ⟨q, by have := (List.getElem?_eq_some_iff.1 gq).1; omega, gq⟩
            subst es
            exact thn_next ⟨i, trivial, Ko.go, ent.gc⟩
        rintro n21 _
        refine WP.trim [20, 17, 15, 13, 10, 2] [] ?_
        refine WP.seq ?_
        refine WP.plain cf0 rfl ?_
        refine Run.mv rfl rfl rfl rfl ?_
        refine Run.bnotB rfl rfl rfl rfl ?_
        refine Run.eqv (v' := .bool false) rfl ?_
        refine Run.nil ?_
        refine thn_next ?_
        refine WP.cond (t := false) rfl (fun h => by cases h) (fun _ => ?_)
        refine WP.skip ?_; refine blk_norm ?_
        exact thn_next ⟨(), trivial, Ko.go ⟨by rw [hcs]; rfl, trivial⟩, ent.gc⟩
      rintro _ _
      refine WP.trim [17, 15, 13, 10, 2] [] ?_
      refine WP.plain cf0 rfl ?_
      refine Run.mv rfl rfl rfl rfl ?_
      refine Run.add64 rfl rfl rfl rfl rfl (by first | omega | (simp <;> omega)) (by first | omega | (simp <;> omega)) ?_
      refine Run.mv rfl rfl rfl rfl ?_
      refine Run.nil ?_
      exact thn_next ⟨r + 1, by omega, by omega, Ko.go, ent.gc⟩
    · refine WP.exit ?_; refine thn_exit ?_; refine thn_exit ?_; refine blk_hit ?_
      have er : (((spansF F line).take r).filter keepB).length = ys.length := by
        rw [List.take_of_length_le (by rw [hsp.len]; omega), hyl]
      exact thn_next ⟨r, trivial, Ko.go ⟨by rw [← er]; rfl, rfl, trivial⟩, ent.gc⟩
  rintro n17 _
  refine WP.trim [15, 13] [] ?_
  refine WP.seq ?_
  refine WP.plain cf0 rfl ?_
  refine Run.mv rfl rfl rfl rfl ?_
  refine Run.mv rfl rfl rfl rfl ?_
  refine Run.lenR rfl rfl sl_44 rfl rfl ho ?_
  refine Run.int2 rfl rfl rfl rfl rfl rfl ?_
  refine Run.tt rfl ?_
  refine Run.mv rfl rfl rfl rfl ?_
  refine Run.nil ?_
  refine thn_next ?_
  refine WP.ret ?_
  exact retT [4] _ rfl rfl ⟨_, ent.none _, rfl, rfl⟩
end Go.Proofs.YtjjfehdlmdhhmaaDoor
end
