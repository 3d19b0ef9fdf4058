/- The document's own check of ALIR: places, operations, ends of blocks, calls; walked. -/
import Derived.Test.YtfaokbjpinlcaaaGreatGA4
import Derived.Test.YtfaokbjpinlcaaaGreatGA9
import Derived.Test.YtfaokbjpinlcaaaGreatGB0
section
/- The document's own check of ALIR: places, operations, ends of blocks, calls; walked. -/
namespace Go.Proofs.YtfaokbjpinlcaaaGreat
open Go.Sep
set_option linter.unusedSimpArgs false
set_option linter.unusedVariables false
set_option maxRecDepth 100000
attribute [local irreducible] blk slA mp mpF rows rowsBut many mpK mpE
theorem rplace_ok (hR : Heap) (F : AF) (su sv : SV) (l : Lc) : Tri Tryz.prog hR 107 #[.agg ⟨afv F su.val sv.val⟩, encL l] [] fun v Γ' => v = .bool (placeB F l) ∧ Γ' = [] := by
  refine Tri.ent (Tri.of (args := [.agg ⟨afv F su.val sv.val⟩, .agg ⟨lcv l⟩]) Tryz.func107 rfl Tryz.ntmps107 (by simp) ?_)
  refine Zp ?_
  refine Run.box rfl rfl rfl rfl rfl ?_
  intro b2
  refine Run.box rfl rfl rfl rfl rfl ?_
  intro b3
  refine Zm ?_
  refine Ze ?_
  refine WP.seq ?_
  refine Zp ?_
  refine Zf fo_46_0 ?_
  refine Zl 1 ag_3 ?_
  refine Zi ?_
  refine Ze ?_
  refine WP.ite rfl (fun h1 => ?_) (fun h1 => ?_)
  · refine WP.seqCut [(4, .bool (placeB F l))] [] ?_ ?_
    · refine Zc ?_
      all_goals (first | refine Zf fo_46_1 ?_)
      all_goals (first | refine Zl 1 ag_3 ?_)
      all_goals (first | refine Zi ?_)
      all_goals (first | refine Run.tt (by first | assumption | omega) ?_ | refine Run.ff (by first | assumption | omega) ?_ | refine Run.split (fun hc10 => ?_) (fun hc10 => ?_) | refine Run.splitB (fun hc10 => ?_) (fun hc10 => ?_) | skip)
      all_goals (first | refine Zm ?_)
      all_goals (first | refine Zv ?_ | refine Zf fo_46_1 ?_)
      all_goals (first | refine Zv ?_ | refine Zl 1 ag_3 ?_)
      all_goals (first | refine Zv ?_ | refine Zi ?_)
      all_goals (first | refine Zq ?_)
      all_goals (first | refine Zm ?_)
      all_goals (refine Run.nil ?_)
      all_goals refine thn_next ⟨⟨?_, trivial⟩, ent.none _⟩
      all_goals simp [Env.get, placeB, *]
      all_goals omega
    refine WP.ret ?_; refine thn_ret ?_
    exact retT [4] _ rfl rfl ⟨_, ent.none _, rfl, rfl⟩
  refine Zb ?_
  refine WP.seqCut [(4, .bool (placeB F l))] [] ?_ ?_
  · refine Zc ?_
    all_goals (first | refine Zf fo_46_0 ?_)
    all_goals (first | refine Zl 1 ag_3 ?_)
    all_goals (first | refine Zi ?_)
    all_goals (first | refine Run.tt (by first | assumption | omega) ?_ | refine Run.ff (by first | assumption | omega) ?_ | refine Run.split (fun hc18 => ?_) (fun hc18 => ?_) | refine Run.splitB (fun hc18 => ?_) (fun hc18 => ?_) | skip)
    all_goals (first | refine Zm ?_)
    all_goals (first | refine Zv ?_ | refine Zf fo_46_1 ?_)
    all_goals (first | refine Zv ?_ | refine Zl 1 ag_3 ?_)
    all_goals (first | refine Zv ?_ | refine Zi ?_)
    all_goals (first | refine Run.tt (by first | assumption | omega) ?_ | refine Run.ff (by first | assumption | omega) ?_ | refine Run.split (fun hc22 => ?_) (fun hc22 => ?_) | refine Run.splitB (fun hc22 => ?_) (fun hc22 => ?_) | skip)
    all_goals (first | refine Zq ?_)
    all_goals (first | refine Zm ?_)
    all_goals (first | refine Zv ?_ | refine Zf fo_46_1 ?_)
    all_goals (first | refine Zv ?_ | refine Zl 1 ag_3 ?_)
    all_goals (first | refine Zv ?_ | refine Zf fo_51_3 ?_)
    all_goals (first | refine Zv ?_ | refine Zl 0 ag_3 ?_)
    all_goals (first | refine Zv ?_ | refine Zi ?_)
    all_goals (first | refine Zq ?_)
    all_goals (first | refine Zm ?_)
    all_goals (refine Run.nil ?_)
    all_goals refine thn_next ⟨⟨?_, trivial⟩, ent.none _⟩
    all_goals simp [Env.get, placeB, *]
    all_goals omega
  refine WP.ret ?_
  exact retT [4] _ rfl rfl ⟨_, ent.none _, rfl, rfl⟩
theorem args_ok (hR : Heap) (op : Int) : Tri Tryz.prog hR 155 #[.int .i64 op] [] fun v Γ' => v = .int .i64 (argsN op) ∧ Γ' = [] := by
  refine Tri.ent (Tri.of (args := [.int .i64 op]) Tryz.func155 rfl Tryz.ntmps155 (by simp) ?_)
  refine Zp ?_
  refine Zm ?_
  refine Ze ?_
  refine WP.trim [0, 2] [] ?_
  refine WP.meetC (α := Unit) (fun _ => argsN op = -1) (fun _ => []) (fun _ => []) ?_ ?_
  · refine WP.block ?_
    refine WP.seqCut [(0, .int .i64 op), (2, .int .i64 0), (3, .bool (decide (op = 1 ∨ op = 24)))] [] ?_ ?_
    · refine Zc ?_
      all_goals (first | refine Zm ?_)
      all_goals (first | refine Zi ?_)
      all_goals (first | refine Run.tt (by first | assumption | omega) ?_ | refine Run.ff (by first | assumption | omega) ?_ | refine Run.split (fun hc5 => ?_) (fun hc5 => ?_) | refine Run.splitB (fun hc5 => ?_) (fun hc5 => ?_) | skip)
      all_goals (first | refine Zm ?_)
      all_goals (first | refine Zv ?_ | refine Zm ?_)
      all_goals (first | refine Zv ?_ | refine Zi ?_)
      all_goals (first | refine Zq ?_)
      all_goals (first | refine Zm ?_)
      all_goals (refine Run.nil ?_)
      all_goals refine thn_next ⟨⟨rfl, rfl, ?_, trivial⟩, ent.none _⟩
      all_goals (simp [Env.get, *] <;> omega)
    refine WP.ite rfl (fun h1 => ?_) (fun h1 => ?_)
    · refine Zp ?_
      refine Zm ?_
      refine Ze ?_
      refine WP.ret ?_; refine blk_ret ?_; refine thn_ret ?_
      exact retT [2] _ rfl rfl ⟨_, ent.none _, by unfold argsN; rw [if_pos h1]; rfl, rfl⟩
    refine WP.seqCut [(0, .int .i64 op), (2, .int .i64 0), (10, .bool (decide ((2 ≤ op ∧ op ≤ 16) ∨ op = 21 ∨ op = 30)))] [] ?_ ?_
    · refine Zc ?_
      all_goals (first | refine Zm ?_)
      all_goals (first | refine Zi ?_)
      all_goals (first | refine Run.tt (by first | assumption | omega) ?_ | refine Run.ff (by first | assumption | omega) ?_ | refine Run.split (fun hc12 => ?_) (fun hc12 => ?_) | refine Run.splitB (fun hc12 => ?_) (fun hc12 => ?_) | skip)
      all_goals (first | refine Zm ?_)
      all_goals (first | refine Zv ?_ | refine Zm ?_)
      all_goals (first | refine Zv ?_ | refine Zi ?_)
      all_goals (first | refine Run.tt (by first | assumption | omega) ?_ | refine Run.ff (by first | assumption | omega) ?_ | refine Run.split (fun hc15 => ?_) (fun hc15 => ?_) | refine Run.splitB (fun hc15 => ?_) (fun hc15 => ?_) | skip)
      all_goals (first | refine Zq ?_)
      all_goals (first | refine Zm ?_)
      all_goals (first | refine Zv ?_ | refine Zm ?_)
      all_goals (first | refine Zv ?_ | refine Zi ?_)
      all_goals (first | refine Run.tt (by first | assumption | omega) ?_ | refine Run.ff (by first | assumption | omega) ?_ | refine Run.split (fun hc19 => ?_) (fun hc19 => ?_) | refine Run.splitB (fun hc19 => ?_) (fun hc19 => ?_) | skip)
      all_goals (first | refine Zq ?_)
      all_goals (first | refine Zm ?_)
      all_goals (first | refine Zv ?_ | refine Zm ?_)
      all_goals (first | refine Zv ?_ | refine Zi ?_)
      all_goals (first | refine Zq ?_)
      all_goals (first | refine Zm ?_)
      all_goals (refine Run.nil ?_)
      all_goals refine thn_next ⟨⟨rfl, rfl, ?_, trivial⟩, ent.none _⟩
      all_goals (simp [Env.get, *] <;> omega)
    refine WP.ite rfl (fun h3 => ?_) (fun h3 => ?_)
    · refine Zp ?_
      refine Zm ?_
      refine Ze ?_
      refine WP.ret ?_; refine blk_ret ?_; refine thn_ret ?_
      exact retT [2] _ rfl rfl ⟨_, ent.none _, by unfold argsN; rw [if_neg h1, if_pos h3]; rfl, rfl⟩
    refine WP.seqCut [(0, .int .i64 op), (2, .int .i64 0), (25, .bool (decide ((17 ≤ op ∧ op ≤ 20) ∨ op = 23 ∨ op = 31 ∨ (26 ≤ op ∧ op ≤ 29))))] [] ?_ ?_
    · refine Zc ?_
      all_goals (first | refine Zm ?_)
      all_goals (first | refine Zi ?_)
      all_goals (first | refine Run.tt (by first | assumption | omega) ?_ | refine Run.ff (by first | assumption | omega) ?_ | refine Run.split (fun hc27 => ?_) (fun hc27 => ?_) | refine Run.splitB (fun hc27 => ?_) (fun hc27 => ?_) | skip)
      all_goals (first | refine Zm ?_)
      all_goals (first | refine Zv ?_ | refine Zm ?_)
      all_goals (first | refine Zv ?_ | refine Zi ?_)
      all_goals (first | refine Run.tt (by first | assumption | omega) ?_ | refine Run.ff (by first | assumption | omega) ?_ | refine Run.split (fun hc30 => ?_) (fun hc30 => ?_) | refine Run.splitB (fun hc30 => ?_) (fun hc30 => ?_) | skip)
      all_goals (first | refine Zq ?_)
      all_goals (first | refine Zm ?_)
      all_goals (first | refine Zv ?_ | refine Zm ?_)
      all_goals (first | refine Zv ?_ | refine Zi ?_)
      all_goals (first | refine Run.tt (by first | assumption | omega) ?_ | refine Run.ff (by first | assumption | omega) ?_ | refine Run.split (fun hc34 => ?_) (fun hc34 => ?_) | refine Run.splitB (fun hc34 => ?_) (fun hc34 => ?_) | skip)
      all_goals (first | refine Zq ?_)
      all_goals (first | refine Zm ?_)
      all_goals (first | refine Zv ?_ | refine Zm ?_)
      all_goals (first | refine Zv ?_ | refine Zi ?_)
      all_goals (first | refine Run.tt (by first | assumption | omega) ?_ | refine Run.ff (by first | assumption | omega) ?_ | refine Run.split (fun hc38 => ?_) (fun hc38 => ?_) | refine Run.splitB (fun hc38 => ?_) (fun hc38 => ?_) | skip)
      all_goals (first | refine Zq ?_)
      all_goals (first | refine Zm ?_)
      all_goals (first | refine Zv ?_ | refine Zm ?_)
      all_goals (first | refine Zv ?_ | refine Zi ?_)
      all_goals (first | refine Run.tt (by first | assumption | omega) ?_ | refine Run.ff (by first | assumption | omega) ?_ | refine Run.split (fun hc42 => ?_) (fun hc42 => ?_) | refine Run.splitB (fun hc42 => ?_) (fun hc42 => ?_) | skip)
      all_goals (first | refine Zv ?_ | refine Zm ?_)
      all_goals (first | refine Zv ?_ | refine Zm ?_)
      all_goals (first | refine Zv ?_ | refine Zi ?_)
      all_goals (first | refine Zv ?_ | refine Zq ?_)
      all_goals (first | refine Zq ?_)
      all_goals (first | refine Zm ?_)
      all_goals (refine Run.nil ?_)
      all_goals refine thn_next ⟨⟨rfl, rfl, ?_, trivial⟩, ent.none _⟩
      all_goals (simp [Env.get, *] <;> omega)
    refine WP.ite rfl (fun h5 => ?_) (fun h5 => ?_)
    · refine Zp ?_
      refine Zm ?_
      refine Ze ?_
      refine WP.ret ?_; refine blk_ret ?_; refine thn_ret ?_
      exact retT [2] _ rfl rfl ⟨_, ent.none _, by unfold argsN; rw [if_neg h1, if_neg h3, if_pos h5]; rfl, rfl⟩
    refine WP.seqCut [(0, .int .i64 op), (2, .int .i64 0), (48, .bool (decide (op = 22)))] [] ?_ ?_
    · refine Zc ?_
      all_goals (first | refine Zm ?_)
      all_goals (first | refine Zi ?_)
      all_goals (first | refine Zm ?_)
      all_goals (refine Run.nil ?_)
      all_goals refine thn_next ⟨⟨rfl, rfl, ?_, trivial⟩, ent.none _⟩
      all_goals simp [Env.get, *]
    refine WP.ite rfl (fun h7 => ?_) (fun h7 => ?_)
    · refine Zp ?_
      refine Zm ?_
      refine Ze ?_
      refine WP.ret ?_; refine blk_ret ?_; refine thn_ret ?_
      exact retT [2] _ rfl rfl ⟨_, ent.none _, by unfold argsN; rw [if_neg h1, if_neg h3, if_neg h5, if_pos h7]; rfl, rfl⟩
    refine WP.skip ?_; refine blk_norm ?_
    exact thn_next ⟨(), by unfold argsN; rw [if_neg h1, if_neg h3, if_neg h5, if_neg h7], Ko.go, ent.gc⟩
  intro _ hF
  refine Zp ?_
  refine Zm ?_
  refine Ze ?_
  refine WP.ret ?_
  exact retT [2] _ rfl rfl ⟨_, ent.none _, by rw [hF]; rfl, rfl⟩
theorem sets_ok (hR : Heap) (op : Int) : Tri Tryz.prog hR 156 #[.int .i64 op] [] fun v Γ' => v = .bool (setsB op) ∧ Γ' = [] := by
  refine Tri.ent (Tri.of (args := [.int .i64 op]) Tryz.func156 rfl Tryz.ntmps156 (by simp) ?_)
  refine Zp ?_
  refine Zm ?_
  refine Ze ?_
  refine WP.seqCut [(2, .bool (setsB op))] [] ?_ ?_
  · refine Zc ?_
    all_goals (first | refine Zm ?_)
    all_goals (first | refine Zi ?_)
    all_goals (first | refine Run.tt (by first | assumption | omega) ?_ | refine Run.ff (by first | assumption | omega) ?_ | refine Run.split (fun hc4 => ?_) (fun hc4 => ?_) | refine Run.splitB (fun hc4 => ?_) (fun hc4 => ?_) | skip)
    all_goals (first | refine Zm ?_)
    all_goals (first | refine Zv ?_ | refine Zm ?_)
    all_goals (first | refine Zv ?_ | refine Zi ?_)
    all_goals (first | refine Run.tt (by first | assumption | omega) ?_ | refine Run.ff (by first | assumption | omega) ?_ | refine Run.split (fun hc7 => ?_) (fun hc7 => ?_) | refine Run.splitB (fun hc7 => ?_) (fun hc7 => ?_) | skip)
    all_goals (first | refine Zq ?_)
    all_goals (first | refine Zm ?_)
    all_goals (first | refine Zv ?_ | refine Zm ?_)
    all_goals (first | refine Zv ?_ | refine Zi ?_)
    all_goals (first | refine Run.tt (by first | assumption | omega) ?_ | refine Run.ff (by first | assumption | omega) ?_ | refine Run.split (fun hc11 => ?_) (fun hc11 => ?_) | refine Run.splitB (fun hc11 => ?_) (fun hc11 => ?_) | skip)
    all_goals (first | refine Zq ?_)
    all_goals (first | refine Zm ?_)
    all_goals (first | refine Zv ?_ | refine Zm ?_)
    all_goals (first | refine Zv ?_ | refine Zi ?_)
    all_goals (first | refine Run.tt (by first | assumption | omega) ?_ | refine Run.ff (by first | assumption | omega) ?_ | refine Run.split (fun hc15 => ?_) (fun hc15 => ?_) | refine Run.splitB (fun hc15 => ?_) (fun hc15 => ?_) | skip)
    all_goals (first | refine Zq ?_)
    all_goals (first | refine Zm ?_)
    all_goals (first | refine Zv ?_ | refine Zm ?_)
    all_goals (first | refine Zv ?_ | refine Zi ?_)
    all_goals (first | refine Zq ?_)
    all_goals (first | refine Zm ?_)
    all_goals (refine Run.nil ?_)
    all_goals refine thn_next ⟨⟨?_, trivial⟩, ent.none _⟩
    all_goals (first | (simp [Env.get, setsB]; omega) | (simp [Env.get, setsB, *]; done) | (simp [Env.get, setsB, *]; omega) | (have a1 : ¬ 1 ≤ op := (by omega); have a2 : ¬ op = 23 := (by omega); have a3 : ¬ op = 24 := (by omega); have a4 : ¬ op = 31 := (by omega); simp [Env.get, setsB, a1, a2, a3, a4]; done))
  refine WP.ret ?_
  exact retT [2] _ rfl rfl ⟨_, ent.none _, rfl, rfl⟩
theorem noneB_def (l : Lc) : noneB l = decide (l.kind = 0 ∧ l.n = 0) := rfl
attribute [local irreducible] placeB noneB
set_option maxHeartbeats 4000000 in
theorem rterm_ok (hR : Heap) (F : AF) (su sv : SV) (t : AT) (v : SV) (hb : SlR rdAB hR sv.val F.blocks) (hv : SlR rdI hR v.val t.to) (hl1 : F.blocks.length ≤ 1000000) (hl2 : t.to.length ≤ 1000000) :
    Tri Tryz.prog hR 109 #[.agg ⟨afv F su.val sv.val⟩, .agg ⟨atv t v.val⟩] [] fun r Γ' => r = .bool (termB F t) ∧ Γ' = [] := by
  refine Tri.ent (Tri.of (args := [.agg ⟨afv F su.val sv.val⟩, .agg ⟨atv t v.val⟩]) Tryz.func109 rfl Tryz.ntmps109 (by simp) ?_)
  refine Zp ?_
  refine Run.box rfl rfl rfl rfl rfl ?_
  intro b2
  refine Run.box rfl rfl rfl rfl rfl ?_
  intro b3
  refine Zm ?_
  refine Ze ?_
  refine WP.seqCut [(2, .pointer (some ⟨b2, 0, none⟩)), (3, .pointer (some ⟨b3, 0, none⟩)), (4, .bool false), (5, .bool (noneB t.value))] [blk b2 (afv F su.val sv.val) 51, blk b3 (atv t v.val) 56] ?_ ?_
  · refine Zc ?_
    all_goals (first | refine Zf fo_56_1 ?_)
    all_goals (first | refine Zf fo_46_0 ?_)
    all_goals (first | refine Zl 1 ag_3 ?_)
    all_goals (first | refine Zi ?_)
    all_goals (first | refine Run.tt (by first | assumption | omega) ?_ | refine Run.ff (by first | assumption | omega) ?_ | refine Run.split (fun hc11 => ?_) (fun hc11 => ?_) | refine Run.splitB (fun hc11 => ?_) (fun hc11 => ?_) | skip)
    all_goals (first | refine Zm ?_)
    all_goals (first | refine Zv ?_ | refine Zf fo_56_1 ?_)
    all_goals (first | refine Zv ?_ | refine Zf fo_46_1 ?_)
    all_goals (first | refine Zv ?_ | refine Zl 1 ag_3 ?_)
    all_goals (first | refine Zv ?_ | refine Zi ?_)
    all_goals (first | refine Zq ?_)
    all_goals (first | refine Zm ?_)
    all_goals (refine Run.nil ?_)
    all_goals refine thn_next ⟨⟨rfl, rfl, rfl, ?_, trivial⟩, ent.go⟩
    all_goals simp [Env.get, noneB_def, *]
  refine Zp ?_
  refine Run.loadBagg 0 rfl rfl ag_51 rfl rfl rfl rfl rfl ?_
  refine Zf fo_56_1 ?_
  refine Run.loadBagg 1 rfl rfl ag_46 rfl rfl rfl rfl rfl ?_
  refine Run.callP [] ok_107 (rplace_ok hR F su sv t.value) ?_; rintro _ _ ⟨rfl, rfl⟩
  refine Zm ?_
  refine Ze ?_
  refine WP.seq ?_
  refine WP.seqCut [(2, .pointer (some ⟨b2, 0, none⟩)), (3, .pointer (some ⟨b3, 0, none⟩)), (4, .bool false), (5, .bool (noneB t.value)), (27, .bool (decide ((noneB t.value || placeB F t.value) = false)))] [blk b2 (afv F su.val sv.val) 51, blk b3 (atv t v.val) 56] ?_ ?_
  · cases hn : noneB t.value
    all_goals
      refine Zc ?_
      all_goals (first | refine Zm ?_)
      all_goals (first | refine Run.bnotB rfl rfl rfl rfl ?_)
      all_goals (first | refine Zm ?_)
      all_goals (first | refine Zv ?_ | refine Zm ?_)
      all_goals (first | refine Zv ?_ | refine Run.bnotB rfl rfl rfl rfl ?_)
      all_goals (first | refine Zq ?_)
      all_goals (refine Run.nil ?_)
      all_goals refine thn_next ⟨⟨rfl, rfl, rfl, rfl, ?_, trivial⟩, ent.go⟩
      all_goals simp [Env.get, *]
  refine WP.ite rfl (fun hbad => ?_) (fun hgood => ?_)
  · refine Zp ?_
    refine Zm ?_
    refine Ze ?_
    refine WP.ret ?_; refine thn_ret ?_
    exact retT [4] _ rfl rfl ⟨_, ent.none _, by unfold termB; rw [hbad]; rfl, rfl⟩
  refine Zb ?_
  have hP : (noneB t.value || placeB F t.value) = true := btrue hgood
  refine WP.trim [2, 3, 4, 5] [0, 1] ?_
  refine WP.meetC (α := Unit) (fun _ => t.to.all (fun b => decide (0 ≤ b ∧ b < F.blocks.length)) = true) (fun _ => []) (fun _ => []) ?_ ?_
  · refine Zp ?_
    refine Zm ?_
    refine Ze ?_
    refine WP.block ?_
    refine WP.trim [2, 3, 4, 5, 7] [0, 1] ?_
    refine WP.loopC (α := Nat) (fun i => i ≤ t.to.length ∧ ∀ (j : Nat) (r : Int), j < i → t.to[j]? = some r → 0 ≤ r ∧ r < F.blocks.length) (fun i => [(7, .int .i64 (i : Int))]) (fun _ => []) (fun i => t.to.length - i) 0 ⟨Nat.zero_le _, fun j r h => by omega⟩ ?_
    rintro i ⟨hi, hok⟩
    refine WP.trim [2, 3, 4, 5, 7] [0, 1] ?_
    refine WP.seq ?_
    refine Zp ?_
    refine Zm ?_
    refine Zf fo_56_2 ?_
    refine Zl 1 ag_44 ?_
    refine Zh sl_44 hv ?_
    refine Zi ?_
    refine Ze ?_
    refine WP.ite rfl (fun hlt => ?_) (fun hge => ?_)
    · refine Zb ?_
      obtain ⟨r, gr⟩ : ∃ y, t.to[(i : Int).toNat]? = some y := ⟨_, List.getElem?_eq_getElem (by omega)⟩
      have gr' : t.to[i]? = some r := gr
      refine WP.seq ?_
      refine WP.block ?_
      refine WP.seqCut [(2, .pointer (some ⟨b2, 0, none⟩)), (3, .pointer (some ⟨b3, 0, none⟩)), (4, .bool false), (5, .bool (noneB t.value)), (7, .int .i64 (i : Int)), (51, .bool (decide (¬ (0 ≤ r ∧ r < (F.blocks.length : Int)))))] [blk b2 (afv F su.val sv.val) 51, blk b3 (atv t v.val) 56] ?_ ?_
      · refine WP.drawn0 cf0 mixed rfl (by kernel_rfl) ?_
        all_goals (first | refine Zf fo_56_2 ?_)
        all_goals (first | refine Zl 1 ag_44 ?_)
        all_goals (first | refine Zm ?_)
        all_goals (first | refine Zx sl_44 hv ?_)
        all_goals (first | refine Zr ag_3 (SlR.cell0 hv gr rfl) ?_)
        all_goals (first | refine Zi ?_)
        all_goals (first | refine Run.tt (by first | assumption | omega) ?_ | refine Run.ff (by first | assumption | omega) ?_ | refine Run.split (fun hc40 => ?_) (fun hc40 => ?_) | refine Run.splitB (fun hc40 => ?_) (fun hc40 => ?_) | skip)
        all_goals (first | refine Zm ?_)
        all_goals (first | refine Zv ?_ | refine Zf fo_56_2 ?_)
        all_goals (first | refine Zv ?_ | refine Zl 1 ag_44 ?_)
        all_goals (first | refine Zv ?_ | refine Zm ?_)
        all_goals (first | refine Zv ?_ | refine Zx sl_44 hv ?_)
        all_goals (first | refine Zv ?_ | refine Zr ag_3 (SlR.cell0 hv gr rfl) ?_)
        all_goals (first | refine Zv ?_ | refine Zf fo_51_4 ?_)
        all_goals (first | refine Zv ?_ | refine Zl 0 ag_49 ?_)
        all_goals (first | refine Zv ?_ | refine Zh sl_49 hb ?_)
        all_goals (first | refine Zv ?_ | refine Zi ?_)
        all_goals (first | refine Zq ?_)
        all_goals (refine Run.nil ?_)
        all_goals refine thn_next ⟨⟨rfl, rfl, rfl, rfl, rfl, ?_, trivial⟩, ent.go⟩
        all_goals (simp [Env.get, *] <;> omega)
      refine WP.ite rfl (fun hbad => ?_) (fun hg => ?_)
      · refine Zp ?_
        refine Zm ?_
        refine Ze ?_
        refine WP.ret ?_; refine blk_ret ?_; refine thn_ret ?_; refine thn_ret ?_; refine blk_ret ?_; refine thn_ret ?_
        refine retT [4] _ rfl rfl ⟨_, ent.none _, ?_, rfl⟩
        unfold termB
        rw [hP, Bool.true_and, all_not gr' (decide_eq_false hbad)]; rfl
      · refine WP.skip ?_; refine blk_norm ?_; refine thn_next ?_
        refine Zc ?_
        refine Zm ?_
        refine Za ?_
        refine Zm ?_
        refine Run.nil ?_
        refine thn_next ⟨i + 1, ⟨by omega, fun j z hj hz => ?_⟩, by omega, Ko.go, ent.gc⟩
        by_cases e : j = i
        · subst e; rw [gr'] at hz; cases hz; exact Decidable.not_not.1 hg
        · exact hok j z (by omega) hz
    · refine Zj ?_
      exact thn_next ⟨(), all_of fun j r hj hr => decide_eq_true (hok j r (by omega) hr), Ko.go, ent.gc⟩
  intro _ hA
  have eT : termB F t = (if t.kind = 1 then noneB t.value && decide (t.to.length = 1)
    else if t.kind = 2 then !noneB t.value && decide (t.to.length = 2)
    else if t.kind = 3 then (noneB t.value == decide (F.result = 0)) && t.to.isEmpty
    else if t.kind = 4 then !noneB t.value && t.to.isEmpty else false) := by
    unfold termB; rw [hP, hA]; rfl
  have hte : t.to.isEmpty = decide (t.to.length = 0) := by cases t.to <;> simp
  rw [hte] at eT
  refine WP.trim [2, 3, 4, 5] [0, 1] ?_
  refine WP.meetC (α := Unit) (fun _ => termB F t = false) (fun _ => []) (fun _ => []) ?_ ?_
  · refine Zp ?_
    refine Zf fo_56_0 ?_
    refine Zl 1 ag_3 ?_
    refine Ze ?_
    refine WP.block ?_
    refine Zp ?_
    refine Zi ?_
    refine Zm ?_
    refine Ze ?_
    refine WP.ite rfl (fun h1 => ?_) (fun h1 => ?_)
    · refine WP.seqCut [(4, .bool (termB F t))] [] ?_ ?_
      · rw [eT, if_pos h1]
        cases hn : noneB t.value
        all_goals
          refine Zc ?_
          all_goals (first | refine Zm ?_)
          all_goals (first | refine Zm ?_)
          all_goals (first | refine Zv ?_ | refine Zf fo_56_2 ?_)
          all_goals (first | refine Zv ?_ | refine Zl 1 ag_44 ?_)
          all_goals (first | refine Zv ?_ | refine Zh sl_44 hv ?_)
          all_goals (first | refine Zv ?_ | refine Zi ?_)
          all_goals (first | refine Zq ?_)
          all_goals (first | refine Zm ?_)
          all_goals (refine Run.nil ?_)
          all_goals refine thn_next ⟨⟨?_, trivial⟩, ent.none _⟩
          all_goals simp [Env.get]
          all_goals omega
      refine WP.ret ?_; refine blk_ret ?_; refine thn_ret ?_
      exact retT [4] _ rfl rfl ⟨_, ent.none _, rfl, rfl⟩
    refine Zp ?_
    refine Zi ?_
    refine Zm ?_
    refine Ze ?_
    refine WP.ite rfl (fun h2 => ?_) (fun h2 => ?_)
    · refine WP.seqCut [(4, .bool (termB F t))] [] ?_ ?_
      · rw [eT, if_neg h1, if_pos h2]
        cases hn : noneB t.value
        all_goals
          refine Zc ?_
          all_goals (first | refine Zm ?_)
          all_goals (first | refine Run.bnotB rfl rfl rfl rfl ?_)
          all_goals (first | refine Zm ?_)
          all_goals (first | refine Zv ?_ | refine Zf fo_56_2 ?_)
          all_goals (first | refine Zv ?_ | refine Zl 1 ag_44 ?_)
          all_goals (first | refine Zv ?_ | refine Zh sl_44 hv ?_)
          all_goals (first | refine Zv ?_ | refine Zi ?_)
          all_goals (first | refine Zq ?_)
          all_goals (first | refine Zm ?_)
          all_goals (refine Run.nil ?_)
          all_goals refine thn_next ⟨⟨?_, trivial⟩, ent.none _⟩
          all_goals simp [Env.get]
          all_goals omega
      refine WP.ret ?_; refine blk_ret ?_; refine thn_ret ?_
      exact retT [4] _ rfl rfl ⟨_, ent.none _, rfl, rfl⟩
    refine Zp ?_
    refine Zi ?_
    refine Zm ?_
    refine Ze ?_
    refine WP.ite rfl (fun h3 => ?_) (fun h3 => ?_)
    · refine WP.seqCut [(4, .bool (termB F t))] [] ?_ ?_
      · rw [eT, if_neg h1, if_neg h2, if_pos h3]
        cases hn : noneB t.value
        all_goals
          refine Zc ?_
          all_goals (first | refine Zm ?_)
          all_goals (first | refine Zf fo_51_2 ?_)
          all_goals (first | refine Zl 0 ag_3 ?_)
          all_goals (first | refine Zi ?_)
          all_goals (first | refine Run.eqB rfl rfl rfl ub_4 rfl rfl ?_)
          all_goals (first | refine Run.tt (by first | assumption | omega) ?_ | refine Run.ff (by first | assumption | omega) ?_ | refine Run.split (fun hc79 => ?_) (fun hc79 => ?_) | refine Run.splitB (fun hc79 => ?_) (fun hc79 => ?_) | skip)
          all_goals (first | refine Zm ?_)
          all_goals (first | refine Zv ?_ | refine Zf fo_56_2 ?_)
          all_goals (first | refine Zv ?_ | refine Zl 1 ag_44 ?_)
          all_goals (first | refine Zv ?_ | refine Zh sl_44 hv ?_)
          all_goals (first | refine Zv ?_ | refine Zi ?_)
          all_goals (first | refine Zq ?_)
          all_goals (first | refine Zm ?_)
          all_goals (refine Run.nil ?_)
          all_goals refine thn_next ⟨⟨?_, trivial⟩, ent.none _⟩
          all_goals simp [Env.get] at *
          all_goals (first | omega | simp [*])
      refine WP.ret ?_; refine blk_ret ?_; refine thn_ret ?_
      exact retT [4] _ rfl rfl ⟨_, ent.none _, rfl, rfl⟩
    refine Zp ?_
    refine Zi ?_
    refine Zm ?_
    refine Ze ?_
    refine WP.ite rfl (fun h4 => ?_) (fun h4 => ?_)
    · refine WP.seqCut [(4, .bool (termB F t))] [] ?_ ?_
      · rw [eT, if_neg h1, if_neg h2, if_neg h3, if_pos h4]
        cases hn : noneB t.value
        all_goals
          refine Zc ?_
          all_goals (first | refine Zm ?_)
          all_goals (first | refine Run.bnotB rfl rfl rfl rfl ?_)
          all_goals (first | refine Zm ?_)
          all_goals (first | refine Zv ?_ | refine Zf fo_56_2 ?_)
          all_goals (first | refine Zv ?_ | refine Zl 1 ag_44 ?_)
          all_goals (first | refine Zv ?_ | refine Zh sl_44 hv ?_)
          all_goals (first | refine Zv ?_ | refine Zi ?_)
          all_goals (first | refine Zq ?_)
          all_goals (first | refine Zm ?_)
          all_goals (refine Run.nil ?_)
          all_goals refine thn_next ⟨⟨?_, trivial⟩, ent.none _⟩
          all_goals simp [Env.get]
          all_goals omega
      refine WP.ret ?_; refine blk_ret ?_; refine thn_ret ?_
      exact retT [4] _ rfl rfl ⟨_, ent.none _, rfl, rfl⟩
    refine WP.skip ?_; refine blk_norm ?_
    refine thn_next ⟨(), ?_, Ko.go, ent.gc⟩
    rw [eT, if_neg h1, if_neg h2, if_neg h3, if_neg h4]
  intro _ hF
  refine Zp ?_
  refine Zm ?_
  refine Ze ?_
  refine WP.ret ?_
  exact retT [4] _ rfl rfl ⟨_, ent.none _, by rw [hF]; rfl, rfl⟩
end Go.Proofs.YtfaokbjpinlcaaaGreat
end
section
/- The document's own check of ALIR: calls, instructions; walked. -/
namespace Go.Proofs.YtfaokbjpinlcaaaGreat
open Go.Sep
set_option linter.unusedSimpArgs false
set_option linter.unusedVariables false
set_option maxRecDepth 100000
attribute [local irreducible] blk slA mp mpF rows rowsBut many mpK mpE placeB noneB setsB argsN
set_option maxHeartbeats 4000000 in
theorem rcall_ok (hR : Heap) (A : AL) (fv : SV) (x : AI) (u v : SV) (hA : SlR rdAF hR fv.val A.funcs) (hx : AIv hR x u.val v.val) (hl1 : A.funcs.length ≤ 1000000) (hl2 : x.args.length ≤ 1000000) (hl3 : x.saves.length ≤ 1000000) (hl4 : ∀ F ∈ A.funcs, F.params.length ≤ 1000000) :
    Tri Tryz.prog hR 154 #[.agg ⟨alv A fv⟩, .agg ⟨aiv x u.val v.val⟩, .bool (noneB x.dst)] [] fun r Γ' => r = .bool (callB A x) ∧ Γ' = [] := by
  have hu := hx.hu
  have hv := hx.hv
  refine Tri.ent (Tri.of (args := [.agg ⟨alv A fv⟩, .agg ⟨aiv x u.val v.val⟩, .bool (noneB x.dst)]) Tryz.func154 rfl Tryz.ntmps154 (by simp) ?_)
  refine Zp ?_
  refine Run.box rfl rfl rfl rfl rfl ?_
  intro b3
  refine Run.box rfl rfl rfl rfl rfl ?_
  intro b4
  refine Zm ?_
  refine Ze ?_
  refine WP.seq ?_
  refine WP.seqCut [(2, .bool (noneB x.dst)), (3, .pointer (some ⟨b3, 0, none⟩)), (4, .pointer (some ⟨b4, 0, none⟩)), (6, .bool false), (19, .bool (decide (¬ (0 ≤ x.imm ∧ x.imm < (A.funcs.length : Int)))))] [blk b3 (alv A fv) 24, blk b4 (aiv x u.val v.val) 53] ?_ ?_
  · refine Zc ?_
    all_goals (first | refine Zf fo_53_1 ?_)
    all_goals (first | refine Zl 1 ag_3 ?_)
    all_goals (first | refine Zi ?_)
    all_goals (first | refine Run.tt (by first | assumption | omega) ?_ | refine Run.ff (by first | assumption | omega) ?_ | refine Run.split (fun hc11 => ?_) (fun hc11 => ?_) | refine Run.splitB (fun hc11 => ?_) (fun hc11 => ?_) | skip)
    all_goals (first | refine Zm ?_)
    all_goals (first | refine Zv ?_ | refine Zf fo_53_1 ?_)
    all_goals (first | refine Zv ?_ | refine Zl 1 ag_3 ?_)
    all_goals (first | refine Zv ?_ | refine Zf fo_24_0 ?_)
    all_goals (first | refine Zv ?_ | refine Zl 0 ag_22 ?_)
    all_goals (first | refine Zv ?_ | refine Zh sl_22 hA ?_)
    all_goals (first | refine Zv ?_ | refine Zi ?_)
    all_goals (first | refine Zq ?_)
    all_goals (refine Run.nil ?_)
    all_goals refine thn_next ⟨⟨rfl, rfl, rfl, rfl, ?_, trivial⟩, ent.go⟩
    all_goals simp [Env.get]
    all_goals omega
  refine WP.ite rfl (fun hbad => ?_) (fun hgood => ?_)
  · refine Zp ?_
    refine Zm ?_
    refine Ze ?_
    refine WP.ret ?_; refine thn_ret ?_
    refine retT [6] _ rfl rfl ⟨_, ent.none _, ?_, rfl⟩
    unfold callB; rw [decide_eq_false hbad]; rfl
  refine Zb ?_
  have him : 0 ≤ x.imm ∧ x.imm < (A.funcs.length : Int) := Decidable.not_not.1 hgood
  obtain ⟨G, gG⟩ : ∃ G, A.funcs[x.imm.toNat]? = some G := ⟨_, List.getElem?_eq_getElem (by omega)⟩
  have hGl := hl4 G (List.mem_of_getElem? gG)
  obtain ⟨_, ⟨gu0, gv0, rfl, hgu, hgv⟩, hrow⟩ := hA.at gG
  obtain ⟨gu, rfl, _, _⟩ := SlR.sv hgu
  obtain ⟨gv, rfl, _, _⟩ := SlR.sv hgv
  have eC : callB A x = (decide (x.args.length = G.params.length) && (decide (G.result ≠ 0) || noneB x.dst) && x.saves.all (fun r => decide (0 ≤ r ∧ r < 8)) && risingB x.saves) := by
    unfold callB; rw [decide_eq_true him, gG]; rfl
  refine WP.seq ?_
  refine WP.seqCut [(4, .pointer (some ⟨b4, 0, none⟩)), (6, .bool false), (45, .bool (decide (¬ (x.args.length = G.params.length ∧ (G.result ≠ 0 ∨ noneB x.dst = true)))))] [blk b4 (aiv x u.val v.val) 53] ?_ ?_
  · cases hn : noneB x.dst
    all_goals
      refine WP.drawn0 cf0 mixed rfl (by kernel_rfl) ?_
      all_goals (first | refine Zf fo_53_3 ?_)
      all_goals (first | refine Zl 1 ag_48 ?_)
      all_goals (first | refine Zh sl_48 hu ?_)
      all_goals (first | refine Zf fo_24_0 ?_)
      all_goals (first | refine Zl 0 ag_22 ?_)
      all_goals (first | refine Zf fo_53_1 ?_)
      all_goals (first | refine Zl 1 ag_3 ?_)
      all_goals (first | refine Zx sl_22 hA ?_)
      all_goals (first | refine Zf fo_51_1 ?_)
      all_goals (first | refine Zr ag_48 (hrow 1 _ rfl) ?_)
      all_goals (first | refine Zh sl_48 hgu ?_)
      all_goals (first | refine Zi ?_)
      all_goals (first | refine Run.tt (by first | assumption | omega) ?_ | refine Run.ff (by first | assumption | omega) ?_ | refine Run.split (fun hc31 => ?_) (fun hc31 => ?_) | refine Run.splitB (fun hc31 => ?_) (fun hc31 => ?_) | skip)
      all_goals (first | refine Zm ?_)
      all_goals (first | refine Zv ?_ | refine Zf fo_24_0 ?_)
      all_goals (first | refine Zv ?_ | refine Zl 0 ag_22 ?_)
      all_goals (first | refine Zv ?_ | refine Zf fo_53_1 ?_)
      all_goals (first | refine Zv ?_ | refine Zl 1 ag_3 ?_)
      all_goals (first | refine Zv ?_ | refine Zx sl_22 hA ?_)
      all_goals (first | refine Zv ?_ | refine Zf fo_51_2 ?_)
      all_goals (first | refine Zv ?_ | refine Zr ag_3 (hrow 2 _ rfl) ?_)
      all_goals (first | refine Zv ?_ | refine Zi ?_)
      all_goals (first | refine Run.tt (by first | assumption | omega) ?_ | refine Run.ff (by first | assumption | omega) ?_ | refine Run.split (fun hc40 => ?_) (fun hc40 => ?_) | refine Run.splitB (fun hc40 => ?_) (fun hc40 => ?_) | skip)
      all_goals (first | refine Zv ?_ | refine Zm ?_)
      all_goals (first | refine Zv ?_ | refine Zm ?_)
      all_goals (first | refine Zv ?_ | refine Run.bnotB rfl rfl rfl rfl ?_)
      all_goals (first | refine Zv ?_ | refine Zq ?_)
      all_goals (first | refine Zq ?_)
      all_goals (refine Run.nil ?_)
      all_goals refine thn_next ⟨⟨rfl, rfl, ?_, trivial⟩, ent.go⟩
      all_goals simp [Env.get]
      all_goals omega
  refine WP.ite rfl (fun hbad => ?_) (fun hgood2 => ?_)
  · refine Zp ?_
    refine Zm ?_
    refine Ze ?_
    refine WP.ret ?_; refine thn_ret ?_
    refine retT [6] _ rfl rfl ⟨_, ent.none _, ?_, rfl⟩
    rw [eC]
    have e : (decide (x.args.length = G.params.length) && (decide (G.result ≠ 0) || noneB x.dst)) = false := by
      cases hh : (decide (x.args.length = G.params.length) && (decide (G.result ≠ 0) || noneB x.dst)) with
      | false => rfl
      | true => exact absurd (by simpa using hh) hbad
    rw [e]; rfl
  refine Zb ?_
  have e1 : (decide (x.args.length = G.params.length) && (decide (G.result ≠ 0) || noneB x.dst)) = true := by simpa using Decidable.not_not.1 hgood2
  rw [e1, Bool.true_and] at eC
  refine Zp ?_
  refine Zm ?_
  refine Ze ?_
  refine WP.trim [4, 6, 7] [0] ?_
  refine WP.meetC (α := Int) (fun _ => callB A x = true) (fun z => [(7, .int .i64 z)]) (fun _ => []) ?_ ?_
  · refine Zp ?_
    refine Zm ?_
    refine Ze ?_
    refine WP.block ?_
    refine WP.trim [4, 6, 7, 8] [0] ?_
    refine WP.loopC (α := Nat × Int) (fun z => z.1 ≤ x.saves.length ∧ z.2 = (if z.1 = 0 then -1 else x.saves.getD (z.1 - 1) 0) ∧ -1 ≤ z.2 ∧ ∀ (j : Nat) (r : Int), j < z.1 → x.saves[j]? = some r → (0 ≤ r ∧ r < 8) ∧ (0 < j → x.saves.getD (j - 1) 0 < r)) (fun z => [(7, .int .i64 z.2), (8, .int .i64 (z.1 : Int))]) (fun _ => []) (fun z => x.saves.length - z.1) (0, -1) ⟨Nat.zero_le _, rfl, by omega, fun j r h => by omega⟩ ?_
    rintro ⟨i, q⟩ ⟨hi, hq, hq1, hok⟩
    simp only at hi hq hq1 hok ⊢
    refine WP.trim [4, 6, 7, 8] [0] ?_
    refine WP.seq ?_
    refine Zp ?_
    refine Zm ?_
    refine Zf fo_53_4 ?_
    refine Zl 0 ag_44 ?_
    refine Zh sl_44 hv ?_
    refine Zi ?_
    refine Ze ?_
    refine WP.ite rfl (fun hlt => ?_) (fun hge => ?_)
    · refine Zb ?_
      obtain ⟨r, gr⟩ : ∃ y, x.saves[(i : Int).toNat]? = some y := ⟨_, List.getElem?_eq_getElem (by omega)⟩
      have gr' : x.saves[i]? = some r := gr
      refine WP.seq ?_
      refine WP.block ?_
      refine WP.seq ?_
      refine WP.seqCut [(4, .pointer (some ⟨b4, 0, none⟩)), (6, .bool false), (7, .int .i64 q), (8, .int .i64 (i : Int)), (67, .bool (decide (¬ (q < r ∧ r < 8))))] [blk b4 (aiv x u.val v.val) 53] ?_ ?_
      · refine Zc ?_
        all_goals (first | refine Zf fo_53_4 ?_)
        all_goals (first | refine Zl 0 ag_44 ?_)
        all_goals (first | refine Zm ?_)
        all_goals (first | refine Zx sl_44 hv ?_)
        all_goals (first | refine Zr ag_3 (SlR.cell0 hv gr rfl) ?_)
        all_goals (first | refine Zm ?_)
        all_goals (first | refine Zi ?_)
        all_goals (first | refine Run.tt (by first | assumption | omega) ?_ | refine Run.ff (by first | assumption | omega) ?_ | refine Run.split (fun hc59 => ?_) (fun hc59 => ?_) | refine Run.splitB (fun hc59 => ?_) (fun hc59 => ?_) | skip)
        all_goals (first | refine Zm ?_)
        all_goals (first | refine Zv ?_ | refine Zf fo_53_4 ?_)
        all_goals (first | refine Zv ?_ | refine Zl 0 ag_44 ?_)
        all_goals (first | refine Zv ?_ | refine Zm ?_)
        all_goals (first | refine Zv ?_ | refine Zx sl_44 hv ?_)
        all_goals (first | refine Zv ?_ | refine Zr ag_3 (SlR.cell0 hv gr rfl) ?_)
        all_goals (first | refine Zv ?_ | refine Zi ?_)
        all_goals (first | refine Zq ?_)
        all_goals (refine Run.nil ?_)
        all_goals refine thn_next ⟨⟨rfl, rfl, rfl, rfl, ?_, trivial⟩, ent.go⟩
        all_goals simp [Env.get]
        all_goals (first | omega | (have a1 : q < r := (by omega); by_cases a2 : 7 < r <;> simp [a1, a2] <;> omega))
      refine WP.ite rfl (fun hbad => ?_) (fun hg => ?_)
      · refine Zp ?_
        refine Zm ?_
        refine Ze ?_
        refine WP.ret ?_; refine thn_ret ?_; refine blk_ret ?_; refine thn_ret ?_; refine thn_ret ?_; refine blk_ret ?_; refine thn_ret ?_
        refine retT [6] _ rfl rfl ⟨_, ent.none _, ?_, rfl⟩
        rw [eC]
        cases h1 : x.saves.all (fun r => decide (0 ≤ r ∧ r < 8)) with
        | false => rfl
        | true =>
          cases h2 : risingB x.saves with
          | false => rfl
          | true =>
            exfalso; apply hbad
            have h3 : 0 ≤ r ∧ r < 8 := by simpa using List.all_eq_true.1 h1 r (List.mem_of_getElem? gr')
            refine ⟨?_, h3.2⟩
            by_cases e0 : i = 0
            · rw [if_pos e0] at hq; omega
            · rw [if_neg e0] at hq
              obtain ⟨p, gp⟩ : ∃ y, x.saves[i - 1]? = some y := ⟨_, List.getElem?_eq_getElem (by omega)⟩
              have := (rising_iff _).1 h2 (i - 1) p r gp (by rw [show i - 1 + 1 = i by omega]; exact gr')
              rw [List.getD_eq_getElem?_getD, gp] at hq; rw [hq]; exact this
      · refine Zb ?_
        have hg' := Decidable.not_not.1 hg
        refine Zc ?_
        refine Zf fo_53_4 ?_
        refine Zl 0 ag_44 ?_
        refine Zm ?_
        refine Zx sl_44 hv ?_
        refine Zr ag_3 (SlR.cell0 hv gr rfl) ?_
        refine Zm ?_
        refine Run.nil ?_
        refine blk_norm ?_; refine thn_next ?_
        refine Zc ?_
        refine Zm ?_
        refine Za ?_
        refine Zm ?_
        refine Run.nil ?_
        refine thn_next ⟨(i + 1, r), ⟨by simp only; omega, ?_, by simp only; omega, fun j z hj hz => ?_⟩, by simp only; omega, Ko.go, ent.gc⟩
        · simp only
          rw [if_neg (by omega), Nat.add_sub_cancel, List.getD_eq_getElem?_getD, gr']; rfl
        · simp only at hj
          by_cases e : j = i
          · subst e; rw [gr'] at hz; cases hz
            exact ⟨⟨by omega, hg'.2⟩, fun h0 => by rw [if_neg (by omega)] at hq; rw [← hq]; exact hg'.1⟩
          · exact hok j z (by omega) hz
    · refine Zj ?_
      refine thn_next ⟨q, ?_, Ko.go, ent.gc⟩
      rw [eC, Bool.and_eq_true]
      refine ⟨all_of fun j r hj hr => ?_, (rising_iff _).2 fun j a b ha hb => ?_⟩
      · exact decide_eq_true (hok j r (by omega) hr).1
      · have := (List.getElem?_eq_some_iff.1 hb).1
        have h2 := (hok (j + 1) b (by omega) hb).2 (by omega)
        rw [Nat.add_sub_cancel, List.getD_eq_getElem?_getD, ha] at h2; exact h2
  intro _ hT
  refine Zp ?_
  refine Zm ?_
  refine Ze ?_
  refine WP.ret ?_
  exact retT [6] _ rfl rfl ⟨_, ent.none _, by rw [hT]; rfl, rfl⟩
set_option maxHeartbeats 4000000 in
theorem rins_ok (hR : Heap) (A : AL) (fv : SV) (F : AF) (su sv : SV) (x : AI) (u v : SV) (hA : SlR rdAF hR fv.val A.funcs) (hx : AIv hR x u.val v.val) (hl1 : A.funcs.length ≤ 1000000) (hl2 : x.args.length ≤ 1000000) (hl3 : x.saves.length ≤ 1000000) (hl4 : ∀ F ∈ A.funcs, F.params.length ≤ 1000000) :
    Tri Tryz.prog hR 108 #[.agg ⟨alv A fv⟩, .agg ⟨afv F su.val sv.val⟩, .agg ⟨aiv x u.val v.val⟩] [] fun r Γ' => r = .bool (insB A F x) ∧ Γ' = [] := by
  have hu := hx.hu
  have hv := hx.hv
  refine Tri.ent (Tri.of (args := [.agg ⟨alv A fv⟩, .agg ⟨afv F su.val sv.val⟩, .agg ⟨aiv x u.val v.val⟩]) Tryz.func108 rfl Tryz.ntmps108 (by simp) ?_)
  refine Zp ?_
  refine Run.box rfl rfl rfl rfl rfl ?_
  intro b3
  refine Run.box rfl rfl rfl rfl rfl ?_
  intro b4
  refine Run.box rfl rfl rfl rfl rfl ?_
  intro b5
  refine Zm ?_
  refine Ze ?_
  refine WP.seqCut [(3, .pointer (some ⟨b3, 0, none⟩)), (4, .pointer (some ⟨b4, 0, none⟩)), (5, .pointer (some ⟨b5, 0, none⟩)), (6, .bool false), (7, .bool (noneB x.dst))] [blk b3 (alv A fv) 24, blk b4 (afv F su.val sv.val) 51, blk b5 (aiv x u.val v.val) 53] ?_ ?_
  · refine Zc ?_
    all_goals (first | refine Zf fo_53_2 ?_)
    all_goals (first | refine Zf fo_46_0 ?_)
    all_goals (first | refine Zl 2 ag_3 ?_)
    all_goals (first | refine Zi ?_)
    all_goals (first | refine Run.tt (by first | assumption | omega) ?_ | refine Run.ff (by first | assumption | omega) ?_ | refine Run.split (fun hc14 => ?_) (fun hc14 => ?_) | refine Run.splitB (fun hc14 => ?_) (fun hc14 => ?_) | skip)
    all_goals (first | refine Zm ?_)
    all_goals (first | refine Zv ?_ | refine Zf fo_53_2 ?_)
    all_goals (first | refine Zv ?_ | refine Zf fo_46_1 ?_)
    all_goals (first | refine Zv ?_ | refine Zl 2 ag_3 ?_)
    all_goals (first | refine Zv ?_ | refine Zi ?_)
    all_goals (first | refine Zq ?_)
    all_goals (first | refine Zm ?_)
    all_goals (refine Run.nil ?_)
    all_goals refine thn_next ⟨⟨rfl, rfl, rfl, rfl, ?_, trivial⟩, ent.go⟩
    all_goals simp [Env.get, noneB_def, *]
  refine Zp ?_
  refine Run.loadBagg 1 rfl rfl ag_51 rfl rfl rfl rfl rfl ?_
  refine Zf fo_53_2 ?_
  refine Run.loadBagg 2 rfl rfl ag_46 rfl rfl rfl rfl rfl ?_
  refine Run.callP [] ok_107 (rplace_ok hR F su sv x.dst) ?_; rintro _ _ ⟨rfl, rfl⟩
  refine Zm ?_
  refine Ze ?_
  refine WP.seq ?_
  refine WP.seqCut [(3, .pointer (some ⟨b3, 0, none⟩)), (4, .pointer (some ⟨b4, 0, none⟩)), (5, .pointer (some ⟨b5, 0, none⟩)), (6, .bool false), (7, .bool (noneB x.dst)), (30, .bool (decide ((noneB x.dst || placeB F x.dst) = false)))] [blk b3 (alv A fv) 24, blk b4 (afv F su.val sv.val) 51, blk b5 (aiv x u.val v.val) 53] ?_ ?_
  · cases hn : noneB x.dst
    all_goals
      refine Zc ?_
      all_goals (first | refine Zm ?_)
      all_goals (first | refine Run.bnotB rfl rfl rfl rfl ?_)
      all_goals (first | refine Zm ?_)
      all_goals (first | refine Zv ?_ | refine Zm ?_)
      all_goals (first | refine Zv ?_ | refine Run.bnotB rfl rfl rfl rfl ?_)
      all_goals (first | refine Zq ?_)
      all_goals (refine Run.nil ?_)
      all_goals refine thn_next ⟨⟨rfl, rfl, rfl, rfl, rfl, ?_, trivial⟩, ent.go⟩
      all_goals simp [Env.get, *]
  refine WP.ite rfl (fun hbad => ?_) (fun hgood => ?_)
  · refine Zp ?_
    refine Zm ?_
    refine Ze ?_
    refine WP.ret ?_; refine thn_ret ?_
    exact retT [6] _ rfl rfl ⟨_, ent.none _, by unfold insB; rw [hbad]; rfl, rfl⟩
  refine Zb ?_
  have hP0 : (noneB x.dst || placeB F x.dst) = true := btrue hgood
  refine WP.trim [3, 4, 5, 6, 7] [0, 1, 2] ?_
  refine WP.meetC (α := Unit) (fun _ => x.args.all (placeB F) = true) (fun _ => []) (fun _ => []) ?_ ?_
  · refine Zp ?_
    refine Zm ?_
    refine Ze ?_
    refine WP.block ?_
    refine WP.trim [3, 4, 5, 6, 7, 9] [0, 1, 2] ?_
    refine WP.loopC (α := Nat) (fun i => i ≤ x.args.length ∧ ∀ (j : Nat) (r : Lc), j < i → x.args[j]? = some r → placeB F r = true) (fun i => [(9, .int .i64 (i : Int))]) (fun _ => []) (fun i => x.args.length - i) 0 ⟨Nat.zero_le _, fun j r h => by omega⟩ ?_
    rintro i ⟨hi, hok⟩
    refine WP.trim [3, 4, 5, 6, 7, 9] [0, 1, 2] ?_
    refine WP.seq ?_
    refine Zp ?_
    refine Zm ?_
    refine Zf fo_53_3 ?_
    refine Zl 2 ag_48 ?_
    refine Zh sl_48 hu ?_
    refine Zi ?_
    refine Ze ?_
    refine WP.ite rfl (fun hlt => ?_) (fun hge => ?_)
    · refine Zb ?_
      obtain ⟨r, gr⟩ : ∃ y, x.args[(i : Int).toNat]? = some y := ⟨_, List.getElem?_eq_getElem (by omega)⟩
      have gr' : x.args[i]? = some r := gr
      refine WP.seq ?_
      refine WP.block ?_
      refine WP.seq ?_
      refine WP.drawn0 cf0 mixed rfl (by kernel_rfl) ?_
      refine Run.loadBagg 1 rfl rfl ag_51 rfl rfl rfl rfl rfl ?_
      refine Zf fo_53_3 ?_
      refine Zl 2 ag_48 ?_
      refine Zm ?_
      refine Zx sl_48 hu ?_
      refine Run.loadRagg rfl rfl ag_46 rfl rfl (SlR.row hu gr) rfl ?_
      refine Run.callP [] ok_107 (rplace_ok hR F su sv r) ?_; rintro _ _ ⟨rfl, rfl⟩
      refine Zm ?_
      refine Ze ?_
      refine WP.seqCut [(3, .pointer (some ⟨b3, 0, none⟩)), (4, .pointer (some ⟨b4, 0, none⟩)), (5, .pointer (some ⟨b5, 0, none⟩)), (6, .bool false), (7, .bool (noneB x.dst)), (9, .int .i64 (i : Int)), (46, .bool (decide (placeB F r = false)))] [blk b3 (alv A fv) 24, blk b4 (afv F su.val sv.val) 51, blk b5 (aiv x u.val v.val) 53] ?_ ?_
      · refine Zc ?_
        refine Zm ?_
        refine Run.bnotB rfl rfl rfl rfl ?_
        refine Run.nil ?_
        refine thn_next ⟨⟨rfl, rfl, rfl, rfl, rfl, rfl, ?_, trivial⟩, ent.go⟩
        simp [Env.get]
      refine WP.ite rfl (fun hbad => ?_) (fun hg => ?_)
      · refine Zp ?_
        refine Zm ?_
        refine Ze ?_
        refine WP.ret ?_; refine blk_ret ?_; refine thn_ret ?_; refine thn_ret ?_; refine blk_ret ?_; refine thn_ret ?_
        refine retT [6] _ rfl rfl ⟨_, ent.none _, ?_, rfl⟩
        unfold insB
        rw [hP0, Bool.true_and, all_not gr' hbad]; rfl
      · refine WP.skip ?_; refine blk_norm ?_; refine thn_next ?_
        refine Zc ?_
        refine Zm ?_
        refine Za ?_
        refine Zm ?_
        refine Run.nil ?_
        refine thn_next ⟨i + 1, ⟨by omega, fun j z hj hz => ?_⟩, by omega, Ko.go, ent.gc⟩
        by_cases e : j = i
        · subst e; rw [gr'] at hz; cases hz; exact btrue hg
        · exact hok j z (by omega) hz
    · refine Zj ?_
      exact thn_next ⟨(), all_of fun j r hj hr => hok j r (by omega) hr, Ko.go, ent.gc⟩
  intro _ hP1
  have eI : insB A F x = (if x.op = 25 then callB A x else decide ((x.args.length : Int) = argsN x.op) && (setsB x.op != noneB x.dst) && x.saves.isEmpty && if 28 ≤ x.op ∧ x.op ≤ 30 then decide (1 ≤ x.imm ∧ x.imm ≤ 5) else decide (x.op = 1 ∨ x.imm = 0)) := by
    unfold insB; rw [hP0, hP1]; rfl
  refine WP.trim [3, 4, 5, 6, 7] [0, 1, 2] ?_
  refine WP.seq ?_
  refine Zp ?_
  refine Zf fo_53_0 ?_
  refine Zl 2 ag_3 ?_
  refine Zi ?_
  refine Ze ?_
  refine WP.ite rfl (fun h25 => ?_) (fun h25 => ?_)
  · refine Zp ?_
    refine Run.loadBagg 0 rfl rfl ag_24 rfl rfl rfl rfl rfl ?_
    refine Run.loadBagg 2 rfl rfl ag_53 rfl rfl rfl rfl rfl ?_
    refine Zm ?_
    refine Run.callP [] ok_154 (rcall_ok hR A fv x u v hA hx hl1 hl2 hl3 hl4) ?_; rintro _ _ ⟨rfl, rfl⟩
    refine Zm ?_
    refine Ze ?_
    refine WP.ret ?_; refine thn_ret ?_
    exact retT [6] _ rfl rfl ⟨_, ent.none _, by rw [eI, if_pos h25]; rfl, rfl⟩
  refine Zb ?_
  rw [if_neg h25] at eI
  refine WP.trim [5, 6, 7] [2] ?_
  refine WP.seq ?_
  refine WP.seqCut [(5, .pointer (some ⟨b5, 0, none⟩)), (6, .bool false), (79, .bool (decide ((decide ((x.args.length : Int) = argsN x.op) && (setsB x.op != noneB x.dst) && x.saves.isEmpty) = false)))] [blk b5 (aiv x u.val v.val) 53] ?_ ?_
  · have hsl : x.saves.isEmpty = decide ((x.saves.length : Int) = 0) := by cases x.saves <;> simp; omega
    rw [hsl]
    refine WP.via (Γ' := [] ++ [blk b5 (aiv x u.val v.val) 53]) (ent.refl _) ?_
    refine WP.freeze (Γ := []) [blk b5 (aiv x u.val v.val) 53] fun g hg hd => ?_
    have l0 := lent_blk (v := .int .i64 x.op) (hR := hR) 0 0 rfl rfl hg hd
    have l4 := lent_blk (v := u.val) (hR := hR) 0 4 rfl rfl hg hd
    have l5 := lent_blk (v := v.val) (hR := hR) 0 5 rfl rfl hg hd
    have hu' : SlR rdLc (un hR g) u.val x.args := hu.mono (Sub.un_left _ _)
    have hv' : SlR rdI (un hR g) v.val x.saves := hv.mono (Sub.un_left _ _)
    refine WP.drawn0 cfF mixed rfl (by kernel_rfl) ?_
    all_goals (first | refine Zf fo_53_0 ?_)
    all_goals (first | refine Run.loadF rfl rfl ag_3 rfl rfl l0 ?_)
    all_goals (first | refine Run.callP [] ok_155 (args_ok (un hR g) x.op) ?_; rintro _ _ ⟨rfl, rfl⟩)
    all_goals (first | refine Zi ?_)
    all_goals (first | refine Run.tt (by first | assumption | omega) ?_ | refine Run.ff (by first | assumption | omega) ?_ | refine Run.split (fun hc57 => ?_) (fun hc57 => ?_) | refine Run.splitB (fun hc57 => ?_) (fun hc57 => ?_) | skip)
    all_goals (first | refine Zm ?_)
    all_goals (first | refine Zv ?_ | refine Zf fo_53_3 ?_)
    all_goals (first | refine Zv ?_ | refine Run.loadF rfl rfl ag_48 rfl rfl l4 ?_)
    all_goals (first | refine Zv ?_ | refine Zh sl_48 hu' ?_)
    all_goals (first | refine Zv ?_ | refine Zf fo_53_0 ?_)
    all_goals (first | refine Zv ?_ | refine Run.loadF rfl rfl ag_3 rfl rfl l0 ?_)
    all_goals (first | refine Zv ?_ | refine Run.callP [] ok_155 (args_ok (un hR g) x.op) ?_; rintro _ _ ⟨rfl, rfl⟩)
    all_goals (first | refine Zv ?_ | refine Zi ?_)
    all_goals (first | refine Run.tt (by first | assumption | omega) ?_ | refine Run.ff (by first | assumption | omega) ?_ | refine Run.split (fun hc65 => ?_) (fun hc65 => ?_) | refine Run.splitB (fun hc65 => ?_) (fun hc65 => ?_) | skip)
    all_goals (first | refine Zq ?_)
    all_goals (first | refine Zm ?_)
    all_goals (first | refine Zv ?_ | refine Zf fo_53_0 ?_)
    all_goals (first | refine Zv ?_ | refine Run.loadF rfl rfl ag_3 rfl rfl l0 ?_)
    all_goals (first | refine Zv ?_ | refine Run.callP [] ok_156 (sets_ok (un hR g) x.op) ?_; rintro _ _ ⟨rfl, rfl⟩)
    all_goals (first | refine Zv ?_ | refine Zm ?_)
    all_goals (first | refine Zv ?_ | refine Run.eqB rfl rfl rfl ub_4 rfl rfl ?_)
    all_goals (first | refine Run.tt (by first | assumption | omega) ?_ | refine Run.ff (by first | assumption | omega) ?_ | refine Run.split (fun hc72 => ?_) (fun hc72 => ?_) | refine Run.splitB (fun hc72 => ?_) (fun hc72 => ?_) | skip)
    all_goals (first | refine Zq ?_)
    all_goals (first | refine Zm ?_)
    all_goals (first | refine Zv ?_ | refine Zf fo_53_4 ?_)
    all_goals (first | refine Zv ?_ | refine Run.loadF rfl rfl ag_44 rfl rfl l5 ?_)
    all_goals (first | refine Zv ?_ | refine Zh sl_44 hv' ?_)
    all_goals (first | refine Zv ?_ | refine Zi ?_)
    all_goals (first | refine Zq ?_)
    all_goals (refine Run.nil ?_)
    all_goals refine thn_next ⟨⟨rfl, rfl, ?_, trivial⟩, ent.refl _⟩
    all_goals simp [Env.get, *]
    all_goals (first | exact Or.inl (by omega) | ((have e : (x.args.length : Int) = argsN x.op := by omega); by_cases hz : x.saves = [] <;> simp [hz, e, List.length_pos_iff]))
  refine WP.ite rfl (fun hbad => ?_) (fun hgood2 => ?_)
  · refine Zp ?_
    refine Zm ?_
    refine Ze ?_
    refine WP.ret ?_; refine thn_ret ?_
    exact retT [6] _ rfl rfl ⟨_, ent.none _, by rw [eI, hbad]; rfl, rfl⟩
  refine Zb ?_
  rw [show (decide ((x.args.length : Int) = argsN x.op) && (setsB x.op != noneB x.dst) && x.saves.isEmpty) = true from btrue hgood2, Bool.true_and] at eI
  refine WP.trim [5, 6] [0] ?_
  refine WP.seq ?_
  refine WP.seqCut [(5, .pointer (some ⟨b5, 0, none⟩)), (6, .bool false), (87, .bool (decide (28 ≤ x.op ∧ x.op ≤ 30)))] [blk b5 (aiv x u.val v.val) 53] ?_ ?_
  · refine Zc ?_
    all_goals (first | refine Zf fo_53_0 ?_)
    all_goals (first | refine Zl 0 ag_3 ?_)
    all_goals (first | refine Zi ?_)
    all_goals (first | refine Run.tt (by first | assumption | omega) ?_ | refine Run.ff (by first | assumption | omega) ?_ | refine Run.split (fun hc82 => ?_) (fun hc82 => ?_) | refine Run.splitB (fun hc82 => ?_) (fun hc82 => ?_) | skip)
    all_goals (first | refine Zm ?_)
    all_goals (first | refine Zv ?_ | refine Zf fo_53_0 ?_)
    all_goals (first | refine Zv ?_ | refine Zl 0 ag_3 ?_)
    all_goals (first | refine Zv ?_ | refine Zi ?_)
    all_goals (first | refine Zq ?_)
    all_goals (refine Run.nil ?_)
    all_goals refine thn_next ⟨⟨rfl, rfl, ?_, trivial⟩, ent.go⟩
    all_goals simp [Env.get]
    all_goals omega
  refine WP.ite rfl (fun h28 => ?_) (fun h28 => ?_)
  · refine WP.seqCut [(6, .bool (decide (1 ≤ x.imm ∧ x.imm ≤ 5)))] [] ?_ ?_
    · refine Zc ?_
      all_goals (first | refine Zf fo_53_1 ?_)
      all_goals (first | refine Zl 0 ag_3 ?_)
      all_goals (first | refine Zi ?_)
      all_goals (first | refine Run.tt (by first | assumption | omega) ?_ | refine Run.ff (by first | assumption | omega) ?_ | refine Run.split (fun hc90 => ?_) (fun hc90 => ?_) | refine Run.splitB (fun hc90 => ?_) (fun hc90 => ?_) | skip)
      all_goals (first | refine Zm ?_)
      all_goals (first | refine Zv ?_ | refine Zf fo_53_1 ?_)
      all_goals (first | refine Zv ?_ | refine Zl 0 ag_3 ?_)
      all_goals (first | refine Zv ?_ | refine Zi ?_)
      all_goals (first | refine Zq ?_)
      all_goals (first | refine Zm ?_)
      all_goals (refine Run.nil ?_)
      all_goals refine thn_next ⟨⟨?_, trivial⟩, ent.none _⟩
      all_goals simp [Env.get]
      all_goals omega
    refine WP.ret ?_; refine thn_ret ?_
    exact retT [6] _ rfl rfl ⟨_, ent.none _, by rw [eI, if_pos h28]; rfl, rfl⟩
  refine Zb ?_
  rw [if_neg h28] at eI
  refine WP.seqCut [(6, .bool (decide (x.op = 1 ∨ x.imm = 0)))] [] ?_ ?_
  · refine Zc ?_
    all_goals (first | refine Zf fo_53_0 ?_)
    all_goals (first | refine Zl 0 ag_3 ?_)
    all_goals (first | refine Zi ?_)
    all_goals (first | refine Run.tt (by first | assumption | omega) ?_ | refine Run.ff (by first | assumption | omega) ?_ | refine Run.split (fun hc98 => ?_) (fun hc98 => ?_) | refine Run.splitB (fun hc98 => ?_) (fun hc98 => ?_) | skip)
    all_goals (first | refine Zm ?_)
    all_goals (first | refine Zv ?_ | refine Zf fo_53_1 ?_)
    all_goals (first | refine Zv ?_ | refine Zl 0 ag_3 ?_)
    all_goals (first | refine Zv ?_ | refine Zi ?_)
    all_goals (first | refine Zq ?_)
    all_goals (first | refine Zm ?_)
    all_goals (refine Run.nil ?_)
    all_goals refine thn_next ⟨⟨?_, trivial⟩, ent.none _⟩
    all_goals simp [Env.get, *]
  refine WP.ret ?_
  exact retT [6] _ rfl rfl ⟨_, ent.none _, by rw [eI]; rfl, rfl⟩
end Go.Proofs.YtfaokbjpinlcaaaGreat
end
section
/- The document's own check of one function; walked. -/
namespace Go.Proofs.YtfaokbjpinlcaaaGreat
open Go.Sep
set_option linter.unusedSimpArgs false
set_option linter.unusedVariables false
set_option maxRecDepth 100000
attribute [local irreducible] blk slA mp mpF rows rowsBut many mpK mpE placeB noneB funB insB termB callB
theorem not_bool (b : Bool) : (!b) = decide (b = false) := by cases b <;> rfl
set_option maxHeartbeats 4000000 in
theorem rfun_ok (hR : Heap) (A : AL) (fv : SV) (F : AF) (su sv : SV) (hA : SlR rdAF hR fv.val A.funcs) (hF : AFv hR F su.val sv.val) (hl1 : A.funcs.length ≤ 1000000) (hl4 : ∀ F ∈ A.funcs, F.params.length ≤ 1000000) (hs : SmallF F) :
    Tri Tryz.prog hR 51 #[.agg ⟨alv A fv⟩, .agg ⟨afv F su.val sv.val⟩] [] fun r Γ' => r = .bool (funB A F) ∧ Γ' = [] := by
  have hu := hF.hu
  have hb := hF.hv
  have hsp := hs.sp
  have hsb := hs.sb
  refine Tri.ent (Tri.of (args := [.agg ⟨alv A fv⟩, .agg ⟨afv F su.val sv.val⟩]) Tryz.func51 rfl Tryz.ntmps51 (by simp) ?_)
  refine Zp ?_
  refine Run.box rfl rfl rfl rfl rfl ?_
  intro b2
  refine Run.box rfl rfl rfl rfl rfl ?_
  intro b3
  refine Zm ?_
  refine Ze ?_
  have eF : funB A F = (decide (0 ≤ F.slots ∧ F.slots ≤ 262144 ∧ F.params.length ≤ 8 ∧ 0 ≤ F.result ∧ F.result ≤ 3 ∧ F.blocks ≠ []) && F.params.all (placeB F) && decide F.params.Nodup && F.blocks.all fun b => b.body.all (insB A F) && termB F b.term) := by unfold funB; rfl
  refine WP.seq ?_
  refine WP.seqCut [(2, .pointer (some ⟨b2, 0, none⟩)), (3, .pointer (some ⟨b3, 0, none⟩)), (4, .bool false), (42, .bool (decide (¬ (0 ≤ F.slots ∧ F.slots ≤ 262144 ∧ F.params.length ≤ 8 ∧ 0 ≤ F.result ∧ F.result ≤ 3 ∧ F.blocks ≠ []))))] [blk b2 (alv A fv) 24, blk b3 (afv F su.val sv.val) 51] ?_ ?_
  · have hne : F.blocks ≠ [] ↔ ¬ (F.blocks.length : Int) = 0 := by cases F.blocks <;> simp; omega
    rw [show decide (¬ (0 ≤ F.slots ∧ F.slots ≤ 262144 ∧ F.params.length ≤ 8 ∧ 0 ≤ F.result ∧ F.result ≤ 3 ∧ F.blocks ≠ [])) = decide (¬ (0 ≤ F.slots ∧ F.slots ≤ 262144 ∧ F.params.length ≤ 8 ∧ 0 ≤ F.result ∧ F.result ≤ 3 ∧ ¬ (F.blocks.length : Int) = 0)) from decide_eq_decide.2 (by rw [hne])]
    refine Zc ?_
    all_goals (first | refine Zf fo_51_3 ?_)
    all_goals (first | refine Zl 1 ag_3 ?_)
    all_goals (first | refine Zi ?_)
    all_goals (first | refine Run.tt (by first | assumption | omega) ?_ | refine Run.ff (by first | assumption | omega) ?_ | refine Run.split (fun hc15 => ?_) (fun hc15 => ?_) | refine Run.splitB (fun hc15 => ?_) (fun hc15 => ?_) | skip)
    all_goals (first | refine Zm ?_)
    all_goals (first | refine Zv ?_ | refine Zf fo_51_3 ?_)
    all_goals (first | refine Zv ?_ | refine Zl 1 ag_3 ?_)
    all_goals (first | refine Zv ?_ | refine Zi ?_)
    all_goals (first | refine Run.tt (by first | assumption | omega) ?_ | refine Run.ff (by first | assumption | omega) ?_ | refine Run.split (fun hc19 => ?_) (fun hc19 => ?_) | refine Run.splitB (fun hc19 => ?_) (fun hc19 => ?_) | skip)
    all_goals (first | refine Zq ?_)
    all_goals (first | refine Zm ?_)
    all_goals (first | refine Zv ?_ | refine Zf fo_51_1 ?_)
    all_goals (first | refine Zv ?_ | refine Zl 1 ag_48 ?_)
    all_goals (first | refine Zv ?_ | refine Zh sl_48 hu ?_)
    all_goals (first | refine Zv ?_ | refine Zi ?_)
    all_goals (first | refine Run.tt (by first | assumption | omega) ?_ | refine Run.ff (by first | assumption | omega) ?_ | refine Run.split (fun hc25 => ?_) (fun hc25 => ?_) | refine Run.splitB (fun hc25 => ?_) (fun hc25 => ?_) | skip)
    all_goals (first | refine Zq ?_)
    all_goals (first | refine Zm ?_)
    all_goals (first | refine Zv ?_ | refine Zf fo_51_2 ?_)
    all_goals (first | refine Zv ?_ | refine Zl 1 ag_3 ?_)
    all_goals (first | refine Zv ?_ | refine Zi ?_)
    all_goals (first | refine Run.tt (by first | assumption | omega) ?_ | refine Run.ff (by first | assumption | omega) ?_ | refine Run.split (fun hc30 => ?_) (fun hc30 => ?_) | refine Run.splitB (fun hc30 => ?_) (fun hc30 => ?_) | skip)
    all_goals (first | refine Zq ?_)
    all_goals (first | refine Zm ?_)
    all_goals (first | refine Zv ?_ | refine Zf fo_51_2 ?_)
    all_goals (first | refine Zv ?_ | refine Zl 1 ag_3 ?_)
    all_goals (first | refine Zv ?_ | refine Zi ?_)
    all_goals (first | refine Run.tt (by first | assumption | omega) ?_ | refine Run.ff (by first | assumption | omega) ?_ | refine Run.split (fun hc35 => ?_) (fun hc35 => ?_) | refine Run.splitB (fun hc35 => ?_) (fun hc35 => ?_) | skip)
    all_goals (first | refine Zq ?_)
    all_goals (first | refine Zm ?_)
    all_goals (first | refine Zv ?_ | refine Zf fo_51_4 ?_)
    all_goals (first | refine Zv ?_ | refine Zl 1 ag_49 ?_)
    all_goals (first | refine Zv ?_ | refine Zh sl_49 hb ?_)
    all_goals (first | refine Zv ?_ | refine Zi ?_)
    all_goals (first | refine Zq ?_)
    all_goals (refine Run.nil ?_)
    all_goals refine thn_next ⟨⟨rfl, rfl, rfl, ?_, trivial⟩, ent.go⟩
    all_goals simp [Env.get]
    all_goals (first | omega | (have a1 : 0 ≤ F.slots := (by omega); have a2 : F.slots ≤ 262144 := (by omega); have a3 : F.params.length ≤ 8 := (by omega); have a4 : 0 ≤ F.result := (by omega); have a5 : F.result ≤ 3 := (by omega); simp [a1, a2, a3, a4, a5]))
  refine WP.ite rfl (fun hbad => ?_) (fun hgood => ?_)
  · refine Zp ?_
    refine Zm ?_
    refine Ze ?_
    refine WP.ret ?_; refine thn_ret ?_
    exact retT [4] _ rfl rfl ⟨_, ent.none _, by rw [eF, decide_eq_false hbad]; rfl, rfl⟩
  refine Zb ?_
  rw [decide_eq_true (Decidable.not_not.1 hgood), Bool.true_and] at eF
  refine WP.trim [2, 3, 4] [0, 1] ?_
  refine WP.meetC (α := Unit) (fun _ => F.params.all (placeB F) = true ∧ F.params.Nodup) (fun _ => []) (fun _ => []) ?_ ?_
  · refine Zp ?_
    refine Zm ?_
    refine Ze ?_
    refine WP.block ?_
    refine WP.trim [2, 3, 4, 5] [0, 1] ?_
    refine WP.loopC (α := Nat) (fun i => i ≤ F.params.length ∧ ∀ (j : Nat) (x : Lc), j < i → F.params[j]? = some x → placeB F x = true ∧ x ∉ F.params.take j) (fun i => [(5, .int .i64 (i : Int))]) (fun _ => []) (fun i => F.params.length - i) 0 ⟨Nat.zero_le _, fun j r h => by omega⟩ ?_
    rintro i ⟨hi, hok⟩
    refine WP.trim [2, 3, 4, 5] [0, 1] ?_
    refine WP.seq ?_
    refine Zp ?_
    refine Zm ?_
    refine Zf fo_51_1 ?_
    refine Zl 1 ag_48 ?_
    refine Zh sl_48 hu ?_
    refine Zi ?_
    refine Ze ?_
    refine WP.ite rfl (fun hlt => ?_) (fun hge => ?_)
    · refine Zb ?_
      obtain ⟨x, gx⟩ : ∃ y, F.params[(i : Int).toNat]? = some y := ⟨_, List.getElem?_eq_getElem (by omega)⟩
      have gx' : F.params[i]? = some x := gx
      refine WP.seq ?_
      refine WP.block ?_
      refine WP.seq ?_
      refine WP.drawn0 cf0 mixed rfl (by kernel_rfl) ?_
      refine Run.loadBagg 1 rfl rfl ag_51 rfl rfl rfl rfl rfl ?_
      refine Zf fo_51_1 ?_
      refine Zl 1 ag_48 ?_
      refine Zm ?_
      refine Zx sl_48 hu ?_
      refine Run.loadRagg rfl rfl ag_46 rfl rfl (SlR.row hu gx) rfl ?_
      refine Run.callP [] ok_107 (rplace_ok hR F su sv x) ?_; rintro _ _ ⟨rfl, rfl⟩
      refine Zm ?_
      refine Ze ?_
      refine WP.seq ?_
      refine Zp ?_
      refine Zm ?_
      refine Run.bnotB rfl rfl rfl rfl ?_
      refine Run.eqv (v' := .bool (decide (placeB F x = false))) (by rw [not_bool]) ?_
      refine Ze ?_
      refine WP.ite rfl (fun hbad => ?_) (fun hg => ?_)
      · refine Zp ?_
        refine Zm ?_
        refine Ze ?_
        refine WP.ret ?_; refine thn_ret ?_; refine blk_ret ?_; refine thn_ret ?_; refine thn_ret ?_; refine blk_ret ?_; refine thn_ret ?_
        exact retT [4] _ rfl rfl ⟨_, ent.none _, by rw [eF, all_not gx' hbad]; rfl, rfl⟩
      refine Zb ?_
      refine Zp ?_
      refine Zm ?_
      refine Ze ?_
      refine WP.block ?_
      refine WP.trim [2, 3, 4, 5, 7] [0, 1] ?_
      refine WP.loopC (α := Nat) (fun k => k ≤ i ∧ x ∉ F.params.take k) (fun k => [(7, .int .i64 (k : Int))]) (fun _ => []) (fun k => i - k) 0 ⟨Nat.zero_le _, by simp⟩ ?_
      rintro k ⟨hk, hno⟩
      refine WP.trim [2, 3, 4, 5, 7] [0, 1] ?_
      refine WP.seq ?_
      refine Zp ?_
      refine Zm ?_
      refine Zm ?_
      refine Zi ?_
      refine Ze ?_
      refine WP.ite rfl (fun hlt2 => ?_) (fun hge2 => ?_)
      · refine Zb ?_
        obtain ⟨y, gy⟩ : ∃ y, F.params[(k : Int).toNat]? = some y := ⟨_, List.getElem?_eq_getElem (by omega)⟩
        have gy' : F.params[k]? = some y := gy
        refine WP.seq ?_
        refine WP.block ?_
        refine WP.seq ?_
        refine WP.drawn0 cf0 mixed rfl (by kernel_rfl) ?_
        refine Zf fo_51_1 ?_
        refine Zl 1 ag_48 ?_
        refine Zm ?_
        refine Zx sl_48 hu ?_
        refine Run.loadRagg rfl rfl ag_46 rfl rfl (SlR.row hu gy) rfl ?_
        refine Zf fo_51_1 ?_
        refine Zl 1 ag_48 ?_
        refine Zm ?_
        refine Zx sl_48 hu ?_
        refine Run.loadRagg rfl rfl ag_46 rfl rfl (SlR.row hu gx) rfl ?_
        refine Run.eqS rfl rfl rfl is_46 nf_46 rfl rfl rfl rfl ?_
        refine Run.eqv (v' := .bool (decide (y = x))) (by rw [← lcEq_bool]) ?_
        refine Ze ?_
        refine WP.ite rfl (fun hy => ?_) (fun hy => ?_)
        · refine Zp ?_
          refine Zm ?_
          refine Ze ?_
          refine WP.ret ?_; refine blk_ret ?_; refine thn_ret ?_; refine thn_ret ?_; refine blk_ret ?_; refine blk_ret ?_; refine thn_ret ?_; refine thn_ret ?_; refine blk_ret ?_; refine thn_ret ?_
          refine retT [4] _ rfl rfl ⟨_, ent.none _, ?_, rfl⟩
          rw [eF]
          cases h1 : F.params.all (placeB F) with
          | false => rfl
          | true =>
            rw [decide_eq_false (not_nodup gx' (List.mem_take_iff_getElem.2 ⟨k, by omega, by rw [(List.getElem?_eq_some_iff.1 gy').2, hy]⟩))]; rfl
        · refine WP.skip ?_; refine blk_norm ?_; refine thn_next ?_
          refine Zc ?_
          refine Zm ?_
          refine Za ?_
          refine Zm ?_
          refine Run.nil ?_
          refine thn_next ⟨k + 1, ⟨by omega, ?_⟩, by omega, Ko.go, ent.gc⟩
          rw [List.take_add_one, gy', List.mem_append]
          rintro (h | h)
          · exact hno h
          · simp at h; exact hy h.symm
      · refine Zj ?_; refine blk_norm ?_; refine thn_next ?_
        refine Zc ?_
        refine Zm ?_
        refine Za ?_
        refine Zm ?_
        refine Run.nil ?_
        refine thn_next ⟨i + 1, ⟨by omega, fun j z hj hz => ?_⟩, by omega, Ko.go, ent.gc⟩
        by_cases e : j = i
        · subst e; rw [gx'] at hz; cases hz
          obtain rfl : k = j := by omega
          exact ⟨btrue hg, hno⟩
        · exact hok j z (by omega) hz
    · refine Zj ?_
      exact thn_next ⟨(), ⟨all_of fun j r hj hr => (hok j r (by omega) hr).1, nodup_take fun j x hx => (hok j x (by have := (List.getElem?_eq_some_iff.1 hx).1; omega) hx).2⟩, Ko.go, ent.gc⟩
  rintro _ ⟨hp1, hp2⟩
  rw [hp1, decide_eq_true hp2, Bool.true_and, Bool.true_and] at eF
  refine WP.trim [2, 3, 4] [0, 1] ?_
  refine WP.meetC (α := Unit) (fun _ => funB A F = true) (fun _ => []) (fun _ => []) ?_ ?_
  · refine Zp ?_
    refine Zm ?_
    refine Ze ?_
    refine WP.block ?_
    refine WP.trim [2, 3, 4, 8] [0, 1] ?_
    refine WP.loopC (α := Nat) (fun i => i ≤ F.blocks.length ∧ ∀ (j : Nat) (b : AB), j < i → F.blocks[j]? = some b → (b.body.all (insB A F) && termB F b.term) = true) (fun i => [(8, .int .i64 (i : Int))]) (fun _ => []) (fun i => F.blocks.length - i) 0 ⟨Nat.zero_le _, fun j r h => by omega⟩ ?_
    rintro i ⟨hi, hok⟩
    refine WP.trim [2, 3, 4, 8] [0, 1] ?_
    refine WP.seq ?_
    refine Zp ?_
    refine Zm ?_
    refine Zf fo_51_4 ?_
    refine Zl 1 ag_49 ?_
    refine Zh sl_49 hb ?_
    refine Zi ?_
    refine Ze ?_
    refine WP.ite rfl (fun hlt => ?_) (fun hge => ?_)
    · refine Zb ?_
      obtain ⟨b, gb⟩ : ∃ b, F.blocks[(i : Int).toNat]? = some b := ⟨_, List.getElem?_eq_getElem (by omega)⟩
      have gb' : F.blocks[i]? = some b := gb
      obtain ⟨hbs1, hbs2, hbs3⟩ := hs.si b (List.mem_of_getElem? gb)
      obtain ⟨_, ⟨bu0, bt0, rfl, hbu, hbt⟩, hrow⟩ := hb.at gb
      obtain ⟨bu, rfl, _, _⟩ := SlR.sv hbu
      obtain ⟨bt, rfl, _, _⟩ := SlR.sv hbt
      refine WP.seq ?_
      refine WP.block ?_
      refine Zp ?_
      refine Zf fo_51_4 ?_
      refine Zl 1 ag_49 ?_
      refine Zm ?_
      refine Zx sl_49 hb ?_
      refine Run.loadRagg rfl rfl ag_58 rfl rfl hrow (by rfl) ?_
      refine Run.alloc rfl zr_58 rfl rfl rfl ?_
      intro b9
      refine Run.storeB 2 rfl rfl rfl rfl ag_58 rfl rfl rfl rfl rfl ?_
      refine Ze ?_
      refine WP.trim [2, 3, 4, 8, 9] [0, 1, 2] ?_
      refine WP.meetC (α := Unit) (fun _ => b.body.all (insB A F) = true) (fun _ => []) (fun _ => []) ?_ ?_
      · refine Zp ?_
        refine Zm ?_
        refine Ze ?_
        refine WP.block ?_
        refine WP.trim [2, 3, 4, 8, 9, 10] [0, 1, 2] ?_
        refine WP.loopC (α := Nat) (fun k => k ≤ b.body.length ∧ ∀ (j : Nat) (x : AI), j < k → b.body[j]? = some x → insB A F x = true) (fun k => [(10, .int .i64 (k : Int))]) (fun _ => []) (fun k => b.body.length - k) 0 ⟨Nat.zero_le _, fun j r h => by omega⟩ ?_
        rintro k ⟨hk, hok2⟩
        refine WP.trim [2, 3, 4, 8, 9, 10] [0, 1, 2] ?_
        refine WP.seq ?_
        refine Zp ?_
        refine Zm ?_
        refine Zf fo_58_0 ?_
        refine Zl 2 ag_54 ?_
        refine Zh sl_54 hbu ?_
        refine Zi ?_
        refine Ze ?_
        refine WP.ite rfl (fun hlt2 => ?_) (fun hge2 => ?_)
        · refine Zb ?_
          obtain ⟨x, gx⟩ : ∃ x, b.body[(k : Int).toNat]? = some x := ⟨_, List.getElem?_eq_getElem (by omega)⟩
          have gx' : b.body[k]? = some x := gx
          obtain ⟨hx1, hx2⟩ := hbs3 x (List.mem_of_getElem? gx)
          obtain ⟨_, ⟨xu0, xs0, rfl, hxu, hxv⟩, hxrow⟩ := hbu.at gx
          obtain ⟨xv, rfl, _, _⟩ := SlR.sv hxv
          obtain ⟨xu, rfl, _, _⟩ := SlR.sv hxu
          refine WP.seq ?_
          refine WP.block ?_
          refine WP.seq ?_
          refine WP.drawn0 cf0 mixed rfl (by kernel_rfl) ?_
          refine Run.loadBagg 0 rfl rfl ag_24 rfl rfl rfl rfl rfl ?_
          refine Run.loadBagg 1 rfl rfl ag_51 rfl rfl rfl rfl rfl ?_
          refine Zf fo_58_0 ?_
          refine Zl 2 ag_54 ?_
          refine Zm ?_
          refine Zx sl_54 hbu ?_
          refine Run.loadRagg rfl rfl ag_53 rfl rfl hxrow (by rfl) ?_
          refine Run.callP [] ok_108 (rins_ok hR A fv F su sv x xu xv hA ⟨hxu, hxv⟩ hl1 (by omega) (by omega) hl4) ?_; rintro _ _ ⟨rfl, rfl⟩
          refine Zm ?_
          refine Ze ?_
          refine Zp ?_
          refine Zm ?_
          refine Run.bnotB rfl rfl rfl rfl ?_
          refine Run.eqv (v' := .bool (decide (insB A F x = false))) (by rw [not_bool]) ?_
          refine Ze ?_
          refine WP.ite rfl (fun hbad => ?_) (fun hg => ?_)
          · refine Zp ?_
            refine Zm ?_
            refine Ze ?_
            refine WP.ret ?_; refine blk_ret ?_; refine thn_ret ?_; refine thn_ret ?_; refine blk_ret ?_; refine thn_ret ?_; refine blk_ret ?_; refine thn_ret ?_; refine thn_ret ?_; refine blk_ret ?_; refine thn_ret ?_
            exact retT [4] _ rfl rfl ⟨_, ent.none _, by rw [eF, all_not gb' (by rw [all_not gx' hbad]; rfl)]; rfl, rfl⟩
          · refine WP.skip ?_; refine blk_norm ?_; refine thn_next ?_
            refine Zc ?_
            refine Zm ?_
            refine Za ?_
            refine Zm ?_
            refine Run.nil ?_
            refine thn_next ⟨k + 1, ⟨by omega, fun j z hj hz => ?_⟩, by omega, Ko.go, ent.gc⟩
            by_cases e : j = k
            · subst e; rw [gx'] at hz; cases hz; exact btrue hg
            · exact hok2 j z (by omega) hz
        · refine Zj ?_
          exact thn_next ⟨(), all_of fun j x hj hx => hok2 j x (by omega) hx, Ko.go, ent.gc⟩
      intro _ hbody
      refine Zp ?_
      refine Run.loadBagg 1 rfl rfl ag_51 rfl rfl rfl rfl rfl ?_
      refine Zf fo_58_1 ?_
      refine Run.loadBagg 2 rfl rfl ag_56 rfl rfl rfl rfl rfl ?_
      refine Run.callP [] ok_109 (rterm_ok hR F su sv b.term bt hb hbt (by omega) (by omega)) ?_; rintro _ _ ⟨rfl, rfl⟩
      refine Zm ?_
      refine Ze ?_
      refine Zp ?_
      refine Zm ?_
      refine Run.bnotB rfl rfl rfl rfl ?_
      refine Run.eqv (v' := .bool (decide (termB F b.term = false))) (by rw [not_bool]) ?_
      refine Ze ?_
      refine WP.ite rfl (fun hbad => ?_) (fun hg => ?_)
      · refine Zp ?_
        refine Zm ?_
        refine Ze ?_
        refine WP.ret ?_; refine blk_ret ?_; refine thn_ret ?_; refine thn_ret ?_; refine blk_ret ?_; refine thn_ret ?_
        exact retT [4] _ rfl rfl ⟨_, ent.none _, by rw [eF, all_not gb' (by rw [hbody, hbad]; rfl)]; rfl, rfl⟩
      · refine WP.skip ?_; refine blk_norm ?_; refine thn_next ?_
        refine Zc ?_
        refine Zm ?_
        refine Za ?_
        refine Zm ?_
        refine Run.nil ?_
        refine thn_next ⟨i + 1, ⟨by omega, fun j z hj hz => ?_⟩, by omega, Ko.go, ent.gc⟩
        by_cases e : j = i
        · subst e; rw [gb'] at hz; cases hz; rw [hbody, btrue hg]; rfl
        · exact hok j z (by omega) hz
    · refine Zj ?_
      refine thn_next ⟨(), ?_, Ko.go, ent.gc⟩
      rw [eF]
      exact all_of fun j b hj hb => hok j b (by omega) hb
  intro _ hT
  refine Zp ?_
  refine Zm ?_
  refine Ze ?_
  refine WP.ret ?_
  exact retT [4] _ rfl rfl ⟨_, ent.none _, by rw [hT]; rfl, rfl⟩
end Go.Proofs.YtfaokbjpinlcaaaGreat
end
