/- The reference's Order; walked. -/
import Derived.Test.YtfaokbjpinlcaaaGreatGA4
import Derived.Test.YtfaokbjpinlcaaaGreatGA7
import Derived.Test.YtfaokbjpinlcaaaGreatGB4
import Derived.Test.YtfaokbjpinlcaaaGreatGA8
section
/- The reference's Order; walked. -/
namespace Go.Proofs.YtfaokbjpinlcaaaGreat
open Go.Sep
set_option linter.unusedSimpArgs false
set_option linter.unusedVariables false
attribute [local irreducible] blk slA mp mpF rows rowsBut many mpK mpE
theorem place13_ok (hR : Heap) (l : Lc) : Tri Tryz.prog hR 184 #[encL l] [] fun v Γ' => v = .bool (decide (isPl l)) ∧ Γ' = [] := by
  refine Tri.ent (Tri.of (args := [.agg ⟨lcv l⟩]) Tryz.func184 rfl Tryz.ntmps184 (by simp) ?_)
  refine Zp ?_
  refine Run.box rfl rfl rfl rfl rfl ?_
  intro b1
  refine Zm ?_
  refine Ze ?_
  refine WP.seqCut [(2, .bool (decide (isPl l)))] [] ?_ ?_
  · refine Zc ?_
    all_goals (first | refine Zf fo_46_0 ?_)
    all_goals (first | refine Zl 0 ag_3 ?_)
    all_goals (first | refine Zi ?_)
    all_goals (first | refine Run.tt (by first | assumption | omega) ?_ | refine Run.ff (by first | assumption | omega) ?_ | refine Run.split (fun hc5 => ?_) (fun hc5 => ?_) | refine Run.splitB (fun hc5 => ?_) (fun hc5 => ?_) | skip)
    all_goals (first | refine Zm ?_)
    all_goals (first | refine Zv ?_ | refine Zf fo_46_0 ?_)
    all_goals (first | refine Zv ?_ | refine Zl 0 ag_3 ?_)
    all_goals (first | refine Zv ?_ | refine Zi ?_)
    all_goals (first | refine Run.tt (by first | assumption | omega) ?_ | refine Run.ff (by first | assumption | omega) ?_ | refine Run.split (fun hc9 => ?_) (fun hc9 => ?_) | refine Run.splitB (fun hc9 => ?_) (fun hc9 => ?_) | skip)
    all_goals (first | refine Zq ?_)
    all_goals (first | refine Zm ?_)
    all_goals (first | refine Zv ?_ | refine Zf fo_46_1 ?_)
    all_goals (first | refine Zv ?_ | refine Zl 0 ag_3 ?_)
    all_goals (first | refine Zv ?_ | refine Zi ?_)
    all_goals (first | refine Zq ?_)
    all_goals (first | refine Zm ?_)
    all_goals (refine Run.nil ?_)
    all_goals refine thn_next ⟨⟨?_, trivial⟩, ent.none _⟩
    all_goals simp [Env.get, isPl, *]
  refine WP.ret ?_
  exact retT [2] _ rfl rfl ⟨_, ent.go, rfl, rfl⟩
theorem same13_ok (hR : Heap) (a b : Lc) : Tri Tryz.prog hR 158 #[encL a, encL b] [] fun v Γ' => v = .bool (decide (a = b)) ∧ Γ' = [] := by
  obtain ⟨p1, p2⟩ := a; obtain ⟨q1, q2⟩ := b
  refine Tri.ent (Tri.of (args := [.agg ⟨lcv ⟨p1, p2⟩⟩, .agg ⟨lcv ⟨q1, q2⟩⟩]) Tryz.func158 rfl Tryz.ntmps158 (by simp) ?_)
  refine Zp ?_
  refine Run.box rfl rfl rfl rfl rfl ?_
  intro b2
  refine Run.box rfl rfl rfl rfl rfl ?_
  intro b3
  refine Zm ?_
  refine Ze ?_
  refine WP.seqCut [(4, .bool (decide ((⟨p1, p2⟩ : Lc) = ⟨q1, q2⟩)))] [] ?_ ?_
  · refine Zc ?_
    all_goals (first | refine Zf fo_46_0 ?_)
    all_goals (first | refine Zl 0 ag_3 ?_)
    all_goals (first | refine Zf fo_46_0 ?_)
    all_goals (first | refine Zl 1 ag_3 ?_)
    all_goals (first | refine Zi ?_)
    all_goals (first | refine Run.tt (by first | assumption | omega) ?_ | refine Run.ff (by first | assumption | omega) ?_ | refine Run.split (fun hc9 => ?_) (fun hc9 => ?_) | refine Run.splitB (fun hc9 => ?_) (fun hc9 => ?_) | skip)
    all_goals (first | refine Zm ?_)
    all_goals (first | refine Zv ?_ | refine Zf fo_46_1 ?_)
    all_goals (first | refine Zv ?_ | refine Zl 0 ag_3 ?_)
    all_goals (first | refine Zv ?_ | refine Zf fo_46_1 ?_)
    all_goals (first | refine Zv ?_ | refine Zl 1 ag_3 ?_)
    all_goals (first | refine Zv ?_ | refine Zi ?_)
    all_goals (first | refine Zq ?_)
    all_goals (first | refine Zm ?_)
    all_goals (refine Run.nil ?_)
    all_goals refine thn_next ⟨⟨?_, trivial⟩, ent.none _⟩
    all_goals (simp [Env.get, *] <;> intros <;> assumption)
  refine WP.ret ?_
  exact retT [4] _ rfl rfl ⟨_, ent.go, rfl, rfl⟩
set_option maxRecDepth 100000 in
theorem read13_ok (hR : Heap) (lv : SV) (l : List Mv) (p : Lc) (hl0 : SlR encMv.rd hR lv.val l) (hlen : l.length ≤ 1000000) :
    Tri Tryz.prog hR 159 #[lv.val, encL p] [] fun v Γ' => v = .bool (decide (0 < readsOf l p)) ∧ Γ' = [] := by
  refine Tri.ent (Tri.of (args := [lv.val, .agg ⟨lcv p⟩]) Tryz.func159 rfl Tryz.ntmps159 (by simp) ?_)
  refine Zp ?_
  refine Run.box rfl rfl rfl rfl rfl ?_
  intro b3
  refine Zm ?_
  refine Ze ?_
  refine WP.via (Γ' := [] ++ [blk b3 (lcv p) 46]) (ent.refl _) ?_
  refine WP.freeze (Γ := []) [blk b3 (lcv p) 46] fun g hg hd => ?_
  have hl : SlR encMv.rd (un hR g) lv.val l := hl0.mono (Sub.un_left _ _)
  refine WP.trim [0, 3, 4] [] ?_
  refine WP.meetC (α := Unit) (fun _ => readsOf l p = 0) (fun _ => []) (fun _ => []) ?_ ?_
  · refine Zp ?_
    refine Zm ?_
    refine Ze ?_
    refine WP.block ?_
    refine WP.trim [0, 3, 4, 5] [] ?_
    refine WP.loopC (α := Nat) (fun i => i ≤ l.length ∧ ∀ (j : Nat) (m : Mv), j < i → l[j]? = some m → m.from_ ≠ p) (fun i => [(5, vI (i : Int))]) (fun _ => []) (fun i => l.length - i) 0 ⟨Nat.zero_le _, fun j m h => by omega⟩ ?_
    rintro i ⟨hi, hno⟩
    refine WP.trim [0, 3, 4, 5] [] ?_
    refine WP.seq ?_
    refine Zp ?_
    refine Zm ?_
    refine Zm ?_
    refine Run.lenR rfl rfl sl_119 rfl rfl (by assumption) ?_
    refine Zi ?_
    refine Ze ?_
    refine WP.ite rfl (fun hlt => ?_) (fun hge => ?_)
    · refine Zb ?_
      obtain ⟨m, gm⟩ : ∃ m, l[(i : Int).toNat]? = some m := ⟨_, List.getElem?_eq_getElem (by omega)⟩
      have gm' : l[i]? = some m := gm
      refine WP.seq ?_
      refine WP.block ?_
      refine WP.seq ?_
      refine WP.drawn0 cfF mixed rfl (by kernel_rfl) ?_
      refine Zm ?_
      refine Zm ?_
      refine Zx sl_119 hl ?_
      refine Zf fo_121_1 ?_
      refine Run.loadFagg rfl rfl ag_46 rfl rfl ((SlR.row hl gm).part 2 2) rfl ?_
      refine Run.loadFagg rfl rfl ag_46 rfl rfl (lent_row 0 0 2 hg hd) rfl ?_
      refine Run.callP [] ok_158 (same13_ok (un hR g) m.from_ p) ?_; rintro _ _ ⟨rfl, rfl⟩
      refine Ze ?_
      refine WP.ite rfl (fun hy => ?_) (fun hy => ?_)
      · refine Zp ?_
        refine Zm ?_
        refine Ze ?_
        refine WP.ret ?_; refine blk_ret ?_; refine thn_ret ?_; refine thn_ret ?_; refine blk_ret ?_; refine thn_ret ?_
        refine retT [4] _ rfl rfl ⟨_, ent.none _, ?_, rfl⟩
        have : 0 < readsOf l p := List.countP_pos_iff.2 ⟨m, List.mem_of_getElem? gm', by simp [hy]⟩
        simp [this, tupV]
      · refine WP.skip ?_; refine blk_norm ?_; refine thn_next ?_
        refine Zc ?_
        refine Zm ?_
        refine Za ?_
        refine Zm ?_
        refine Run.nil ?_
        refine thn_next ⟨i + 1, ⟨by omega, fun j x hj hx => ?_⟩, by omega, Ko.go, ent.gc⟩
        by_cases e : j = i
        · subst e; rw [gm'] at hx; cases hx; exact hy
        · exact hno j x (by omega) hx
    · refine Zj ?_
      refine thn_next ⟨(), ?_, Ko.go, ent.gc⟩
      refine List.countP_eq_zero.2 fun m hm => ?_
      obtain ⟨j, hj⟩ := List.getElem?_of_mem hm
      have := hno j m (by have := (List.getElem?_eq_some_iff.1 hj).1; omega) hj
      simpa using this
  intro _ h0
  refine Zp ?_
  refine Zm ?_
  refine Ze ?_
  refine WP.ret ?_
  exact retT [4] _ rfl rfl ⟨_, ent.none _, by simp [h0, tupV], rfl⟩
set_option maxHeartbeats 1000000 in
set_option maxRecDepth 100000 in
theorem refuse13_ok (hR : Heap) (lv : Value) (l : List Mv) (temp : Lc) (hl0 : SlR encMv.rd hR lv l) (hlen : l.length ≤ 1000000) (hG : GoodL temp l) :
    Tri Tryz.prog hR 157 #[lv, encL temp] [] fun v Γ' => v = vI 0 ∧ Γ' = [] := by
  refine Tri.ent (Tri.of (args := [lv, .agg ⟨lcv temp⟩]) Tryz.func157 rfl Tryz.ntmps157 (by simp) ?_)
  refine Zp ?_
  refine Run.box rfl rfl rfl rfl rfl ?_
  intro b3
  refine Zm ?_
  refine Ze ?_
  refine WP.via (Γ' := [] ++ [blk b3 (lcv temp) 46]) (ent.refl _) ?_
  refine WP.freeze (Γ := []) [blk b3 (lcv temp) 46] fun g hg hd => ?_
  have hl : SlR encMv.rd (un hR g) lv l := hl0.mono (Sub.un_left _ _)
  refine WP.trim [0, 3, 4] [] ?_
  refine WP.meetC (α := Unit) (fun _ => True) (fun _ => []) (fun _ => []) ?_ ?_
  · refine Zp ?_
    refine Zm ?_
    refine Ze ?_
    refine WP.block ?_
    refine WP.trim [0, 3, 4, 5] [] ?_
    refine WP.loopC (α := Nat) (fun i => i ≤ l.length) (fun i => [(5, vI (i : Int))]) (fun _ => []) (fun i => l.length - i) 0 (Nat.zero_le _) ?_
    intro i hi
    refine WP.trim [0, 3, 4, 5] [] ?_
    refine WP.seq ?_
    refine Zp ?_
    refine Zm ?_
    refine Zm ?_
    refine Run.lenR rfl rfl sl_119 rfl rfl (by assumption) ?_
    refine Zi ?_
    refine Ze ?_
    refine WP.ite rfl (fun hlt => ?_) (fun hge => ?_)
    · refine Zb ?_
      obtain ⟨m, gm⟩ : ∃ m, l[(i : Int).toNat]? = some m := ⟨_, List.getElem?_eq_getElem (by omega)⟩
      have hm := List.mem_of_getElem? gm
      obtain ⟨t1, t2⟩ := hG.to m hm
      obtain ⟨f1, f2⟩ := hG.fr m hm
      refine WP.seq ?_
      refine WP.block ?_
      refine WP.seq ?_
      refine WP.drawn0 cfF mixed rfl (by kernel_rfl) ?_
      refine Zm ?_
      refine Zm ?_
      refine Zx sl_119 hl ?_
      refine Zf fo_121_0 ?_
      refine Run.loadFagg rfl rfl ag_46 rfl rfl ((SlR.row hl gm).part 0 2) rfl ?_
      refine Run.callP [] ok_184 (place13_ok (un hR g) m.to) ?_; rintro _ _ ⟨rfl, rfl⟩; refine Run.eqv (v' := .bool true) (by simp [t1]) ?_
      refine Run.bnotB rfl rfl rfl rfl ?_
      iterate 3 refine Zm ?_
      refine Zx sl_119 hl ?_
      refine Zf fo_121_1 ?_
      refine Run.loadFagg rfl rfl ag_46 rfl rfl ((SlR.row hl gm).part 2 2) rfl ?_
      refine Run.callP [] ok_184 (place13_ok (un hR g) m.from_) ?_; rintro _ _ ⟨rfl, rfl⟩; refine Run.eqv (v' := .bool true) (by simp [f1]) ?_
      refine Run.bnotB rfl rfl rfl rfl ?_
      refine Zm ?_
      iterate 7 refine Zv ?_
      refine Zq ?_
      refine Zq ?_
      iterate 3 refine Zm ?_
      refine Zx sl_119 hl ?_
      refine Zf fo_121_0 ?_
      refine Run.loadFagg rfl rfl ag_46 rfl rfl ((SlR.row hl gm).part 0 2) rfl ?_
      refine Run.loadFagg rfl rfl ag_46 rfl rfl (lent_row 0 0 2 hg hd) rfl ?_
      refine Run.callP [] ok_158 (same13_ok (un hR g) m.to temp) ?_; rintro _ _ ⟨rfl, rfl⟩; refine Run.eqv (v' := .bool false) (by simp [t2]) ?_
      refine Zq ?_
      iterate 3 refine Zm ?_
      refine Zx sl_119 hl ?_
      refine Zf fo_121_1 ?_
      refine Run.loadFagg rfl rfl ag_46 rfl rfl ((SlR.row hl gm).part 2 2) rfl ?_
      refine Run.loadFagg rfl rfl ag_46 rfl rfl (lent_row 0 0 2 hg hd) rfl ?_
      refine Run.callP [] ok_158 (same13_ok (un hR g) m.from_ temp) ?_; rintro _ _ ⟨rfl, rfl⟩; refine Run.eqv (v' := .bool false) (by simp [f2]) ?_
      refine Zq ?_
      refine Ze ?_
      refine Zno ?_
      refine WP.skip ?_; refine blk_norm ?_; refine thn_next ?_
      refine Zc ?_
      refine Zm ?_
      refine Za ?_
      refine Zm ?_
      refine Run.nil ?_
      refine thn_next ⟨i + 1, by omega, by omega, Ko.go, ent.gc⟩
    · refine Zj ?_
      refine thn_next ⟨(), trivial, Ko.go, ent.gc⟩
  intro _ _
  refine WP.seq ?_
  refine WP.seq ?_
  refine WP.plain cfF rfl ?_
  refine Run.loadFagg rfl rfl ag_46 rfl rfl (lent_row 0 0 2 hg hd) rfl ?_
  refine Run.callP [] ok_184 (place13_ok (un hR g) temp) ?_; rintro _ _ ⟨rfl, rfl⟩; refine Run.eqv (v' := .bool true) (by simp [hG.pt]) ?_
  refine Run.bnotB rfl rfl rfl rfl ?_
  refine Ze ?_
  refine Zno ?_
  refine Zb ?_
  refine WP.trim [0, 3, 4] [] ?_
  refine WP.meetC (α := Unit) (fun _ => True) (fun _ => []) (fun _ => []) ?_ ?_
  · refine Zp ?_
    refine Zm ?_
    refine Ze ?_
    refine WP.block ?_
    refine WP.trim [0, 3, 4, 6] [] ?_
    refine WP.loopC (α := Nat) (fun i => i ≤ l.length) (fun i => [(6, vI (i : Int))]) (fun _ => []) (fun i => l.length - i) 0 (Nat.zero_le _) ?_
    intro i hi
    refine WP.trim [0, 3, 4, 6] [] ?_
    refine WP.seq ?_
    refine Zp ?_
    refine Zm ?_
    refine Zm ?_
    refine Run.lenR rfl rfl sl_119 rfl rfl (by assumption) ?_
    refine Zi ?_
    refine Ze ?_
    refine WP.ite rfl (fun hlt => ?_) (fun hge => ?_)
    · refine Zb ?_
      obtain ⟨m, gm⟩ : ∃ m, l[(i : Int).toNat]? = some m := ⟨_, List.getElem?_eq_getElem (by omega)⟩
      have gm' : l[i]? = some m := gm
      refine WP.seq ?_
      refine WP.block ?_
      refine Zp ?_
      refine Zm ?_
      refine Ze ?_
      refine WP.block ?_
      refine WP.trim [0, 3, 4, 6, 7] [] ?_
      refine WP.loopC (α := Nat) (fun k => k ≤ i) (fun k => [(7, vI (k : Int))]) (fun _ => []) (fun k => i - k) 0 (Nat.zero_le _) ?_
      intro k hk
      refine WP.trim [0, 3, 4, 6, 7] [] ?_
      refine WP.seq ?_
      refine Zp ?_
      refine Zm ?_
      refine Zm ?_
      refine Zi ?_
      refine Ze ?_
      refine WP.ite rfl (fun hlt2 => ?_) (fun hge2 => ?_)
      · refine Zb ?_
        obtain ⟨y, gy⟩ : ∃ m, l[(k : Int).toNat]? = some m := ⟨_, List.getElem?_eq_getElem (by omega)⟩
        have gy' : l[k]? = some y := gy
        have hne : m.to ≠ y.to := fun e => by
          have hn := List.pairwise_iff_getElem.1 hG.nd k i (by simp; omega) (by simp; omega) (by omega)
          rw [List.getElem_map, List.getElem_map] at hn
          rw [List.getElem?_eq_getElem (by omega)] at gm' gy'
          simp only [Option.some.injEq] at gm' gy'
          rw [gm', gy'] at hn; exact hn e.symm
        refine WP.seq ?_
        refine WP.block ?_
        refine WP.seq ?_
        refine WP.drawn0 cfF mixed rfl (by kernel_rfl) ?_
        refine Zm ?_
        refine Zm ?_
        refine Zx sl_119 hl ?_
        refine Zf fo_121_0 ?_
        refine Run.loadFagg rfl rfl ag_46 rfl rfl ((SlR.row hl gm).part 0 2) rfl ?_
        refine Zm ?_
        refine Zm ?_
        refine Zx sl_119 hl ?_
        refine Zf fo_121_0 ?_
        refine Run.loadFagg rfl rfl ag_46 rfl rfl ((SlR.row hl gy).part 0 2) rfl ?_
        refine Run.callP [] ok_158 (same13_ok (un hR g) m.to y.to) ?_; rintro _ _ ⟨rfl, rfl⟩
        refine Ze ?_
        refine WP.ite rfl (fun hy => absurd hy hne) (fun _ => ?_)
        refine WP.skip ?_; refine blk_norm ?_; refine thn_next ?_
        refine Zc ?_
        refine Zm ?_
        refine Za ?_
        refine Zm ?_
        refine Run.nil ?_
        refine thn_next ⟨k + 1, by omega, by omega, Ko.go, ent.gc⟩
      · refine Zj ?_; refine blk_norm ?_; refine thn_next ?_
        refine Zc ?_
        refine Zm ?_
        refine Za ?_
        refine Zm ?_
        refine Run.nil ?_
        refine thn_next ⟨i + 1, by omega, by omega, Ko.go, ent.gc⟩
    · refine Zj ?_
      refine thn_next ⟨(), trivial, Ko.go, ent.gc⟩
  intro _ _
  refine Zp ?_
  refine Zm ?_
  refine Ze ?_
  refine WP.ret ?_
  exact retT [4] _ rfl rfl ⟨_, ent.none _, rfl, rfl⟩
set_option maxHeartbeats 4000000 in
set_option maxRecDepth 100000 in
theorem order13_ok (hR : Heap) (ls : SV) (l : List Mv) (temp : Lc) (hl0 : SlR encMv.rd hR ls.val l) (hlen : l.length ≤ 300000) (hG : GoodL temp l) :
    Tri Tryz.prog hR 110 #[ls.val, encL temp] [] fun v Γ' => ∃ (sv : SV) (o : List Mv), v = .tuple #[sv.val, vI 0] ∧ Γ' = [slA 121 encMv sv.val o] ∧ Ord temp (l.filter fun m => decide (m.from_ ≠ m.to)) o ∧ o.length ≤ 2 * l.length := by
  refine Tri.ent (Tri.of (args := [ls.val, .agg ⟨lcv temp⟩]) Tryz.func110 rfl Tryz.ntmps110 (by simp) ?_)
  refine Zp ?_
  refine Run.box rfl rfl rfl rfl rfl ?_
  intro b3
  refine Zm ?_
  refine Zm ?_
  refine Ze ?_
  refine WP.via (Γ' := [] ++ [blk b3 (lcv temp) 46]) (ent.refl _) ?_
  refine WP.freeze (Γ := []) [blk b3 (lcv temp) 46] fun g hg hd => ?_
  have hl : SlR encMv.rd (un hR g) ls.val l := hl0.mono (Sub.un_left _ _)
  have ht := lent_row (hR := hR) 0 0 2 hg hd
  generalize un hR g = hR1 at hl ht ⊢
  refine WP.seq ?_
  refine WP.plain cfF rfl ?_
  refine Zm ?_
  refine Run.loadFagg rfl rfl ag_46 rfl rfl ht rfl ?_
  refine Run.callP [] ok_157 (refuse13_ok hR1 ls.val l temp hl (by omega) hG) ?_; rintro _ _ ⟨rfl, rfl⟩
  refine Zm ?_
  refine Ze ?_
  refine WP.seq ?_
  refine Zp ?_
  refine Zm ?_
  refine Zi ?_
  refine Ze ?_
  refine WP.ite rfl (fun h => absurd rfl h) (fun _ => ?_)
  refine Zb ?_
  refine Zp ?_
  refine Zm ?_
  refine Ze ?_
  refine WP.trim [0, 3, 5, 7] [] ?_
  refine WP.via (Γ' := [slA 121 encMv nilS.val []]) (slA_nil 121 encMv _) ?_
  refine WP.meetC (α := SV) (fun _ => True) (fun sv => [(7, sv.val)]) (fun sv => [(0, slA 121 encMv sv.val (leftL l l.length))]) ?_ ?_
  · refine Zp ?_
    refine Zm ?_
    refine Ze ?_
    refine WP.block ?_
    refine WP.trim [0, 3, 5, 7, 8] [0] ?_
    refine WP.loopC (α := Nat × SV) (fun z => z.1 ≤ l.length) (fun z => [(8, vI (z.1 : Int)), (7, z.2.val)]) (fun z => [(0, slA 121 encMv z.2.val (leftL l z.1))]) (fun z => l.length - z.1) (0, nilS) (Nat.zero_le _) ?_
    rintro ⟨i, lv⟩ hi
    simp only at hi ⊢
    have hll := leftL_len l i
    refine WP.trim [0, 3, 5, 7, 8] [0] ?_
    refine WP.seq ?_
    refine Zp ?_
    refine Zm ?_
    refine Zm ?_
    refine Run.lenR rfl rfl sl_119 rfl rfl (by assumption) ?_
    refine Zi ?_
    refine Ze ?_
    refine WP.ite rfl (fun hlt => ?_) (fun hge => ?_)
    · refine Zb ?_
      obtain ⟨m, gm⟩ : ∃ m, l[(i : Int).toNat]? = some m := ⟨_, List.getElem?_eq_getElem (by omega)⟩
      have gm' : l[i]? = some m := gm
      have hstep := leftL_step gm'
      refine WP.seq ?_
      refine WP.block ?_
      refine WP.seq ?_
      refine WP.drawn0 cfF mixed rfl (by kernel_rfl) ?_
      refine Zm ?_
      refine Zm ?_
      refine Zx sl_119 hl ?_
      refine Zf fo_121_1 ?_
      refine Run.loadFagg rfl rfl ag_46 rfl rfl ((SlR.row hl gm).part 2 2) rfl ?_
      refine Zm ?_
      refine Zm ?_
      refine Zx sl_119 hl ?_
      refine Zf fo_121_0 ?_
      refine Run.loadFagg rfl rfl ag_46 rfl rfl ((SlR.row hl gm).part 0 2) rfl ?_
      refine Run.callP [] ok_158 (same13_ok hR1 m.from_ m.to) ?_; rintro _ _ ⟨rfl, rfl⟩
      refine Run.bnot rfl rfl rfl rfl ?_
      refine Ze ?_
      refine WP.ite rfl (fun hne => ?_) (fun heq => ?_)
      · rw [if_pos hne] at hstep
        refine Zc ?_
        iterate 3 refine Zm ?_
        refine Zx sl_119 hl ?_
        refine Run.loadRagg rfl rfl ag_121 rfl rfl (SlR.row hl gm) rfl ?_
        refine Run.buildSlice (E := encMv) rfl sl_119 zr_121 ([m]) rfl rfl rfl (by decide) rfl rfl ?_
        intro b40
        refine Run.append 0 rfl rfl rfl rfl rfl rfl sl_119 zr_121 rfl (src_own 1 rfl) (by first | omega | (simp <;> omega)) (by first | omega | (simp <;> omega)) ?_
        intro sv41 hv41
        refine Zm ?_
        refine Run.nil ?_
        refine blk_norm ?_; refine thn_next ?_
        refine Zc ?_
        refine Zm ?_
        refine Za ?_
        refine Zm ?_
        refine Run.nil ?_
        refine thn_next ⟨(i + 1, sv41), by simp only; omega, by simp only; omega, Ko.go, by simp only [hstep]; exact ent.gc⟩
      · rw [if_neg heq, List.append_nil] at hstep
        refine WP.skip ?_; refine blk_norm ?_; refine thn_next ?_
        refine Zc ?_
        refine Zm ?_
        refine Za ?_
        refine Zm ?_
        refine Run.nil ?_
        refine thn_next ⟨(i + 1, lv), by simp only; omega, by simp only; omega, Ko.go, by simp only [hstep]; exact ent.gc⟩
    · refine Zj ?_
      have e : i = l.length := by omega
      subst e
      refine thn_next ⟨lv, trivial, Ko.go, ent.gc⟩
  intro lv0 _
  have hll := leftL_len l l.length
  have hsub : (leftL l l.length).Sublist l := leftL_sub
  have hfil : l.filter (fun m => decide (m.from_ ≠ m.to)) = leftL l l.length := by simp [leftL]
  rw [hfil]
  generalize leftL l l.length = ms at hll hsub ⊢
  clear hfil
  refine Zp ?_
  refine Zm ?_
  refine Ze ?_
  refine WP.trim [3, 5, 7, 9] [0] ?_
  refine WP.via (Γ' := [slA 121 encMv lv0.val ms, slA 121 encMv nilS.val []]) (slA_nil 121 encMv _) ?_
  refine WP.meetC (α := SV × SV × List Mv × List Mv) (fun z => Ord temp ms z.2.2.2 ∧ z.2.2.2.length ≤ 2 * ms.length) (fun z => [(7, z.1.val), (9, z.2.1.val)]) (fun z => [(0, slA 121 encMv z.1.val z.2.2.1), (1, slA 121 encMv z.2.1.val z.2.2.2)]) ?_ ?_
  · refine WP.block ?_
    refine WP.loopC (α := SV × SV × List Mv × List Mv) (fun z => OrdInv temp ms z.2.2.2 z.2.2.1 ∧ (z.2.2.1.map Mv.to).Nodup ∧ (∀ m ∈ z.2.2.1, m.to ≠ temp) ∧ z.2.2.2.length + (z.2.2.1.length + z.2.2.1.countP (fun m => decide (m.from_ ≠ temp))) ≤ 2 * ms.length) (fun z => [(7, z.1.val), (9, z.2.1.val)]) (fun z => [(0, slA 121 encMv z.1.val z.2.2.1), (1, slA 121 encMv z.2.1.val z.2.2.2)]) (fun z => z.2.2.1.length + z.2.2.1.countP (fun m => decide (m.from_ ≠ temp))) (lv0, nilS, ms, []) ⟨OrdInv.start, (hsub.map Mv.to).nodup hG.nd, fun m hm => (hG.to m (hsub.subset hm)).2, by have := List.countP_le_length (p := fun m : Mv => decide (m.from_ ≠ temp)) (l := ms); simp only [List.length_nil]; omega⟩ ?_
    rintro ⟨lv, ov, left, out⟩ ⟨hO, hnd, hto, hmu⟩
    simp only at hO hnd hto hmu ⊢
    refine WP.trim [3, 5, 7, 9] [0, 1] ?_
    refine WP.seq ?_
    refine Zp ?_
    refine Zm ?_
    refine Run.lenO 0 rfl rfl sl_119 rfl rfl rfl ?_
    refine Zi ?_
    refine Ze ?_
    refine WP.ite rfl (fun hgt => ?_) (fun hle => ?_)
    · refine Zb ?_
      refine WP.block ?_
      refine Zp ?_
      refine Zm ?_
      refine Ze ?_
      refine WP.trim [3, 5, 7, 9, 10] [0, 1] ?_
      refine WP.know (fun h hs => slA_know 0 rfl h hs) fun hkn => ?_
      refine WP.meetC (α := Nat) (fun k => k ≤ left.length ∧ (∀ (j : Nat) (x : Mv), j < k → left[j]? = some x → 0 < readsOf left x.to) ∧ ∀ m, left[k]? = some m → readsOf left m.to = 0) (fun k => [(10, vI (k : Int))]) (fun _ => []) ?_ ?_
      · refine WP.block ?_
        refine WP.loopC (α := Nat) (fun k => k ≤ left.length ∧ ∀ (j : Nat) (x : Mv), j < k → left[j]? = some x → 0 < readsOf left x.to) (fun k => [(10, vI (k : Int))]) (fun _ => []) (fun k => left.length - k) 0 ⟨Nat.zero_le _, fun j x h => by omega⟩ ?_
        rintro k ⟨hk, hall⟩
        refine WP.trim [3, 5, 7, 9, 10] [0, 1] ?_
        refine WP.seq ?_
        refine WP.seqCut [(3, ptrV b3), (5, vI 0), (7, lv.val), (9, ov.val), (10, vI (k : Int)), (57, .bool (decide (∃ m ∈ left[k]?, 0 < readsOf left m.to)))] [slA 121 encMv lv.val left, slA 121 encMv ov.val out] ?_ ?_
        · by_cases hlt : k < left.length
          · obtain ⟨m, gm⟩ : ∃ p, left[k]? = some p := ⟨_, List.getElem?_eq_getElem hlt⟩
            refine Zc ?_
            all_goals (first | refine Zm ?_)
            all_goals (first | refine Zm ?_)
            all_goals (first | refine Run.lenO 0 rfl rfl sl_119 rfl rfl rfl ?_)
            all_goals (first | refine Zi ?_)
            all_goals (first | refine Run.tt (by first | assumption | omega) ?_ | refine Run.ff (by first | assumption | omega) ?_ | refine Run.split (fun hc48 => ?_) (fun hc48 => ?_) | refine Run.splitB (fun hc48 => ?_) (fun hc48 => ?_) | skip)
            all_goals (first | refine Zm ?_)
            all_goals (first | refine Zv ?_ | refine Zm ?_)
            all_goals (first | refine Zv ?_ | refine Zm ?_)
            all_goals (first | refine Zv ?_ | refine Zm ?_)
            all_goals (first | refine Zv ?_ | refine Run.idxO 0 rfl rfl rfl sl_119 rfl rfl rfl rfl (by omega) (by omega) ?_)
            all_goals (first | refine Zv ?_ | refine Zf fo_121_0 ?_)
            all_goals (first | refine Zv ?_ | refine Run.loadOsub 0 k 0 rfl rfl ag_46 rfl rfl rfl rfl gm rfl ?_)
            all_goals (first | refine Zv ?_ | refine Run.callL [] [0] ok_159 (fun g2 hg2 hd2 => read13_ok (un hR1 g2) lv left m.to (lent_at 0 rfl hg2 hd2) (by omega)) ?_; rintro _ _ ⟨rfl, rfl⟩)
            all_goals (first | refine Zq ?_)
            all_goals (refine Run.nil ?_)
            all_goals refine thn_next ⟨⟨rfl, rfl, rfl, rfl, rfl, ?_, trivial⟩, ent.go⟩
            all_goals first | (simp [Env.get, gm]; done) | (exfalso; omega)
          · refine Zc ?_
            all_goals (first | refine Zm ?_)
            all_goals (first | refine Zm ?_)
            all_goals (first | refine Run.lenO 0 rfl rfl sl_119 rfl rfl rfl ?_)
            all_goals (first | refine Zi ?_)
            all_goals (first | refine Run.tt (by first | assumption | omega) ?_ | refine Run.ff (by first | assumption | omega) ?_ | refine Run.split (fun hc48 => ?_) (fun hc48 => ?_) | refine Run.splitB (fun hc48 => ?_) (fun hc48 => ?_) | skip)
            all_goals (first | refine Zm ?_)
            all_goals (first | refine Zv ?_ | refine Zm ?_)
            all_goals (first | refine Zv ?_ | refine Zm ?_)
            all_goals (first | refine Zv ?_ | refine Zm ?_)
            all_goals (first | refine Zv ?_ | fail)
            all_goals (first | refine Zv ?_ | refine Zf fo_121_0 ?_)
            all_goals (first | refine Zv ?_ | fail)
            all_goals (first | refine Zv ?_ | fail)
            all_goals (first | refine Zq ?_)
            all_goals (refine Run.nil ?_)
            all_goals refine thn_next ⟨⟨rfl, rfl, rfl, rfl, rfl, ?_, trivial⟩, ent.go⟩
            have : left[k]? = none := List.getElem?_eq_none (by omega)
            simp [Env.get, this]
        refine WP.ite rfl (fun hy => ?_) (fun hn => ?_)
        · refine Zb ?_
          obtain ⟨m, gm, hm⟩ := hy
          have hlt := (List.getElem?_eq_some_iff.1 gm).1
          refine WP.block ?_
          refine Zc ?_
          refine Zm ?_
          refine Za ?_
          refine Zm ?_
          refine Run.nil ?_
          refine blk_norm ?_
          refine thn_next ⟨k + 1, ⟨by omega, fun j x hj hx => ?_⟩, by omega, Ko.go, ent.gc⟩
          by_cases e : j = k
          · subst e; rw [show left[j]? = some m from gm] at hx; cases hx; exact hm
          · exact hall j x (by omega) hx
        · refine Zj ?_
          refine thn_next ⟨k, ⟨hk, hall, fun m gm => ?_⟩, Ko.go, ent.gc⟩
          exact Nat.eq_zero_of_not_pos fun h => hn ⟨m, gm, h⟩
      rintro k ⟨hk, hall, hnext⟩
      refine WP.trim [3, 5, 7, 9, 10] [0, 1] ?_
      refine WP.seq ?_
      refine Zp ?_
      refine Zm ?_
      refine Zm ?_
      refine Run.lenO 0 rfl rfl sl_119 rfl rfl rfl ?_
      refine Zi ?_
      refine Ze ?_
      refine WP.ite rfl (fun hend => ?_) (fun hgo => ?_)
      · -- all are read: the first one's source is kept
        have hk2 : k = left.length := by omega
        obtain ⟨m, rest, rfl⟩ : ∃ m rest, left = m :: rest := by
          cases left with
          | nil => simp at hgt
          | cons a b => exact ⟨a, b, rfl⟩
        have h1 : ∀ x ∈ m :: rest, 0 < readsOf (m :: rest) x.to := fun x hx => by
          obtain ⟨j, hj⟩ := List.getElem?_of_mem hx
          exact hall j x (by have := (List.getElem?_eq_some_iff.1 hj).1; omega) hj
        have hft := stuck_from (temp := temp) hnd hto h1 m (by simp)
        refine WP.seq ?_
        refine WP.drawn0 cf0 mixed rfl (by kernel_rfl) ?_
        refine Zm ?_
        refine Run.loadRagg rfl rfl ag_46 rfl rfl ht rfl ?_
        refine Zm ?_
        refine Run.idxO 0 rfl rfl rfl sl_119 rfl rfl rfl rfl (by omega) (by simp) ?_
        refine Zf fo_121_1 ?_
        refine Run.loadOsub 0 0 2 rfl rfl ag_46 rfl rfl rfl rfl (y := m) rfl rfl ?_
        refine Run.build rfl bd_121 rfl rfl rfl rfl ?_
        refine Run.buildSlice (E := encMv) rfl sl_119 zr_121 ([(⟨temp, m.from_⟩ : Mv)]) rfl rfl rfl (by decide) rfl rfl ?_
        intro b71
        refine Run.append 1 rfl rfl rfl rfl rfl rfl sl_119 zr_121 rfl (src_own 2 rfl) (by first | omega | (simp <;> omega)) (by first | omega | (simp <;> omega)) ?_
        intro sv72 hv72
        refine Zm ?_
        refine Ze ?_
        refine WP.trim [3, 5, 7, 9] [0, 1] ?_
        refine Zp ?_
        refine Zm ?_
        refine Run.loadRagg rfl rfl ag_46 rfl rfl ht rfl ?_
        refine Run.idxO 0 rfl rfl rfl sl_119 rfl rfl rfl rfl (by omega) (by simp) ?_
        refine Zf fo_121_1 ?_
        refine Run.storeO 0 0 2 rfl rfl rfl rfl ag_46 rfl rfl rfl rfl (y := m) rfl (y' := (⟨m.to, temp⟩ : Mv)) rfl rfl ?_
        refine Ze ?_
        refine WP.exit ?_; refine thn_exit ?_; refine blk_hit ?_
        refine thn_next ⟨(lv, sv72, ⟨m.to, temp⟩ :: rest, out ++ [(⟨temp, m.from_⟩ : Mv)]), ⟨OrdInv.brk hO h1, by simpa using hnd, fun x hx => ?_, ?_⟩, ?_, Ko.go, ent.gc⟩
        · rcases List.mem_cons.1 hx with rfl | hx
          · exact hto m (by simp)
          · exact hto x (by simp [hx])
        · simp only [List.length_append, List.length_cons, List.length_nil, List.countP_cons, ne_eq, not_true, decide_false, hft, not_false_iff, decide_true, if_true] at hmu ⊢
          simp only [Bool.false_eq_true, if_false]
          omega
        · simp only [List.length_cons, List.countP_cons, ne_eq, not_true, decide_false, hft, not_false_iff, decide_true, if_true]
          simp only [Bool.false_eq_true, if_false]
          omega
      · refine Zb ?_
        have hlt : k < left.length := by omega
        obtain ⟨m, gm⟩ : ∃ p, left[k]? = some p := ⟨_, List.getElem?_eq_getElem hlt⟩
        have hs := at_split gm
        have he : left.eraseIdx k = left.take k ++ left.drop (k + 1) := List.eraseIdx_eq_take_drop_succ ..
        refine Zp ?_
        iterate 3 refine Zm ?_
        refine Run.idxO 0 rfl rfl rfl sl_119 rfl rfl rfl rfl (by omega) (by omega) ?_
        refine Run.loadOagg 0 k rfl rfl ag_121 rfl rfl rfl rfl rfl gm ?_
        refine Run.buildSlice (E := encMv) rfl sl_119 zr_121 ([m]) rfl rfl rfl (by decide) rfl rfl ?_
        intro b82
        refine Run.append 1 rfl rfl rfl rfl rfl rfl sl_119 zr_121 rfl (src_own 2 rfl) (by first | omega | (simp <;> omega)) (by first | omega | (simp <;> omega)) ?_
        intro sv83 hv83
        refine Zm ?_
        refine Ze ?_
        refine WP.trim [3, 5, 7, 9, 10] [0, 1] ?_
        refine WP.drawn0 cf0 mixed rfl (by kernel_rfl) ?_
        refine Zm ?_
        refine Zm ?_
        refine Run.sliceV (sv := lv) (ih := (k : Int)) rfl rfl sl_119 rfl rfl rfl rfl (by omega) (by omega) (by omega) ?_
        refine Zm ?_
        refine Zm ?_
        refine Za ?_
        refine Run.sliceV (sv := lv) (ih := (left.length : Int)) rfl rfl sl_119 rfl (by rw [← hkn.1]; rfl) rfl rfl (by omega) (by omega) (by omega) ?_
        refine Run.appendDel (E := encMv) 0 k (sv := lv) rfl rfl (by rfl) rfl rfl rfl sl_119 zr_121 rfl hlt (by omega) (by omega) ?_
        intro s2
        refine Zm ?_
        refine Run.nil ?_
        refine blk_norm ?_
        have hO2 := hO
        rw [hs] at hO2
        have hz := hnext m gm
        refine thn_next ⟨(s2, sv83, left.eraseIdx k, out ++ [m]), ⟨?_, ?_, fun x hx => hto x (List.mem_of_mem_eraseIdx hx), ?_⟩, ?_, Ko.go, ent.gc⟩
        · simp only [he]
          refine OrdInv.put hO2 (fun x hx => ?_) (by rw [← hs]; exact hz)
          obtain ⟨j, hj⟩ := List.getElem?_of_mem hx
          rw [List.getElem?_take] at hj
          split at hj
          · rename_i hjk; rw [← hs]; exact hall j x hjk hj
          · cases hj
        · simp only [he]
          have : (left.take k ++ left.drop (k + 1)).Sublist left := by
            conv => rhs; rw [hs]
            exact (List.Sublist.refl _).append (List.sublist_cons_self _ _)
          exact (this.map Mv.to).nodup hnd
        · simp only [he, List.length_append, List.length_singleton]
          have e1 := congrArg List.length hs
          rw [List.length_append, List.length_cons] at e1
          have e2 : left.countP (fun m => decide (m.from_ ≠ temp)) = (left.take k).countP (fun m => decide (m.from_ ≠ temp)) + ((left.drop (k + 1)).countP (fun m => decide (m.from_ ≠ temp)) + if decide (m.from_ ≠ temp) = true then 1 else 0) := by
            conv => lhs; rw [hs]
            rw [List.countP_append, List.countP_cons]
          rw [List.countP_append]
          omega
        · simp only [he]
          have e1 := congrArg List.length hs
          rw [List.length_append, List.length_cons] at e1
          have e3 : (left.take k ++ left.drop (k + 1)).length = (left.take k).length + (left.drop (k + 1)).length := List.length_append
          have e2 : (left.take k ++ left.drop (k + 1)).countP (fun m => decide (m.from_ ≠ temp)) ≤ left.countP (fun m => decide (m.from_ ≠ temp)) := by
            refine List.Sublist.countP_le ?_
            conv => rhs; rw [hs]
            exact (List.Sublist.refl _).append (List.sublist_cons_self _ _)
          omega
    · refine Zj ?_
      have e : left = [] := List.length_eq_zero_iff.1 (by omega)
      subst e
      refine thn_next ⟨(lv, ov, [], out), ⟨hO.done, by simp only; omega⟩, Ko.go, ent.gc⟩
  rintro ⟨lv, ov, left, out⟩ ⟨hO, hlo⟩
  simp only at hO hlo ⊢
  refine Zp ?_
  iterate 3 refine Zm ?_
  refine Ze ?_
  refine WP.ret ?_
  exact retT [4, 5] _ rfl rfl ⟨[slA 121 encMv ov.val out], ent.go, ov, out, rfl, rfl, hO, by omega⟩
end Go.Proofs.YtfaokbjpinlcaaaGreat
end
section
/- The document's maker of code: what it holds; count, word, put; walked. -/
namespace Go.Proofs.YtfaokbjpinlcaaaGreat
open Go.Sep
set_option linter.unusedSimpArgs false
set_option linter.unusedVariables false
set_option maxRecDepth 100000
attribute [local irreducible] blk slA mp mpF rows rowsBut many mpK mpE mkP
structure RZ where
  iv : SV
  jv : SV
abbrev flg (S : List Int) (i : Int) : Value := .bool (decide (i ∈ S))
abbrev rkV (S : List Int) (iv jv : Value) : List Value := [flg S 0, flg S 1, flg S 2, flg S 3, flg S 4, flg S 5, flg S 6, flg S 7, iv, jv]
abbrev rkC (bm : Nat) (S : List Int) (is : List RI) (js : List Int) (z : RZ) : List HProp := [blk bm (rkV S z.iv.val z.jv.val) 92, slA 38 encRI z.iv.val is, slA 3 encI z.jv.val js]
def rkP (bm : Nat) (S : List Int) (is : List RI) (js : List Int) : HProp := exP (fun _ : RZ => True) (rkC bm S is js)
theorem rkP_shut {bm : Nat} {S : List Int} {is : List RI} {js : List Int} (z : RZ) (Γ : List HProp) : ent (rkC bm S is js z ++ Γ) (rkP bm S is js :: Γ) :=
  exP_shut (g := fun _ : RZ => True) (Θ := rkC bm S is js) z trivial Γ
theorem flag_at {S : List Int} {iv jv : Value} : ∀ {i : Nat}, i < 8 → (rkV S iv jv)[i]? = some (flg S (i : Int))
  | 0, _ => rfl | 1, _ => rfl | 2, _ => rfl | 3, _ => rfl | 4, _ => rfl | 5, _ => rfl | 6, _ => rfl | 7, _ => rfl
/-- how many of the saved ones are below -/
def belowN (S : List Int) (n : Nat) : Nat := (List.range n).countP fun i : Nat => decide ((i : Int) ∈ S)
theorem belowN_succ (S : List Int) (n : Nat) : belowN S (n + 1) = belowN S n + if (n : Int) ∈ S then 1 else 0 := by
  unfold belowN
  rw [List.range_succ, List.countP_append, List.countP_singleton]
  by_cases h : (n : Int) ∈ S <;> simp [h]
section
variable (hR : Heap) (bm : Nat) (S : List Int) (is : List RI) (js : List Int)
set_option maxHeartbeats 2000000 in
theorem count_ok (r : Nat) (hr : r ≤ 8) : Tri Tryz.prog hR 57 #[ptrV bm, vI (r : Int)] [rkP bm S is js] fun v Γ' => v = vI (belowN S r : Int) ∧ Γ' = [rkP bm S is js] := by
  refine Tri.openX 0 ?_
  rintro ⟨iv, jv⟩ _
  refine Tri.ent (Tri.of (args := [ptrV bm, vI (r : Int)]) Tryz.func57 rfl Tryz.ntmps57 (by simp) ?_)
  refine Zp ?_
  refine Zm ?_
  refine Ze ?_
  refine Zp ?_
  refine Zm ?_
  refine Ze ?_
  refine WP.trim [0, 1, 4, 5] [0, 1, 2] ?_
  refine WP.meetC (α := Unit) (fun _ => True) (fun _ => [(5, vI (belowN S r : Int))]) (fun _ => []) ?_ ?_
  · refine Zp ?_
    refine Zm ?_
    refine Ze ?_
    refine WP.block ?_
    refine WP.trim [0, 1, 4, 5, 6] [0, 1, 2] ?_
    refine WP.loopC (α := Nat) (fun i => i ≤ r) (fun i => [(5, vI (belowN S i : Int)), (6, vI (i : Int))]) (fun _ => []) (fun i => r - i) 0 (Nat.zero_le _) ?_
    rintro i hi
    refine WP.trim [0, 1, 4, 5, 6] [0, 1, 2] ?_
    have hbl : belowN S i ≤ i := by
      unfold belowN
      have := List.countP_le_length (p := fun i : Nat => decide ((i : Int) ∈ S)) (l := List.range i)
      rwa [List.length_range] at this
    refine WP.seq ?_
    refine Zp ?_
    refine Zm ?_
    refine Zm ?_
    refine Zi ?_
    refine Ze ?_
    refine WP.ite rfl (fun hlt => ?_) (fun hge => ?_)
    · refine Zb ?_
      have hs := belowN_succ S i
      refine WP.seq ?_
      refine WP.block ?_
      refine Zp ?_
      refine Zm ?_
      refine Zm ?_
      refine Zn ?_
      refine Zf fo_92_0 ?_
      refine Run.idxArr rfl rfl rfl ar_90 rfl rfl (by first | omega | (simp <;> omega)) (by first | omega | (simp <;> omega)) ?_
      refine Run.loadB 0 (off := i) (v := flg S (i : Int)) rfl rfl ag_4 rfl rfl rfl (add_at rfl) (flag_at (by omega)) ?_
      refine Ze ?_
      refine WP.ite rfl (fun hy => ?_) (fun hy => ?_)
      · rw [if_pos hy] at hs
        refine Zc ?_
        refine Zm ?_
        refine Za ?_
        refine Zm ?_
        refine Run.nil ?_
        refine blk_norm ?_; refine thn_next ?_
        refine Zc ?_
        refine Zm ?_
        refine Za ?_
        refine Zm ?_
        refine Run.nil ?_
        exact thn_next ⟨i + 1, by omega, by omega, by rw [hs]; exact Ko.go, ent.gc⟩
      · rw [if_neg hy] at hs
        refine WP.skip ?_; refine blk_norm ?_; refine thn_next ?_
        refine Zc ?_
        refine Zm ?_
        refine Za ?_
        refine Zm ?_
        refine Run.nil ?_
        exact thn_next ⟨i + 1, by omega, by omega, by rw [hs]; exact Ko.go, ent.gc⟩
    · refine Zj ?_
      obtain rfl : i = r := by omega
      exact thn_next ⟨(), trivial, Ko.go, ent.gc⟩
  intro _ _
  refine Zp ?_
  refine Zm ?_
  refine Zm ?_
  refine Ze ?_
  refine WP.ret ?_
  exact retT [4] _ rfl rfl ⟨_, rkP_shut ⟨iv, jv⟩ [], rfl, rfl⟩
theorem word28_ok (s : Int) (hs : -1000000 ≤ s ∧ s ≤ 1000000) : Tri Tryz.prog hR 28 #[ptrV bm, vI s] [rkP bm S is js] fun v Γ' => v = vI (2 + (belowN S 8 : Int) + s) ∧ Γ' = [rkP bm S is js] := by
  have hbl : belowN S 8 ≤ 8 := by
    unfold belowN
    have := List.countP_le_length (p := fun i : Nat => decide ((i : Int) ∈ S)) (l := List.range 8)
    rwa [List.length_range] at this
  refine Tri.ent (Tri.of (args := [ptrV bm, vI s]) Tryz.func28 rfl Tryz.ntmps28 (by simp) ?_)
  refine Zp ?_
  refine Zm ?_
  refine Ze ?_
  refine Zp ?_
  refine Zm ?_
  refine Run.callP [0] ok_57 (count_ok hR bm S is js 8 (Nat.le_refl _)) ?_; rintro _ _ ⟨rfl, rfl⟩
  refine Za ?_
  refine Zm ?_
  refine Za ?_
  refine Zm ?_
  refine Ze ?_
  refine WP.ret ?_
  exact retT [4] _ rfl rfl ⟨_, ent.go, rfl, rfl⟩
theorem put111_ok (x : RI) (hb : is.length ≤ 1999999999) : Tri Tryz.prog hR 111 #[ptrV bm, vI x.op, vI x.a, vI x.b, vI x.c, vI x.n] [rkP bm S is js] fun _ Γ' => Γ' = [rkP bm S (is ++ [x]) js] := by
  refine Tri.openX 0 ?_
  rintro ⟨iv, jv⟩ _
  refine Tri.ent (Tri.of (args := [ptrV bm, vI x.op, vI x.a, vI x.b, vI x.c, vI x.n]) Tryz.func111 rfl Tryz.ntmps111 (by simp) ?_)
  refine Zc ?_
  refine Zm ?_
  refine Zm ?_
  refine Zn ?_
  refine Zf fo_92_1 ?_
  refine Zl 0 ag_29 ?_
  iterate 5 refine Zm ?_
  refine Run.build rfl bd_38 rfl rfl rfl rfl ?_
  refine Run.buildSlice (E := encRI) rfl sl_29 zr_38 ([x]) rfl rfl rfl (by decide) rfl rfl ?_
  intro b23
  refine Run.append (E := encRI) (xs := is) (ys := [x]) 1 rfl rfl rfl rfl rfl rfl sl_29 zr_38 rfl (src_own 3 rfl) (by simp only [List.length_singleton]; omega) (by simp only [List.length_singleton]; omega) ?_
  intro iv2 hiv2
  refine Zn ?_
  refine Zf fo_92_1 ?_
  refine Run.storeB 0 rfl rfl rfl rfl ag_29 rfl rfl rfl rfl rfl ?_
  refine Run.nil ?_
  exact retN [] [] rfl rfl ⟨_, (show ent _ [blk bm (rkV S iv2.val jv.val) 92, slA 38 encRI iv2.val (is ++ [x]), slA 3 encI jv.val js] from ent.go).trans (rkP_shut ⟨iv2, jv⟩ []), rfl⟩
end
end Go.Proofs.YtfaokbjpinlcaaaGreat
end
section
/- The registers that are saved: an index in a rising list is a count of flags below; plain. -/
namespace Go.Proofs.YtfaokbjpinlcaaaGreat
set_option linter.unusedVariables false
theorem idx_below : ∀ {S : List Int} {r : Int}, S.Pairwise (· < ·) → r ∈ S → S.idxOf r = S.countP (fun x => decide (x < r))
  | x :: S, r, hs, hr => by
    rw [List.pairwise_cons] at hs
    rw [List.idxOf_cons, List.countP_cons]
    by_cases e : x = r
    · subst e
      have : S.countP (fun y => decide (y < x)) = 0 := List.countP_eq_zero.2 fun y hy => by have := hs.1 y hy; simp; omega
      simp [this]
    · have hr' : r ∈ S := by rcases List.mem_cons.1 hr with h | h; exact absurd h.symm e; exact h
      have hlt := hs.1 r hr'
      have := idx_below hs.2 hr'
      have eb : (x == r) = false := by simpa using e
      simp [eb, hlt, this]
/-- the flags below r, counted -/
theorem flags_below {S : List Int} (hs : S.Pairwise (· < ·)) (h0 : ∀ x ∈ S, 0 ≤ x) (n : Nat) : (List.range n).countP (fun i : Nat => decide ((i : Int) ∈ S)) = S.countP (fun x => decide (x < (n : Int))) := by
  induction n with
  | zero => rw [List.range_zero, List.countP_nil]; exact (List.countP_eq_zero.2 fun x hx => by have := h0 x hx; simp; omega).symm
  | succ n ih =>
    rw [List.range_succ, List.countP_append, ih, List.countP_singleton]
    clear ih h0
    induction S with
    | nil => simp
    | cons x S ih =>
      rw [List.pairwise_cons] at hs
      have ih := ih hs.2
      rw [List.countP_cons, List.countP_cons]
      by_cases hx : x = (n : Int)
      · subst hx
        have hn : (n : Int) ∉ S := fun h => by have := hs.1 _ h; omega
        simp only [List.mem_cons, true_or, decide_true, if_true, hn, decide_false] at ih ⊢
        have e1 : decide ((n : Int) < (n : Int)) = false := by simp
        have e2 : decide ((n : Int) < ((n + 1 : Nat) : Int)) = true := by simp; omega
        rw [e1, e2]
        simp at ih ⊢
        omega
      · have hm : ((n : Int) ∈ x :: S) ↔ ((n : Int) ∈ S) := by simp [Ne.symm hx]
        have e1 : decide (x < (n : Int)) = decide (x < ((n + 1 : Nat) : Int)) := by
          apply decide_eq_decide.2
          constructor <;> intro <;> omega
        simp only [hm, e1]
        omega
end Go.Proofs.YtfaokbjpinlcaaaGreat
end
section
/- The document's maker of code: one move; walked. -/
namespace Go.Proofs.YtfaokbjpinlcaaaGreat
open Go.Sep
set_option linter.unusedSimpArgs false
set_option linter.unusedVariables false
set_option maxRecDepth 100000
attribute [local irreducible] blk slA mp mpF rows rowsBut many mpK mpE rkP
/-- what is asked of the saved ones -/
structure SvOk (S : List Int) : Prop where
  lt : S.Pairwise (· < ·)
  rg : ∀ r ∈ S, 0 ≤ r ∧ r < 8
theorem SvOk.below {S : List Int} (h : SvOk S) : belowN S 8 = S.length := by
  unfold belowN
  rw [flags_below h.lt (fun x hx => (h.rg x hx).1) 8]
  exact List.countP_eq_length.2 fun x hx => by have := (h.rg x hx).2; simpa using this
theorem SvOk.idx {S : List Int} (h : SvOk S) {r : Int} (hr : r ∈ S) : (belowN S r.toNat : Int) = S.idxOf r := by
  have h0 := (h.rg r hr).1
  unfold belowN
  rw [flags_below h.lt (fun x hx => (h.rg x hx).1) r.toNat, idx_below h.lt hr, Int.toNat_of_nonneg h0]
theorem SvOk.word {S : List Int} (h : SvOk S) (s : Int) : 2 + (belowN S 8 : Int) + s = slotW S s := by rw [h.below]; rfl
section
variable (hR : Heap) (bm : Nat) (S : List Int) (is : List RI) (js : List Int)
set_option maxHeartbeats 2000000 in
theorem move54_ok (to fr : Lc) (hS : SvOk S) (hn : near to) (hn2 : near fr) (hk : to.kind = 1 ∨ to.kind = 2) (hk2 : fr.kind = 1 ∨ fr.kind = 2) (hb : is.length ≤ 1999999000) :
    Tri Tryz.prog hR 54 #[ptrV bm, encL to, encL fr] [rkP bm S is js] fun _ Γ' => Γ' = [rkP bm S (is ++ moveC S to fr) js] := by
  refine Tri.ent (Tri.of (args := [ptrV bm, .agg ⟨lcv to⟩, .agg ⟨lcv fr⟩]) Tryz.func54 rfl Tryz.ntmps54 (by simp) ?_)
  refine Zp ?_
  refine Run.box rfl rfl rfl rfl rfl ?_
  intro b4
  refine Run.box rfl rfl rfl rfl rfl ?_
  intro b5
  refine Ze ?_
  refine WP.seq ?_
  refine Zp ?_
  refine Run.loadBagg 1 rfl rfl ag_46 rfl rfl rfl rfl rfl ?_
  refine Run.loadBagg 2 rfl rfl ag_46 rfl rfl rfl rfl rfl ?_
  refine Run.eqS rfl rfl rfl is_46 nf_46 rfl rfl rfl rfl ?_
  refine Run.eqv (v' := .bool (decide (to = fr))) (by rw [← lcEq_bool]) ?_
  refine Ze ?_
  refine WP.ite rfl (fun he => ?_) (fun hne => ?_)
  · refine WP.ret ?_; refine thn_ret ?_
    exact retT [] [] rfl rfl ⟨[rkP bm S is js], ent.go, by unfold moveC; rw [if_pos he, List.append_nil]⟩
  refine Zb ?_
  refine WP.block ?_
  refine WP.seqCut [(0, ptrV bm), (4, ptrV b4), (5, ptrV b5), (21, .bool (decide (to.kind = 1 ∧ fr.kind = 1)))] [rkP bm S is js, blk b4 (lcv to) 46, blk b5 (lcv fr) 46] ?_ ?_
  · refine Zc ?_
    all_goals (first | refine Zf fo_46_0 ?_)
    all_goals (first | refine Zl 1 ag_3 ?_)
    all_goals (first | refine Zi ?_)
    all_goals (first | refine Run.tt (by first | assumption | omega) ?_ | refine Run.ff (by first | assumption | omega) ?_ | refine Run.split (fun hc24 => ?_) (fun hc24 => ?_) | refine Run.splitB (fun hc24 => ?_) (fun hc24 => ?_) | skip)
    all_goals (first | refine Zm ?_)
    all_goals (first | refine Zv ?_ | refine Zf fo_46_0 ?_)
    all_goals (first | refine Zv ?_ | refine Zl 2 ag_3 ?_)
    all_goals (first | refine Zv ?_ | refine Zi ?_)
    all_goals (first | refine Zq ?_)
    all_goals (first | refine Zm ?_)
    all_goals (refine Run.nil ?_)
    all_goals refine thn_next ⟨⟨rfl, rfl, rfl, ?_, trivial⟩, ent.go⟩
    all_goals simp [Env.get, *]
  refine WP.ite rfl (fun h1 => ?_) (fun h1 => ?_)
  · have e : moveC S to fr = [⟨2, to.n, fr.n, 0, 0⟩] := by
      have hx : ¬ fr.n = to.n := fun e => hne (by obtain ⟨a, b⟩ := to; obtain ⟨c, d⟩ := fr; simp only at h1 e ⊢; rw [h1.1, h1.2, e])
      unfold moveC loadC; rw [if_neg hne, if_pos h1.1, if_neg (by omega), if_neg hx]
    refine Zc ?_
    refine Zm ?_
    refine Zf fo_46_1 ?_
    refine Zl 1 ag_3 ?_
    refine Zf fo_46_1 ?_
    refine Zl 2 ag_3 ?_
    refine Run.callP [0] ok_111 (put111_ok hR bm S is js ⟨2, to.n, fr.n, 0, 0⟩ (by omega)) ?_; rintro _ _ rfl
    refine Run.nil ?_
    refine blk_norm ?_
    exact retN [] [] rfl rfl ⟨[rkP bm S (is ++ [⟨2, to.n, fr.n, 0, 0⟩]) js], ent.go, by rw [e]⟩
  refine Zp ?_
  refine Zf fo_46_0 ?_
  refine Zl 1 ag_3 ?_
  refine Zi ?_
  refine Zm ?_
  refine Ze ?_
  refine WP.ite rfl (fun h2 => ?_) (fun h2 => ?_)
  · have e : moveC S to fr = [⟨24, to.n, 0, 0, slotW S fr.n⟩] := by
      unfold moveC loadC; rw [if_neg hne, if_pos h2, if_pos (by omega)]
    generalize hsw : slotW S fr.n = sw at e
    refine WP.via (Γ' := [rkP bm S is js] ++ [blk b4 (lcv to) 46, blk b5 (lcv fr) 46]) (ent.refl _) ?_
    refine WP.freeze (Γ := [rkP bm S is js]) [blk b4 (lcv to) 46, blk b5 (lcv fr) 46] fun g hg hd => ?_
    have l4 := lent_blk (v := vI to.n) (hR := hR) 0 1 rfl rfl hg hd
    have l5 := lent_blk (v := vI fr.n) (hR := hR) 1 1 rfl rfl hg hd
    refine WP.drawn0 cfF mixed rfl (by kernel_rfl) ?_
    refine Zm ?_
    refine Zf fo_46_1 ?_
    refine Run.loadF rfl rfl ag_3 rfl rfl l4 ?_
    refine Zm ?_
    refine Zf fo_46_1 ?_
    refine Run.loadF rfl rfl ag_3 rfl rfl l5 ?_
    refine Run.callP [0] ok_28 (word28_ok (un hR g) bm S is js fr.n hn2) ?_; rintro _ _ ⟨rfl, rfl⟩; refine Run.eqv (v' := vI sw) (by rw [hS.word, hsw]) ?_
    refine Run.callP [0] ok_111 (put111_ok (un hR g) bm S is js ⟨24, to.n, 0, 0, sw⟩ (by omega)) ?_; rintro _ _ rfl
    refine Run.nil ?_
    refine blk_norm ?_
    exact retN [] [] rfl rfl ⟨[rkP bm S (is ++ [⟨24, to.n, 0, 0, sw⟩]) js], ent.go, by rw [e]⟩
  refine Zp ?_
  refine Zf fo_46_0 ?_
  refine Zl 2 ag_3 ?_
  refine Zi ?_
  refine Zm ?_
  refine Ze ?_
  refine WP.ite rfl (fun h3 => ?_) (fun h3 => ?_)
  · have e : moveC S to fr = [⟨25, fr.n, 0, 0, slotW S to.n⟩] := by
      unfold moveC storeC; rw [if_neg hne, if_neg h2, if_pos h3, if_pos (by omega)]
    generalize hsw : slotW S to.n = sw at e
    refine WP.via (Γ' := [rkP bm S is js] ++ [blk b4 (lcv to) 46, blk b5 (lcv fr) 46]) (ent.refl _) ?_
    refine WP.freeze (Γ := [rkP bm S is js]) [blk b4 (lcv to) 46, blk b5 (lcv fr) 46] fun g hg hd => ?_
    have l4 := lent_blk (v := vI to.n) (hR := hR) 0 1 rfl rfl hg hd
    have l5 := lent_blk (v := vI fr.n) (hR := hR) 1 1 rfl rfl hg hd
    refine WP.drawn0 cfF mixed rfl (by kernel_rfl) ?_
    refine Zm ?_
    refine Zf fo_46_1 ?_
    refine Run.loadF rfl rfl ag_3 rfl rfl l5 ?_
    refine Zm ?_
    refine Zf fo_46_1 ?_
    refine Run.loadF rfl rfl ag_3 rfl rfl l4 ?_
    refine Run.callP [0] ok_28 (word28_ok (un hR g) bm S is js to.n hn) ?_; rintro _ _ ⟨rfl, rfl⟩; refine Run.eqv (v' := vI sw) (by rw [hS.word, hsw]) ?_
    refine Run.callP [0] ok_111 (put111_ok (un hR g) bm S is js ⟨25, fr.n, 0, 0, sw⟩ (by omega)) ?_; rintro _ _ rfl
    refine Run.nil ?_
    refine blk_norm ?_
    exact retN [] [] rfl rfl ⟨[rkP bm S (is ++ [⟨25, fr.n, 0, 0, sw⟩]) js], ent.go, by rw [e]⟩
  have e : moveC S to fr = [⟨24, 8, 0, 0, slotW S fr.n⟩] ++ [⟨25, 8, 0, 0, slotW S to.n⟩] := by
    unfold moveC loadC storeC; rw [if_neg hne, if_neg h2, if_neg h3, if_pos (by omega), if_pos (by omega)]
  generalize hsw : slotW S fr.n = sw at e
  generalize hsv : slotW S to.n = tw at e
  refine Zp ?_
  refine Zm ?_
  refine Zm ?_
  refine Zf fo_46_1 ?_
  refine Zl 2 ag_3 ?_
  refine Run.callP [0] ok_28 (word28_ok hR bm S is js fr.n hn2) ?_; rintro _ _ ⟨rfl, rfl⟩; refine Run.eqv (v' := vI sw) (by rw [hS.word, hsw]) ?_
  refine Run.callP [0] ok_111 (put111_ok hR bm S is js ⟨24, 8, 0, 0, sw⟩ (by omega)) ?_; rintro _ _ rfl
  refine Ze ?_
  refine Zc ?_
  refine Zm ?_
  refine Zm ?_
  refine Zf fo_46_1 ?_
  refine Zl 1 ag_3 ?_
  refine Run.callP [0] ok_28 (word28_ok hR bm S (is ++ [⟨24, 8, 0, 0, sw⟩]) js to.n hn) ?_; rintro _ _ ⟨rfl, rfl⟩; refine Run.eqv (v' := vI tw) (by rw [hS.word, hsv]) ?_
  refine Run.callP [0] ok_111 (put111_ok hR bm S (is ++ [⟨24, 8, 0, 0, sw⟩]) js ⟨25, 8, 0, 0, tw⟩ (by rw [List.length_append, List.length_singleton]; omega)) ?_; rintro _ _ rfl
  refine Run.nil ?_
  refine blk_norm ?_
  exact retN [] [] rfl rfl ⟨[rkP bm S ((is ++ [⟨24, 8, 0, 0, sw⟩]) ++ [⟨25, 8, 0, 0, tw⟩]) js], ent.go, by rw [e, List.append_assoc]⟩
end
end Go.Proofs.YtfaokbjpinlcaaaGreat
end
section
/- The document's maker of code: many moves, an operand that is brought; walked. -/
namespace Go.Proofs.YtfaokbjpinlcaaaGreat
open Go.Sep
set_option linter.unusedSimpArgs false
set_option linter.unusedVariables false
set_option maxRecDepth 100000
attribute [local irreducible] blk slA mp mpF rows rowsBut many mpK mpE rkP
section
variable (hR : Heap) (bm : Nat) (S : List Int) (is : List RI) (js : List Int)
set_option maxHeartbeats 2000000 in
theorem brought_ok (l : Lc) (r : Int) (hS : SvOk S) (hn : near l) (hb : is.length ≤ 1999999000) :
    Tri Tryz.prog hR 112 #[ptrV bm, encL l, vI r] [rkP bm S is js] fun v Γ' => v = vI (if l.kind = 2 then r else l.n) ∧ Γ' = [rkP bm S (is ++ if l.kind = 2 then loadC S r l else []) js] := by
  refine Tri.ent (Tri.of (args := [ptrV bm, .agg ⟨lcv l⟩, vI r]) Tryz.func112 rfl Tryz.ntmps112 (by simp) ?_)
  refine Zp ?_
  refine Run.box rfl rfl rfl rfl rfl ?_
  intro b4
  refine Zm ?_
  refine Ze ?_
  refine WP.seq ?_
  refine Zp ?_
  refine Zf fo_46_0 ?_
  refine Zl 1 ag_3 ?_
  refine Zi ?_
  refine Ze ?_
  refine WP.ite rfl (fun h2 => ?_) (fun h2 => ?_)
  · have e : loadC S r l = [⟨24, r, 0, 0, slotW S l.n⟩] := by unfold loadC; rw [if_pos h2]
    rw [if_pos h2, if_pos h2, e]
    generalize hsw : slotW S l.n = sw
    refine Zp ?_
    iterate 3 refine Zm ?_
    refine Zf fo_46_1 ?_
    refine Zl 1 ag_3 ?_
    refine Run.callP [0] ok_28 (word28_ok hR bm S is js l.n hn) ?_; rintro _ _ ⟨rfl, rfl⟩; refine Run.eqv (v' := vI sw) (by rw [hS.word, hsw]) ?_
    refine Run.callP [0] ok_111 (put111_ok hR bm S is js ⟨24, r, 0, 0, sw⟩ (by omega)) ?_; rintro _ _ rfl
    refine Ze ?_
    refine Zp ?_
    refine Zm ?_
    refine Zm ?_
    refine Ze ?_
    refine WP.ret ?_; refine thn_ret ?_
    exact retT [6] _ rfl rfl ⟨[rkP bm S (is ++ [⟨24, r, 0, 0, sw⟩]) js], ent.go, rfl, rfl⟩
  refine Zb ?_
  rw [if_neg h2, if_neg h2, List.append_nil]
  refine Zp ?_
  refine Zf fo_46_1 ?_
  refine Zl 1 ag_3 ?_
  refine Zm ?_
  refine Ze ?_
  refine WP.ret ?_
  exact retT [6] _ rfl rfl ⟨[rkP bm S is js], ent.go, rfl, rfl⟩
set_option maxHeartbeats 2000000 in
theorem moves52_ok (lv : SV) (l : List Mv) (hl : SlR encMv.rd hR lv.val l) (hlen : l.length ≤ 300000) (hG : GoodL (regL 11) l) (hn : ∀ m ∈ l, near m.to ∧ near m.from_) (hk : ∀ m ∈ l, (m.to.kind = 1 ∨ m.to.kind = 2) ∧ (m.from_.kind = 1 ∨ m.from_.kind = 2)) (hS : SvOk S) (hb : is.length ≤ 1900000000) :
    Tri Tryz.prog hR 52 #[ptrV bm, lv.val] [rkP bm S is js] fun _ Γ' => Γ' = [rkP bm S (is ++ movesC S l) js] ∧ (movesC S l).length ≤ 4 * l.length := by
  refine Tri.ent (Tri.of (args := [ptrV bm, lv.val]) Tryz.func52 rfl Tryz.ntmps52 (by simp) ?_)
  refine Zp ?_
  refine Zm ?_
  refine Run.build rfl bd_46 rfl rfl rfl rfl ?_
  refine Run.callP [] ok_110 (order13_ok hR lv l (regL 11) hl hlen hG) ?_; rintro _ _ ⟨ov, o, rfl, rfl, hO, hol⟩
  refine Zm ?_
  refine Run.extract rfl rfl rfl rfl rfl ?_
  refine Run.extract rfl rfl rfl rfl rfl ?_
  refine Zm ?_
  refine Ze ?_
  have hon : ∀ m ∈ o, near m.to ∧ near m.from_ := hO.len near (by simp [near, regL]) fun m hm => hn m (List.mem_filter.1 hm).1
  have hok : ∀ m ∈ o, (m.to.kind = 1 ∨ m.to.kind = 2) ∧ (m.from_.kind = 1 ∨ m.from_.kind = 2) := hO.len (fun l => l.kind = 1 ∨ l.kind = 2) (by simp [regL]) fun m hm => hk m (List.mem_filter.1 hm).1
  refine WP.trim [0, 1] [0, 1] ?_
  refine Zp ?_
  refine Zm ?_
  refine Ze ?_
  refine WP.block ?_
  refine WP.trim [0, 1, 4] [0, 1] ?_
  refine WP.loopC (α := Nat) (fun i => i ≤ o.length) (fun i => [(4, vI (i : Int))]) (fun i => [(1, rkP bm S (is ++ (o.take i).flatMap fun m => moveC S m.to m.from_) js)]) (fun i => o.length - i) 0 (Nat.zero_le _) ?_ (he := by rw [List.take_zero, List.flatMap_nil, List.append_nil]; exact ent.gc)
  intro i hi
  refine WP.trim [0, 1, 4] [0, 1] ?_
  refine WP.seq ?_
  refine Zp ?_
  refine Zm ?_
  refine Zm ?_
  refine Run.lenO 0 rfl rfl sl_119 rfl rfl rfl ?_
  refine Zi ?_
  refine Ze ?_
  refine WP.ite rfl (fun hlt => ?_) (fun hge => ?_)
  · refine Zb ?_
    obtain ⟨m, gm⟩ : ∃ m, o[i]? = some m := ⟨_, List.getElem?_eq_getElem (by omega)⟩
    have hm := hon m (List.mem_of_getElem? gm)
    have hm2 := hok m (List.mem_of_getElem? gm)
    have hlen2 := moves_len S (o.take i)
    rw [List.length_take] at hlen2
    refine WP.seq ?_
    refine WP.block ?_
    refine WP.drawn0 cf0 mixed rfl (by kernel_rfl) ?_
    iterate 3 refine Zm ?_
    refine Run.idxO 0 rfl rfl rfl sl_119 rfl rfl rfl rfl (by omega) (by omega) ?_
    refine Zf fo_121_0 ?_
    refine Run.loadOsub 0 i 0 rfl rfl ag_46 rfl rfl rfl rfl gm rfl ?_
    refine Zm ?_
    refine Zm ?_
    refine Run.idxO 0 rfl rfl rfl sl_119 rfl rfl rfl rfl (by omega) (by omega) ?_
    refine Zf fo_121_1 ?_
    refine Run.loadOsub 0 i 2 rfl rfl ag_46 rfl rfl rfl rfl gm rfl ?_
    refine Run.callP [1] ok_54 (move54_ok hR bm S (is ++ (o.take i).flatMap fun m => moveC S m.to m.from_) js m.to m.from_ hS hm.1 hm.2 hm2.1 hm2.2 (by rw [List.length_append]; omega)) ?_; rintro _ _ rfl
    refine Run.nil ?_
    refine blk_norm ?_; refine thn_next ?_
    refine Zc ?_
    refine Zm ?_
    refine Za ?_
    refine Zm ?_
    refine Run.nil ?_
    have e : (is ++ (o.take i).flatMap fun m => moveC S m.to m.from_) ++ moveC S m.to m.from_ = is ++ (o.take (i + 1)).flatMap fun m => moveC S m.to m.from_ := by
      rw [List.take_add_one, gm, List.append_assoc]; simp
    refine thn_next ⟨i + 1, by omega, by omega, Ko.go, ?_⟩
    rw [e]; exact ent.go
  · refine Zj ?_
    have e : i = o.length := by omega
    subst e
    have hml := moves_len S o
    refine retN [] [] rfl rfl ⟨[rkP bm S (is ++ movesC S l) js], ?_, rfl, by rw [movesC_len S hO]; omega⟩
    rw [movesC_len S hO, List.take_length]; exact ent.go
end
end Go.Proofs.YtfaokbjpinlcaaaGreat
end
section
/- The document's maker of code: a jump; walked. -/
namespace Go.Proofs.YtfaokbjpinlcaaaGreat
open Go.Sep
set_option linter.unusedSimpArgs false
set_option linter.unusedVariables false
set_option maxRecDepth 100000
attribute [local irreducible] blk slA mp mpF rows rowsBut many mpK mpE
section
variable (hR : Heap) (bm : Nat) (S : List Int) (is : List RI) (js : List Int)
set_option maxHeartbeats 2000000 in
theorem to113_ok (op r b : Int) (hb : is.length ≤ 1999999000) (hj : js.length ≤ 1999999000) : Tri Tryz.prog hR 113 #[ptrV bm, vI op, vI r, vI b] [rkP bm S is js] fun _ Γ' => Γ' = [rkP bm S (is ++ [⟨op, r, 0, 0, b⟩]) (js ++ [(is.length : Int)])] := by
  refine Tri.openX 0 ?_
  rintro ⟨iv, jv⟩ _
  refine Tri.ent (Tri.of (args := [ptrV bm, vI op, vI r, vI b]) Tryz.func113 rfl Tryz.ntmps113 (by simp) ?_)
  refine WP.seq ?_
  refine WP.drawn0 cf0 mixed rfl (by kernel_rfl) ?_
  refine Zm ?_
  refine Zm ?_
  refine Zn ?_
  refine Zf fo_92_2 ?_
  refine Zl 0 ag_44 ?_
  refine Zm ?_
  refine Zn ?_
  refine Zf fo_92_1 ?_
  refine Zl 0 ag_29 ?_
  refine Run.lenO 1 rfl rfl sl_29 rfl rfl rfl ?_
  refine Run.buildSlice (E := encI) rfl sl_44 zr_3 ([(is.length : Int)]) rfl rfl rfl (by decide) rfl rfl ?_
  intro b18
  refine Run.append (E := encI) (xs := js) (ys := [(is.length : Int)]) 2 rfl rfl rfl rfl rfl rfl sl_44 zr_3 rfl (src_own 3 rfl) (by simp only [List.length_singleton]; omega) (by simp only [List.length_singleton]; omega) ?_
  intro jv2 hjv2
  refine Zn ?_
  refine Zf fo_92_2 ?_
  refine Run.storeB 0 rfl rfl rfl rfl ag_44 rfl rfl rfl rfl rfl ?_
  refine Ze ?_
  refine WP.via (Γ' := [rkP bm S is (js ++ [(is.length : Int)])]) ((show ent _ [blk bm (rkV S iv.val jv2.val) 92, slA 38 encRI iv.val is, slA 3 encI jv2.val (js ++ [(is.length : Int)])] from ent.go).trans (rkP_shut ⟨iv, jv2⟩ [])) ?_
  refine Zc ?_
  iterate 4 refine Zm ?_
  refine Run.callP [0] ok_111 (put111_ok hR bm S is (js ++ [(is.length : Int)]) ⟨op, r, 0, 0, b⟩ (by omega)) ?_; rintro _ _ rfl
  refine Run.nil ?_
  exact retN [] [] rfl rfl ⟨[rkP bm S (is ++ [⟨op, r, 0, 0, b⟩]) (js ++ [(is.length : Int)])], ent.go, rfl⟩
end
end Go.Proofs.YtfaokbjpinlcaaaGreat
end
section
/- The document's maker of code: the end of a block; walked. -/
namespace Go.Proofs.YtfaokbjpinlcaaaGreat
open Go.Sep
set_option linter.unusedSimpArgs false
set_option linter.unusedVariables false
set_option maxRecDepth 100000
attribute [local irreducible] blk slA mp mpF rows rowsBut many mpK mpE rkP
section
variable (hR : Heap) (bm : Nat) (S : List Int) (is : List RI) (js : List Int)
theorem brought2_ok (l : Lc) (hS : SvOk S) (hn : near l) (hb : is.length ≤ 1999999000) :
    Tri Tryz.prog hR 112 #[ptrV bm, encL l, vI 8] [rkP bm S is js] fun v Γ' => v = vI (regOf 0 l) ∧ Γ' = [rkP bm S (is ++ readsC S 0 [l]) js] := by
  have e1 : (if l.kind = 2 then loadC S 8 l else []) = readsC S 0 [l] := by simp [readsC]
  have e2 : (if l.kind = 2 then (8 : Int) else l.n) = regOf 0 l := by unfold regOf; simp
  have := brought_ok hR bm S is js l 8 hS hn hb
  rw [e1, e2] at this
  exact this
set_option maxHeartbeats 4000000 in
theorem term56_ok (k : Nat) (t : AT) (v : SV) (hv : SlR rdI hR v.val t.to) (h : TermOk t) (hz : noneB t.value = decide (t.value.kind = 0)) (hkk : t.value.kind = 0 ∨ t.value.kind = 1 ∨ t.value.kind = 2) (hS : SvOk S) (hk : k ≤ 1000000) (hb : is.length ≤ 1800000000) (hj : js.length ≤ 1800000000) :
    Tri Tryz.prog hR 56 #[ptrV bm, vI (k : Int), .agg ⟨atv t v.val⟩] [rkP bm S is js] fun _ Γ' => Γ' = [rkP bm S (is ++ (termC S k t).map Prod.fst) (js ++ jmpI is.length (termC S k t))] := by
  have hrl := readsC_len S [t.value] 0
  have hll := loadC_len S 0 t.value
  simp only [List.length_singleton] at hrl
  refine Tri.ent (Tri.of (args := [ptrV bm, vI (k : Int), .agg ⟨atv t v.val⟩]) Tryz.func56 rfl Tryz.ntmps56 (by simp) ?_)
  refine Zp ?_
  refine Run.box rfl rfl rfl rfl rfl ?_
  intro b5
  refine Ze ?_
  refine Zp ?_
  refine Zf fo_56_0 ?_
  refine Zl 1 ag_3 ?_
  refine Ze ?_
  refine WP.block ?_
  refine WP.trim [0, 1, 5, 9] [0, 1] ?_
  refine Zp ?_
  refine Zi ?_
  refine Zm ?_
  refine Ze ?_
  refine WP.ite rfl (fun h1 => ?_) (fun h1 => ?_)
  · obtain ⟨b, hb1⟩ : ∃ b, t.to = [b] := by rcases h.to with h | h | h | h <;> first | exact h.2 | (exfalso; omega)
    have g0 : t.to[(0 : Int).toNat]? = some b := by rw [hb1]; rfl
    refine Zp ?_
    refine Zf fo_56_2 ?_
    refine Zl 1 ag_44 ?_
    refine Run.idxR rfl rfl rfl sl_44 rfl rfl hv (by rfl) (by omega) (by rw [hb1]; simp) ?_
    refine Zr ag_3 (SlR.cell0 hv g0 rfl) ?_
    refine Zm ?_
    refine Za ?_
    refine Zi ?_
    refine Ze ?_
    refine WP.ite rfl (fun hne => ?_) (fun he => ?_)
    · refine Zc ?_
      refine Zm ?_
      refine Zf fo_56_2 ?_
      refine Zl 1 ag_44 ?_
      refine Run.idxR rfl rfl rfl sl_44 rfl rfl hv (by rfl) (by omega) (by rw [hb1]; simp) ?_
      refine Zr ag_3 (SlR.cell0 hv g0 rfl) ?_
      refine Run.callP [0] ok_113 (to113_ok hR bm S is js 21 0 b (by omega) (by omega)) ?_; rintro _ _ rfl
      refine Run.nil ?_
      refine blk_norm ?_
      have e : termC S k t = [(⟨21, 0, 0, 0, b⟩, true)] := by simp [termC, h1, hb1, hne]
      exact retN [] [] rfl rfl ⟨[rkP bm S (is ++ [⟨21, 0, 0, 0, b⟩]) (js ++ [(is.length : Int)])], ent.go, by rw [e]; rfl⟩
    · refine WP.skip ?_; refine blk_norm ?_
      have e : termC S k t = [] := by simp [termC, h1, hb1, Decidable.not_not.1 he]
      exact retN [] [] rfl rfl ⟨[rkP bm S is js], ent.go, by rw [e]; simp [jmpI]⟩
  have hl1 : (is ++ readsC S 0 [t.value]).length = is.length + (readsC S 0 [t.value]).length := List.length_append
  have e2 : ∀ q : List (RI × Bool), termC S k t = (readsC S 0 [t.value]).map (·, false) ++ q → (is ++ (termC S k t).map Prod.fst = is ++ readsC S 0 [t.value] ++ q.map Prod.fst) ∧ jmpI is.length (termC S k t) = jmpI (is ++ readsC S 0 [t.value]).length q := fun q hq => by
    rw [hq, List.map_append, fst_none, jmpI_app, jmpI_none, List.nil_append, List.length_map, ← List.append_assoc, hl1]
    exact ⟨rfl, rfl⟩
  refine Zp ?_
  refine Zi ?_
  refine Zm ?_
  refine Ze ?_
  refine WP.ite rfl (fun h2 => ?_) (fun h2 => ?_)
  · obtain ⟨b, c, hb1⟩ : ∃ b c, t.to = [b, c] := by rcases h.to with h | h | h | h <;> first | exact h.2 | (exfalso; omega)
    have g0 : t.to[(0 : Int).toNat]? = some b := by rw [hb1]; rfl
    have g1 : t.to[(1 : Int).toNat]? = some c := by rw [hb1]; rfl
    refine Zp ?_
    refine Zm ?_
    refine Zf fo_56_1 ?_
    refine Run.loadBagg 1 rfl rfl ag_46 rfl rfl rfl rfl rfl ?_
    refine Run.callP [0] ok_112 (brought2_ok hR bm S is js t.value hS h.vn (by omega)) ?_; rintro _ _ ⟨rfl, rfl⟩
    refine Zm ?_
    refine Ze ?_
    refine WP.trim [0, 1, 5, 6] [0, 1] ?_
    refine WP.block ?_
    refine Zp ?_
    refine Zf fo_56_2 ?_
    refine Zl 1 ag_44 ?_
    refine Run.idxR rfl rfl rfl sl_44 rfl rfl hv (by rfl) (by omega) (by rw [hb1]; simp) ?_
    refine Zr ag_3 (SlR.cell0 hv g0 rfl) ?_
    refine Zm ?_
    refine Za ?_
    refine Zi ?_
    refine Zm ?_
    refine Ze ?_
    refine WP.ite rfl (fun he => ?_) (fun hne => ?_)
    · refine Zc ?_
      refine Zm ?_
      refine Zm ?_
      refine Zf fo_56_2 ?_
      refine Zl 1 ag_44 ?_
      refine Run.idxR rfl rfl rfl sl_44 rfl rfl hv (by rfl) (by omega) (by rw [hb1]; simp) ?_
      refine Zr ag_3 (SlR.cell0 hv g1 rfl) ?_
      refine Run.callP [0] ok_113 (to113_ok hR bm S (is ++ readsC S 0 [t.value]) js 22 (regOf 0 t.value) c (by omega) (by omega)) ?_; rintro _ _ rfl
      refine Run.nil ?_
      refine blk_norm ?_; refine blk_norm ?_
      obtain ⟨q1, q2⟩ := e2 [(⟨22, regOf 0 t.value, 0, 0, c⟩, true)] (by simp [termC, h2, hb1, he])
      exact retN [] [] rfl rfl ⟨[rkP bm S (is ++ readsC S 0 [t.value] ++ [⟨22, regOf 0 t.value, 0, 0, c⟩]) (js ++ [((is ++ readsC S 0 [t.value]).length : Int)])], ent.go, by rw [q1, q2]; rfl⟩
    refine Zp ?_
    refine Zf fo_56_2 ?_
    refine Zl 1 ag_44 ?_
    refine Run.idxR rfl rfl rfl sl_44 rfl rfl hv (by rfl) (by omega) (by rw [hb1]; simp) ?_
    refine Zr ag_3 (SlR.cell0 hv g1 rfl) ?_
    refine Zm ?_
    refine Za ?_
    refine Zi ?_
    refine Zm ?_
    refine Ze ?_
    refine WP.ite rfl (fun he2 => ?_) (fun hne2 => ?_)
    · refine Zc ?_
      refine Zm ?_
      refine Zm ?_
      refine Zf fo_56_2 ?_
      refine Zl 1 ag_44 ?_
      refine Run.idxR rfl rfl rfl sl_44 rfl rfl hv (by rfl) (by omega) (by rw [hb1]; simp) ?_
      refine Zr ag_3 (SlR.cell0 hv g0 rfl) ?_
      refine Run.callP [0] ok_113 (to113_ok hR bm S (is ++ readsC S 0 [t.value]) js 23 (regOf 0 t.value) b (by omega) (by omega)) ?_; rintro _ _ rfl
      refine Run.nil ?_
      refine blk_norm ?_; refine blk_norm ?_
      obtain ⟨q1, q2⟩ := e2 [(⟨23, regOf 0 t.value, 0, 0, b⟩, true)] (by simp [termC, h2, hb1, hne, he2])
      exact retN [] [] rfl rfl ⟨[rkP bm S (is ++ readsC S 0 [t.value] ++ [(⟨23, regOf 0 t.value, 0, 0, b⟩ : RI)]) (js ++ [((is ++ readsC S 0 [t.value]).length : Int)])], ent.go, by rw [q1, q2]; rfl⟩
    refine Zp ?_
    refine Zm ?_
    refine Zm ?_
    refine Zf fo_56_2 ?_
    refine Zl 1 ag_44 ?_
    refine Run.idxR rfl rfl rfl sl_44 rfl rfl hv (by rfl) (by omega) (by rw [hb1]; simp) ?_
    refine Zr ag_3 (SlR.cell0 hv g0 rfl) ?_
    refine Run.callP [0] ok_113 (to113_ok hR bm S (is ++ readsC S 0 [t.value]) js 23 (regOf 0 t.value) b (by omega) (by omega)) ?_; rintro _ _ rfl
    refine Ze ?_
    refine Zc ?_
    refine Zm ?_
    refine Zf fo_56_2 ?_
    refine Zl 1 ag_44 ?_
    refine Run.idxR rfl rfl rfl sl_44 rfl rfl hv (by rfl) (by omega) (by rw [hb1]; simp) ?_
    refine Zr ag_3 (SlR.cell0 hv g1 rfl) ?_
    refine Run.callP [0] ok_113 (to113_ok hR bm S (is ++ readsC S 0 [t.value] ++ [(⟨23, regOf 0 t.value, 0, 0, b⟩ : RI)]) (js ++ [((is ++ readsC S 0 [t.value]).length : Int)]) 21 0 c (by rw [List.length_append, List.length_singleton]; omega) (by rw [List.length_append, List.length_singleton]; omega)) ?_; rintro _ _ rfl
    refine Run.nil ?_
    refine blk_norm ?_; refine blk_norm ?_
    obtain ⟨q1, q2⟩ := e2 [(⟨23, regOf 0 t.value, 0, 0, b⟩, true), (⟨21, 0, 0, 0, c⟩, true)] (by simp [termC, h2, hb1, hne, hne2])
    refine retN [] [] rfl rfl ⟨[rkP bm S (is ++ readsC S 0 [t.value] ++ [(⟨23, regOf 0 t.value, 0, 0, b⟩ : RI)] ++ [⟨21, 0, 0, 0, c⟩]) (js ++ [((is ++ readsC S 0 [t.value]).length : Int)] ++ [((is ++ readsC S 0 [t.value] ++ [(⟨23, regOf 0 t.value, 0, 0, b⟩ : RI)]).length : Int)])], ent.go, ?_⟩
    rw [q1, q2]; simp [jmpI, Int.add_assoc]
  refine Zp ?_
  refine Zi ?_
  refine Zm ?_
  refine Ze ?_
  refine WP.ite rfl (fun h3 => ?_) (fun h3 => ?_)
  · have e : termC S k t = ((if noneB t.value then [] else loadC S 0 t.value) ++ [(⟨27, 0, 0, 0, 0⟩ : RI)]).map (·, false) := by simp [termC, h3]
    rw [e, fst_none, jmpI_none, List.append_nil, hz]
    refine WP.trim [0, 1, 5] [0, 1] ?_
    refine WP.seq ?_
    refine Zp ?_
    refine Zf fo_56_1 ?_
    refine Zf fo_46_0 ?_
    refine Zl 1 ag_3 ?_
    refine Zi ?_
    refine Ze ?_
    refine WP.ite rfl (fun hn0 => ?_) (fun hn0 => ?_)
    · have hm : moveC S ⟨1, 0⟩ t.value = loadC S 0 t.value := by
        unfold moveC
        by_cases hx : (⟨1, 0⟩ : Lc) = t.value
        · rw [if_pos hx, ← hx]; rfl
        · rw [if_neg hx]; rfl
      refine Zc ?_
      refine Zm ?_
      refine Run.build rfl bd_46 rfl rfl rfl rfl ?_
      refine Zf fo_56_1 ?_
      refine Run.loadBagg 1 rfl rfl ag_46 rfl rfl rfl rfl rfl ?_
      refine Run.callP [0] ok_54 (move54_ok hR bm S is js ⟨1, 0⟩ t.value hS (by unfold near; simp only; omega) h.vn (.inl rfl) (by omega) (by omega)) ?_; rintro _ _ rfl
      refine Ze ?_
      refine Zc ?_
      refine Zm ?_
      refine Run.callP [0] ok_111 (put111_ok hR bm S (is ++ moveC S ⟨1, 0⟩ t.value) js ⟨27, 0, 0, 0, 0⟩ (by rw [hm, List.length_append]; omega)) ?_; rintro _ _ rfl
      refine Run.nil ?_
      refine blk_norm ?_
      exact retN [] [] rfl rfl ⟨[rkP bm S ((is ++ moveC S ⟨1, 0⟩ t.value) ++ [⟨27, 0, 0, 0, 0⟩]) js], ent.go, by rw [hm, decide_eq_false hn0, List.append_assoc]; rfl⟩
    · refine Zb ?_
      refine Zc ?_
      refine Zm ?_
      refine Run.callP [0] ok_111 (put111_ok hR bm S is js ⟨27, 0, 0, 0, 0⟩ (by omega)) ?_; rintro _ _ rfl
      refine Run.nil ?_
      refine blk_norm ?_
      exact retN [] [] rfl rfl ⟨[rkP bm S (is ++ [⟨27, 0, 0, 0, 0⟩]) js], ent.go, by rw [decide_eq_true (Decidable.not_not.1 hn0)]; rfl⟩
  have h4 : t.kind = 4 := by rcases h.to with h | h | h | h <;> omega
  refine Zp ?_
  refine Zi ?_
  refine Zm ?_
  refine Ze ?_
  refine WP.ite rfl (fun _ => ?_) (fun hx => absurd h4 hx)
  have e : termC S k t = (readsC S 0 [t.value] ++ [(⟨35, regOf 0 t.value, 0, 0, 6⟩ : RI)]).map (·, false) := by simp [termC, h1, h2, h3]
  rw [e, fst_none, jmpI_none, List.append_nil]
  refine Zp ?_
  refine Zm ?_
  refine Zf fo_56_1 ?_
  refine Run.loadBagg 1 rfl rfl ag_46 rfl rfl rfl rfl rfl ?_
  refine Run.callP [0] ok_112 (brought2_ok hR bm S is js t.value hS h.vn (by omega)) ?_; rintro _ _ ⟨rfl, rfl⟩
  refine Zm ?_
  refine Ze ?_
  refine Zc ?_
  refine Zm ?_
  refine Zm ?_
  refine Run.callP [0] ok_111 (put111_ok hR bm S (is ++ readsC S 0 [t.value]) js ⟨35, regOf 0 t.value, 0, 0, 6⟩ (by omega)) ?_; rintro _ _ rfl
  refine Run.nil ?_
  refine blk_norm ?_
  exact retN [] [] rfl rfl ⟨[rkP bm S ((is ++ readsC S 0 [t.value]) ++ [⟨35, regOf 0 t.value, 0, 0, 6⟩]) js], ent.go, by rw [List.append_assoc]⟩
end
end Go.Proofs.YtfaokbjpinlcaaaGreat
end
section
/- The document's maker of code: a call; walked. -/
namespace Go.Proofs.YtfaokbjpinlcaaaGreat
open Go.Sep
set_option linter.unusedSimpArgs false
set_option linter.unusedVariables false
set_option maxRecDepth 100000
attribute [local irreducible] blk slA mp mpF rows rowsBut many mpK mpE rkP
theorem SvOk.home {S : List Int} (h : SvOk S) {r : Int} (hr : r ∈ S) : 2 + (belowN S r.toNat : Int) = homeW S r := by rw [h.idx hr]; rfl
section
variable (hR : Heap) (bm : Nat) (S : List Int) (is : List RI) (js : List Int)
theorem countI_ok (hS : SvOk S) (r : Int) (hr : r ∈ S) : Tri Tryz.prog hR 57 #[ptrV bm, vI r] [rkP bm S is js] fun v Γ' => v = vI (belowN S r.toNat : Int) ∧ Γ' = [rkP bm S is js] := by
  have h0 := hS.rg r hr
  have := count_ok hR bm S is js r.toNat (by omega)
  rw [Int.toNat_of_nonneg h0.1] at this
  exact this
set_option maxHeartbeats 4000000 in
theorem call53_ok (F : AF) (x : AI) (u v : SV) (hx : AIv hR x u.val v.val) (hF : F.slots ≤ 262144) (h : InsOk F S x) (hS : SvOk S) (hb : is.length ≤ 1800000000) :
    Tri Tryz.prog hR 53 #[ptrV bm, .agg ⟨aiv x u.val v.val⟩] [rkP bm S is js] fun _ Γ' => Γ' = [rkP bm S (is ++ callC S x) js] := by
  have hu := hx.hu
  have hv := hx.hv
  have hsl := h.sl
  have hal := h.al
  have hdn : near x.dst := h.ds.elim (fun h => (none_near h).1) fun h => (place_near hF h).1
  rw [callC_eq]
  refine Tri.ent (Tri.of (args := [ptrV bm, .agg ⟨aiv x u.val v.val⟩]) Tryz.func53 rfl Tryz.ntmps53 (by simp) ?_)
  refine Zp ?_
  refine Run.box rfl rfl rfl rfl rfl ?_
  intro b3
  refine Ze ?_
  refine WP.trim [0, 3] [0, 1] ?_
  refine WP.meetC (α := Unit) (fun _ => True) (fun _ => []) (fun _ => [(0, rkP bm S (is ++ savC 25 S x.saves) js)]) ?_ ?_
  · refine Zp ?_
    refine Zm ?_
    refine Ze ?_
    refine WP.block ?_
    refine WP.trim [0, 3, 4] [0, 1] ?_
    refine WP.loopC (α := Nat) (fun i => i ≤ x.saves.length) (fun i => [(4, vI (i : Int))]) (fun i => [(0, rkP bm S (is ++ savC 25 S (x.saves.take i)) js)]) (fun i => x.saves.length - i) 0 (Nat.zero_le _) ?_ (he := by rw [List.take_zero]; show ent _ (chgs [(0, rkP bm S (is ++ []) js)] _); rw [List.append_nil]; exact ent.gc)
    intro i hi
    refine WP.trim [0, 3, 4] [0, 1] ?_
    refine WP.seq ?_
    refine Zp ?_
    refine Zm ?_
    refine Zf fo_53_4 ?_
    refine Zl 1 ag_44 ?_
    refine Zh sl_44 hv ?_
    refine Zi ?_
    refine Ze ?_
    refine WP.ite rfl (fun hlt => ?_) (fun hge => ?_)
    · refine Zb ?_
      obtain ⟨r, gr⟩ : ∃ x', x.saves[(i : Int).toNat]? = some x' := ⟨_, List.getElem?_eq_getElem (by omega)⟩
      have gr' : x.saves[i]? = some r := gr
      have hrS := h.sv r (List.mem_of_getElem? gr)
      have hhome := hS.home hrS
      have hln : (is ++ savC 25 S (x.saves.take i)).length ≤ 1900000000 := by rw [List.length_append, savC_len, List.length_take]; omega
      have hstep := savC_step (op := 25) (S := S) gr'
      refine WP.seq ?_
      refine WP.block ?_
      have hbl : belowN S r.toNat ≤ r.toNat := by
        unfold belowN
        have := List.countP_le_length (p := fun i : Nat => decide ((i : Int) ∈ S)) (l := List.range r.toNat)
        rwa [List.length_range] at this
      have hr8 := hS.rg r hrS
      generalize hi2 : is ++ savC 25 S (x.saves.take i) = is2 at hln ⊢
      refine WP.via (Γ' := [rkP bm S is2 js] ++ [blk b3 (aiv x u.val v.val) 53]) (ent.refl _) ?_
      refine WP.freeze (Γ := [rkP bm S is2 js]) [blk b3 (aiv x u.val v.val) 53] fun g hg hd => ?_
      have l5 := lent_blk (v := v.val) (hR := hR) 0 5 rfl rfl hg hd
      have hv' : SlR rdI (un hR g) v.val x.saves := hv.mono (Sub.un_left _ _)
      refine WP.drawn0 cfF mixed rfl (by kernel_rfl) ?_
      refine Zm ?_
      refine Zf fo_53_4 ?_
      refine Run.loadF rfl rfl ag_44 rfl rfl l5 ?_
      refine Zm ?_
      refine Zx sl_44 hv' ?_
      refine Run.loadF rfl rfl ag_3 rfl rfl (SlR.cell0 hv' gr rfl) ?_
      refine Zm ?_
      refine Zf fo_53_4 ?_
      refine Run.loadF rfl rfl ag_44 rfl rfl l5 ?_
      refine Zm ?_
      refine Zx sl_44 hv' ?_
      refine Run.loadF rfl rfl ag_3 rfl rfl (SlR.cell0 hv' gr rfl) ?_
      refine Run.callP [0] ok_57 (countI_ok (un hR g) bm S is2 js hS r hrS) ?_; rintro _ _ ⟨rfl, rfl⟩
      refine Za ?_
      refine Run.eqv (v' := vI (homeW S r)) (by rw [← hhome]) ?_
      refine Run.callP [0] ok_111 (put111_ok (un hR g) bm S is2 js ⟨25, r, 0, 0, homeW S r⟩ (by omega)) ?_; rintro _ _ rfl
      refine Run.nil ?_
      refine blk_norm ?_; refine thn_next ?_
      refine Zc ?_
      refine Zm ?_
      refine Za ?_
      refine Zm ?_
      refine Run.nil ?_
      refine thn_next ⟨i + 1, by omega, by omega, Ko.go, ?_⟩
      rw [savC_step gr', ← List.append_assoc, hi2]; exact ent.go
    · refine Zj ?_
      have e : i = x.saves.length := by omega
      subst e
      refine thn_next ⟨(), trivial, Ko.go, ?_⟩
      rw [List.take_length]; exact ent.gc
  intro _ _
  have hl1 : (is ++ savC 25 S x.saves).length ≤ 1800000008 := by rw [List.length_append, savC_len]; omega
  generalize hi1 : is ++ savC 25 S x.saves = is1 at hl1 ⊢
  refine Zp ?_
  refine Zm ?_
  refine Ze ?_
  refine WP.trim [0, 3, 5] [0, 1] ?_
  refine WP.via (Γ' := [rkP bm S is1 js, blk b3 (aiv x u.val v.val) 53, slA 121 encMv nilS.val []]) (slA_nil 121 encMv _) ?_
  refine WP.meetC (α := SV) (fun _ => True) (fun sv => [(5, sv.val)]) (fun sv => [(2, slA 121 encMv sv.val (numbered x.args fun k l => ⟨regL k, l⟩))]) ?_ ?_
  · refine Zp ?_
    refine Zm ?_
    refine Ze ?_
    refine WP.block ?_
    refine WP.trim [0, 3, 5, 6] [0, 1, 2] ?_
    refine WP.loopC (α := Nat × SV) (fun z => z.1 ≤ x.args.length) (fun z => [(6, vI (z.1 : Int)), (5, z.2.val)]) (fun z => [(2, slA 121 encMv z.2.val ((numbered x.args fun k l => ⟨regL k, l⟩).take z.1))]) (fun z => x.args.length - z.1) (0, nilS) (Nat.zero_le _) ?_
    rintro ⟨i, lv⟩ hi
    simp only at hi ⊢
    refine WP.trim [0, 3, 5, 6] [0, 1, 2] ?_
    refine WP.seq ?_
    refine Zp ?_
    refine Zm ?_
    refine Zf fo_53_3 ?_
    refine Zl 1 ag_48 ?_
    refine Zh sl_48 hu ?_
    refine Zi ?_
    refine Ze ?_
    refine WP.ite rfl (fun hlt => ?_) (fun hge => ?_)
    · refine Zb ?_
      obtain ⟨l, gl⟩ : ∃ l, x.args[(i : Int).toNat]? = some l := ⟨_, List.getElem?_eq_getElem (by omega)⟩
      have gl' : x.args[i]? = some l := gl
      refine WP.seq ?_
      refine WP.block ?_
      refine Zc ?_
      refine Zm ?_
      refine Zm ?_
      refine Run.build rfl bd_46 rfl rfl rfl rfl ?_
      refine Zf fo_53_3 ?_
      refine Zl 1 ag_48 ?_
      refine Zm ?_
      refine Zx sl_48 hu ?_
      refine Run.loadRagg rfl rfl ag_46 rfl rfl (SlR.row hu gl) rfl ?_
      refine Run.build rfl bd_121 rfl rfl rfl rfl ?_
      refine Run.buildSlice (E := encMv) rfl sl_119 zr_121 ([(⟨regL i, l⟩ : Mv)]) rfl rfl rfl (by decide) rfl rfl ?_
      intro b46
      refine Run.append (E := encMv) (xs := (numbered x.args fun k l => ⟨regL k, l⟩).take i) (ys := [(⟨regL i, l⟩ : Mv)]) 2 rfl rfl rfl rfl rfl rfl sl_119 zr_121 rfl (src_own 3 rfl) (by rw [List.length_take, numb_len]; simp only [List.length_singleton]; omega) (by rw [List.length_take, numb_len]; simp only [List.length_singleton]; omega) ?_
      intro sv42 hv42
      refine Zm ?_
      refine Run.nil ?_
      refine blk_norm ?_; refine thn_next ?_
      refine Zc ?_
      refine Zm ?_
      refine Za ?_
      refine Zm ?_
      refine Run.nil ?_
      refine thn_next ⟨(i + 1, sv42), by simp only; omega, by simp only; omega, Ko.go, ?_⟩
      have e : (numbered x.args fun k l => (⟨regL k, l⟩ : Mv)).take (i + 1) = (numbered x.args fun k l => (⟨regL k, l⟩ : Mv)).take i ++ [⟨regL i, l⟩] := by
        rw [List.take_add_one]; congr 1
        simp [numbered, List.getElem?_mapIdx, gl']
      simp only [e]; exact ent.gc
    · refine Zj ?_
      have e : i = x.args.length := by omega
      subst e
      refine thn_next ⟨lv, trivial, Ko.go, ?_⟩
      rw [List.take_of_length_le (by rw [numb_len]; exact Nat.le_refl _)]; exact ent.gc
  intro lv _
  have hkk : ∀ m ∈ numbered x.args (fun k l => (⟨regL k, l⟩ : Mv)), (m.to.kind = 1 ∨ m.to.kind = 2) ∧ (m.from_.kind = 1 ∨ m.from_.kind = 2) := fun m hm => by
    obtain ⟨j, hj⟩ := List.getElem?_of_mem hm
    simp only [numbered, List.getElem?_mapIdx] at hj
    cases hxj : x.args[j]? with
    | none => rw [hxj] at hj; simp at hj
    | some l =>
      rw [hxj] at hj; simp only [Option.map_some, Option.some.injEq] at hj
      subst hj
      exact ⟨.inl rfl, (place_near hF (h.pl l (List.mem_of_getElem? hxj))).2.2.2⟩
  refine WP.trim [0, 3, 5] [0, 1, 2] ?_
  refine Zp ?_
  refine Zm ?_
  refine Zm ?_
  refine Run.callL [0] [2] ok_52 (fun g hg hd => moves52_ok (un hR g) bm S is1 js lv _ (lent_at 0 rfl hg hd) (by rw [numb_len]; omega) (good_call hF h) (near_call hF h) hkk hS (by omega)) ?_; rintro _ _ ⟨rfl, hml⟩
  refine Ze ?_
  rw [numb_len] at hml
  generalize hmv : movesC S (numbered x.args fun k l => ⟨regL k, l⟩) = mv at hml ⊢
  refine WP.trim [0, 3] [0, 2] ?_
  have hl2 : (is1 ++ mv).length ≤ 1800000048 := by rw [List.length_append]; omega
  refine Zp ?_
  refine Zm ?_
  refine Zf fo_53_1 ?_
  refine Zl 1 ag_3 ?_
  refine Run.callP [0] ok_111 (put111_ok hR bm S (is1 ++ mv) js ⟨26, 0, 0, 0, x.imm⟩ (by omega)) ?_; rintro _ _ rfl
  refine Ze ?_
  have hzt : x.dst.kind = 0 → noneB x.dst = true := fun h0 => by
    rcases h.ds with hd | hd
    · exact hd
    · have := (place_near hF hd).2.2.2; omega
  have hzf : x.dst.kind ≠ 0 → noneB x.dst = false ∧ placeB F x.dst = true := fun h0 => by
    rcases h.ds with hd | hd
    · simp only [noneB, decide_eq_true_eq] at hd; exact absurd hd.1 h0
    · refine ⟨?_, hd⟩
      simp only [noneB, decide_eq_false_iff_not]; exact fun hh => h0 hh.1
  have hl3 : (is1 ++ mv ++ [(⟨26, 0, 0, 0, x.imm⟩ : RI)]).length ≤ 1800000049 := by rw [List.length_append, List.length_singleton]; omega
  generalize hi3 : is1 ++ mv ++ [(⟨26, 0, 0, 0, x.imm⟩ : RI)] = is3 at hl3 ⊢
  refine WP.trim [0, 3] [0, 1] ?_
  refine WP.meetC (α := Unit) (fun _ => True) (fun _ => []) (fun _ => [(0, rkP bm S (is3 ++ if noneB x.dst then [] else [⟨2, 8, 0, 0, 0⟩]) js)]) ?_ ?_
  · refine Zp ?_
    refine Zf fo_53_2 ?_
    refine Zf fo_46_0 ?_
    refine Zl 1 ag_3 ?_
    refine Zi ?_
    refine Ze ?_
    refine WP.ite rfl (fun hk0 => ?_) (fun hk0 => ?_)
    · refine Zc ?_
      refine Zm ?_
      refine Run.callP [0] ok_111 (put111_ok hR bm S is3 js ⟨2, 8, 0, 0, 0⟩ (by omega)) ?_; rintro _ _ rfl
      refine Run.nil ?_
      rw [(hzf hk0).1]
      exact thn_next ⟨(), trivial, Ko.go, ent.gc⟩
    · refine WP.skip ?_
      rw [hzt (Decidable.not_not.1 hk0)]
      refine thn_next ⟨(), trivial, Ko.go, ?_⟩
      show ent _ (chgs [(0, rkP bm S (is3 ++ []) js)] _)
      rw [List.append_nil]; exact ent.gc
  intro _ _
  have hl4 : (is3 ++ if noneB x.dst then [] else [(⟨2, 8, 0, 0, 0⟩ : RI)]).length ≤ 1800000050 := by rw [List.length_append]; split <;> simp <;> omega
  generalize hi4 : (is3 ++ if noneB x.dst then [] else [(⟨2, 8, 0, 0, 0⟩ : RI)]) = is4 at hl4 ⊢
  refine WP.trim [0, 3] [0, 1] ?_
  refine WP.meetC (α := Unit) (fun _ => True) (fun _ => []) (fun _ => [(0, rkP bm S (is4 ++ savC 24 S x.saves) js)]) ?_ ?_
  · refine Zp ?_
    refine Zm ?_
    refine Ze ?_
    refine WP.block ?_
    refine WP.trim [0, 3, 7] [0, 1] ?_
    refine WP.loopC (α := Nat) (fun i => i ≤ x.saves.length) (fun i => [(7, vI (i : Int))]) (fun i => [(0, rkP bm S (is4 ++ savC 24 S (x.saves.take i)) js)]) (fun i => x.saves.length - i) 0 (Nat.zero_le _) ?_ (he := by rw [List.take_zero]; show ent _ (chgs [(0, rkP bm S (is4 ++ []) js)] _); rw [List.append_nil]; exact ent.gc)
    intro i hi
    refine WP.trim [0, 3, 7] [0, 1] ?_
    refine WP.seq ?_
    refine Zp ?_
    refine Zm ?_
    refine Zf fo_53_4 ?_
    refine Zl 1 ag_44 ?_
    refine Zh sl_44 hv ?_
    refine Zi ?_
    refine Ze ?_
    refine WP.ite rfl (fun hlt => ?_) (fun hge => ?_)
    · refine Zb ?_
      obtain ⟨r, gr⟩ : ∃ x', x.saves[(i : Int).toNat]? = some x' := ⟨_, List.getElem?_eq_getElem (by omega)⟩
      have gr' : x.saves[i]? = some r := gr
      have hrS := h.sv r (List.mem_of_getElem? gr)
      have hhome := hS.home hrS
      have hln : (is4 ++ savC 24 S (x.saves.take i)).length ≤ 1900000100 := by rw [List.length_append, savC_len, List.length_take]; omega
      have hstep := savC_step (op := 24) (S := S) gr'
      refine WP.seq ?_
      refine WP.block ?_
      have hbl : belowN S r.toNat ≤ r.toNat := by
        unfold belowN
        have := List.countP_le_length (p := fun i : Nat => decide ((i : Int) ∈ S)) (l := List.range r.toNat)
        rwa [List.length_range] at this
      have hr8 := hS.rg r hrS
      generalize hi2 : is4 ++ savC 24 S (x.saves.take i) = is2 at hln ⊢
      refine WP.via (Γ' := [rkP bm S is2 js] ++ [blk b3 (aiv x u.val v.val) 53]) (ent.refl _) ?_
      refine WP.freeze (Γ := [rkP bm S is2 js]) [blk b3 (aiv x u.val v.val) 53] fun g hg hd => ?_
      have l5 := lent_blk (v := v.val) (hR := hR) 0 5 rfl rfl hg hd
      have hv' : SlR rdI (un hR g) v.val x.saves := hv.mono (Sub.un_left _ _)
      refine WP.drawn0 cfF mixed rfl (by kernel_rfl) ?_
      refine Zm ?_
      refine Zf fo_53_4 ?_
      refine Run.loadF rfl rfl ag_44 rfl rfl l5 ?_
      refine Zm ?_
      refine Zx sl_44 hv' ?_
      refine Run.loadF rfl rfl ag_3 rfl rfl (SlR.cell0 hv' gr rfl) ?_
      refine Zm ?_
      refine Zf fo_53_4 ?_
      refine Run.loadF rfl rfl ag_44 rfl rfl l5 ?_
      refine Zm ?_
      refine Zx sl_44 hv' ?_
      refine Run.loadF rfl rfl ag_3 rfl rfl (SlR.cell0 hv' gr rfl) ?_
      refine Run.callP [0] ok_57 (countI_ok (un hR g) bm S is2 js hS r hrS) ?_; rintro _ _ ⟨rfl, rfl⟩
      refine Za ?_
      refine Run.eqv (v' := vI (homeW S r)) (by rw [← hhome]) ?_
      refine Run.callP [0] ok_111 (put111_ok (un hR g) bm S is2 js ⟨24, r, 0, 0, homeW S r⟩ (by omega)) ?_; rintro _ _ rfl
      refine Run.nil ?_
      refine blk_norm ?_; refine thn_next ?_
      refine Zc ?_
      refine Zm ?_
      refine Za ?_
      refine Zm ?_
      refine Run.nil ?_
      refine thn_next ⟨i + 1, by omega, by omega, Ko.go, ?_⟩
      rw [savC_step gr', ← List.append_assoc, hi2]; exact ent.go
    · refine Zj ?_
      have e : i = x.saves.length := by omega
      subst e
      refine thn_next ⟨(), trivial, Ko.go, ?_⟩
      rw [List.take_length]; exact ent.gc
  intro _ _
  have hl5 : (is4 ++ savC 24 S x.saves).length ≤ 1800000100 := by rw [List.length_append, savC_len]; omega
  generalize hi5 : is4 ++ savC 24 S x.saves = is5 at hl5 ⊢
  have hfin : ∀ tl : List RI, (if noneB x.dst then [] else storeC S x.dst 8) = tl → is ++ (savC 25 S x.saves ++ mv ++ [(⟨26, 0, 0, 0, x.imm⟩ : RI)] ++ (if noneB x.dst then [] else [(⟨2, 8, 0, 0, 0⟩ : RI)]) ++ savC 24 S x.saves ++ (if noneB x.dst then [] else storeC S x.dst 8)) = is5 ++ tl := fun tl e => by
    rw [e, ← hi5, ← hi4, ← hi3, ← hi1]; simp only [List.append_assoc]
  refine WP.trim [0, 3] [0, 1] ?_
  refine WP.meetC (α := Unit) (fun _ => True) (fun _ => []) (fun _ => [(0, rkP bm S (is5 ++ if x.dst.kind = 1 then [⟨2, x.dst.n, 8, 0, 0⟩] else []) js)]) ?_ ?_
  · refine Zp ?_
    refine Zf fo_53_2 ?_
    refine Zf fo_46_0 ?_
    refine Zl 1 ag_3 ?_
    refine Zi ?_
    refine Ze ?_
    refine WP.ite rfl (fun hk1 => ?_) (fun hk1 => ?_)
    · refine Zc ?_
      refine Zm ?_
      refine Zf fo_53_2 ?_
      refine Zf fo_46_1 ?_
      refine Zl 1 ag_3 ?_
      refine Run.callP [0] ok_111 (put111_ok hR bm S is5 js ⟨2, x.dst.n, 8, 0, 0⟩ (by omega)) ?_; rintro _ _ rfl
      refine Run.nil ?_
      rw [if_pos hk1]
      exact thn_next ⟨(), trivial, Ko.go, ent.gc⟩
    · refine WP.skip ?_
      rw [if_neg hk1]
      refine thn_next ⟨(), trivial, Ko.go, ?_⟩
      show ent _ (chgs [(0, rkP bm S (is5 ++ []) js)] _)
      rw [List.append_nil]; exact ent.gc
  intro _ _
  refine WP.trim [0, 3] [0, 1] ?_
  refine Zp ?_
  refine Zf fo_53_2 ?_
  refine Zf fo_46_0 ?_
  refine Zl 1 ag_3 ?_
  refine Zi ?_
  refine Ze ?_
  refine WP.ite rfl (fun hk2 => ?_) (fun hk2 => ?_)
  · obtain ⟨z1, z2⟩ := hzf (by omega)
    have e : (if noneB x.dst then [] else storeC S x.dst 8) = [⟨25, 8, 0, 0, slotW S x.dst.n⟩] := by
      rw [z1]; unfold storeC; rw [if_pos hk2]; rfl
    rw [hfin _ e, if_neg (by omega), List.append_nil]
    generalize hsw : slotW S x.dst.n = sw
    refine Zc ?_
    refine Zm ?_
    refine Zm ?_
    refine Zf fo_53_2 ?_
    refine Zf fo_46_1 ?_
    refine Zl 1 ag_3 ?_
    refine Run.callP [0] ok_28 (word28_ok hR bm S is5 js x.dst.n hdn) ?_; rintro _ _ ⟨rfl, rfl⟩; refine Run.eqv (v' := vI sw) (by rw [hS.word, hsw]) ?_
    refine Run.callP [0] ok_111 (put111_ok hR bm S is5 js ⟨25, 8, 0, 0, sw⟩ (by omega)) ?_; rintro _ _ rfl
    refine Run.nil ?_
    exact retN [] [] rfl rfl ⟨[rkP bm S (is5 ++ [⟨25, 8, 0, 0, sw⟩]) js], ent.go, rfl⟩
  · refine WP.skip ?_
    have e : (if noneB x.dst then [] else storeC S x.dst 8) = if x.dst.kind = 1 then [⟨2, x.dst.n, 8, 0, 0⟩] else [] := by
      by_cases h0 : x.dst.kind = 0
      · rw [hzt h0, if_pos rfl, if_neg (by omega)]
      · obtain ⟨z1, z2⟩ := hzf h0
        have h1 : x.dst.kind = 1 := by have := (place_near hF z2).2.2.2; omega
        have hn8 : ¬ x.dst.n = 8 := by
          simp only [placeB, decide_eq_true_eq] at z2; omega
        rw [z1, if_pos h1]; unfold storeC; rw [if_neg hk2, if_neg hn8]; rfl
    rw [hfin _ e]
    exact retN [] [] rfl rfl ⟨_, ent.at 0 rfl (ent.none _), rfl⟩
end
end Go.Proofs.YtfaokbjpinlcaaaGreat
end
