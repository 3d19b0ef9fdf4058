/- What an instruction uses, its registers and its number, as r16's check asks; walked. -/
import Derived.Test.YtfaokbjpinlcaaaGA4
import Derived.Test.YtfaokbjpinlcaaaGB2
import Derived.Test.YtfaokbjpinlcaaaGA6
import Derived.Test.YtfaokbjpinlcaaaGA5
import Derived.Test.YtfaokbjpinlcaaaGB0
section
/- What an instruction uses, its registers and its number, as r16's check asks; walked. -/
namespace Go.Proofs.Ytfaokbjpinlcaaa
open Go.Sep
set_option linter.unusedSimpArgs false
set_option linter.unusedVariables false
set_option maxRecDepth 100000
attribute [local irreducible] blk slA mp mpF rows rowsBut many mpK mpE
def useM (op : Int) : Int := if op = 27 then 0 else if op = 1 ∨ op = 22 ∨ op = 23 ∨ op = 24 ∨ op = 25 ∨ op = 32 ∨ op = 33 ∨ op = 35 then 9 else if op = 2 ∨ op = 18 ∨ op = 19 ∨ op = 20 ∨ op = 28 ∨ op = 29 then 3 else if op = 30 ∨ op = 31 then 7 else if op = 21 ∨ op = 26 then 8 else if op = 34 then 11 else if op = 36 ∨ op = 37 ∨ op = 38 then 1 else 7
set_option maxHeartbeats 2000000 in
theorem uses_ok (hR : Heap) (op : Int) (h1 : 1 ≤ op) (h38 : op ≤ 38) : Tri Try.prog hR 28 #[.int .i64 op] [] fun v Γ' => v = .tuple #[.int .i64 (useM op), .bool true] ∧ Γ' = [] := by
  refine Tri.ent (Tri.of (args := [.int .i64 op]) Try.func28 rfl Try.ntmps28 (by simp) ?_)
  refine Zp ?_
  refine Zm ?_
  refine Zm ?_
  refine Ze ?_
  refine WP.meetC (α := Unit) (fun _ => 3 ≤ op ∧ op ≤ 17) (fun _ => []) (fun _ => []) ?_ ?_
  · refine Zp ?_
    refine Zm ?_
    refine Ze ?_
    refine WP.block ?_
    refine Zp ?_
    refine Zi ?_
    refine Zm ?_
    refine Ze ?_
    refine WP.ite rfl (fun g27 => ?_) (fun g27 => ?_)
    · refine Zp ?_
      refine Zm ?_
      refine Zm ?_
      refine Ze ?_
      refine WP.ret ?_; refine blk_ret ?_; refine thn_ret ?_
      exact retT [2, 3] _ rfl rfl ⟨_, ent.none _, by unfold useM; rw [if_pos g27]; rfl, rfl⟩
    refine WP.seqCut [(0, .int .i64 op), (2, .int .i64 0), (3, .bool false), (4, .int .i64 op), (7, .bool (decide (op = 1 ∨ op = 22 ∨ op = 23 ∨ op = 24 ∨ op = 25 ∨ op = 32 ∨ op = 33 ∨ op = 35)))] [] ?_ ?_
    · refine Zp ?_
      refine Zi ?_
      refine Zm ?_
      refine Ze ?_
      refine WP.ite rfl (fun h => ?_) (fun h => ?_)
      · refine WP.skip ?_; refine thn_next ⟨⟨rfl, rfl, rfl, rfl, ?_, trivial⟩, ent.none _⟩
        (simp [Env.get, *] <;> omega)
      · refine Zp ?_
        refine Zi ?_
        refine Zm ?_
        refine Ze ?_
        refine WP.ite rfl (fun h => ?_) (fun h => ?_)
        · refine WP.skip ?_; refine thn_next ⟨⟨rfl, rfl, rfl, rfl, ?_, trivial⟩, ent.none _⟩
          (simp [Env.get, *] <;> omega)
        · refine Zp ?_
          refine Zi ?_
          refine Zm ?_
          refine Ze ?_
          refine WP.ite rfl (fun h => ?_) (fun h => ?_)
          · refine WP.skip ?_; refine thn_next ⟨⟨rfl, rfl, rfl, rfl, ?_, trivial⟩, ent.none _⟩
            (simp [Env.get, *] <;> omega)
          · refine Zp ?_
            refine Zi ?_
            refine Zm ?_
            refine Ze ?_
            refine WP.ite rfl (fun h => ?_) (fun h => ?_)
            · refine WP.skip ?_; refine thn_next ⟨⟨rfl, rfl, rfl, rfl, ?_, trivial⟩, ent.none _⟩
              (simp [Env.get, *] <;> omega)
            · refine Zp ?_
              refine Zi ?_
              refine Zm ?_
              refine Ze ?_
              refine WP.ite rfl (fun h => ?_) (fun h => ?_)
              · refine WP.skip ?_; refine thn_next ⟨⟨rfl, rfl, rfl, rfl, ?_, trivial⟩, ent.none _⟩
                (simp [Env.get, *] <;> omega)
              · refine Zp ?_
                refine Zi ?_
                refine Zm ?_
                refine Ze ?_
                refine WP.ite rfl (fun h => ?_) (fun h => ?_)
                · refine WP.skip ?_; refine thn_next ⟨⟨rfl, rfl, rfl, rfl, ?_, trivial⟩, ent.none _⟩
                  (simp [Env.get, *] <;> omega)
                · refine Zp ?_
                  refine Zi ?_
                  refine Zm ?_
                  refine Ze ?_
                  refine WP.ite rfl (fun h => ?_) (fun h => ?_)
                  · refine WP.skip ?_; refine thn_next ⟨⟨rfl, rfl, rfl, rfl, ?_, trivial⟩, ent.none _⟩
                    (simp [Env.get, *] <;> omega)
                  · refine Zc ?_
                    refine Zi ?_
                    refine Zm ?_
                    refine Run.nil ?_
                    refine thn_next ⟨⟨rfl, rfl, rfl, rfl, ?_, trivial⟩, ent.none _⟩
                    (simp [Env.get, *] <;> omega)
    refine WP.ite rfl (fun g7 => ?_) (fun g7 => ?_)
    · refine Zp ?_
      refine Zm ?_
      refine Zm ?_
      refine Ze ?_
      refine WP.ret ?_; refine blk_ret ?_; refine thn_ret ?_
      exact retT [2, 3] _ rfl rfl ⟨_, ent.none _, by unfold useM; rw [if_neg g27, if_pos g7]; rfl, rfl⟩
    refine WP.seqCut [(0, .int .i64 op), (2, .int .i64 0), (3, .bool false), (4, .int .i64 op), (16, .bool (decide (op = 2 ∨ op = 18 ∨ op = 19 ∨ op = 20 ∨ op = 28 ∨ op = 29)))] [] ?_ ?_
    · refine Zp ?_
      refine Zi ?_
      refine Zm ?_
      refine Ze ?_
      refine WP.ite rfl (fun h => ?_) (fun h => ?_)
      · refine WP.skip ?_; refine thn_next ⟨⟨rfl, rfl, rfl, rfl, ?_, trivial⟩, ent.none _⟩
        (simp [Env.get, *] <;> omega)
      · refine Zp ?_
        refine Zi ?_
        refine Zm ?_
        refine Ze ?_
        refine WP.ite rfl (fun h => ?_) (fun h => ?_)
        · refine WP.skip ?_; refine thn_next ⟨⟨rfl, rfl, rfl, rfl, ?_, trivial⟩, ent.none _⟩
          (simp [Env.get, *] <;> omega)
        · refine Zp ?_
          refine Zi ?_
          refine Zm ?_
          refine Ze ?_
          refine WP.ite rfl (fun h => ?_) (fun h => ?_)
          · refine WP.skip ?_; refine thn_next ⟨⟨rfl, rfl, rfl, rfl, ?_, trivial⟩, ent.none _⟩
            (simp [Env.get, *] <;> omega)
          · refine Zp ?_
            refine Zi ?_
            refine Zm ?_
            refine Ze ?_
            refine WP.ite rfl (fun h => ?_) (fun h => ?_)
            · refine WP.skip ?_; refine thn_next ⟨⟨rfl, rfl, rfl, rfl, ?_, trivial⟩, ent.none _⟩
              (simp [Env.get, *] <;> omega)
            · refine Zp ?_
              refine Zi ?_
              refine Zm ?_
              refine Ze ?_
              refine WP.ite rfl (fun h => ?_) (fun h => ?_)
              · refine WP.skip ?_; refine thn_next ⟨⟨rfl, rfl, rfl, rfl, ?_, trivial⟩, ent.none _⟩
                (simp [Env.get, *] <;> omega)
              · refine Zc ?_
                refine Zi ?_
                refine Zm ?_
                refine Run.nil ?_
                refine thn_next ⟨⟨rfl, rfl, rfl, rfl, ?_, trivial⟩, ent.none _⟩
                (simp [Env.get, *] <;> omega)
    refine WP.ite rfl (fun g16 => ?_) (fun g16 => ?_)
    · refine Zp ?_
      refine Zm ?_
      refine Zm ?_
      refine Ze ?_
      refine WP.ret ?_; refine blk_ret ?_; refine thn_ret ?_
      exact retT [2, 3] _ rfl rfl ⟨_, ent.none _, by unfold useM; rw [if_neg g27, if_neg g7, if_pos g16]; rfl, rfl⟩
    refine WP.seqCut [(0, .int .i64 op), (2, .int .i64 0), (3, .bool false), (4, .int .i64 op), (23, .bool (decide (op = 30 ∨ op = 31)))] [] ?_ ?_
    · refine Zp ?_
      refine Zi ?_
      refine Zm ?_
      refine Ze ?_
      refine WP.ite rfl (fun h => ?_) (fun h => ?_)
      · refine WP.skip ?_; refine thn_next ⟨⟨rfl, rfl, rfl, rfl, ?_, trivial⟩, ent.none _⟩
        (simp [Env.get, *] <;> omega)
      · refine Zc ?_
        refine Zi ?_
        refine Zm ?_
        refine Run.nil ?_
        refine thn_next ⟨⟨rfl, rfl, rfl, rfl, ?_, trivial⟩, ent.none _⟩
        (simp [Env.get, *] <;> omega)
    refine WP.ite rfl (fun g23 => ?_) (fun g23 => ?_)
    · refine Zp ?_
      refine Zm ?_
      refine Zm ?_
      refine Ze ?_
      refine WP.ret ?_; refine blk_ret ?_; refine thn_ret ?_
      exact retT [2, 3] _ rfl rfl ⟨_, ent.none _, by unfold useM; rw [if_neg g27, if_neg g7, if_neg g16, if_pos g23]; rfl, rfl⟩
    refine WP.seqCut [(0, .int .i64 op), (2, .int .i64 0), (3, .bool false), (4, .int .i64 op), (26, .bool (decide (op = 21 ∨ op = 26)))] [] ?_ ?_
    · refine Zp ?_
      refine Zi ?_
      refine Zm ?_
      refine Ze ?_
      refine WP.ite rfl (fun h => ?_) (fun h => ?_)
      · refine WP.skip ?_; refine thn_next ⟨⟨rfl, rfl, rfl, rfl, ?_, trivial⟩, ent.none _⟩
        (simp [Env.get, *] <;> omega)
      · refine Zc ?_
        refine Zi ?_
        refine Zm ?_
        refine Run.nil ?_
        refine thn_next ⟨⟨rfl, rfl, rfl, rfl, ?_, trivial⟩, ent.none _⟩
        (simp [Env.get, *] <;> omega)
    refine WP.ite rfl (fun g26 => ?_) (fun g26 => ?_)
    · refine Zp ?_
      refine Zm ?_
      refine Zm ?_
      refine Ze ?_
      refine WP.ret ?_; refine blk_ret ?_; refine thn_ret ?_
      exact retT [2, 3] _ rfl rfl ⟨_, ent.none _, by unfold useM; rw [if_neg g27, if_neg g7, if_neg g16, if_neg g23, if_pos g26]; rfl, rfl⟩
    refine Zp ?_
    refine Zi ?_
    refine Zm ?_
    refine Ze ?_
    refine WP.ite rfl (fun g29 => ?_) (fun g29 => ?_)
    · refine Zp ?_
      refine Zm ?_
      refine Zm ?_
      refine Ze ?_
      refine WP.ret ?_; refine blk_ret ?_; refine thn_ret ?_
      exact retT [2, 3] _ rfl rfl ⟨_, ent.none _, by unfold useM; rw [if_neg g27, if_neg g7, if_neg g16, if_neg g23, if_neg g26, if_pos g29]; rfl, rfl⟩
    refine WP.seqCut [(0, .int .i64 op), (2, .int .i64 0), (3, .bool false), (4, .int .i64 op), (31, .bool (decide (op = 36 ∨ op = 37 ∨ op = 38)))] [] ?_ ?_
    · refine Zp ?_
      refine Zi ?_
      refine Zm ?_
      refine Ze ?_
      refine WP.ite rfl (fun h => ?_) (fun h => ?_)
      · refine WP.skip ?_; refine thn_next ⟨⟨rfl, rfl, rfl, rfl, ?_, trivial⟩, ent.none _⟩
        (simp [Env.get, *] <;> omega)
      · refine Zp ?_
        refine Zi ?_
        refine Zm ?_
        refine Ze ?_
        refine WP.ite rfl (fun h => ?_) (fun h => ?_)
        · refine WP.skip ?_; refine thn_next ⟨⟨rfl, rfl, rfl, rfl, ?_, trivial⟩, ent.none _⟩
          (simp [Env.get, *] <;> omega)
        · refine Zc ?_
          refine Zi ?_
          refine Zm ?_
          refine Run.nil ?_
          refine thn_next ⟨⟨rfl, rfl, rfl, rfl, ?_, trivial⟩, ent.none _⟩
          (simp [Env.get, *] <;> omega)
    refine WP.ite rfl (fun g31 => ?_) (fun g31 => ?_)
    · refine Zp ?_
      refine Zm ?_
      refine Zm ?_
      refine Ze ?_
      refine WP.ret ?_; refine blk_ret ?_; refine thn_ret ?_
      exact retT [2, 3] _ rfl rfl ⟨_, ent.none _, by unfold useM; rw [if_neg g27, if_neg g7, if_neg g16, if_neg g23, if_neg g26, if_neg g29, if_pos g31]; rfl, rfl⟩
    refine WP.skip ?_; refine blk_norm ?_
    refine thn_next ⟨(), by omega, Ko.go, ent.gc⟩
  intro _ hr
  refine WP.seqCut [(2, .int .i64 7), (3, .bool true)] [] ?_ ?_
  · refine Zc ?_
    all_goals (first | refine Zm ?_)
    all_goals (first | refine Zi ?_)
    all_goals (first | refine Run.tt (by first | assumption | omega) ?_ | refine Run.ff (by first | assumption | omega) ?_ | refine Run.split (fun hc36 => ?_) (fun hc36 => ?_) | refine Run.splitB (fun hc36 => ?_) (fun hc36 => ?_) | skip)
    all_goals (first | refine Zm ?_)
    all_goals (first | refine Zv ?_ | refine Zm ?_)
    all_goals (first | refine Zv ?_ | refine Zi ?_)
    all_goals (first | refine Zq ?_)
    all_goals (first | refine Zm ?_)
    all_goals (first | refine Zm ?_)
    all_goals (refine Run.nil ?_)
    all_goals refine thn_next ⟨⟨?_, ?_, trivial⟩, ent.none _⟩
    all_goals first | rfl | (simp [Env.get, *] <;> omega) | (exfalso; omega)
  refine WP.ret ?_
  exact retT [2, 3] _ rfl rfl ⟨_, ent.none _, by unfold useM; rw [if_neg (by omega), if_neg (by omega), if_neg (by omega), if_neg (by omega), if_neg (by omega), if_neg (by omega), if_neg (by omega)]; rfl, rfl⟩
theorem field_ok (hR : Heap) (n : Int) (b : Bool) (h : regOk n b) : Tri Try.prog hR 29 #[.int .i64 n, .bool b] [] fun v Γ' => v = .bool true ∧ Γ' = [] := by
  refine Tri.ent (Tri.of (args := [.int .i64 n, .bool b]) Try.func29 rfl Try.ntmps29 (by simp) ?_)
  refine Zp ?_
  refine Zm ?_
  refine Ze ?_
  unfold regOk at h
  cases hb : b
  · rw [hb] at h
    obtain rfl : n = 0 := by rcases h with h | h; exact h; cases h.1
    refine WP.seqCut [(4, .bool true)] [] ?_ ?_
    · refine Zc ?_
      all_goals (first | refine Zm ?_)
      all_goals (first | refine Zi ?_)
      all_goals (first | refine Run.tt (by first | assumption | omega) ?_ | refine Run.ff (by first | assumption | omega) ?_ | refine Run.split (fun hc6 => ?_) (fun hc6 => ?_) | refine Run.splitB (fun hc6 => ?_) (fun hc6 => ?_) | skip)
      all_goals (first | refine Zm ?_)
      all_goals (first | refine Zv ?_ | refine Zm ?_)
      all_goals (first | refine Zv ?_ | refine Zm ?_)
      all_goals (first | refine Zv ?_ | refine Zm ?_)
      all_goals (first | refine Zv ?_ | refine Zi ?_)
      all_goals (first | refine Run.tt (by first | assumption | omega) ?_ | refine Run.ff (by first | assumption | omega) ?_ | refine Run.split (fun hc11 => ?_) (fun hc11 => ?_) | refine Run.splitB (fun hc11 => ?_) (fun hc11 => ?_) | skip)
      all_goals (first | refine Zv ?_ | refine Zq ?_)
      all_goals (first | refine Zv ?_ | refine Zm ?_)
      all_goals (first | refine Zv ?_ | refine Zm ?_)
      all_goals (first | refine Zv ?_ | refine Zi ?_)
      all_goals (first | refine Zv ?_ | refine Zq ?_)
      all_goals (first | refine Zq ?_)
      all_goals (first | refine Zm ?_)
      all_goals (refine Run.nil ?_)
      all_goals refine thn_next ⟨⟨?_, trivial⟩, ent.none _⟩
      all_goals first | rfl | (simp [Env.get, *] <;> omega) | (exfalso; omega)
    refine WP.ret ?_
    exact retT [4] _ rfl rfl ⟨_, ent.none _, rfl, rfl⟩
  · refine WP.seqCut [(4, .bool true)] [] ?_ ?_
    · refine Zc ?_
      all_goals (first | refine Zm ?_)
      all_goals (first | refine Zi ?_)
      all_goals (first | refine Run.tt (by first | assumption | omega) ?_ | refine Run.ff (by first | assumption | omega) ?_ | refine Run.split (fun hc6 => ?_) (fun hc6 => ?_) | refine Run.splitB (fun hc6 => ?_) (fun hc6 => ?_) | skip)
      all_goals (first | refine Zm ?_)
      all_goals (first | refine Zv ?_ | refine Zm ?_)
      all_goals (first | refine Zv ?_ | refine Zm ?_)
      all_goals (first | refine Zv ?_ | refine Zm ?_)
      all_goals (first | refine Zv ?_ | refine Zi ?_)
      all_goals (first | refine Run.tt (by first | assumption | omega) ?_ | refine Run.ff (by first | assumption | omega) ?_ | refine Run.split (fun hc11 => ?_) (fun hc11 => ?_) | refine Run.splitB (fun hc11 => ?_) (fun hc11 => ?_) | skip)
      all_goals (first | refine Zv ?_ | refine Zq ?_)
      all_goals (first | refine Zv ?_ | refine Zm ?_)
      all_goals (first | refine Zv ?_ | refine Zm ?_)
      all_goals (first | refine Zv ?_ | refine Zi ?_)
      all_goals (first | refine Zv ?_ | refine Zq ?_)
      all_goals (first | refine Zq ?_)
      all_goals (first | refine Zm ?_)
      all_goals (refine Run.nil ?_)
      all_goals refine thn_next ⟨⟨?_, trivial⟩, ent.none _⟩
      all_goals first | rfl | (simp [Env.get, *] <;> omega) | (exfalso; omega)
    refine WP.ret ?_
    exact retT [4] _ rfl rfl ⟨_, ent.none _, rfl, rfl⟩
set_option maxHeartbeats 2000000 in
theorem numR_ok (hR : Heap) (iv gv : SV) (m : Int) (fs : List RF) (g : RF) (x : RI) (hG : SlR encRF.rd hR gv.val fs) (hx : numV fs.length g.frame g.first g.count x.op x.n) (h1 : 0 ≤ g.first ∧ g.first ≤ 4000000000) (h2 : 0 ≤ g.count ∧ g.count ≤ 4000000000) :
    Tri Try.prog hR 30 #[.agg ⟨[iv.val, gv.val, .int .i64 m]⟩, .agg ⟨rfv g⟩, .agg ⟨riv x⟩] [] fun v Γ' => v = .bool true ∧ Γ' = [] := by
  refine Tri.ent (Tri.of (args := [.agg ⟨[iv.val, gv.val, .int .i64 m]⟩, .agg ⟨rfv g⟩, .agg ⟨riv x⟩]) Try.func30 rfl Try.ntmps30 (by simp) ?_)
  unfold numV numU at hx
  refine Zp ?_
  refine Run.box rfl rfl rfl rfl rfl ?_
  intro b3
  refine Run.box rfl rfl rfl rfl rfl ?_
  intro b4
  refine Run.box rfl rfl rfl rfl rfl ?_
  intro b5
  refine Zm ?_
  refine Ze ?_
  refine Zp ?_
  refine Zf fo_56_4 ?_
  refine Zl 2 ag_3 ?_
  refine Zm ?_
  refine Ze ?_
  refine WP.trim [3, 4, 5, 7] [0, 1, 2] ?_
  refine WP.meetC (α := Unit) (fun _ => x.n = 0) (fun _ => []) (fun _ => []) ?_ ?_
  · refine Zp ?_
    refine Zf fo_56_0 ?_
    refine Zl 2 ag_3 ?_
    refine Ze ?_
    refine WP.block ?_
    refine WP.trim [3, 4, 5, 7, 11] [0, 1, 2] ?_
    refine Zp ?_
    refine Zi ?_
    refine Zm ?_
    refine Ze ?_
    refine WP.ite rfl (fun g12 => ?_) (fun g12 => ?_)
    · refine Zp ?_
      refine Zm ?_
      refine Ze ?_
      refine WP.ret ?_; refine blk_ret ?_; refine thn_ret ?_
      exact retT [6] _ rfl rfl ⟨_, ent.none _, rfl, rfl⟩
    refine WP.seqCut [(3, .pointer (some ⟨b3, 0, none⟩)), (4, .pointer (some ⟨b4, 0, none⟩)), (5, .pointer (some ⟨b5, 0, none⟩)), (7, .int .i64 x.n), (11, .int .i64 x.op), (14, .bool (decide (x.op = 21 ∨ x.op = 22 ∨ x.op = 23)))] [blk b3 [iv.val, gv.val, .int .i64 m] 32, blk b4 (rfv g) 53, blk b5 (riv x) 56] ?_ ?_
    · refine Zp ?_
      refine Zi ?_
      refine Zm ?_
      refine Ze ?_
      refine WP.ite rfl (fun h => ?_) (fun h => ?_)
      · refine WP.skip ?_; refine thn_next ⟨⟨rfl, rfl, rfl, rfl, rfl, ?_, trivial⟩, ent.go⟩
        (simp [Env.get, *] <;> omega)
      · refine Zp ?_
        refine Zi ?_
        refine Zm ?_
        refine Ze ?_
        refine WP.ite rfl (fun h => ?_) (fun h => ?_)
        · refine WP.skip ?_; refine thn_next ⟨⟨rfl, rfl, rfl, rfl, rfl, ?_, trivial⟩, ent.go⟩
          (simp [Env.get, *] <;> omega)
        · refine Zc ?_
          refine Zi ?_
          refine Zm ?_
          refine Run.nil ?_
          refine thn_next ⟨⟨rfl, rfl, rfl, rfl, rfl, ?_, trivial⟩, ent.go⟩
          (simp [Env.get, *] <;> omega)
    refine WP.ite rfl (fun g14 => ?_) (fun g14 => ?_)
    · have hn : g.first ≤ x.n ∧ x.n - g.first < g.count := by omega
      refine WP.seqCut [(6, .bool true)] [] ?_ ?_
      · refine Zc ?_
        all_goals (first | refine Zm ?_)
        all_goals (first | refine Zf fo_53_2 ?_)
        all_goals (first | refine Zl 1 ag_3 ?_)
        all_goals (first | refine Zi ?_)
        all_goals (first | refine Run.tt (by first | assumption | omega) ?_ | refine Run.ff (by first | assumption | omega) ?_ | refine Run.split (fun hc21 => ?_) (fun hc21 => ?_) | refine Run.splitB (fun hc21 => ?_) (fun hc21 => ?_) | skip)
        all_goals (first | refine Zm ?_)
        all_goals (first | refine Zv ?_ | refine Zm ?_)
        all_goals (first | refine Zv ?_ | refine Zf fo_53_2 ?_)
        all_goals (first | refine Zv ?_ | refine Zl 1 ag_3 ?_)
        all_goals (first | refine Zv ?_ | refine Zs ?_)
        all_goals (first | refine Zv ?_ | refine Zf fo_53_3 ?_)
        all_goals (first | refine Zv ?_ | refine Zl 1 ag_3 ?_)
        all_goals (first | refine Zv ?_ | refine Zi ?_)
        all_goals (first | refine Zq ?_)
        all_goals (first | refine Zm ?_)
        all_goals (refine Run.nil ?_)
        all_goals refine thn_next ⟨⟨?_, trivial⟩, ent.none _⟩
        all_goals first | rfl | (simp [Env.get, *] <;> omega) | (exfalso; omega)
      refine WP.ret ?_; refine blk_ret ?_; refine thn_ret ?_
      exact retT [6] _ rfl rfl ⟨_, ent.none _, rfl, rfl⟩
    refine WP.seqCut [(3, .pointer (some ⟨b3, 0, none⟩)), (4, .pointer (some ⟨b4, 0, none⟩)), (5, .pointer (some ⟨b5, 0, none⟩)), (7, .int .i64 x.n), (11, .int .i64 x.op), (31, .bool (decide (x.op = 24 ∨ x.op = 25)))] [blk b3 [iv.val, gv.val, .int .i64 m] 32, blk b4 (rfv g) 53, blk b5 (riv x) 56] ?_ ?_
    · refine Zp ?_
      refine Zi ?_
      refine Zm ?_
      refine Ze ?_
      refine WP.ite rfl (fun h => ?_) (fun h => ?_)
      · refine WP.skip ?_; refine thn_next ⟨⟨rfl, rfl, rfl, rfl, rfl, ?_, trivial⟩, ent.go⟩
        (simp [Env.get, *] <;> omega)
      · refine Zc ?_
        refine Zi ?_
        refine Zm ?_
        refine Run.nil ?_
        refine thn_next ⟨⟨rfl, rfl, rfl, rfl, rfl, ?_, trivial⟩, ent.go⟩
        (simp [Env.get, *] <;> omega)
    refine WP.ite rfl (fun g31 => ?_) (fun g31 => ?_)
    · have hn : 2 ≤ x.n ∧ x.n < g.frame := by omega
      refine WP.seqCut [(6, .bool true)] [] ?_ ?_
      · refine Zc ?_
        all_goals (first | refine Zm ?_)
        all_goals (first | refine Zi ?_)
        all_goals (first | refine Run.tt (by first | assumption | omega) ?_ | refine Run.ff (by first | assumption | omega) ?_ | refine Run.split (fun hc35 => ?_) (fun hc35 => ?_) | refine Run.splitB (fun hc35 => ?_) (fun hc35 => ?_) | skip)
        all_goals (first | refine Zm ?_)
        all_goals (first | refine Zv ?_ | refine Zm ?_)
        all_goals (first | refine Zv ?_ | refine Zf fo_53_1 ?_)
        all_goals (first | refine Zv ?_ | refine Zl 1 ag_3 ?_)
        all_goals (first | refine Zv ?_ | refine Zi ?_)
        all_goals (first | refine Zq ?_)
        all_goals (first | refine Zm ?_)
        all_goals (refine Run.nil ?_)
        all_goals refine thn_next ⟨⟨?_, trivial⟩, ent.none _⟩
        all_goals first | rfl | (simp [Env.get, *] <;> omega) | (exfalso; omega)
      refine WP.ret ?_; refine blk_ret ?_; refine thn_ret ?_
      exact retT [6] _ rfl rfl ⟨_, ent.none _, rfl, rfl⟩
    refine Zp ?_
    refine Zi ?_
    refine Zm ?_
    refine Ze ?_
    refine WP.ite rfl (fun g42 => ?_) (fun g42 => ?_)
    · have hn : 0 ≤ x.n ∧ x.n < (fs.length : Int) := by omega
      refine WP.seqCut [(6, .bool true)] [] ?_ ?_
      · refine Zc ?_
        all_goals (first | refine Zm ?_)
        all_goals (first | refine Zi ?_)
        all_goals (first | refine Run.tt (by first | assumption | omega) ?_ | refine Run.ff (by first | assumption | omega) ?_ | refine Run.split (fun hc45 => ?_) (fun hc45 => ?_) | refine Run.splitB (fun hc45 => ?_) (fun hc45 => ?_) | skip)
        all_goals (first | refine Zm ?_)
        all_goals (first | refine Zv ?_ | refine Zm ?_)
        all_goals (first | refine Zv ?_ | refine Zf fo_32_1 ?_)
        all_goals (first | refine Zv ?_ | refine Zl 0 ag_30 ?_)
        all_goals (first | refine Zv ?_ | refine Zh sl_30 hG ?_)
        all_goals (first | refine Zv ?_ | refine Zi ?_)
        all_goals (first | refine Zq ?_)
        all_goals (first | refine Zm ?_)
        all_goals (refine Run.nil ?_)
        all_goals refine thn_next ⟨⟨?_, trivial⟩, ent.none _⟩
        all_goals first | rfl | (simp [Env.get, *] <;> omega) | (exfalso; omega)
      refine WP.ret ?_; refine blk_ret ?_; refine thn_ret ?_
      exact retT [6] _ rfl rfl ⟨_, ent.none _, rfl, rfl⟩
    refine WP.seqCut [(3, .pointer (some ⟨b3, 0, none⟩)), (4, .pointer (some ⟨b4, 0, none⟩)), (5, .pointer (some ⟨b5, 0, none⟩)), (7, .int .i64 x.n), (11, .int .i64 x.op), (53, .bool (decide (x.op = 32 ∨ x.op = 33 ∨ x.op = 34)))] [blk b3 [iv.val, gv.val, .int .i64 m] 32, blk b4 (rfv g) 53, blk b5 (riv x) 56] ?_ ?_
    · refine Zp ?_
      refine Zi ?_
      refine Zm ?_
      refine Ze ?_
      refine WP.ite rfl (fun h => ?_) (fun h => ?_)
      · refine WP.skip ?_; refine thn_next ⟨⟨rfl, rfl, rfl, rfl, rfl, ?_, trivial⟩, ent.go⟩
        (simp [Env.get, *] <;> omega)
      · refine Zp ?_
        refine Zi ?_
        refine Zm ?_
        refine Ze ?_
        refine WP.ite rfl (fun h => ?_) (fun h => ?_)
        · refine WP.skip ?_; refine thn_next ⟨⟨rfl, rfl, rfl, rfl, rfl, ?_, trivial⟩, ent.go⟩
          (simp [Env.get, *] <;> omega)
        · refine Zc ?_
          refine Zi ?_
          refine Zm ?_
          refine Run.nil ?_
          refine thn_next ⟨⟨rfl, rfl, rfl, rfl, rfl, ?_, trivial⟩, ent.go⟩
          (simp [Env.get, *] <;> omega)
    refine WP.ite rfl (fun g53 => ?_) (fun g53 => ?_)
    · have hn : 1 ≤ x.n ∧ x.n ≤ 5 := by omega
      refine WP.seqCut [(6, .bool true)] [] ?_ ?_
      · refine Zc ?_
        all_goals (first | refine Zm ?_)
        all_goals (first | refine Zi ?_)
        all_goals (first | refine Run.tt (by first | assumption | omega) ?_ | refine Run.ff (by first | assumption | omega) ?_ | refine Run.split (fun hc58 => ?_) (fun hc58 => ?_) | refine Run.splitB (fun hc58 => ?_) (fun hc58 => ?_) | skip)
        all_goals (first | refine Zm ?_)
        all_goals (first | refine Zv ?_ | refine Zm ?_)
        all_goals (first | refine Zv ?_ | refine Zi ?_)
        all_goals (first | refine Zq ?_)
        all_goals (first | refine Zm ?_)
        all_goals (refine Run.nil ?_)
        all_goals refine thn_next ⟨⟨?_, trivial⟩, ent.none _⟩
        all_goals first | rfl | (simp [Env.get, *] <;> omega) | (exfalso; omega)
      refine WP.ret ?_; refine blk_ret ?_; refine thn_ret ?_
      exact retT [6] _ rfl rfl ⟨_, ent.none _, rfl, rfl⟩
    refine Zp ?_
    refine Zi ?_
    refine Zm ?_
    refine Ze ?_
    refine WP.ite rfl (fun g63 => ?_) (fun g63 => ?_)
    · have hn : 1 ≤ x.n ∧ x.n ≤ 6 := by omega
      refine WP.seqCut [(6, .bool true)] [] ?_ ?_
      · refine Zc ?_
        all_goals (first | refine Zm ?_)
        all_goals (first | refine Zi ?_)
        all_goals (first | refine Run.tt (by first | assumption | omega) ?_ | refine Run.ff (by first | assumption | omega) ?_ | refine Run.split (fun hc66 => ?_) (fun hc66 => ?_) | refine Run.splitB (fun hc66 => ?_) (fun hc66 => ?_) | skip)
        all_goals (first | refine Zm ?_)
        all_goals (first | refine Zv ?_ | refine Zm ?_)
        all_goals (first | refine Zv ?_ | refine Zi ?_)
        all_goals (first | refine Zq ?_)
        all_goals (first | refine Zm ?_)
        all_goals (refine Run.nil ?_)
        all_goals refine thn_next ⟨⟨?_, trivial⟩, ent.none _⟩
        all_goals first | rfl | (simp [Env.get, *] <;> omega) | (exfalso; omega)
      refine WP.ret ?_; refine blk_ret ?_; refine thn_ret ?_
      exact retT [6] _ rfl rfl ⟨_, ent.none _, rfl, rfl⟩
    refine WP.skip ?_; refine blk_norm ?_
    refine thn_next ⟨(), by omega, Ko.go, ent.gc⟩
  intro _ hr
  refine Zp ?_
  refine Zm ?_
  refine Zi ?_
  refine Zm ?_
  refine Ze ?_
  refine WP.ret ?_
  exact retT [6] _ rfl rfl ⟨_, ent.none _, by rw [hr]; rfl, rfl⟩
end Go.Proofs.Ytfaokbjpinlcaaa
end
section
/- What r16's check takes for a name; walked. -/
namespace Go.Proofs.Ytfaokbjpinlcaaa
open Go.Sep
set_option linter.unusedSimpArgs false
set_option linter.unusedVariables false
set_option maxRecDepth 100000
attribute [local irreducible] blk slA mp mpF rows rowsBut many mpK mpE
theorem ltr_spec {c : Int} (h : ltr true c = true) : c = 95 ∨ (97 ≤ c ∧ c ≤ 122) ∨ (65 ≤ c ∧ c ≤ 90) ∨ (48 ≤ c ∧ c ≤ 57) := by
  have key : clsN c = 2 ∨ clsN c = 3 := by
    unfold ltr at h
    rw [Bool.or_eq_true, Bool.and_eq_true, decide_eq_true_eq, decide_eq_true_eq] at h
    exact h.imp id (·.2)
  unfold clsN at key
  split at key
  · omega
  · split at key
    · omega
    · split at key
      · omega
      · split at key <;> omega
theorem cls_spec {c : Int} (h : clsN c = 3) : c = 95 ∨ (97 ≤ c ∧ c ≤ 122) ∨ (65 ≤ c ∧ c ≤ 90) := by
  unfold clsN at h
  by_cases h1 : c = 95 ∨ (97 ≤ c ∧ c ≤ 122) ∨ (65 ≤ c ∧ c ≤ 90)
  · exact h1
  · rw [if_neg h1] at h
    split at h
    · omega
    · split at h
      · omega
      · split at h <;> omega
theorem bts_len2 (s : ByteArray) : (bts s).length = s.size := by unfold bts; rw [List.length_map]; exact Array.length_toList
set_option maxHeartbeats 4000000 in
theorem isName_ok (hR : Heap) (s : ByteArray) (hn : nmB s = true) : Tri Try.prog hR 27 #[.string s] [] fun v Γ' => v = .bool true ∧ Γ' = [] := by
  refine Tri.ent (Tri.of (args := [.string s]) Try.func27 rfl Try.ntmps27 (by simp) ?_)
  obtain ⟨⟨n1, n64⟩, ⟨c0, g0, hc0⟩, hall, hw⟩ := nameL_spec.1 hn
  rw [strOf_bts] at hw
  rw [bts_len2] at n1 n64
  have hne : s ≠ ⟨#[]⟩ := fun e => by rw [e] at n1; exact absurd n1 (by decide)
  have hw' : ∀ w ∈ wordL, ¬ s = w := fun w hm e => hw (e ▸ hm)
  refine Zp ?_
  refine Zm ?_
  refine Ze ?_
  refine WP.seq ?_
  refine Zp ?_
  refine Zm ?_
  refine Ze ?_
  refine WP.block ?_
  refine WP.seqCut [(0, .string s), (2, .bool false), (7, .bool (decide (s = ⟨#[110, 105, 108]⟩)))] [] ?_ ?_
  · refine Zp ?_
    refine Run.eqStr rfl rfl rfl rfl rfl ?_
    refine Zm ?_
    refine Ze ?_
    refine WP.ite rfl (fun h => (hne h).elim) (fun _ => ?_)
    refine Zp ?_
    refine Run.eqStr rfl rfl rfl rfl rfl ?_
    refine Zm ?_
    refine Ze ?_
    refine WP.ite rfl (fun h => (hw' _ (by simp [wordL]) h).elim) (fun _ => ?_)
    refine Zp ?_
    refine Run.eqStr rfl rfl rfl rfl rfl ?_
    refine Zm ?_
    refine Ze ?_
    refine WP.ite rfl (fun h => (hw' _ (by simp [wordL]) h).elim) (fun _ => ?_)
    refine Zp ?_
    refine Run.eqStr rfl rfl rfl rfl rfl ?_
    refine Zm ?_
    refine Ze ?_
    refine WP.ite rfl (fun h => (hw' _ (by simp [wordL]) h).elim) (fun _ => ?_)
    refine Zp ?_
    refine Run.eqStr rfl rfl rfl rfl rfl ?_
    refine Zm ?_
    refine Ze ?_
    refine WP.ite rfl (fun h => (hw' _ (by simp [wordL]) h).elim) (fun _ => ?_)
    refine Zp ?_
    refine Run.eqStr rfl rfl rfl rfl rfl ?_
    refine Zm ?_
    refine Ze ?_
    refine WP.ite rfl (fun h => (hw' _ (by simp [wordL]) h).elim) (fun _ => ?_)
    refine WP.trim [0, 2, 6] [] ?_
    refine Zp ?_
    refine Run.eqStr rfl rfl rfl rfl rfl ?_
    refine Zm ?_
    refine Ze ?_
    refine WP.ite rfl (fun h => (hw' _ (by simp [wordL]) h).elim) (fun _ => ?_)
    refine Zp ?_
    refine Run.eqStr rfl rfl rfl rfl rfl ?_
    refine Zm ?_
    refine Ze ?_
    refine WP.ite rfl (fun h => (hw' _ (by simp [wordL]) h).elim) (fun _ => ?_)
    refine Zp ?_
    refine Run.eqStr rfl rfl rfl rfl rfl ?_
    refine Zm ?_
    refine Ze ?_
    refine WP.ite rfl (fun h => (hw' _ (by simp [wordL]) h).elim) (fun _ => ?_)
    refine Zp ?_
    refine Run.eqStr rfl rfl rfl rfl rfl ?_
    refine Zm ?_
    refine Ze ?_
    refine WP.ite rfl (fun h => (hw' _ (by simp [wordL]) h).elim) (fun _ => ?_)
    refine Zp ?_
    refine Run.eqStr rfl rfl rfl rfl rfl ?_
    refine Zm ?_
    refine Ze ?_
    refine WP.ite rfl (fun h => (hw' _ (by simp [wordL]) h).elim) (fun _ => ?_)
    refine Zp ?_
    refine Run.eqStr rfl rfl rfl rfl rfl ?_
    refine Zm ?_
    refine Ze ?_
    refine WP.ite rfl (fun h => (hw' _ (by simp [wordL]) h).elim) (fun _ => ?_)
    refine WP.trim [0, 2, 6] [] ?_
    refine Zp ?_
    refine Run.eqStr rfl rfl rfl rfl rfl ?_
    refine Zm ?_
    refine Ze ?_
    refine WP.ite rfl (fun h => (hw' _ (by simp [wordL]) h).elim) (fun _ => ?_)
    refine Zp ?_
    refine Run.eqStr rfl rfl rfl rfl rfl ?_
    refine Zm ?_
    refine Ze ?_
    refine WP.ite rfl (fun h => (hw' _ (by simp [wordL]) h).elim) (fun _ => ?_)
    refine Zp ?_
    refine Run.eqStr rfl rfl rfl rfl rfl ?_
    refine Zm ?_
    refine Ze ?_
    refine WP.ite rfl (fun h => (hw' _ (by simp [wordL]) h).elim) (fun _ => ?_)
    refine Zp ?_
    refine Run.eqStr rfl rfl rfl rfl rfl ?_
    refine Zm ?_
    refine Ze ?_
    refine WP.ite rfl (fun h => (hw' _ (by simp [wordL]) h).elim) (fun _ => ?_)
    refine Zp ?_
    refine Run.eqStr rfl rfl rfl rfl rfl ?_
    refine Zm ?_
    refine Ze ?_
    refine WP.ite rfl (fun h => (hw' _ (by simp [wordL]) h).elim) (fun _ => ?_)
    refine Zp ?_
    refine Run.eqStr rfl rfl rfl rfl rfl ?_
    refine Zm ?_
    refine Ze ?_
    refine WP.ite rfl (fun h => (hw' _ (by simp [wordL]) h).elim) (fun _ => ?_)
    refine WP.trim [0, 2, 6] [] ?_
    refine Zc ?_
    refine Run.eqStr rfl rfl rfl rfl rfl ?_
    refine Zm ?_
    refine Run.nil ?_
    refine thn_next ⟨⟨rfl, rfl, rfl, trivial⟩, ent.none _⟩
  refine WP.ite rfl (fun h => (hw' _ (by simp [wordL]) h).elim) (fun _ => ?_)
  refine WP.skip ?_; refine blk_norm ?_; refine thn_next ?_
  refine WP.trim [0, 2] [] ?_
  refine WP.meetC (α := Unit) (fun _ => True) (fun _ => []) (fun _ => []) ?_ ?_
  · refine Zp ?_
    refine Zm ?_
    refine Run.toBytes rfl rfl rfl rfl rfl rfl rfl ?_; intro bq cq
    refine Run.len rfl rfl sl_71 rfl rfl ?_
    refine Zm ?_
    refine Ze ?_
    refine WP.trim [0, 2, 28, 29, 30] [0] ?_
    refine WP.freeze (Γ := []) [roP rdB (.slice (some ⟨bq, 0, none⟩) s.size cq) (bts s)] fun g hg hd => ?_
    have hs : SlR rdB (un hR g) (.slice (some ⟨bq, 0, none⟩) s.size cq) (bts s) := roP_lend hg hR hd
    refine WP.block ?_
    refine WP.loopC (α := Nat) (fun i => i ≤ s.size) (fun i => [(30, .int .i64 (i : Int))]) (fun _ => []) (fun i => s.size - i) 0 (Nat.zero_le _) ?_
    rintro i hi
    refine WP.trim [0, 2, 28, 29, 30] [] ?_
    refine Zp ?_
    refine Zi ?_
    refine Ze ?_
    refine WP.seq ?_
    refine WP.ite rfl (fun hlt => ?_) (fun hge => ?_)
    · refine Zb ?_
      have hl := bts_len2 s
      obtain ⟨c, gc⟩ : ∃ y, (bts s)[(i : Int).toNat]? = some y := ⟨_, List.getElem?_eq_getElem (by omega)⟩
      have hm := List.mem_of_getElem? gc
      have hb := bts_lt hm
      have hc := ltr_spec (hall c hm)
      have hz : i = 0 → c = 95 ∨ (97 ≤ c ∧ c ≤ 122) ∨ (65 ≤ c ∧ c ≤ 90) := fun e => by
        rw [e] at gc; rw [show ((0 : Nat) : Int).toNat = 0 from rfl, g0] at gc
        injection gc with gc; rw [← gc]; exact cls_spec hc0
      refine WP.seq ?_
      refine WP.block ?_
      refine Zp ?_
      refine Zm ?_
      refine Zx sl_71 hs ?_
      refine Zr ag_5 (SlR.cell0 hs gc rfl) ?_
      refine Zm ?_
      refine Zm ?_
      refine Ze ?_
      refine WP.trim [0, 2, 3, 4, 28, 29, 30] [] ?_
      refine WP.seqCut [(0, .string s), (2, .bool false), (3, .int .i64 (i : Int)), (4, .int .u8 c), (5, .bool (decide (48 ≤ c ∧ c ≤ 57))), (28, .slice (some ⟨bq, 0, none⟩) s.size cq), (29, .int .i64 (s.size : Int)), (30, .int .i64 (i : Int))] [] ?_ ?_
      · refine Zc ?_
        all_goals (first | refine Zm ?_)
        all_goals (first | refine Zi ?_)
        all_goals (first | refine Run.tt (by first | assumption | omega) ?_ | refine Run.ff (by first | assumption | omega) ?_ | refine Run.split (fun hc36 => ?_) (fun hc36 => ?_) | refine Run.splitB (fun hc36 => ?_) (fun hc36 => ?_) | skip)
        all_goals (first | refine Zm ?_)
        all_goals (first | refine Zv ?_ | refine Zm ?_)
        all_goals (first | refine Zv ?_ | refine Zi ?_)
        all_goals (first | refine Zq ?_)
        all_goals (first | refine Zm ?_)
        all_goals (refine Run.nil ?_)
        all_goals refine thn_next ⟨⟨rfl, rfl, rfl, rfl, ?_, rfl, rfl, rfl, trivial⟩, ent.none _⟩
        all_goals (simp [Env.get, *] <;> omega)
      refine WP.seqCut [(0, .string s), (2, .bool false), (3, .int .i64 (i : Int)), (4, .int .u8 c), (28, .slice (some ⟨bq, 0, none⟩) s.size cq), (29, .int .i64 (s.size : Int)), (30, .int .i64 (i : Int)), (66, .bool (decide False))] [] ?_ ?_
      · cases hdg : decide (48 ≤ c ∧ c ≤ 57) with
        | false =>
          have hdg' := of_decide_eq_false hdg
          refine Zc ?_
          all_goals (first | refine Zm ?_)
          all_goals (first | refine Zi ?_)
          all_goals (first | refine Run.tt (by first | assumption | omega) ?_ | refine Run.ff (by first | assumption | omega) ?_ | refine Run.split (fun hc42 => ?_) (fun hc42 => ?_) | refine Run.splitB (fun hc42 => ?_) (fun hc42 => ?_) | skip)
          all_goals (first | refine Zm ?_)
          all_goals (first | refine Zv ?_ | refine Zm ?_)
          all_goals (first | refine Zv ?_ | refine Zi ?_)
          all_goals (first | refine Run.tt (by first | assumption | omega) ?_ | refine Run.ff (by first | assumption | omega) ?_ | refine Run.split (fun hc45 => ?_) (fun hc45 => ?_) | refine Run.splitB (fun hc45 => ?_) (fun hc45 => ?_) | skip)
          all_goals (first | refine Zv ?_ | refine Zm ?_)
          all_goals (first | refine Zv ?_ | refine Zm ?_)
          all_goals (first | refine Zv ?_ | refine Zi ?_)
          all_goals (first | refine Run.tt (by first | assumption | omega) ?_ | refine Run.ff (by first | assumption | omega) ?_ | refine Run.split (fun hc48 => ?_) (fun hc48 => ?_) | refine Run.splitB (fun hc48 => ?_) (fun hc48 => ?_) | skip)
          all_goals (first | refine Zv ?_ | refine Zq ?_)
          all_goals (first | refine Zq ?_)
          all_goals (first | refine Zm ?_)
          all_goals (first | refine Zv ?_ | refine Zm ?_)
          all_goals (first | refine Zv ?_ | refine Zi ?_)
          all_goals (first | refine Run.tt (by first | assumption | omega) ?_ | refine Run.ff (by first | assumption | omega) ?_ | refine Run.split (fun hc53 => ?_) (fun hc53 => ?_) | refine Run.splitB (fun hc53 => ?_) (fun hc53 => ?_) | skip)
          all_goals (first | refine Zv ?_ | refine Zm ?_)
          all_goals (first | refine Zv ?_ | refine Zm ?_)
          all_goals (first | refine Zv ?_ | refine Zi ?_)
          all_goals (first | refine Run.tt (by first | assumption | omega) ?_ | refine Run.ff (by first | assumption | omega) ?_ | refine Run.split (fun hc56 => ?_) (fun hc56 => ?_) | refine Run.splitB (fun hc56 => ?_) (fun hc56 => ?_) | skip)
          all_goals (first | refine Zv ?_ | refine Zq ?_)
          all_goals (first | refine Zq ?_)
          all_goals (first | refine Zm ?_)
          all_goals (first | refine Zv ?_ | refine Zm ?_)
          all_goals (first | refine Zv ?_ | refine Run.bnot rfl rfl rfl rfl ?_ | refine Run.bnotB rfl rfl rfl rfl ?_ | refine Run.neg rfl rfl rfl rfl ?_)
          all_goals (first | refine Zv ?_ | refine Zm ?_)
          all_goals (first | refine Zv ?_ | refine Zm ?_)
          all_goals (first | refine Zv ?_ | refine Zi ?_)
          all_goals (first | refine Zv ?_ | refine Zq ?_)
          all_goals (first | refine Zq ?_)
          all_goals (refine Run.nil ?_)
          all_goals refine thn_next ⟨⟨rfl, rfl, rfl, rfl, rfl, rfl, rfl, ?_, trivial⟩, ent.none _⟩
          all_goals first | rfl | (simp [Env.get, *] <;> omega) | (exfalso; omega)
        | true =>
          have hdg' := of_decide_eq_true hdg
          refine Zc ?_
          all_goals (first | refine Zm ?_)
          all_goals (first | refine Zi ?_)
          all_goals (first | refine Run.tt (by first | assumption | omega) ?_ | refine Run.ff (by first | assumption | omega) ?_ | refine Run.split (fun hc42 => ?_) (fun hc42 => ?_) | refine Run.splitB (fun hc42 => ?_) (fun hc42 => ?_) | skip)
          all_goals (first | refine Zm ?_)
          all_goals (first | refine Zv ?_ | refine Zm ?_)
          all_goals (first | refine Zv ?_ | refine Zi ?_)
          all_goals (first | refine Run.tt (by first | assumption | omega) ?_ | refine Run.ff (by first | assumption | omega) ?_ | refine Run.split (fun hc45 => ?_) (fun hc45 => ?_) | refine Run.splitB (fun hc45 => ?_) (fun hc45 => ?_) | skip)
          all_goals (first | refine Zv ?_ | refine Zm ?_)
          all_goals (first | refine Zv ?_ | refine Zm ?_)
          all_goals (first | refine Zv ?_ | refine Zi ?_)
          all_goals (first | refine Run.tt (by first | assumption | omega) ?_ | refine Run.ff (by first | assumption | omega) ?_ | refine Run.split (fun hc48 => ?_) (fun hc48 => ?_) | refine Run.splitB (fun hc48 => ?_) (fun hc48 => ?_) | skip)
          all_goals (first | refine Zv ?_ | refine Zq ?_)
          all_goals (first | refine Zq ?_)
          all_goals (first | refine Zm ?_)
          all_goals (first | refine Zv ?_ | refine Zm ?_)
          all_goals (first | refine Zv ?_ | refine Zi ?_)
          all_goals (first | refine Run.tt (by first | assumption | omega) ?_ | refine Run.ff (by first | assumption | omega) ?_ | refine Run.split (fun hc53 => ?_) (fun hc53 => ?_) | refine Run.splitB (fun hc53 => ?_) (fun hc53 => ?_) | skip)
          all_goals (first | refine Zv ?_ | refine Zm ?_)
          all_goals (first | refine Zv ?_ | refine Zm ?_)
          all_goals (first | refine Zv ?_ | refine Zi ?_)
          all_goals (first | refine Run.tt (by first | assumption | omega) ?_ | refine Run.ff (by first | assumption | omega) ?_ | refine Run.split (fun hc56 => ?_) (fun hc56 => ?_) | refine Run.splitB (fun hc56 => ?_) (fun hc56 => ?_) | skip)
          all_goals (first | refine Zv ?_ | refine Zq ?_)
          all_goals (first | refine Zq ?_)
          all_goals (first | refine Zm ?_)
          all_goals (first | refine Zv ?_ | refine Zm ?_)
          all_goals (first | refine Zv ?_ | refine Run.bnotB rfl rfl rfl rfl ?_)
          all_goals (first | refine Zv ?_ | refine Zm ?_)
          all_goals (first | refine Zv ?_ | refine Zm ?_)
          all_goals (first | refine Zv ?_ | refine Zi ?_)
          all_goals (first | refine Zv ?_ | refine Zq ?_)
          all_goals (first | refine Zq ?_)
          all_goals (refine Run.nil ?_)
          all_goals refine thn_next ⟨⟨rfl, rfl, rfl, rfl, rfl, rfl, rfl, ?_, trivial⟩, ent.none _⟩
          all_goals first | rfl | (simp [Env.get, *] <;> omega) | (exfalso; omega)
      refine WP.ite rfl (fun h => h.elim) (fun _ => ?_)
      refine WP.skip ?_; refine blk_norm ?_; refine thn_next ?_
      refine Zc ?_
      refine Za ?_
      refine Zm ?_
      refine Run.nil ?_
      refine thn_next ⟨i + 1, by omega, by omega, Ko.go, ent.gc⟩
    · refine Zj ?_
      refine thn_next ⟨(), trivial, Ko.go, ent.none _⟩
  intro _ _
  refine WP.seqCut [(2, .bool true)] [] ?_ ?_
  · refine Zc ?_
    refine Zm ?_
    refine Run.lenStr rfl rfl rfl rfl rfl ?_
    refine Zi ?_
    refine Zm ?_
    refine Run.nil ?_
    refine thn_next ⟨⟨?_, trivial⟩, ent.none _⟩
    simp [Env.get, *]; omega
  refine WP.ret ?_
  exact retT [2] _ rfl rfl ⟨_, ent.none _, rfl, rfl⟩
end Go.Proofs.Ytfaokbjpinlcaaa
end
section
/- r16's check of one function; walked. -/
namespace Go.Proofs.Ytfaokbjpinlcaaa
open Go.Sep
set_option linter.unusedSimpArgs false
set_option linter.unusedVariables false
set_option maxRecDepth 100000
attribute [local irreducible] blk slA mp mpF rows rowsBut many mpK mpE
theorem maskO {op : Int} (h1 : 1 ≤ op) (h2 : op ≤ 38) : intOpR .and .i64 (useM op) 1 = some (.int .i64 (if uA op then 1 else 0)) ∧ intOpR .and .i64 (useM op) 2 = some (.int .i64 (if uB op then 2 else 0)) ∧ intOpR .and .i64 (useM op) 4 = some (.int .i64 (if uC op then 4 else 0)) := by
  have : op = 1 ∨ op = 2 ∨ op = 3 ∨ op = 4 ∨ op = 5 ∨ op = 6 ∨ op = 7 ∨ op = 8 ∨ op = 9 ∨ op = 10 ∨ op = 11 ∨ op = 12 ∨ op = 13 ∨ op = 14 ∨ op = 15 ∨ op = 16 ∨ op = 17 ∨ op = 18 ∨ op = 19 ∨ op = 20 ∨ op = 21 ∨ op = 22 ∨ op = 23 ∨ op = 24 ∨ op = 25 ∨ op = 26 ∨ op = 27 ∨ op = 28 ∨ op = 29 ∨ op = 30 ∨ op = 31 ∨ op = 32 ∨ op = 33 ∨ op = 34 ∨ op = 35 ∨ op = 36 ∨ op = 37 ∨ op = 38 := by omega
  rcases this with rfl | rfl | rfl | rfl | rfl | rfl | rfl | rfl | rfl | rfl | rfl | rfl | rfl | rfl | rfl | rfl | rfl | rfl | rfl | rfl | rfl | rfl | rfl | rfl | rfl | rfl | rfl | rfl | rfl | rfl | rfl | rfl | rfl | rfl | rfl | rfl | rfl | rfl <;> exact ⟨rfl, rfl, rfl⟩
/-- what r16 asks of a function -/
structure FunG (nf : Int) (is : List RI) (g : RF) (cs : List RI) (first : Nat) : Prop where
  nm : nmB g.name = true
  fr : 2 ≤ g.frame ∧ g.frame ≤ 1099511627776
  pa : 0 ≤ g.params ∧ g.params ≤ 8
  fi : g.first = (first : Int)
  co : g.count = (cs.length : Int)
  ne : 1 ≤ cs.length
  le : first + cs.length ≤ is.length
  at_ : ∀ (j : Nat) (x : RI), cs[j]? = some x → is[first + j]? = some x
  ok : ∀ x ∈ cs, InsV nf g.frame g.first g.count x
  last : ∃ xs y, cs = xs ++ [y] ∧ (y.op = 21 ∨ y.op = 27 ∨ y.op = 35)
set_option maxHeartbeats 4000000 in
theorem rfun_ok (hR : Heap) (iv gv : SV) (m : Int) (is : List RI) (fs : List RF) (g : RF) (cs : List RI) (first : Nat) (hI : SlR encRI.rd hR iv.val is) (hG : SlR encRF.rd hR gv.val fs) (hl : is.length ≤ 2000000000) (H : FunG fs.length is g cs first) :
    Tri Try.prog hR 15 #[.agg ⟨[iv.val, gv.val, .int .i64 m]⟩, .agg ⟨rfv g⟩] [] fun v Γ' => v = .bool true ∧ Γ' = [] := by
  refine Tri.ent (Tri.of (args := [.agg ⟨[iv.val, gv.val, .int .i64 m]⟩, .agg ⟨rfv g⟩]) Try.func15 rfl Try.ntmps15 (by simp) ?_)
  obtain ⟨hn, hf, hp, hfi, hco, hne, hle, hat, hok, xs, y, hlast, hy⟩ := H
  obtain ⟨hIn, hIc⟩ := sl_cap hI
  have hcsl : cs.length = xs.length + 1 := by rw [hlast, List.length_append]; rfl
  refine Zp ?_
  refine Run.box rfl rfl rfl rfl rfl ?_
  intro b2
  refine Run.box rfl rfl rfl rfl rfl ?_
  intro b3
  refine Zm ?_
  refine Ze ?_
  refine WP.trim [2, 3] [0, 1] ?_
  refine WP.seq ?_
  refine WP.seqCut [(2, .pointer (some ⟨b2, 0, none⟩)), (3, .pointer (some ⟨b3, 0, none⟩)), (32, .bool (decide False))] [blk b2 [iv.val, gv.val, .int .i64 m] 32, blk b3 (rfv g) 53] ?_ ?_
  · refine Zc ?_
    all_goals (first | refine Zf fo_53_0 ?_)
    all_goals (first | refine Zl 1 ag_9 ?_)
    all_goals (first | refine Run.callP [] ok_27 (isName_ok hR g.name hn) ?_; rintro _ _ ⟨rfl, rfl⟩)
    all_goals (first | refine Run.tt (by first | assumption | omega) ?_ | refine Run.ff (by first | assumption | omega) ?_ | refine Run.split (fun hc11 => ?_) (fun hc11 => ?_) | refine Run.splitB (fun hc11 => ?_) (fun hc11 => ?_) | skip)
    all_goals (first | refine Run.bnotB rfl rfl rfl rfl ?_)
    all_goals (first | refine Zm ?_)
    all_goals (first | refine Zv ?_ | refine Zf fo_53_1 ?_)
    all_goals (first | refine Zv ?_ | refine Zl 1 ag_3 ?_)
    all_goals (first | refine Zv ?_ | refine Zi ?_)
    all_goals (first | refine Run.tt (by first | assumption | omega) ?_ | refine Run.ff (by first | assumption | omega) ?_ | refine Run.split (fun hc16 => ?_) (fun hc16 => ?_) | refine Run.splitB (fun hc16 => ?_) (fun hc16 => ?_) | skip)
    all_goals (first | refine Zq ?_)
    all_goals (first | refine Zm ?_)
    all_goals (first | refine Zv ?_ | refine Zf fo_53_1 ?_)
    all_goals (first | refine Zv ?_ | refine Zl 1 ag_3 ?_)
    all_goals (first | refine Zv ?_ | refine Zi ?_)
    all_goals (first | refine Run.tt (by first | assumption | omega) ?_ | refine Run.ff (by first | assumption | omega) ?_ | refine Run.split (fun hc21 => ?_) (fun hc21 => ?_) | refine Run.splitB (fun hc21 => ?_) (fun hc21 => ?_) | skip)
    all_goals (first | refine Zq ?_)
    all_goals (first | refine Zm ?_)
    all_goals (first | refine Zv ?_ | refine Zf fo_53_4 ?_)
    all_goals (first | refine Zv ?_ | refine Zl 1 ag_3 ?_)
    all_goals (first | refine Zv ?_ | refine Zi ?_)
    all_goals (first | refine Run.tt (by first | assumption | omega) ?_ | refine Run.ff (by first | assumption | omega) ?_ | refine Run.split (fun hc26 => ?_) (fun hc26 => ?_) | refine Run.splitB (fun hc26 => ?_) (fun hc26 => ?_) | skip)
    all_goals (first | refine Zq ?_)
    all_goals (first | refine Zm ?_)
    all_goals (first | refine Zv ?_ | refine Zf fo_53_4 ?_)
    all_goals (first | refine Zv ?_ | refine Zl 1 ag_3 ?_)
    all_goals (first | refine Zv ?_ | refine Zi ?_)
    all_goals (first | refine Zq ?_)
    all_goals (refine Run.nil ?_)
    all_goals refine thn_next ⟨⟨rfl, rfl, ?_, trivial⟩, ent.go⟩
    all_goals (first | contradiction | (exfalso; omega) | (simp [Env.get, *]; done) | (simp [Env.get, *]; omega) | skip)
  refine WP.ite rfl (fun h => h.elim) (fun _ => ?_)
  refine Zb ?_
  have hcut : SlR encRI.rd hR (iv.cut 5 (first : Int).toNat ((first : Int) + (cs.length : Int)).toNat).val cs := by
    have := SlR_cut hI (lo := first) (hi := first + cs.length) (by omega) hle
    have e : (is.take (first + cs.length)).drop first = cs := by
      refine List.ext_getElem? fun j => ?_
      rw [List.getElem?_drop]
      by_cases hj : j < cs.length
      · rw [List.getElem?_take_of_lt (by omega)]
        obtain ⟨x, gx⟩ : ∃ x, cs[j]? = some x := ⟨_, List.getElem?_eq_getElem hj⟩
        rw [gx]; exact hat j x gx
      · rw [List.getElem?_eq_none (l := cs) (by omega), List.getElem?_eq_none (by rw [List.length_take]; omega)]
    rw [e] at this
    have e2 : ((first : Int) + (cs.length : Int)).toNat = first + cs.length := by omega
    rw [e2]; exact this
  refine WP.trim [2, 3] [0, 1] ?_
  refine WP.meetC (α := Unit) (fun _ => True) (fun _ => []) (fun _ => []) ?_ ?_
  · refine WP.seq ?_
    rw [← hfi, ← hco] at hcut
    refine Zc ?_
    refine Zf fo_32_0 ?_
    refine Zl 0 ag_29 ?_
    refine Zf fo_53_2 ?_
    refine Zl 1 ag_3 ?_
    refine Zf fo_53_2 ?_
    refine Zl 1 ag_3 ?_
    refine Zf fo_53_3 ?_
    refine Zl 1 ag_3 ?_
    refine Za ?_
    refine Run.sliceV (sv := iv) (il := g.first) (ih := g.first + g.count) rfl rfl sl_29 rfl rfl rfl rfl (by omega) (by omega) (by omega) ?_
    refine Zh sl_29 hcut ?_
    refine Zm ?_
    refine Ze ?_
    refine WP.trim [2, 3, 42, 43, 44] [0, 1] ?_
    generalize hcu : (iv.cut 5 g.first.toNat (g.first + g.count).toNat) = cu at hcut ⊢
    refine WP.block ?_
    refine WP.loopC (α := Nat) (fun i => i ≤ cs.length) (fun i => [(44, .int .i64 (i : Int))]) (fun _ => []) (fun i => cs.length - i) 0 (Nat.zero_le _) ?_
    rintro i hi
    refine WP.trim [2, 3, 42, 43, 44] [0, 1] ?_
    refine Zp ?_
    refine Zi ?_
    refine Ze ?_
    refine WP.seq ?_
    refine WP.ite rfl (fun hlt => ?_) (fun hge => ?_)
    · refine Zb ?_
      obtain ⟨x, gx⟩ : ∃ y, cs[(i : Int).toNat]? = some y := ⟨_, List.getElem?_eq_getElem (by omega)⟩
      have hxv := hok x (List.mem_of_getElem? gx)
      obtain ⟨⟨o1, o2, ra, rb, rc⟩, hnum⟩ := hxv
      obtain ⟨mA, mB, mC⟩ := maskO o1 o2
      refine WP.seq ?_
      refine WP.block ?_
      refine Zp ?_
      refine Zx sl_29 hcut ?_
      refine Run.loadRagg rfl rfl ag_56 rfl rfl (SlR.row hcut gx) rfl ?_
      refine Run.alloc rfl zr_56 rfl rfl rfl ?_
      intro b6
      refine Run.storeB 2 rfl rfl rfl rfl ag_56 rfl rfl rfl rfl rfl ?_
      refine Ze ?_
      refine WP.trim [2, 3, 6, 42, 43, 44] [0, 1, 2] ?_
      refine Zp ?_
      refine Zf fo_56_0 ?_
      refine Zl 2 ag_3 ?_
      refine Run.callP [] ok_28 (uses_ok hR x.op o1 o2) ?_; rintro _ _ ⟨rfl, rfl⟩
      refine Zm ?_
      refine Run.extract rfl rfl rfl rfl rfl ?_
      refine Run.extract rfl rfl rfl rfl rfl ?_
      refine Zm ?_
      refine Zm ?_
      refine Ze ?_
      refine WP.trim [2, 3, 6, 7, 8, 42, 43, 44] [0, 1, 2] ?_
      refine WP.seqCut [(2, .pointer (some ⟨b2, 0, none⟩)), (3, .pointer (some ⟨b3, 0, none⟩)), (42, cu.val), (43, .int .i64 (cs.length : Int)), (44, .int .i64 (i : Int)), (89, .bool (decide False))] [blk b2 [iv.val, gv.val, .int .i64 m] 32, blk b3 (rfv g) 53] ?_ ?_
      · refine Zc ?_
        refine Zm ?_
        refine Run.bnotB rfl rfl rfl rfl ?_
        refine Zm ?_
        refine Zf fo_56_1 ?_
        refine Zl 2 ag_3 ?_
        refine Zm ?_
        refine Run.int2 rfl rfl rfl mA rfl rfl ?_
        refine Zi ?_
        refine Run.eqv (v' := .bool (uA x.op)) (by cases uA x.op <;> rfl) ?_
        refine Run.callP [] ok_29 (field_ok hR x.a (uA x.op) ra) ?_; rintro _ _ ⟨rfl, rfl⟩
        refine Run.bnotB rfl rfl rfl rfl ?_
        refine Zq ?_
        refine Zm ?_
        refine Zf fo_56_2 ?_
        refine Zl 2 ag_3 ?_
        refine Zm ?_
        refine Run.int2 rfl rfl rfl mB rfl rfl ?_
        refine Zi ?_
        refine Run.eqv (v' := .bool (uB x.op)) (by cases uB x.op <;> rfl) ?_
        refine Run.callP [] ok_29 (field_ok hR x.b (uB x.op) rb) ?_; rintro _ _ ⟨rfl, rfl⟩
        refine Run.bnotB rfl rfl rfl rfl ?_
        refine Zq ?_
        refine Zm ?_
        refine Zf fo_56_3 ?_
        refine Zl 2 ag_3 ?_
        refine Zm ?_
        refine Run.int2 rfl rfl rfl mC rfl rfl ?_
        refine Zi ?_
        refine Run.eqv (v' := .bool (uC x.op)) (by cases uC x.op <;> rfl) ?_
        refine Run.callP [] ok_29 (field_ok hR x.c (uC x.op) rc) ?_; rintro _ _ ⟨rfl, rfl⟩
        refine Run.bnotB rfl rfl rfl rfl ?_
        refine Zq ?_
        refine Zm ?_
        refine Run.loadBagg 0 rfl rfl ag_32 rfl rfl rfl rfl rfl ?_
        refine Run.loadBagg 1 rfl rfl ag_53 rfl rfl rfl rfl rfl ?_
        refine Run.loadBagg 2 rfl rfl ag_56 rfl rfl rfl rfl rfl ?_
        refine Run.callP [] ok_30 (numR_ok hR iv gv m fs g x hG hnum (by omega) (by omega)) ?_; rintro _ _ ⟨rfl, rfl⟩
        refine Run.bnotB rfl rfl rfl rfl ?_
        refine Zq ?_
        refine Run.nil ?_
        refine thn_next ⟨⟨rfl, rfl, rfl, rfl, rfl, ?_, trivial⟩, ent.go⟩
        rfl
      refine WP.ite rfl (fun h => h.elim) (fun _ => ?_)
      refine WP.skip ?_; refine blk_norm ?_; refine thn_next ?_
      refine Zc ?_
      refine Za ?_
      refine Zm ?_
      refine Run.nil ?_
      refine thn_next ⟨i + 1, by omega, by omega, Ko.go, ent.gc⟩
    · refine Zj ?_
      refine thn_next ⟨(), trivial, Ko.go, ent.gc⟩
  intro _ _
  have gy : is[(g.first + g.count - 1).toNat]? = some y := by
    have e : (g.first + g.count - 1).toNat = first + xs.length := by omega
    rw [e]
    exact hat xs.length y (by rw [hlast]; simp)
  refine WP.meetC (α := Unit) (fun _ => False) (fun _ => []) (fun _ => []) ?_ (fun _ h => h.elim)
  refine Zp ?_
  refine Zf fo_32_0 ?_
  refine Zl 0 ag_29 ?_
  refine Zf fo_53_2 ?_
  refine Zl 1 ag_3 ?_
  refine Zf fo_53_3 ?_
  refine Zl 1 ag_3 ?_
  refine Za ?_
  refine Zs ?_
  refine Zx sl_29 hI ?_
  refine Zf fo_56_0 ?_
  refine Zr ag_3 (SlR.row hI gy 0 _ rfl) ?_
  refine Ze ?_
  refine WP.trim [101] [] ?_
  refine WP.block ?_
  refine WP.seqCut [(102, .bool (decide True))] [] ?_ ?_
  · refine Zp ?_
    refine Zi ?_
    refine Zm ?_
    refine Ze ?_
    refine WP.ite rfl (fun h => ?_) (fun h => ?_)
    · refine WP.skip ?_; refine thn_next ⟨⟨?_, trivial⟩, ent.none _⟩
      (simp [Env.get, *] <;> omega)
    · refine Zp ?_
      refine Zi ?_
      refine Zm ?_
      refine Ze ?_
      refine WP.ite rfl (fun h2 => ?_) (fun h2 => ?_)
      · refine WP.skip ?_; refine thn_next ⟨⟨?_, trivial⟩, ent.none _⟩
        (simp [Env.get, *] <;> omega)
      · refine Zc ?_
        refine Zi ?_
        refine Zm ?_
        refine Run.nil ?_
        refine thn_next ⟨⟨?_, trivial⟩, ent.none _⟩
        have : y.op = 35 := by omega
        (simp [Env.get, *] <;> omega)
  refine WP.ite rfl (fun _ => ?_) (fun h => (h trivial).elim)
  refine Zp ?_
  refine Zm ?_
  refine Ze ?_
  refine WP.ret ?_; refine blk_ret ?_; refine thn_ret ?_
  exact retT [4] _ rfl rfl ⟨_, ent.none _, rfl, rfl⟩
end Go.Proofs.Ytfaokbjpinlcaaa
end
section
/- r16's check of the code that is made; walked. -/
namespace Go.Proofs.Ytfaokbjpinlcaaa
open Go.Sep
set_option linter.unusedSimpArgs false
set_option linter.unusedVariables false
set_option maxRecDepth 100000
attribute [local irreducible] blk slA mp mpF rows rowsBut many mpK mpE
theorem emL_funG {A : AL} (hok : okA nmB A = true) (hs : SmallA A) {i : Nat} {F : AF} (gF : A.funcs[i]? = some F) :
    FunG (emL A.funcs).2.length (emL A.funcs).1 (rfU F (emL (A.funcs.take i)).1.length) (codeC (savS F) F (emL (A.funcs.take i)).1.length) (emL (A.funcs.take i)).1.length := by
  have hm := List.mem_of_getElem? gF
  have hi := (List.getElem?_eq_some_iff.1 gF).1
  have hV := okA_funV hok hs hm
  have hlen := emL_snd_len A.funcs A.funcs.length (Nat.le_refl _)
  rw [List.take_length] at hlen
  have hsl := hV.ok.sl
  have h8 := savS_len F
  refine ⟨(okA_funB hok hm).1, ?_, ?_, rfl, rfl, code_ne hV _, ?_, fun j x hx => ?_, ?_, code_last hV _⟩
  · simp only [rfU, slotW]; omega
  · have := hV.ok.pl; simp only [rfU]; omega
  · have := emL_le (l := A.funcs) (i := i + 1) (by omega)
    rw [emL_ins gF] at this; exact this
  · rw [emL_at gF (List.getElem?_eq_some_iff.1 hx).1]; exact hx
  · rw [hlen]; exact code_V hV _
set_option maxHeartbeats 4000000 in
theorem rchk_ok (hR : Heap) (A : AL) (iv gv : SV) (hok : okA nmB A = true) (hs : SmallA A) (hI : SlR encRI.rd hR iv.val (emL A.funcs).1) (hG : SlR encRF.rd hR gv.val (emL A.funcs).2) :
    Tri Try.prog hR 9 #[.agg ⟨[iv.val, gv.val, .int .i64 A.main]⟩] [] fun v Γ' => v = .int .i64 0 ∧ Γ' = [] := by
  refine Tri.ent (Tri.of (args := [.agg ⟨[iv.val, gv.val, .int .i64 A.main]⟩]) Try.func9 rfl Try.ntmps9 (by simp) ?_)
  have hlen := emL_snd_len A.funcs A.funcs.length (Nat.le_refl _)
  rw [List.take_length] at hlen
  have hsf := hs.sf
  have hsm : ∀ i, i ≤ A.funcs.length → (emL (A.funcs.take i)).1.length ≤ 3000000 * i := fun i hi => (emL_len (fun F hF => okA_fun hok hs hF) i hi).1
  have hl := hsm A.funcs.length (Nat.le_refl _)
  rw [List.take_length] at hl
  have hnd := (okA_nodup hok).1
  refine Zp ?_
  refine Run.box rfl rfl rfl rfl rfl ?_
  intro b1
  refine Zm ?_
  refine Ze ?_
  refine Zp ?_
  refine Zm ?_
  refine Ze ?_
  refine Zp ?_
  refine Run.makeMapK (fun s : ByteArray => Value.string s) rfl rfl rfl ?_
  intro b9
  refine Zm ?_
  refine Ze ?_
  refine WP.trim [1, 2, 3, 4] [0, 1] ?_
  refine WP.meetC (α := ByteArray → Option Value) (fun _ => True) (fun _ => [(3, .int .i64 ((emL A.funcs).1.length : Int))]) (fun f => [(1, mpK encS b9 f)]) ?_ ?_
  · refine Zp ?_
    refine Zf fo_32_1 ?_
    refine Zl 0 ag_30 ?_
    refine Zh sl_30 hG ?_
    refine Zm ?_
    refine Ze ?_
    refine WP.block ?_
    refine WP.trim [1, 2, 3, 4, 11, 12, 13] [0, 1] ?_
    refine WP.loopC (α := Nat × (ByteArray → Option Value)) (fun z => z.1 ≤ A.funcs.length ∧ ∀ s, s ∉ (A.funcs.map AF.name).take z.1 → z.2 s = none) (fun z => [(3, .int .i64 ((emL (A.funcs.take z.1)).1.length : Int)), (13, .int .i64 (z.1 : Int))]) (fun z => [(1, mpK encS b9 z.2)]) (fun z => A.funcs.length - z.1) (0, fun _ => none) ⟨Nat.zero_le _, fun _ _ => rfl⟩ ?_
    rintro ⟨i, f⟩ ⟨hi, hno⟩
    simp only at hi hno ⊢
    refine WP.trim [1, 2, 3, 4, 11, 12, 13] [0, 1] ?_
    refine Zp ?_
    refine Zi ?_
    refine Ze ?_
    refine WP.seq ?_
    refine WP.ite rfl (fun hlt => ?_) (fun hge => ?_)
    · refine Zb ?_
      obtain ⟨F, gF⟩ : ∃ b, A.funcs[(i : Int).toNat]? = some b := ⟨_, List.getElem?_eq_getElem (by omega)⟩
      have gF' : A.funcs[i]? = some F := gF
      have gN : (A.funcs.map AF.name)[i]? = some F.name := by rw [List.getElem?_map, gF']; rfl
      have hnone : f F.name = none := hno _ fun hm => not_nodup gN hm hnd
      have HG := emL_funG hok hs gF'
      have gg : (emL A.funcs).2[(i : Int).toNat]? = some (rfU F (emL (A.funcs.take i)).1.length) := emL_fun gF'
      have hnx := emL_ins gF'
      have e1 : (rfU F (emL (A.funcs.take i)).1.length).name = F.name := rfl
      have hq := hsm i hi
      have hle2 := HG.le
      generalize rfU F (emL (A.funcs.take i)).1.length = g at HG gg e1
      generalize hcs : codeC (savS F) F (emL (A.funcs.take i)).1.length = cs at HG hnx hle2
      generalize hnext : (emL (A.funcs.take i)).1.length = next at HG hnx hq hle2 ⊢
      have hfi := HG.fi
      have hco := HG.co
      have hne := HG.ne
      refine WP.seq ?_
      refine WP.block ?_
      refine Zp ?_
      refine Zm ?_
      refine Zx sl_30 hG ?_
      refine Run.loadRagg rfl rfl ag_53 rfl rfl (SlR.row hG gg) rfl ?_
      refine Run.alloc rfl zr_53 rfl rfl rfl ?_
      intro b6
      refine Zm ?_
      refine Run.storeB 2 rfl rfl rfl rfl ag_53 rfl rfl rfl rfl rfl ?_
      refine Ze ?_
      refine WP.trim [1, 2, 3, 4, 5, 6, 11, 12, 13] [0, 1, 2] ?_
      refine WP.seq ?_
      refine Zp ?_
      refine Zm ?_
      refine Zf fo_53_0 ?_
      refine Zl 2 ag_9 ?_
      refine Run.lookupCK kok_9 1 (k := g.name) rfl rfl rfl mt_57 zr_3 rfl rfl rfl ?_; refine Run.eqv (v' := .tuple #[.int .i64 0, .bool false]) (by rw [e1, hnone]; rfl) ?_
      refine Zm ?_
      refine Run.extract rfl rfl rfl rfl rfl ?_
      refine Run.extract rfl rfl rfl rfl rfl ?_
      refine Zm ?_
      refine Zm ?_
      refine Ze ?_
      refine WP.trim [1, 2, 3, 4, 5, 6, 8, 11, 12, 13] [0, 1, 2] ?_
      refine WP.seqCut [(1, .pointer (some ⟨b1, 0, none⟩)), (2, .int .i64 0), (3, .int .i64 (next : Int)), (4, .map (some b9)), (5, .int .i64 (i : Int)), (6, .pointer (some ⟨b6, 0, none⟩)), (11, gv.val), (12, .int .i64 ((emL A.funcs).2.length : Int)), (13, .int .i64 (i : Int)), (46, .bool (decide False))] [blk b1 [iv.val, gv.val, .int .i64 A.main] 32, mpK encS b9 f, blk b6 (rfv g) 53] ?_ ?_
      · refine Zc ?_
        all_goals (first | refine Zm ?_)
        all_goals (first | refine Zm ?_)
        all_goals (first | refine Zv ?_ | refine Zf fo_53_2 ?_)
        all_goals (first | refine Zv ?_ | refine Zl 2 ag_3 ?_)
        all_goals (first | refine Zv ?_ | refine Zm ?_)
        all_goals (first | refine Zv ?_ | refine Zi ?_)
        all_goals (first | refine Run.tt (by first | assumption | omega) ?_ | refine Run.ff (by first | assumption | omega) ?_ | refine Run.split (fun hc30 => ?_) (fun hc30 => ?_) | refine Run.splitB (fun hc30 => ?_) (fun hc30 => ?_) | skip)
        all_goals (first | refine Zq ?_)
        all_goals (first | refine Zm ?_)
        all_goals (first | refine Zv ?_ | refine Zf fo_53_3 ?_)
        all_goals (first | refine Zv ?_ | refine Zl 2 ag_3 ?_)
        all_goals (first | refine Zv ?_ | refine Zi ?_)
        all_goals (first | refine Run.tt (by first | assumption | omega) ?_ | refine Run.ff (by first | assumption | omega) ?_ | refine Run.split (fun hc35 => ?_) (fun hc35 => ?_) | refine Run.splitB (fun hc35 => ?_) (fun hc35 => ?_) | skip)
        all_goals (first | refine Zq ?_)
        all_goals (first | refine Zm ?_)
        all_goals (first | refine Zv ?_ | refine Zf fo_53_3 ?_)
        all_goals (first | refine Zv ?_ | refine Zl 2 ag_3 ?_)
        all_goals (first | refine Zv ?_ | refine Zf fo_32_0 ?_)
        all_goals (first | refine Zv ?_ | refine Zl 0 ag_29 ?_)
        all_goals (first | refine Zv ?_ | refine Zh sl_29 hI ?_)
        all_goals (first | refine Zv ?_ | refine Zm ?_)
        all_goals (first | refine Zv ?_ | refine Zs ?_)
        all_goals (first | refine Zv ?_ | refine Zi ?_)
        all_goals (first | refine Zq ?_)
        all_goals (refine Run.nil ?_)
        all_goals refine thn_next ⟨⟨rfl, rfl, rfl, rfl, rfl, rfl, rfl, rfl, rfl, ?_, trivial⟩, ent.go⟩
        all_goals (first | contradiction | (exfalso; omega) | (simp [Env.get, *]; done) | (simp [Env.get, *]; omega) | skip)
      refine WP.ite rfl (fun h => h.elim) (fun _ => ?_)
      refine Zb ?_
      refine Zp ?_
      refine Zm ?_
      refine Zf fo_53_3 ?_
      refine Zl 2 ag_3 ?_
      refine Za ?_
      refine Zm ?_
      refine Ze ?_
      refine WP.trim [1, 2, 3, 4, 5, 6, 11, 12, 13] [0, 1, 2] ?_
      refine Zp ?_
      refine Zm ?_
      refine Zf fo_53_0 ?_
      refine Zl 2 ag_9 ?_
      refine Zm ?_
      refine Run.mapUpdateK kok_9 1 (k := g.name) (v := .int .i64 (i : Int)) rfl rfl rfl rfl mt_57 rfl rfl ?_
      refine Ze ?_
      refine Zp ?_
      refine Run.loadBagg 0 rfl rfl ag_32 rfl rfl rfl rfl rfl ?_
      refine Run.loadBagg 2 rfl rfl ag_53 rfl rfl rfl rfl rfl ?_
      refine Run.callP [] ok_15 (rfun_ok hR iv gv A.main _ _ g cs next hI hG (by omega) HG) ?_; rintro _ _ ⟨rfl, rfl⟩
      refine Run.bnotB rfl rfl rfl rfl ?_
      refine Run.eqv (v' := .bool (decide False)) (by rfl) ?_
      refine Ze ?_
      refine WP.ite rfl (fun h => h.elim) (fun _ => ?_)
      refine WP.skip ?_; refine blk_norm ?_; refine thn_next ?_
      refine Zc ?_
      refine Za ?_
      refine Zm ?_
      refine Run.nil ?_
      refine thn_next ⟨(i + 1, updK f g.name (.int .i64 (i : Int))), ⟨by simp only; omega, fun s hs => ?_⟩, by simp only; omega, ?_, ent.gc⟩
      · simp only at hs ⊢
        rw [List.take_add_one, gN] at hs
        simp only [Option.toList, List.mem_append, List.mem_singleton, not_or] at hs
        unfold updK
        rw [if_neg (by rw [e1]; exact hs.2)]
        exact hno s hs.1
      · have e3 : ((emL (A.funcs.take (i + 1))).1.length : Int) = (next : Int) + g.count := by omega
        simp only
        rw [e3]
        exact Ko.go
    · refine Zj ?_
      have e : i = A.funcs.length := by omega
      subst e
      rw [List.take_length]
      refine thn_next ⟨f, trivial, Ko.go, ent.gc⟩
  intro f _
  obtain ⟨Fm, gM, hpm⟩ := okA_main hok
  have hmb := (okA_nodup hok).2
  have gg := emL_fun gM
  have e1 : (rfU Fm (emL (A.funcs.take A.main.toNat)).1.length).params = 0 := by simp only [rfU, hpm]; rfl
  generalize rfU Fm (emL (A.funcs.take A.main.toNat)).1.length = g at gg e1
  refine WP.seq ?_
  refine WP.seqCut [(1, .pointer (some ⟨b1, 0, none⟩)), (87, .bool (decide False))] [blk b1 [iv.val, gv.val, .int .i64 A.main] 32] ?_ ?_
  · refine Zc ?_
    all_goals (first | refine Zm ?_)
    all_goals (first | refine Zf fo_32_0 ?_)
    all_goals (first | refine Zl 0 ag_29 ?_)
    all_goals (first | refine Zh sl_29 hI ?_)
    all_goals (first | refine Zi ?_)
    all_goals (first | refine Run.tt (by first | assumption | omega) ?_ | refine Run.ff (by first | assumption | omega) ?_ | refine Run.split (fun hc64 => ?_) (fun hc64 => ?_) | refine Run.splitB (fun hc64 => ?_) (fun hc64 => ?_) | skip)
    all_goals (first | refine Zm ?_)
    all_goals (first | refine Zv ?_ | refine Zf fo_32_2 ?_)
    all_goals (first | refine Zv ?_ | refine Zl 0 ag_3 ?_)
    all_goals (first | refine Zv ?_ | refine Zi ?_)
    all_goals (first | refine Run.tt (by first | assumption | omega) ?_ | refine Run.ff (by first | assumption | omega) ?_ | refine Run.split (fun hc68 => ?_) (fun hc68 => ?_) | refine Run.splitB (fun hc68 => ?_) (fun hc68 => ?_) | skip)
    all_goals (first | refine Zq ?_)
    all_goals (first | refine Zm ?_)
    all_goals (first | refine Zv ?_ | refine Zf fo_32_2 ?_)
    all_goals (first | refine Zv ?_ | refine Zl 0 ag_3 ?_)
    all_goals (first | refine Zv ?_ | refine Zf fo_32_1 ?_)
    all_goals (first | refine Zv ?_ | refine Zl 0 ag_30 ?_)
    all_goals (first | refine Zv ?_ | refine Zh sl_30 hG ?_)
    all_goals (first | refine Zv ?_ | refine Zi ?_)
    all_goals (first | refine Run.tt (by first | assumption | omega) ?_ | refine Run.ff (by first | assumption | omega) ?_ | refine Run.split (fun hc76 => ?_) (fun hc76 => ?_) | refine Run.splitB (fun hc76 => ?_) (fun hc76 => ?_) | skip)
    all_goals (first | refine Zq ?_)
    all_goals (first | refine Zm ?_)
    all_goals (first | refine Zv ?_ | refine Zf fo_32_1 ?_)
    all_goals (first | refine Zv ?_ | refine Zl 0 ag_30 ?_)
    all_goals (first | refine Zv ?_ | refine Zf fo_32_2 ?_)
    all_goals (first | refine Zv ?_ | refine Zl 0 ag_3 ?_)
    all_goals (first | refine Zv ?_ | refine Zx sl_30 hG ?_)
    all_goals (first | refine Zv ?_ | refine Zf fo_53_4 ?_)
    all_goals (first | refine Zv ?_ | refine Zr ag_3 (SlR.row hG gg 4 _ rfl) ?_)
    all_goals (first | refine Zv ?_ | refine Zi ?_)
    all_goals (first | refine Zq ?_)
    all_goals (refine Run.nil ?_)
    all_goals refine thn_next ⟨⟨rfl, ?_, trivial⟩, ent.go⟩
    all_goals (first | contradiction | (exfalso; omega) | (simp [Env.get, *]; done) | (simp [Env.get, *]; omega) | skip)
  refine WP.ite rfl (fun h => h.elim) (fun _ => ?_)
  refine Zb ?_
  refine Zp ?_
  refine Zm ?_
  refine Ze ?_
  refine WP.ret ?_
  exact retT [2] _ rfl rfl ⟨_, ent.none _, rfl, rfl⟩
end Go.Proofs.Ytfaokbjpinlcaaa
end
section
/- ALIR as it is handed in: a copy of all of it, each list with a mark behind its end: what is owned of it, and what is read of it. -/
namespace Go.Sep
section
variable {R A : Type}
def LeafR (E : Enc A) (mk : A) (h : Heap) (v : SV) (xs : List A) : Prop := ∃ w : SV, v = w.cut E.sz 0 xs.length ∧ SlR E.rd h w.val (xs ++ [mk])
def LstR (E : Enc R) (mk : R) (q : Heap → R → A → Prop) (h : Heap) (v : SV) (xs : List A) : Prop := ∃ (w : SV) (rs : List R), v = w.cut E.sz 0 rs.length ∧ rs.length = xs.length ∧ SlR E.rd h w.val (rs ++ [mk]) ∧
  ∀ (i : Nat) (r : R) (x : A), rs[i]? = some r → xs[i]? = some x → q h r x
theorem LeafR.mono {E : Enc A} {mk : A} {h g : Heap} {v : SV} {xs : List A} (hs : Sub h g) (H : LeafR E mk h v xs) : LeafR E mk g v xs := by
  obtain ⟨w, e, H⟩ := H
  exact ⟨w, e, H.mono hs⟩
theorem LstR.mono {E : Enc R} {mk : R} {q : Heap → R → A → Prop} {h g : Heap} {v : SV} {xs : List A} (hs : Sub h g) (hq : ∀ r x, q h r x → q g r x) (H : LstR E mk q h v xs) : LstR E mk q g v xs := by
  obtain ⟨w, rs, e, hl, H, G⟩ := H
  exact ⟨w, rs, e, hl, H.mono hs, fun i r x h1 h2 => hq _ _ (G i r x h1 h2)⟩
end
end Go.Sep
namespace Go.Proofs.Ytfaokbjpinlcaaa
open Go.Sep
set_option linter.unusedSimpArgs false
set_option linter.unusedVariables false
abbrev XI := AI × SV × SV
abbrev XB := AB × SV × SV
abbrev XF := AF × SV × SV
def encXI : Enc XI := ⟨6, fun x => aiv x.1 x.2.1.val x.2.2.val, fun _ => rfl, fun _ => rfl⟩
def encXB : Enc XB := ⟨5, fun x => abv x.1 x.2.1.val x.2.2.val, fun _ => rfl, fun _ => rfl⟩
def encXF : Enc XF := ⟨5, fun x => afv x.1 x.2.1.val x.2.2.val, fun _ => rfl, fun _ => rfl⟩
def mkL : Lc := ⟨-71, 0⟩
def mkI : XI := (⟨-71, 0, ⟨0, 0⟩, [], []⟩, nilS, nilS)
def InsR (h : Heap) (r : XI) (x : AI) : Prop := r.1 = x ∧ LeafR encLc mkL h r.2.1 x.args ∧ LeafR encI (-71) h r.2.2 x.saves
abbrev BodyR : Heap → SV → List AI → Prop := LstR encXI mkI InsR
theorem InsR.mono {h g : Heap} {r : XI} {x : AI} (hs : Sub h g) (H : InsR h r x) : InsR g r x := ⟨H.1, H.2.1.mono hs, H.2.2.mono hs⟩
theorem BodyR.mono {h g : Heap} {v : SV} {xs : List AI} (hs : Sub h g) (H : BodyR h v xs) : BodyR g v xs := LstR.mono hs (fun _ _ => InsR.mono hs) H
end Go.Proofs.Ytfaokbjpinlcaaa
end
section
/- The chapter's example: a small program, and what is made of it; plain. -/
namespace Go.Sep
def All2 {R A : Type} (q : R → A → Prop) : List R → List A → Prop
  | [], [] => True
  | r :: rs, x :: xs => q r x ∧ All2 q rs xs
  | _, _ => False
theorem All2.get {R A : Type} {q : R → A → Prop} : ∀ {rs : List R} {xs : List A}, All2 q rs xs → rs.length = xs.length ∧ ∀ (i : Nat) (r : R) (x : A), rs[i]? = some r → xs[i]? = some x → q r x
  | [], [], _ => ⟨rfl, fun i r x h => by simp at h⟩
  | r :: rs, x :: xs, ⟨h1, h2⟩ => ⟨by simp [h2.get.1], fun i r' x' hr hx => by
    cases i with
    | zero => simp at hr hx; subst hr hx; exact h1
    | succ i => exact h2.get.2 i r' x' hr hx⟩
theorem SlR.of2 {R A : Type} {E : Enc R} {F : Rd A} {h : Heap} {v : Value} {rs : List R} {xs : List A} (H : SlR E.rd h v rs) (hsz : F.sz = E.sz) (hq : All2 (fun r x => F.rel h x (E.cells r)) rs xs) : SlR F h v xs :=
  SlR.turn (E := E.rd) hq.get.1.symm hsz (fun i r x hr hx cs hc => by
    have : cs = E.cells r := hc
    rw [this]; exact hq.get.2 i r x hr hx) H
theorem nil_read {A : Type} (E : Rd A) (h : Heap) : SlR E h (SV.mk none 0 0).val [] := ⟨none, 0, rfl, Nat.le_refl _, fun h => absurd rfl h⟩
end Go.Sep
namespace Go.Proofs.Ytfaokbjpinlcaaa
open Go.Sep
set_option linter.unusedVariables false
def sI1 : AI := ⟨1, 7, ⟨1, 0⟩, [], []⟩
def sB1 : AB := ⟨[sI1], ⟨3, ⟨1, 0⟩, []⟩⟩
def sevenF : AF := ⟨⟨#[115, 101, 118, 101, 110]⟩, [], 1, 0, [sB1]⟩
def mI1 : AI := ⟨24, 0, ⟨1, 0⟩, [], []⟩
def mI2 : AI := ⟨25, 0, ⟨1, 1⟩, [], [0]⟩
def mI3 : AI := ⟨26, 0, ⟨0, 0⟩, [⟨1, 0⟩], []⟩
def mI4 : AI := ⟨26, 0, ⟨0, 0⟩, [⟨1, 1⟩], []⟩
def mI5 : AI := ⟨31, 0, ⟨2, 0⟩, [⟨1, 1⟩], []⟩
def mI6 : AI := ⟨25, 0, ⟨0, 0⟩, [], []⟩
def mI7 : AI := ⟨26, 0, ⟨0, 0⟩, [⟨2, 0⟩], []⟩
def sB2 : AB := ⟨[mI1, mI2, mI3, mI4, mI5, mI6, mI7], ⟨3, ⟨0, 0⟩, []⟩⟩
def mainF : AF := ⟨⟨#[109, 97, 105, 110]⟩, [], 0, 1, [sB2]⟩
def sampA : AL := ⟨[sevenF, mainF], 1⟩
theorem samp_small : SmallA sampA := by
  refine ⟨by decide, fun F hF => ?_⟩
  rcases List.mem_cons.1 hF with rfl | hF
  · exact ⟨by decide, by decide, by decide, by decide, by decide⟩
  · obtain rfl := List.mem_singleton.1 hF
    exact ⟨by decide, by decide, by decide, by decide, by decide⟩
theorem samp_ok : okA nmB sampA = true := by decide
theorem movesC_nil (S : List Int) : movesC S [] = [] := by
  unfold movesC
  rw [List.filter_nil, ordF_eq Ord.nil]; rfl
theorem sv_seven : savS sevenF = [] := by decide
theorem sv_main : savS mainF = [0] := by decide
theorem code_seven (first : Int) : codeC [] sevenF first = [⟨1, 0, 0, 0, 7⟩, ⟨27, 0, 0, 0, 0⟩] := by
  simp [codeC, rawC, preC, sevenF, sB1, sI1, numbered, movesC_nil, blkC, insC, readsC, opC, dstR, termC, noneB, loadC]
theorem code_main (first : Int) : codeC [0] mainF first = [⟨36, 0, 0, 0, 0⟩, ⟨25, 0, 0, 0, 2⟩, ⟨26, 0, 0, 0, 0⟩, ⟨2, 8, 0, 0, 0⟩, ⟨24, 0, 0, 0, 2⟩, ⟨2, 1, 8, 0, 0⟩, ⟨37, 0, 0, 0, 0⟩, ⟨37, 1, 0, 0, 0⟩, ⟨25, 1, 0, 0, 3⟩, ⟨26, 0, 0, 0, 0⟩, ⟨24, 8, 0, 0, 3⟩, ⟨37, 8, 0, 0, 0⟩, ⟨27, 0, 0, 0, 0⟩] := by
  simp [codeC, rawC, preC, mainF, sB2, mI1, mI2, mI3, mI4, mI5, mI6, mI7, numbered, movesC_nil, blkC, insC, callC, moveC, readsC, opC, dstR, argR, regOf, termC, noneB, loadC, storeC, slotW, homeW]
theorem samp_code : emL sampA.funcs = ([⟨1, 0, 0, 0, 7⟩, ⟨27, 0, 0, 0, 0⟩, ⟨36, 0, 0, 0, 0⟩, ⟨25, 0, 0, 0, 2⟩, ⟨26, 0, 0, 0, 0⟩, ⟨2, 8, 0, 0, 0⟩, ⟨24, 0, 0, 0, 2⟩, ⟨2, 1, 8, 0, 0⟩, ⟨37, 0, 0, 0, 0⟩, ⟨37, 1, 0, 0, 0⟩, ⟨25, 1, 0, 0, 3⟩, ⟨26, 0, 0, 0, 0⟩, ⟨24, 8, 0, 0, 3⟩, ⟨37, 8, 0, 0, 0⟩, ⟨27, 0, 0, 0, 0⟩], [⟨sevenF.name, 2, 0, 2, 0⟩, ⟨mainF.name, 4, 2, 13, 0⟩]) := by
  have e : emL sampA.funcs = emS (emS ([], []) sevenF) mainF := rfl
  rw [e]
  unfold emS
  rw [sv_seven, sv_main, code_seven, code_main]
  rfl
end Go.Proofs.Ytfaokbjpinlcaaa
end
