/- The document's own rules of form: registers, operations; walked. -/
import Derived.Test.YtjjfehdlmdhhmaaDoorGL7
import Derived.Test.YtjjfehdlmdhhmaaDoorGT1
section
/- The document's own rules of form: registers, operations; walked. -/
namespace Go.Proofs.YtjjfehdlmdhhmaaDoor
open Go.Sep
set_option linter.unusedSimpArgs false
set_option linter.unusedVariables false
attribute [local irreducible] blk slA mp mpF rows rowsBut many
/-- a function of LIR as a value -/
structure FunV (h : Heap) (F : LFun) (su sv : SV) : Prop where
  hu : SlR rdI h su.val F.params
  hv : SlR rdBlk h sv.val F.blocks
  sp : F.params.length ≤ 1000000
  sb : F.blocks.length ≤ 1000000
abbrev fcs (F : LFun) (su sv : SV) : List Value := [.string F.name, su.val, .int .i64 F.regs, .int .i64 F.res, sv.val]
theorem refRegister_ok (hR : Heap) (F : LFun) (su sv : SV) (r : Int) :
    Tri Tryd.prog hR 49 #[.agg ⟨fcs F su sv⟩, .int .i64 r] [] fun x Γ' => x = .bool (regB F r) ∧ Γ' = [] := by
  refine Tri.of (args := [.agg ⟨fcs F su sv⟩, .int .i64 r]) Tryd.func49 rfl Tryd.ntmps49 (by simp) ?_
  refine Zp ?_
  refine Run.box rfl rfl rfl rfl rfl ?_
  intro b2
  refine Zm ?_
  refine Ze ?_
  refine WP.via (Γ' := [blk b2 (fcs F su sv) 25]) (ent.refl _) ?_
  refine WP.seqCut [(4, .bool (regB F r))] [] ?_ ?_
  · refine Zc ?_
    all_goals (first | refine Zm ?_)
    all_goals (first | refine Zi ?_)
    all_goals (first | refine Run.tt (by first | assumption | omega) ?_ | refine Run.ff (by first | assumption | omega) ?_ | refine Run.split (fun hc6 => ?_) (fun hc6 => ?_) | refine Run.splitB (fun hc6 => ?_) (fun hc6 => ?_) | skip)
    all_goals (first | refine Zm ?_)
    all_goals (first | refine Zv ?_ | refine Zm ?_)
    all_goals (first | refine Zv ?_ | refine Zf fo_25_2 ?_)
    all_goals (first | refine Zv ?_ | refine Zl 0 ag_3 ?_)
    all_goals (first | refine Zv ?_ | refine Zi ?_)
    all_goals (first | refine Zq ?_)
    all_goals (first | refine Zm ?_)
    all_goals (refine Run.nil ?_)
    all_goals refine thn_next ⟨⟨?_, trivial⟩, pick_only [] _⟩
    all_goals simp [Env.get, regB, *]
  refine WP.ret ?_
  exact retT [4] _ rfl rfl ⟨rfl, rfl⟩
/-- how many operands; is a register set; is it an operation? -/
def rowL (x : Int) : Int × Bool × Bool :=
  if x = 1 ∨ x = 24 then (0, true, true)
  else if (2 ≤ x ∧ x ≤ 16) ∨ x = 21 then (2, true, true)
  else if (17 ≤ x ∧ x ≤ 20) ∨ x = 23 ∨ x = 31 then (1, true, true)
  else if x = 22 then (3, false, true)
  else if 26 ≤ x ∧ x ≤ 29 then (1, false, true)
  else if x = 30 then (2, false, true)
  else (0, false, false)
set_option maxRecDepth 100000 in
theorem row_ok (hR : Heap) (x : Int) : Tri Tryd.prog hR 72 #[.int .i64 x] [] fun u Γ' => u = .tuple #[.int .i64 (rowL x).1, .bool (rowL x).2.1, .bool (rowL x).2.2] ∧ Γ' = [] := by
  refine Tri.of (args := [.int .i64 x]) Tryd.func72 rfl Tryd.ntmps72 (by simp) ?_
  refine Zp ?_
  iterate 3 refine Zm ?_
  refine Ze ?_
  refine WP.seqMeet (α := Unit) (fun _ => ¬ (x = 1 ∨ x = 24) ∧ ¬ ((2 ≤ x ∧ x ≤ 16) ∨ x = 21) ∧ ¬ ((17 ≤ x ∧ x ≤ 20) ∨ x = 23 ∨ x = 31) ∧ x ≠ 22 ∧ ¬ (26 ≤ x ∧ x ≤ 29) ∧ x ≠ 30) (fun _ => [(0, .int .i64 x)]) (fun _ => []) ?_ ?_
  · refine WP.block ?_
    refine WP.seqCut [(0, .int .i64 x), (5, .bool (decide (x = 1 ∨ x = 24)))] [] ?_ ?_
    · refine Zp ?_
      refine Zm ?_
      refine Zi ?_
      refine Zm ?_
      refine Ze ?_
      refine WP.ite rfl (fun h1 => ?_) (fun h1 => ?_)
      · refine WP.skip ?_; refine thn_next ⟨⟨rfl, ?_, trivial⟩, ent.refl _⟩
        simp [Env.get, *]
      · refine Zc ?_
        refine Zm ?_
        refine Zi ?_
        refine Zm ?_
        refine Run.nil ?_
        refine thn_next ⟨⟨rfl, ?_, trivial⟩, ent.refl _⟩
        simp [Env.get, *]
    refine WP.ite rfl (fun hA => ?_) (fun hA => ?_)
    · refine Zp ?_
      iterate 3 refine Zm ?_
      refine Ze ?_
      refine WP.ret ?_; refine blk_ret ?_; refine thn_ret ?_
      exact retT [2, 3, 4] _ rfl rfl ⟨by simp [rowL, tupV, *], rfl⟩
    refine WP.seqCut [(0, .int .i64 x), (10, .bool (decide ((2 ≤ x ∧ x ≤ 16) ∨ x = 21)))] [] ?_ ?_
    · refine WP.seqCut [(0, .int .i64 x), (10, .bool (decide (2 ≤ x ∧ x ≤ 16)))] [] ?_ ?_
      · refine Zc ?_
        all_goals (first | refine Zm ?_)
        all_goals (first | refine Zi ?_)
        all_goals (first | refine Run.tt (by first | assumption | omega) ?_ | refine Run.ff (by first | assumption | omega) ?_ | refine Run.split (fun hc12 => ?_) (fun hc12 => ?_) | refine Run.splitB (fun hc12 => ?_) (fun hc12 => ?_) | skip)
        all_goals (first | refine Zm ?_)
        all_goals (first | refine Zv ?_ | refine Zm ?_)
        all_goals (first | refine Zv ?_ | refine Zi ?_)
        all_goals (first | refine Zq ?_)
        all_goals (first | refine Zm ?_)
        all_goals (refine Run.nil ?_)
        all_goals refine thn_next ⟨⟨rfl, ?_, trivial⟩, ent.refl _⟩
        all_goals simp [Env.get, *]
      refine WP.ite rfl (fun h1 => ?_) (fun h1 => ?_)
      · refine WP.skip ?_; refine thn_next ⟨⟨rfl, ?_, trivial⟩, ent.refl _⟩
        show some (Value.bool (decide (2 ≤ x ∧ x ≤ 16))) = _
        simp [h1]
      · refine Zc ?_
        refine Zm ?_
        refine Zi ?_
        refine Zm ?_
        refine Run.nil ?_
        refine thn_next ⟨⟨rfl, ?_, trivial⟩, ent.refl _⟩
        simp only [Env.get]; simp [h1]
    refine WP.ite rfl (fun hB => ?_) (fun hB => ?_)
    · refine Zp ?_
      iterate 3 refine Zm ?_
      refine Ze ?_
      refine WP.ret ?_; refine blk_ret ?_; refine thn_ret ?_
      exact retT [2, 3, 4] _ rfl rfl ⟨by unfold rowL; rw [if_neg hA, if_pos hB]; rfl, rfl⟩
    refine WP.seqCut [(0, .int .i64 x), (19, .bool (decide ((17 ≤ x ∧ x ≤ 20) ∨ x = 23 ∨ x = 31)))] [] ?_ ?_
    · refine WP.seqCut [(0, .int .i64 x), (19, .bool (decide (17 ≤ x ∧ x ≤ 20)))] [] ?_ ?_
      · refine Zc ?_
        all_goals (first | refine Zm ?_)
        all_goals (first | refine Zi ?_)
        all_goals (first | refine Run.tt (by first | assumption | omega) ?_ | refine Run.ff (by first | assumption | omega) ?_ | refine Run.split (fun hc21 => ?_) (fun hc21 => ?_) | refine Run.splitB (fun hc21 => ?_) (fun hc21 => ?_) | skip)
        all_goals (first | refine Zm ?_)
        all_goals (first | refine Zv ?_ | refine Zm ?_)
        all_goals (first | refine Zv ?_ | refine Zi ?_)
        all_goals (first | refine Zq ?_)
        all_goals (first | refine Zm ?_)
        all_goals (refine Run.nil ?_)
        all_goals refine thn_next ⟨⟨rfl, ?_, trivial⟩, ent.refl _⟩
        all_goals simp [Env.get, *]
      refine WP.ite rfl (fun h1 => ?_) (fun h1 => ?_)
      · refine WP.skip ?_; refine thn_next ⟨⟨rfl, ?_, trivial⟩, ent.refl _⟩
        show some (Value.bool (decide (17 ≤ x ∧ x ≤ 20))) = _
        simp [h1]
      refine Zp ?_
      refine Zm ?_
      refine Zi ?_
      refine Zm ?_
      refine Ze ?_
      refine WP.ite rfl (fun h2 => ?_) (fun h2 => ?_)
      · refine WP.skip ?_; refine thn_next ⟨⟨rfl, ?_, trivial⟩, ent.refl _⟩
        simp only [Env.get]; simp [h1, h2]
      · refine Zc ?_
        refine Zm ?_
        refine Zi ?_
        refine Zm ?_
        refine Run.nil ?_
        refine thn_next ⟨⟨rfl, ?_, trivial⟩, ent.refl _⟩
        simp only [Env.get]; simp [h1, h2]
    refine WP.ite rfl (fun hC => ?_) (fun hC => ?_)
    · refine Zp ?_
      iterate 3 refine Zm ?_
      refine Ze ?_
      refine WP.ret ?_; refine blk_ret ?_; refine thn_ret ?_
      exact retT [2, 3, 4] _ rfl rfl ⟨by unfold rowL; rw [if_neg hA, if_neg hB, if_pos hC]; rfl, rfl⟩
    refine Zp ?_
    refine Zm ?_
    refine Zi ?_
    refine Zm ?_
    refine Ze ?_
    refine WP.ite rfl (fun hD => ?_) (fun hD => ?_)
    · refine Zp ?_
      iterate 3 refine Zm ?_
      refine Ze ?_
      refine WP.ret ?_; refine blk_ret ?_; refine thn_ret ?_
      exact retT [2, 3, 4] _ rfl rfl ⟨by unfold rowL; rw [if_neg hA, if_neg hB, if_neg hC, if_pos hD]; rfl, rfl⟩
    refine WP.seqCut [(0, .int .i64 x), (33, .bool (decide (26 ≤ x ∧ x ≤ 29)))] [] ?_ ?_
    · refine Zc ?_
      all_goals (first | refine Zm ?_)
      all_goals (first | refine Zi ?_)
      all_goals (first | refine Run.tt (by first | assumption | omega) ?_ | refine Run.ff (by first | assumption | omega) ?_ | refine Run.split (fun hc35 => ?_) (fun hc35 => ?_) | refine Run.splitB (fun hc35 => ?_) (fun hc35 => ?_) | skip)
      all_goals (first | refine Zm ?_)
      all_goals (first | refine Zv ?_ | refine Zm ?_)
      all_goals (first | refine Zv ?_ | refine Zi ?_)
      all_goals (first | refine Zq ?_)
      all_goals (first | refine Zm ?_)
      all_goals (refine Run.nil ?_)
      all_goals refine thn_next ⟨⟨rfl, ?_, trivial⟩, ent.refl _⟩
      all_goals simp [Env.get, *]
    refine WP.ite rfl (fun hE => ?_) (fun hE => ?_)
    · refine Zp ?_
      iterate 3 refine Zm ?_
      refine Ze ?_
      refine WP.ret ?_; refine blk_ret ?_; refine thn_ret ?_
      exact retT [2, 3, 4] _ rfl rfl ⟨by unfold rowL; rw [if_neg hA, if_neg hB, if_neg hC, if_neg hD, if_pos hE]; rfl, rfl⟩
    refine Zp ?_
    refine Zm ?_
    refine Zi ?_
    refine Zm ?_
    refine Ze ?_
    refine WP.ite rfl (fun hG => ?_) (fun hG => ?_)
    · refine Zp ?_
      iterate 3 refine Zm ?_
      refine Ze ?_
      refine WP.ret ?_; refine blk_ret ?_; refine thn_ret ?_
      exact retT [2, 3, 4] _ rfl rfl ⟨by unfold rowL; rw [if_neg hA, if_neg hB, if_neg hC, if_neg hD, if_neg hE, if_pos hG]; rfl, rfl⟩
    refine WP.skip ?_; refine blk_norm ?_
    exact thn_next ⟨(), ⟨hA, hB, hC, hD, hE, hG⟩, ⟨rfl, trivial⟩, ent.refl _⟩
  rintro _ ⟨hA, hB, hC, hD, hE, hG⟩
  refine Zp ?_
  iterate 3 refine Zm ?_
  refine Ze ?_
  refine WP.ret ?_
  exact retT [2, 3, 4] _ rfl rfl ⟨by unfold rowL; rw [if_neg hA, if_neg hB, if_neg hC, if_neg hD, if_neg hE, if_neg hG]; rfl, rfl⟩
end Go.Proofs.YtjjfehdlmdhhmaaDoor
end
section
/- The document's own rule of an instruction's form; walked. -/
namespace Go.Proofs.YtjjfehdlmdhhmaaDoor
open Go.Sep
set_option linter.unusedSimpArgs false
set_option linter.unusedVariables false
attribute [local irreducible] blk slA mp mpF rows rowsBut many
def refBadR (F : LFun) (x : LIns) : Bool :=
  !(rowL x.op).2.2 || decide ((x.args.length : Int) ≠ (rowL x.op).1) || ((rowL x.op).2.1 && !regB F x.dst) || (!(rowL x.op).2.1 && decide (x.dst ≠ -1))
def refR (F : LFun) (x : LIns) : Bool :=
  if x.op = 25 then decide (0 ≤ x.imm ∧ x.args.length ≤ 8) && (decide (x.dst = -1) || regB F x.dst)
  else if refBadR F x = true then false
  else if 28 ≤ x.op ∧ x.op ≤ 30 then decide (1 ≤ x.imm ∧ x.imm ≤ 5)
  else decide (x.op = 1 ∨ x.imm = 0)
/-- which of them there are -/
theorem refR_eq (F : LFun) (x : LIns) : refR F x = insR F x := by
  obtain ⟨op, dst, imm, args⟩ := x
  simp only [refR, insR, refBadR]
  by_cases h25 : op = 25
  · simp [h25]
  by_cases hr : 1 ≤ op ∧ op ≤ 31
  · have : op = 1 ∨ op = 2 ∨ op = 3 ∨ op = 4 ∨ op = 5 ∨ op = 6 ∨ op = 7 ∨ op = 8 ∨ op = 9 ∨ op = 10 ∨ op = 11 ∨ op = 12 ∨ op = 13 ∨ op = 14 ∨ op = 15 ∨ op = 16 ∨ op = 17 ∨ op = 18 ∨ op = 19 ∨ op = 20 ∨ op = 21 ∨ op = 22 ∨ op = 23 ∨ op = 24 ∨ op = 25 ∨ op = 26 ∨ op = 27 ∨ op = 28 ∨ op = 29 ∨ op = 30 ∨ op = 31 := by omega
    rcases this with rfl | rfl | rfl | rfl | rfl | rfl | rfl | rfl | rfl | rfl | rfl | rfl | rfl | rfl | rfl | rfl | rfl | rfl | rfl | rfl | rfl | rfl | rfl | rfl | rfl | rfl | rfl | rfl | rfl | rfl | rfl
    all_goals simp [rowL, opsL, -List.length_eq_zero_iff]
    all_goals (try (by_cases a1 : regB F dst = true <;> by_cases a2 : imm = 0 <;> by_cases a3 : dst = -1 <;> simp [a1, a2, a3, -List.length_eq_zero_iff] <;> done))
    all_goals (try (by_cases a1 : regB F dst = true <;> by_cases a2 : imm = 0 <;> by_cases a3 : dst = -1 <;> simp [a1, a2, a3, -List.length_eq_zero_iff] <;> (try omega)))
  · have e1 : rowL op = (0, false, false) := by unfold rowL; rw [if_neg (by omega), if_neg (by omega), if_neg (by omega), if_neg (by omega), if_neg (by omega), if_neg (by omega)]
    have e2 : opsL op = (-1, false) := by unfold opsL; rw [if_neg (by omega), if_neg (by omega), if_neg (by omega), if_neg (by omega), if_neg (by omega), if_neg (by omega), if_neg (by omega)]
    have h1 : ¬ op = 1 := by omega
    have h2 : ¬ (op = 28 ∨ op = 29 ∨ op = 30) := by omega
    rw [if_neg h25, if_neg h1, if_neg h25, if_neg h2, e1, e2]
    simp
set_option maxRecDepth 100000 in
theorem refIns_ok (hR : Heap) (F : LFun) (su sv : SV) (x : LIns) (a : SV) (ha : SlR rdI hR a.val x.args) (hl : x.args.length ≤ 1000000) :
    Tri Tryd.prog hR 50 #[.agg ⟨fcs F su sv⟩, .agg ⟨[.int .i64 x.op, .int .i64 x.dst, .int .i64 x.imm, a.val]⟩] [] fun r Γ' => r = .bool (insB F x) ∧ Γ' = [] := by
  refine Tri.of (args := [.agg ⟨fcs F su sv⟩, .agg ⟨[.int .i64 x.op, .int .i64 x.dst, .int .i64 x.imm, a.val]⟩]) Tryd.func50 rfl Tryd.ntmps50 (by simp) ?_
  refine Zp ?_
  refine Run.box rfl rfl rfl rfl rfl ?_
  intro b2
  refine Run.box rfl rfl rfl rfl rfl ?_
  intro b3
  refine Zm ?_
  refine Ze ?_
  refine WP.via (Γ' := [blk b2 (fcs F su sv) 25, blk b3 [.int .i64 x.op, .int .i64 x.dst, .int .i64 x.imm, a.val] 67]) (ent.refl _) ?_
  refine WP.seqMeet (α := Unit) (fun _ => x.args.all (regB F) = true) (fun _ => [(2, .pointer (some ⟨b2, 0, none⟩)), (3, .pointer (some ⟨b3, 0, none⟩))]) (fun _ => [blk b2 (fcs F su sv) 25, blk b3 [.int .i64 x.op, .int .i64 x.dst, .int .i64 x.imm, a.val] 67]) ?_ ?_
  · refine Zp ?_
    refine Zm ?_
    refine Ze ?_
    refine WP.block ?_
    refine WP.loop (α := Nat) (fun i => i ≤ x.args.length ∧ ∀ k y, k < i → x.args[k]? = some y → regB F y = true) (fun i => [(2, .pointer (some ⟨b2, 0, none⟩)), (3, .pointer (some ⟨b3, 0, none⟩)), (5, .int .i64 (i : Int))])
      (fun _ => [blk b2 (fcs F su sv) 25, blk b3 [.int .i64 x.op, .int .i64 x.dst, .int .i64 x.imm, a.val] 67]) (fun i => x.args.length - i) 0 ⟨Nat.zero_le _, fun k y h => by omega⟩ ⟨rfl, rfl, rfl, trivial⟩ (ent.refl _) ?_
    rintro i ⟨hi, hk⟩
    refine WP.seq ?_
    refine Zp ?_
    refine Zm ?_
    refine Zf fo_67_3 ?_
    refine Zl 1 ag_22 ?_
    refine Zh sl_22 ha ?_
    refine Zi ?_
    refine Ze ?_
    refine WP.ite rfl (fun hlt => ?_) (fun hge => ?_)
    · refine Zb ?_
      obtain ⟨y, gy⟩ : ∃ y, x.args[(i : Int).toNat]? = some y := ⟨_, List.getElem?_eq_getElem (by omega)⟩
      have gy' : x.args[i]? = some y := gy
      refine WP.seq ?_
      refine WP.block ?_
      refine WP.seq ?_
      refine WP.drawn0 cf0 mixed rfl (by kernel_rfl) ?_
      refine Run.loadBagg 0 rfl rfl ag_25 rfl rfl rfl rfl rfl ?_
      refine Zf fo_67_3 ?_
      refine Zl 1 ag_22 ?_
      refine Zm ?_
      refine Zx sl_22 ha ?_
      refine Zr ag_3 (SlR.cell0 ha gy rfl) ?_
      refine Run.call (Δ := []) (Θ := [blk b2 (fcs F su sv) 25, blk b3 [.int .i64 x.op, .int .i64 x.dst, .int .i64 x.imm, a.val] 67]) rfl rfl rfl rfl ok_49 rfl rfl (ent.refl _) (refRegister_ok hR F su sv (y)) ?_; rintro _ _ ⟨rfl, rfl⟩
      refine Run.bnot rfl rfl rfl rfl ?_
      refine Ze ?_
      refine WP.ite rfl (fun hy => ?_) (fun hy => ?_)
      · refine Zp ?_
        refine Zm ?_
        refine Ze ?_
        refine WP.via (Γ' := []) (pick_only [] _) ?_
        refine WP.ret ?_; refine blk_ret ?_; refine thn_ret ?_; refine thn_ret ?_; refine blk_ret ?_; refine thn_ret ?_
        exact retT [4] _ rfl rfl ⟨by unfold insB; rw [all_not gy' (decide_eq_false hy)]; rfl, rfl⟩
      · refine WP.skip ?_; refine blk_norm ?_; refine thn_next ?_
        refine Zc ?_
        refine Zm ?_
        refine Za ?_
        refine Zm ?_
        refine Run.nil ?_
        refine thn_next ⟨i + 1, ⟨by omega, fun k z h1 h2 => ?_⟩, by omega, ⟨rfl, rfl, rfl, trivial⟩, ent.refl _⟩
        by_cases e : k = i
        · subst e; rw [gy'] at h2; cases h2; exact decide_eq_true (Decidable.not_not.1 hy)
        · exact hk k z (by omega) h2
    · refine Zj ?_
      refine thn_next ⟨(), all_of fun k y h1 h2 => hk k y (by omega) h2, ⟨rfl, rfl, trivial⟩, ent.refl _⟩
  rintro _ hall
  have eR : insB F x = refR F x := by unfold insB; rw [hall, refR_eq]; rfl
  rw [eR]
  have hal : (x.args.length : Int) ≤ 1000000 := by omega
  refine WP.seq ?_
  refine Zp ?_
  refine Zf fo_67_0 ?_
  refine Zl 1 ag_3 ?_
  refine Zi ?_
  refine Ze ?_
  refine WP.ite rfl (fun h25 => ?_) (fun h25 => ?_)
  · refine WP.seqCut [(4, .bool (refR F x))] [] ?_ ?_
    · refine Zc ?_
      all_goals (first | refine Zf fo_67_2 ?_)
      all_goals (first | refine Zl 1 ag_3 ?_)
      all_goals (first | refine Zi ?_)
      all_goals (first | refine Run.tt (by first | assumption | omega) ?_ | refine Run.ff (by first | assumption | omega) ?_ | refine Run.split (fun hc29 => ?_) (fun hc29 => ?_) | refine Run.splitB (fun hc29 => ?_) (fun hc29 => ?_) | skip)
      all_goals (first | refine Zm ?_)
      all_goals (first | refine Zv ?_ | refine Zf fo_67_3 ?_)
      all_goals (first | refine Zv ?_ | refine Zl 1 ag_22 ?_)
      all_goals (first | refine Zv ?_ | refine Zh sl_22 ha ?_)
      all_goals (first | refine Zv ?_ | refine Zi ?_)
      all_goals (first | refine Run.tt (by first | assumption | omega) ?_ | refine Run.ff (by first | assumption | omega) ?_ | refine Run.split (fun hc34 => ?_) (fun hc34 => ?_) | refine Run.splitB (fun hc34 => ?_) (fun hc34 => ?_) | skip)
      all_goals (first | refine Zq ?_)
      all_goals (first | refine Zm ?_)
      all_goals (first | refine Zv ?_ | refine Zf fo_67_1 ?_)
      all_goals (first | refine Zv ?_ | refine Zl 1 ag_3 ?_)
      all_goals (first | refine Zv ?_ | refine Zi ?_)
      all_goals (first | refine Run.tt (by first | assumption | omega) ?_ | refine Run.ff (by first | assumption | omega) ?_ | refine Run.split (fun hc39 => ?_) (fun hc39 => ?_) | refine Run.splitB (fun hc39 => ?_) (fun hc39 => ?_) | skip)
      all_goals (first | refine Zv ?_ | refine Zm ?_)
      all_goals (first | refine Zv ?_ | refine Run.loadBagg 0 rfl rfl ag_25 rfl rfl rfl rfl rfl ?_)
      all_goals (first | refine Zv ?_ | refine Zf fo_67_1 ?_)
      all_goals (first | refine Zv ?_ | refine Zl 1 ag_3 ?_)
      all_goals (first | refine Zv ?_ | refine Run.call (Δ := []) (Θ := [blk b2 (fcs F su sv) 25, blk b3 [.int .i64 x.op, .int .i64 x.dst, .int .i64 x.imm, a.val] 67]) rfl rfl rfl rfl ok_49 rfl rfl (ent.refl _) (refRegister_ok hR F su sv (x.dst)) ?_; rintro _ _ ⟨rfl, rfl⟩)
      all_goals (first | refine Zv ?_ | refine Zq ?_)
      all_goals (first | refine Zq ?_)
      all_goals (first | refine Zm ?_)
      all_goals (refine Run.nil ?_)
      all_goals refine thn_next ⟨⟨?_, trivial⟩, pick_only [] _⟩
      all_goals simp [Env.get, refR, regB, *]
      all_goals first | done | (intros; omega) | (rw [Bool.eq_iff_iff]; simp; omega)
    refine WP.ret ?_; refine thn_ret ?_
    exact retT [4] _ rfl rfl ⟨rfl, rfl⟩
  refine Zb ?_
  refine Zp ?_
  refine Zf fo_67_0 ?_
  refine Zl 1 ag_3 ?_
  refine Run.call (Δ := []) (Θ := [blk b2 (fcs F su sv) 25, blk b3 [.int .i64 x.op, .int .i64 x.dst, .int .i64 x.imm, a.val] 67]) rfl rfl rfl rfl ok_72 rfl rfl (ent.refl _) (row_ok hR x.op) ?_; rintro _ _ ⟨rfl, rfl⟩
  refine Zm ?_
  refine Run.extract rfl rfl rfl rfl rfl ?_
  refine Run.extract rfl rfl rfl rfl rfl ?_
  refine Run.extract rfl rfl rfl rfl rfl ?_
  iterate 3 refine Zm ?_
  refine Ze ?_
  have hbad : refBadR F x = (!(rowL x.op).2.2 || decide ((x.args.length : Int) ≠ (rowL x.op).1) || ((rowL x.op).2.1 && !regB F x.dst) || (!(rowL x.op).2.1 && decide (x.dst ≠ -1))) := rfl
  generalize rowL x.op = q at hbad
  obtain ⟨rn, rs, ro⟩ := q
  simp only at hbad
  refine WP.weaken (ρ' := [(2, .pointer (some ⟨b2, 0, none⟩)), (3, .pointer (some ⟨b3, 0, none⟩)), (6, .int .i64 rn), (7, .bool rs), (8, .bool ro)]) ⟨rfl, rfl, rfl, rfl, rfl, trivial⟩ (ent.refl _) ?_
  refine WP.seq ?_
  refine WP.seqCut [(2, .pointer (some ⟨b2, 0, none⟩)), (3, .pointer (some ⟨b3, 0, none⟩)), (81, .bool (refBadR F x))] [blk b2 (fcs F su sv) 25, blk b3 [.int .i64 x.op, .int .i64 x.dst, .int .i64 x.imm, a.val] 67] ?_ ?_
  · rw [hbad]
    clear hbad
    cases ro with
    | false =>
      cases rs with
      | false =>
        refine Zc ?_
        all_goals (first | refine Zm ?_)
        all_goals (first | refine Run.bnotB rfl rfl rfl rfl ?_)
        all_goals (first | refine Zm ?_)
        all_goals (first | refine Zv ?_ | refine Zf fo_67_3 ?_)
        all_goals (first | refine Zv ?_ | refine Zl 0 ag_22 ?_ | refine Run.loadO 0 _ 0 rfl rfl ag_22 rfl rfl rfl rfl (by assumption) rfl ?_ | refine Run.loadO 0 _ _ rfl rfl ag_22 rfl rfl rfl rfl (by assumption) rfl ?_ | refine Zl 1 ag_22 ?_ | refine Run.loadO 1 _ 0 rfl rfl ag_22 rfl rfl rfl rfl (by assumption) rfl ?_ | refine Run.loadO 1 _ _ rfl rfl ag_22 rfl rfl rfl rfl (by assumption) rfl ?_ | refine Zl 2 ag_22 ?_ | refine Run.loadO 2 _ 0 rfl rfl ag_22 rfl rfl rfl rfl (by assumption) rfl ?_ | refine Run.loadO 2 _ _ rfl rfl ag_22 rfl rfl rfl rfl (by assumption) rfl ?_ | refine Zl 3 ag_22 ?_ | refine Run.loadO 3 _ 0 rfl rfl ag_22 rfl rfl rfl rfl (by assumption) rfl ?_ | refine Run.loadO 3 _ _ rfl rfl ag_22 rfl rfl rfl rfl (by assumption) rfl ?_ | refine Zl 4 ag_22 ?_ | refine Run.loadO 4 _ 0 rfl rfl ag_22 rfl rfl rfl rfl (by assumption) rfl ?_ | refine Run.loadO 4 _ _ rfl rfl ag_22 rfl rfl rfl rfl (by assumption) rfl ?_ | refine Zl 5 ag_22 ?_ | refine Run.loadO 5 _ 0 rfl rfl ag_22 rfl rfl rfl rfl (by assumption) rfl ?_ | refine Run.loadO 5 _ _ rfl rfl ag_22 rfl rfl rfl rfl (by assumption) rfl ?_ | refine Run.loadR rfl rfl ag_22 rfl rfl (by first | assumption | exact SlR.cell0 (by assumption) (by assumption) rfl | exact SlR.cell (by assumption) (by assumption) rfl) ?_)
        all_goals (first | refine Zv ?_ | refine Zh sl_22 ha ?_)
        all_goals (first | refine Zv ?_ | refine Zm ?_)
        all_goals (first | refine Zv ?_ | refine Zi ?_)
        all_goals (first | refine Run.tt (by first | assumption | omega) ?_ | refine Run.ff (by first | assumption | omega) ?_ | refine Run.split (fun hc61 => ?_) (fun hc61 => ?_) | refine Run.splitB (fun hc61 => ?_) (fun hc61 => ?_) | skip)
        all_goals (first | refine Zq ?_)
        all_goals (first | refine Zm ?_)
        all_goals (first | refine Zv ?_ | refine Zm ?_)
        all_goals (first | refine Zv ?_ | refine Zm ?_)
        all_goals (first | refine Zv ?_ | refine Run.loadOagg 0 _ rfl rfl ag_25 rfl rfl rfl rfl rfl (by assumption) ?_ | refine Run.loadBagg 0 rfl rfl ag_25 rfl rfl rfl rfl rfl ?_ | refine Run.loadOagg 1 _ rfl rfl ag_25 rfl rfl rfl rfl rfl (by assumption) ?_ | refine Run.loadBagg 1 rfl rfl ag_25 rfl rfl rfl rfl rfl ?_ | refine Run.loadOagg 2 _ rfl rfl ag_25 rfl rfl rfl rfl rfl (by assumption) ?_ | refine Run.loadBagg 2 rfl rfl ag_25 rfl rfl rfl rfl rfl ?_ | refine Run.loadOagg 3 _ rfl rfl ag_25 rfl rfl rfl rfl rfl (by assumption) ?_ | refine Run.loadBagg 3 rfl rfl ag_25 rfl rfl rfl rfl rfl ?_ | refine Run.loadOagg 4 _ rfl rfl ag_25 rfl rfl rfl rfl rfl (by assumption) ?_ | refine Run.loadBagg 4 rfl rfl ag_25 rfl rfl rfl rfl rfl ?_ | refine Run.loadOagg 5 _ rfl rfl ag_25 rfl rfl rfl rfl rfl (by assumption) ?_ | refine Run.loadBagg 5 rfl rfl ag_25 rfl rfl rfl rfl rfl ?_ | refine Run.loadRagg rfl rfl ag_25 rfl rfl (by first | assumption | exact SlR.row (by assumption) (by assumption)) (by rfl) ?_)
        all_goals (first | refine Zv ?_ | refine Zf fo_67_1 ?_)
        all_goals (first | refine Zv ?_ | refine Zl 0 ag_3 ?_ | refine Run.loadO 0 _ 0 rfl rfl ag_3 rfl rfl rfl rfl (by assumption) rfl ?_ | refine Run.loadO 0 _ _ rfl rfl ag_3 rfl rfl rfl rfl (by assumption) rfl ?_ | refine Zl 1 ag_3 ?_ | refine Run.loadO 1 _ 0 rfl rfl ag_3 rfl rfl rfl rfl (by assumption) rfl ?_ | refine Run.loadO 1 _ _ rfl rfl ag_3 rfl rfl rfl rfl (by assumption) rfl ?_ | refine Zl 2 ag_3 ?_ | refine Run.loadO 2 _ 0 rfl rfl ag_3 rfl rfl rfl rfl (by assumption) rfl ?_ | refine Run.loadO 2 _ _ rfl rfl ag_3 rfl rfl rfl rfl (by assumption) rfl ?_ | refine Zl 3 ag_3 ?_ | refine Run.loadO 3 _ 0 rfl rfl ag_3 rfl rfl rfl rfl (by assumption) rfl ?_ | refine Run.loadO 3 _ _ rfl rfl ag_3 rfl rfl rfl rfl (by assumption) rfl ?_ | refine Zl 4 ag_3 ?_ | refine Run.loadO 4 _ 0 rfl rfl ag_3 rfl rfl rfl rfl (by assumption) rfl ?_ | refine Run.loadO 4 _ _ rfl rfl ag_3 rfl rfl rfl rfl (by assumption) rfl ?_ | refine Zl 5 ag_3 ?_ | refine Run.loadO 5 _ 0 rfl rfl ag_3 rfl rfl rfl rfl (by assumption) rfl ?_ | refine Run.loadO 5 _ _ rfl rfl ag_3 rfl rfl rfl rfl (by assumption) rfl ?_ | refine Run.loadR rfl rfl ag_3 rfl rfl (by first | assumption | exact SlR.cell0 (by assumption) (by assumption) rfl | exact SlR.cell (by assumption) (by assumption) rfl) ?_)
        all_goals (first | refine Zv ?_ | refine Run.call (Δ := []) (Θ := [blk b2 (fcs F su sv) 25, blk b3 [.int .i64 x.op, .int .i64 x.dst, .int .i64 x.imm, a.val] 67]) rfl rfl rfl rfl ok_49 rfl rfl (ent.refl _) (refRegister_ok hR F su sv (x.dst)) ?_; rintro _ _ ⟨rfl, rfl⟩)
        all_goals (first | refine Run.tt (by first | assumption | omega) ?_ | refine Run.ff (by first | assumption | omega) ?_ | refine Run.split (fun hc69 => ?_) (fun hc69 => ?_) | refine Run.splitB (fun hc69 => ?_) (fun hc69 => ?_) | skip)
        all_goals (first | refine Zv ?_ | refine Run.bnot rfl rfl rfl rfl ?_ | refine Run.bnotB rfl rfl rfl rfl ?_ | refine Run.neg rfl rfl rfl rfl ?_)
        all_goals (first | refine Zv ?_ | refine Zq ?_)
        all_goals (first | refine Zq ?_)
        all_goals (first | refine Zm ?_)
        all_goals (first | refine Zv ?_ | refine Zm ?_)
        all_goals (first | refine Zv ?_ | refine Run.bnot rfl rfl rfl rfl ?_ | refine Run.bnotB rfl rfl rfl rfl ?_ | refine Run.neg rfl rfl rfl rfl ?_)
        all_goals (first | refine Zv ?_ | refine Zm ?_)
        all_goals (first | refine Zv ?_ | refine Zf fo_67_1 ?_)
        all_goals (first | refine Zv ?_ | refine Zl 0 ag_3 ?_ | refine Run.loadO 0 _ 0 rfl rfl ag_3 rfl rfl rfl rfl (by assumption) rfl ?_ | refine Run.loadO 0 _ _ rfl rfl ag_3 rfl rfl rfl rfl (by assumption) rfl ?_ | refine Zl 1 ag_3 ?_ | refine Run.loadO 1 _ 0 rfl rfl ag_3 rfl rfl rfl rfl (by assumption) rfl ?_ | refine Run.loadO 1 _ _ rfl rfl ag_3 rfl rfl rfl rfl (by assumption) rfl ?_ | refine Zl 2 ag_3 ?_ | refine Run.loadO 2 _ 0 rfl rfl ag_3 rfl rfl rfl rfl (by assumption) rfl ?_ | refine Run.loadO 2 _ _ rfl rfl ag_3 rfl rfl rfl rfl (by assumption) rfl ?_ | refine Zl 3 ag_3 ?_ | refine Run.loadO 3 _ 0 rfl rfl ag_3 rfl rfl rfl rfl (by assumption) rfl ?_ | refine Run.loadO 3 _ _ rfl rfl ag_3 rfl rfl rfl rfl (by assumption) rfl ?_ | refine Zl 4 ag_3 ?_ | refine Run.loadO 4 _ 0 rfl rfl ag_3 rfl rfl rfl rfl (by assumption) rfl ?_ | refine Run.loadO 4 _ _ rfl rfl ag_3 rfl rfl rfl rfl (by assumption) rfl ?_ | refine Zl 5 ag_3 ?_ | refine Run.loadO 5 _ 0 rfl rfl ag_3 rfl rfl rfl rfl (by assumption) rfl ?_ | refine Run.loadO 5 _ _ rfl rfl ag_3 rfl rfl rfl rfl (by assumption) rfl ?_ | refine Run.loadR rfl rfl ag_3 rfl rfl (by first | assumption | exact SlR.cell0 (by assumption) (by assumption) rfl | exact SlR.cell (by assumption) (by assumption) rfl) ?_)
        all_goals (first | refine Zv ?_ | refine Zi ?_)
        all_goals (first | refine Zv ?_ | refine Zq ?_)
        all_goals (first | refine Zq ?_)
        all_goals (refine Run.nil ?_)
        all_goals refine thn_next ⟨⟨rfl, rfl, ?_, trivial⟩, ent.refl _⟩
        all_goals simp [Env.get, regB, *]
        all_goals first | done | (intros; omega) | (rw [Bool.eq_iff_iff]; simp; omega)
      | true =>
        refine Zc ?_
        all_goals (first | refine Zm ?_)
        all_goals (first | refine Run.bnotB rfl rfl rfl rfl ?_)
        all_goals (first | refine Zm ?_)
        all_goals (first | refine Zv ?_ | refine Zf fo_67_3 ?_)
        all_goals (first | refine Zv ?_ | refine Zl 0 ag_22 ?_ | refine Run.loadO 0 _ 0 rfl rfl ag_22 rfl rfl rfl rfl (by assumption) rfl ?_ | refine Run.loadO 0 _ _ rfl rfl ag_22 rfl rfl rfl rfl (by assumption) rfl ?_ | refine Zl 1 ag_22 ?_ | refine Run.loadO 1 _ 0 rfl rfl ag_22 rfl rfl rfl rfl (by assumption) rfl ?_ | refine Run.loadO 1 _ _ rfl rfl ag_22 rfl rfl rfl rfl (by assumption) rfl ?_ | refine Zl 2 ag_22 ?_ | refine Run.loadO 2 _ 0 rfl rfl ag_22 rfl rfl rfl rfl (by assumption) rfl ?_ | refine Run.loadO 2 _ _ rfl rfl ag_22 rfl rfl rfl rfl (by assumption) rfl ?_ | refine Zl 3 ag_22 ?_ | refine Run.loadO 3 _ 0 rfl rfl ag_22 rfl rfl rfl rfl (by assumption) rfl ?_ | refine Run.loadO 3 _ _ rfl rfl ag_22 rfl rfl rfl rfl (by assumption) rfl ?_ | refine Zl 4 ag_22 ?_ | refine Run.loadO 4 _ 0 rfl rfl ag_22 rfl rfl rfl rfl (by assumption) rfl ?_ | refine Run.loadO 4 _ _ rfl rfl ag_22 rfl rfl rfl rfl (by assumption) rfl ?_ | refine Zl 5 ag_22 ?_ | refine Run.loadO 5 _ 0 rfl rfl ag_22 rfl rfl rfl rfl (by assumption) rfl ?_ | refine Run.loadO 5 _ _ rfl rfl ag_22 rfl rfl rfl rfl (by assumption) rfl ?_ | refine Run.loadR rfl rfl ag_22 rfl rfl (by first | assumption | exact SlR.cell0 (by assumption) (by assumption) rfl | exact SlR.cell (by assumption) (by assumption) rfl) ?_)
        all_goals (first | refine Zv ?_ | refine Zh sl_22 ha ?_)
        all_goals (first | refine Zv ?_ | refine Zm ?_)
        all_goals (first | refine Zv ?_ | refine Zi ?_)
        all_goals (first | refine Run.tt (by first | assumption | omega) ?_ | refine Run.ff (by first | assumption | omega) ?_ | refine Run.split (fun hc61 => ?_) (fun hc61 => ?_) | refine Run.splitB (fun hc61 => ?_) (fun hc61 => ?_) | skip)
        all_goals (first | refine Zq ?_)
        all_goals (first | refine Zm ?_)
        all_goals (first | refine Zv ?_ | refine Zm ?_)
        all_goals (first | refine Zv ?_ | refine Zm ?_)
        all_goals (first | refine Zv ?_ | refine Run.loadOagg 0 _ rfl rfl ag_25 rfl rfl rfl rfl rfl (by assumption) ?_ | refine Run.loadBagg 0 rfl rfl ag_25 rfl rfl rfl rfl rfl ?_ | refine Run.loadOagg 1 _ rfl rfl ag_25 rfl rfl rfl rfl rfl (by assumption) ?_ | refine Run.loadBagg 1 rfl rfl ag_25 rfl rfl rfl rfl rfl ?_ | refine Run.loadOagg 2 _ rfl rfl ag_25 rfl rfl rfl rfl rfl (by assumption) ?_ | refine Run.loadBagg 2 rfl rfl ag_25 rfl rfl rfl rfl rfl ?_ | refine Run.loadOagg 3 _ rfl rfl ag_25 rfl rfl rfl rfl rfl (by assumption) ?_ | refine Run.loadBagg 3 rfl rfl ag_25 rfl rfl rfl rfl rfl ?_ | refine Run.loadOagg 4 _ rfl rfl ag_25 rfl rfl rfl rfl rfl (by assumption) ?_ | refine Run.loadBagg 4 rfl rfl ag_25 rfl rfl rfl rfl rfl ?_ | refine Run.loadOagg 5 _ rfl rfl ag_25 rfl rfl rfl rfl rfl (by assumption) ?_ | refine Run.loadBagg 5 rfl rfl ag_25 rfl rfl rfl rfl rfl ?_ | refine Run.loadRagg rfl rfl ag_25 rfl rfl (by first | assumption | exact SlR.row (by assumption) (by assumption)) (by rfl) ?_)
        all_goals (first | refine Zv ?_ | refine Zf fo_67_1 ?_)
        all_goals (first | refine Zv ?_ | refine Zl 0 ag_3 ?_ | refine Run.loadO 0 _ 0 rfl rfl ag_3 rfl rfl rfl rfl (by assumption) rfl ?_ | refine Run.loadO 0 _ _ rfl rfl ag_3 rfl rfl rfl rfl (by assumption) rfl ?_ | refine Zl 1 ag_3 ?_ | refine Run.loadO 1 _ 0 rfl rfl ag_3 rfl rfl rfl rfl (by assumption) rfl ?_ | refine Run.loadO 1 _ _ rfl rfl ag_3 rfl rfl rfl rfl (by assumption) rfl ?_ | refine Zl 2 ag_3 ?_ | refine Run.loadO 2 _ 0 rfl rfl ag_3 rfl rfl rfl rfl (by assumption) rfl ?_ | refine Run.loadO 2 _ _ rfl rfl ag_3 rfl rfl rfl rfl (by assumption) rfl ?_ | refine Zl 3 ag_3 ?_ | refine Run.loadO 3 _ 0 rfl rfl ag_3 rfl rfl rfl rfl (by assumption) rfl ?_ | refine Run.loadO 3 _ _ rfl rfl ag_3 rfl rfl rfl rfl (by assumption) rfl ?_ | refine Zl 4 ag_3 ?_ | refine Run.loadO 4 _ 0 rfl rfl ag_3 rfl rfl rfl rfl (by assumption) rfl ?_ | refine Run.loadO 4 _ _ rfl rfl ag_3 rfl rfl rfl rfl (by assumption) rfl ?_ | refine Zl 5 ag_3 ?_ | refine Run.loadO 5 _ 0 rfl rfl ag_3 rfl rfl rfl rfl (by assumption) rfl ?_ | refine Run.loadO 5 _ _ rfl rfl ag_3 rfl rfl rfl rfl (by assumption) rfl ?_ | refine Run.loadR rfl rfl ag_3 rfl rfl (by first | assumption | exact SlR.cell0 (by assumption) (by assumption) rfl | exact SlR.cell (by assumption) (by assumption) rfl) ?_)
        all_goals (first | refine Zv ?_ | refine Run.call (Δ := []) (Θ := [blk b2 (fcs F su sv) 25, blk b3 [.int .i64 x.op, .int .i64 x.dst, .int .i64 x.imm, a.val] 67]) rfl rfl rfl rfl ok_49 rfl rfl (ent.refl _) (refRegister_ok hR F su sv (x.dst)) ?_; rintro _ _ ⟨rfl, rfl⟩)
        all_goals (first | refine Run.tt (by first | assumption | omega) ?_ | refine Run.ff (by first | assumption | omega) ?_ | refine Run.split (fun hc69 => ?_) (fun hc69 => ?_) | refine Run.splitB (fun hc69 => ?_) (fun hc69 => ?_) | skip)
        all_goals (first | refine Zv ?_ | refine Run.bnot rfl rfl rfl rfl ?_ | refine Run.bnotB rfl rfl rfl rfl ?_ | refine Run.neg rfl rfl rfl rfl ?_)
        all_goals (first | refine Zv ?_ | refine Zq ?_)
        all_goals (first | refine Zq ?_)
        all_goals (first | refine Zm ?_)
        all_goals (first | refine Zv ?_ | refine Zm ?_)
        all_goals (first | refine Zv ?_ | refine Run.bnot rfl rfl rfl rfl ?_ | refine Run.bnotB rfl rfl rfl rfl ?_ | refine Run.neg rfl rfl rfl rfl ?_)
        all_goals (first | refine Zv ?_ | refine Zm ?_)
        all_goals (first | refine Zv ?_ | refine Zf fo_67_1 ?_)
        all_goals (first | refine Zv ?_ | refine Zl 0 ag_3 ?_ | refine Run.loadO 0 _ 0 rfl rfl ag_3 rfl rfl rfl rfl (by assumption) rfl ?_ | refine Run.loadO 0 _ _ rfl rfl ag_3 rfl rfl rfl rfl (by assumption) rfl ?_ | refine Zl 1 ag_3 ?_ | refine Run.loadO 1 _ 0 rfl rfl ag_3 rfl rfl rfl rfl (by assumption) rfl ?_ | refine Run.loadO 1 _ _ rfl rfl ag_3 rfl rfl rfl rfl (by assumption) rfl ?_ | refine Zl 2 ag_3 ?_ | refine Run.loadO 2 _ 0 rfl rfl ag_3 rfl rfl rfl rfl (by assumption) rfl ?_ | refine Run.loadO 2 _ _ rfl rfl ag_3 rfl rfl rfl rfl (by assumption) rfl ?_ | refine Zl 3 ag_3 ?_ | refine Run.loadO 3 _ 0 rfl rfl ag_3 rfl rfl rfl rfl (by assumption) rfl ?_ | refine Run.loadO 3 _ _ rfl rfl ag_3 rfl rfl rfl rfl (by assumption) rfl ?_ | refine Zl 4 ag_3 ?_ | refine Run.loadO 4 _ 0 rfl rfl ag_3 rfl rfl rfl rfl (by assumption) rfl ?_ | refine Run.loadO 4 _ _ rfl rfl ag_3 rfl rfl rfl rfl (by assumption) rfl ?_ | refine Zl 5 ag_3 ?_ | refine Run.loadO 5 _ 0 rfl rfl ag_3 rfl rfl rfl rfl (by assumption) rfl ?_ | refine Run.loadO 5 _ _ rfl rfl ag_3 rfl rfl rfl rfl (by assumption) rfl ?_ | refine Run.loadR rfl rfl ag_3 rfl rfl (by first | assumption | exact SlR.cell0 (by assumption) (by assumption) rfl | exact SlR.cell (by assumption) (by assumption) rfl) ?_)
        all_goals (first | refine Zv ?_ | refine Zi ?_)
        all_goals (first | refine Zv ?_ | refine Zq ?_)
        all_goals (first | refine Zq ?_)
        all_goals (refine Run.nil ?_)
        all_goals refine thn_next ⟨⟨rfl, rfl, ?_, trivial⟩, ent.refl _⟩
        all_goals simp [Env.get, regB, *]
        all_goals first | done | (intros; omega) | (rw [Bool.eq_iff_iff]; simp; omega)
    | true =>
      cases rs with
      | false =>
        refine Zc ?_
        all_goals (first | refine Zm ?_)
        all_goals (first | refine Run.bnotB rfl rfl rfl rfl ?_)
        all_goals (first | refine Zm ?_)
        all_goals (first | refine Zv ?_ | refine Zf fo_67_3 ?_)
        all_goals (first | refine Zv ?_ | refine Zl 1 ag_22 ?_)
        all_goals (first | refine Zv ?_ | refine Zh sl_22 ha ?_)
        all_goals (first | refine Zv ?_ | refine Zm ?_)
        all_goals (first | refine Zv ?_ | refine Zi ?_)
        all_goals (first | refine Run.tt (by first | assumption | omega) ?_ | refine Run.ff (by first | assumption | omega) ?_ | refine Run.split (fun hc61 => ?_) (fun hc61 => ?_) | refine Run.splitB (fun hc61 => ?_) (fun hc61 => ?_) | skip)
        all_goals (first | refine Zq ?_)
        all_goals (first | refine Zm ?_)
        all_goals (first | refine Zv ?_ | refine Zm ?_)
        all_goals (first | refine Zv ?_ | refine Zm ?_)
        all_goals (first | refine Zv ?_ | refine Run.loadOagg 0 _ rfl rfl ag_25 rfl rfl rfl rfl rfl (by assumption) ?_ | refine Run.loadBagg 0 rfl rfl ag_25 rfl rfl rfl rfl rfl ?_ | refine Run.loadOagg 1 _ rfl rfl ag_25 rfl rfl rfl rfl rfl (by assumption) ?_ | refine Run.loadBagg 1 rfl rfl ag_25 rfl rfl rfl rfl rfl ?_ | refine Run.loadOagg 2 _ rfl rfl ag_25 rfl rfl rfl rfl rfl (by assumption) ?_ | refine Run.loadBagg 2 rfl rfl ag_25 rfl rfl rfl rfl rfl ?_ | refine Run.loadOagg 3 _ rfl rfl ag_25 rfl rfl rfl rfl rfl (by assumption) ?_ | refine Run.loadBagg 3 rfl rfl ag_25 rfl rfl rfl rfl rfl ?_ | refine Run.loadOagg 4 _ rfl rfl ag_25 rfl rfl rfl rfl rfl (by assumption) ?_ | refine Run.loadBagg 4 rfl rfl ag_25 rfl rfl rfl rfl rfl ?_ | refine Run.loadOagg 5 _ rfl rfl ag_25 rfl rfl rfl rfl rfl (by assumption) ?_ | refine Run.loadBagg 5 rfl rfl ag_25 rfl rfl rfl rfl rfl ?_ | refine Run.loadRagg rfl rfl ag_25 rfl rfl (by first | assumption | exact SlR.row (by assumption) (by assumption)) (by rfl) ?_)
        all_goals (first | refine Zv ?_ | refine Zf fo_67_1 ?_)
        all_goals (first | refine Zv ?_ | refine Zl 0 ag_3 ?_ | refine Run.loadO 0 _ 0 rfl rfl ag_3 rfl rfl rfl rfl (by assumption) rfl ?_ | refine Run.loadO 0 _ _ rfl rfl ag_3 rfl rfl rfl rfl (by assumption) rfl ?_ | refine Zl 1 ag_3 ?_ | refine Run.loadO 1 _ 0 rfl rfl ag_3 rfl rfl rfl rfl (by assumption) rfl ?_ | refine Run.loadO 1 _ _ rfl rfl ag_3 rfl rfl rfl rfl (by assumption) rfl ?_ | refine Zl 2 ag_3 ?_ | refine Run.loadO 2 _ 0 rfl rfl ag_3 rfl rfl rfl rfl (by assumption) rfl ?_ | refine Run.loadO 2 _ _ rfl rfl ag_3 rfl rfl rfl rfl (by assumption) rfl ?_ | refine Zl 3 ag_3 ?_ | refine Run.loadO 3 _ 0 rfl rfl ag_3 rfl rfl rfl rfl (by assumption) rfl ?_ | refine Run.loadO 3 _ _ rfl rfl ag_3 rfl rfl rfl rfl (by assumption) rfl ?_ | refine Zl 4 ag_3 ?_ | refine Run.loadO 4 _ 0 rfl rfl ag_3 rfl rfl rfl rfl (by assumption) rfl ?_ | refine Run.loadO 4 _ _ rfl rfl ag_3 rfl rfl rfl rfl (by assumption) rfl ?_ | refine Zl 5 ag_3 ?_ | refine Run.loadO 5 _ 0 rfl rfl ag_3 rfl rfl rfl rfl (by assumption) rfl ?_ | refine Run.loadO 5 _ _ rfl rfl ag_3 rfl rfl rfl rfl (by assumption) rfl ?_ | refine Run.loadR rfl rfl ag_3 rfl rfl (by first | assumption | exact SlR.cell0 (by assumption) (by assumption) rfl | exact SlR.cell (by assumption) (by assumption) rfl) ?_)
        all_goals (first | refine Zv ?_ | refine Run.call (Δ := []) (Θ := [blk b2 (fcs F su sv) 25, blk b3 [.int .i64 x.op, .int .i64 x.dst, .int .i64 x.imm, a.val] 67]) rfl rfl rfl rfl ok_49 rfl rfl (ent.refl _) (refRegister_ok hR F su sv (x.dst)) ?_; rintro _ _ ⟨rfl, rfl⟩)
        all_goals (first | refine Run.tt (by first | assumption | omega) ?_ | refine Run.ff (by first | assumption | omega) ?_ | refine Run.split (fun hc69 => ?_) (fun hc69 => ?_) | refine Run.splitB (fun hc69 => ?_) (fun hc69 => ?_) | skip)
        all_goals (first | refine Zv ?_ | refine Run.bnot rfl rfl rfl rfl ?_ | refine Run.bnotB rfl rfl rfl rfl ?_ | refine Run.neg rfl rfl rfl rfl ?_)
        all_goals (first | refine Zv ?_ | refine Zq ?_)
        all_goals (first | refine Zq ?_)
        all_goals (first | refine Zm ?_)
        all_goals (first | refine Zv ?_ | refine Zm ?_)
        all_goals (first | refine Zv ?_ | refine Run.bnotB rfl rfl rfl rfl ?_)
        all_goals (first | refine Zv ?_ | refine Zm ?_)
        all_goals (first | refine Zv ?_ | refine Zf fo_67_1 ?_)
        all_goals (first | refine Zv ?_ | refine Zl 1 ag_3 ?_)
        all_goals (first | refine Zv ?_ | refine Zi ?_)
        all_goals (first | refine Zv ?_ | refine Zq ?_)
        all_goals (first | refine Zq ?_)
        all_goals (refine Run.nil ?_)
        all_goals refine thn_next ⟨⟨rfl, rfl, ?_, trivial⟩, ent.refl _⟩
        all_goals simp [Env.get, regB, *]
        all_goals first | done | (intros; omega) | (rw [Bool.eq_iff_iff]; simp; omega)
      | true =>
        refine Zc ?_
        all_goals (first | refine Zm ?_)
        all_goals (first | refine Run.bnotB rfl rfl rfl rfl ?_)
        all_goals (first | refine Zm ?_)
        all_goals (first | refine Zv ?_ | refine Zf fo_67_3 ?_)
        all_goals (first | refine Zv ?_ | refine Zl 1 ag_22 ?_)
        all_goals (first | refine Zv ?_ | refine Zh sl_22 ha ?_)
        all_goals (first | refine Zv ?_ | refine Zm ?_)
        all_goals (first | refine Zv ?_ | refine Zi ?_)
        all_goals (first | refine Run.tt (by first | assumption | omega) ?_ | refine Run.ff (by first | assumption | omega) ?_ | refine Run.split (fun hc61 => ?_) (fun hc61 => ?_) | refine Run.splitB (fun hc61 => ?_) (fun hc61 => ?_) | skip)
        all_goals (first | refine Zq ?_)
        all_goals (first | refine Zm ?_)
        all_goals (first | refine Zv ?_ | refine Zm ?_)
        all_goals (first | refine Zv ?_ | refine Zm ?_)
        all_goals (first | refine Zv ?_ | refine Run.loadBagg 0 rfl rfl ag_25 rfl rfl rfl rfl rfl ?_)
        all_goals (first | refine Zv ?_ | refine Zf fo_67_1 ?_)
        all_goals (first | refine Zv ?_ | refine Zl 1 ag_3 ?_)
        all_goals (first | refine Zv ?_ | refine Run.call (Δ := []) (Θ := [blk b2 (fcs F su sv) 25, blk b3 [.int .i64 x.op, .int .i64 x.dst, .int .i64 x.imm, a.val] 67]) rfl rfl rfl rfl ok_49 rfl rfl (ent.refl _) (refRegister_ok hR F su sv (x.dst)) ?_; rintro _ _ ⟨rfl, rfl⟩)
        all_goals (first | refine Run.tt (by first | assumption | omega) ?_ | refine Run.ff (by first | assumption | omega) ?_ | refine Run.split (fun hc69 => ?_) (fun hc69 => ?_) | refine Run.splitB (fun hc69 => ?_) (fun hc69 => ?_) | skip)
        all_goals (first | refine Zv ?_ | refine Run.bnotB rfl rfl rfl rfl ?_)
        all_goals (first | refine Zv ?_ | refine Zq ?_)
        all_goals (first | refine Zq ?_)
        all_goals (first | refine Zm ?_)
        all_goals (first | refine Zv ?_ | refine Zm ?_)
        all_goals (first | refine Zv ?_ | refine Run.bnotB rfl rfl rfl rfl ?_)
        all_goals (first | refine Zv ?_ | refine Zm ?_)
        all_goals (first | refine Zv ?_ | refine Zf fo_67_1 ?_)
        all_goals (first | refine Zv ?_ | refine Zl 0 ag_3 ?_ | refine Run.loadO 0 _ 0 rfl rfl ag_3 rfl rfl rfl rfl (by assumption) rfl ?_ | refine Run.loadO 0 _ _ rfl rfl ag_3 rfl rfl rfl rfl (by assumption) rfl ?_ | refine Zl 1 ag_3 ?_ | refine Run.loadO 1 _ 0 rfl rfl ag_3 rfl rfl rfl rfl (by assumption) rfl ?_ | refine Run.loadO 1 _ _ rfl rfl ag_3 rfl rfl rfl rfl (by assumption) rfl ?_ | refine Zl 2 ag_3 ?_ | refine Run.loadO 2 _ 0 rfl rfl ag_3 rfl rfl rfl rfl (by assumption) rfl ?_ | refine Run.loadO 2 _ _ rfl rfl ag_3 rfl rfl rfl rfl (by assumption) rfl ?_ | refine Zl 3 ag_3 ?_ | refine Run.loadO 3 _ 0 rfl rfl ag_3 rfl rfl rfl rfl (by assumption) rfl ?_ | refine Run.loadO 3 _ _ rfl rfl ag_3 rfl rfl rfl rfl (by assumption) rfl ?_ | refine Zl 4 ag_3 ?_ | refine Run.loadO 4 _ 0 rfl rfl ag_3 rfl rfl rfl rfl (by assumption) rfl ?_ | refine Run.loadO 4 _ _ rfl rfl ag_3 rfl rfl rfl rfl (by assumption) rfl ?_ | refine Zl 5 ag_3 ?_ | refine Run.loadO 5 _ 0 rfl rfl ag_3 rfl rfl rfl rfl (by assumption) rfl ?_ | refine Run.loadO 5 _ _ rfl rfl ag_3 rfl rfl rfl rfl (by assumption) rfl ?_ | refine Run.loadR rfl rfl ag_3 rfl rfl (by first | assumption | exact SlR.cell0 (by assumption) (by assumption) rfl | exact SlR.cell (by assumption) (by assumption) rfl) ?_)
        all_goals (first | refine Zv ?_ | refine Zi ?_)
        all_goals (first | refine Zv ?_ | refine Zq ?_)
        all_goals (first | refine Zq ?_)
        all_goals (refine Run.nil ?_)
        all_goals refine thn_next ⟨⟨rfl, rfl, ?_, trivial⟩, ent.refl _⟩
        all_goals simp [Env.get, regB, *]
        all_goals first | done | (intros; omega) | (rw [Bool.eq_iff_iff]; simp; omega)
  have er : refR F x = if refBadR F x = true then false else if 28 ≤ x.op ∧ x.op ≤ 30 then decide (1 ≤ x.imm ∧ x.imm ≤ 5) else decide (x.op = 1 ∨ x.imm = 0) := by unfold refR; rw [if_neg h25]
  rw [er]
  refine WP.cond (t := refBadR F x) rfl (fun hB => ?_) (fun hB => ?_)
  · refine Zp ?_
    refine Zm ?_
    refine Ze ?_
    refine WP.via (Γ' := []) (pick_only [] _) ?_
    refine WP.ret ?_; refine thn_ret ?_
    exact retT [4] _ rfl rfl ⟨by rw [if_pos hB]; rfl, rfl⟩
  refine Zb ?_
  rw [if_neg (by simp [hB])]
  refine WP.seq ?_
  refine WP.seqCut [(2, .pointer (some ⟨b2, 0, none⟩)), (3, .pointer (some ⟨b3, 0, none⟩)), (89, .bool (decide (28 ≤ x.op ∧ x.op ≤ 30)))] [blk b2 (fcs F su sv) 25, blk b3 [.int .i64 x.op, .int .i64 x.dst, .int .i64 x.imm, a.val] 67] ?_ ?_
  · refine Zc ?_
    all_goals (first | refine Zf fo_67_0 ?_)
    all_goals (first | refine Zl 1 ag_3 ?_)
    all_goals (first | refine Zi ?_)
    all_goals (first | refine Run.tt (by first | assumption | omega) ?_ | refine Run.ff (by first | assumption | omega) ?_ | refine Run.split (fun hc84 => ?_) (fun hc84 => ?_) | refine Run.splitB (fun hc84 => ?_) (fun hc84 => ?_) | skip)
    all_goals (first | refine Zm ?_)
    all_goals (first | refine Zv ?_ | refine Zf fo_67_0 ?_)
    all_goals (first | refine Zv ?_ | refine Zl 1 ag_3 ?_)
    all_goals (first | refine Zv ?_ | refine Zi ?_)
    all_goals (first | refine Zq ?_)
    all_goals (refine Run.nil ?_)
    all_goals refine thn_next ⟨⟨rfl, rfl, ?_, trivial⟩, ent.refl _⟩
    all_goals simp [Env.get, *]
  refine WP.ite rfl (fun h28 => ?_) (fun h28 => ?_)
  · refine WP.seqCut [(4, .bool (decide (1 ≤ x.imm ∧ x.imm ≤ 5)))] [] ?_ ?_
    · refine Zc ?_
      all_goals (first | refine Zf fo_67_2 ?_)
      all_goals (first | refine Zl 1 ag_3 ?_)
      all_goals (first | refine Zi ?_)
      all_goals (first | refine Run.tt (by first | assumption | omega) ?_ | refine Run.ff (by first | assumption | omega) ?_ | refine Run.split (fun hc92 => ?_) (fun hc92 => ?_) | refine Run.splitB (fun hc92 => ?_) (fun hc92 => ?_) | skip)
      all_goals (first | refine Zm ?_)
      all_goals (first | refine Zv ?_ | refine Zf fo_67_2 ?_)
      all_goals (first | refine Zv ?_ | refine Zl 1 ag_3 ?_)
      all_goals (first | refine Zv ?_ | refine Zi ?_)
      all_goals (first | refine Zq ?_)
      all_goals (first | refine Zm ?_)
      all_goals (refine Run.nil ?_)
      all_goals refine thn_next ⟨⟨?_, trivial⟩, pick_only [] _⟩
      all_goals simp [Env.get, *]
    refine WP.ret ?_; refine thn_ret ?_
    exact retT [4] _ rfl rfl ⟨by rw [if_pos h28]; rfl, rfl⟩
  refine Zb ?_
  refine WP.seqCut [(4, .bool (decide (x.op = 1 ∨ x.imm = 0)))] [] ?_ ?_
  · refine Zc ?_
    all_goals (first | refine Zf fo_67_0 ?_)
    all_goals (first | refine Zl 1 ag_3 ?_)
    all_goals (first | refine Zi ?_)
    all_goals (first | refine Run.tt (by first | assumption | omega) ?_ | refine Run.ff (by first | assumption | omega) ?_ | refine Run.split (fun hc100 => ?_) (fun hc100 => ?_) | refine Run.splitB (fun hc100 => ?_) (fun hc100 => ?_) | skip)
    all_goals (first | refine Zm ?_)
    all_goals (first | refine Zv ?_ | refine Zf fo_67_2 ?_)
    all_goals (first | refine Zv ?_ | refine Zl 1 ag_3 ?_)
    all_goals (first | refine Zv ?_ | refine Zi ?_)
    all_goals (first | refine Zq ?_)
    all_goals (first | refine Zm ?_)
    all_goals (refine Run.nil ?_)
    all_goals refine thn_next ⟨⟨?_, trivial⟩, pick_only [] _⟩
    all_goals simp [Env.get, *]
  refine WP.ret ?_
  exact retT [4] _ rfl rfl ⟨by rw [if_neg h28]; rfl, rfl⟩
end Go.Proofs.YtjjfehdlmdhhmaaDoor
end
section
/- The document's own rule of a Term's form; walked. -/
namespace Go.Proofs.YtjjfehdlmdhhmaaDoor
open Go.Sep
set_option linter.unusedSimpArgs false
set_option linter.unusedVariables false
attribute [local irreducible] blk slA mp mpF rows rowsBut many
def wayN (k : Int) : Int := if k = 1 then 1 else if k = 2 then 2 else 0
def badT (k : Int) (to : List Int) : Prop := k < 1 ∨ k > 4 ∨ (to.length : Int) ≠ wayN k
instance (k : Int) (to : List Int) : Decidable (badT k to) := by unfold badT; exact inferInstance
theorem ways_get {k : Int} (h1 : ¬ k < 1) (h2 : ¬ k > 4) : ([0, 1, 2, 0, 0] : List Int)[k.toNat]? = some (wayN k) := by
  have : k = 1 ∨ k = 2 ∨ k = 3 ∨ k = 4 := by omega
  rcases this with rfl | rfl | rfl | rfl <;> rfl
theorem term_bad {F : LFun} {k val : Int} {to : List Int} (h : badT k to) : termB F k val to = false := by
  unfold termB
  have : termR F k val to = false := by
    unfold badT wayN at h
    unfold termR
    by_cases h1 : k = 1
    · subst h1; simp [-List.length_eq_zero_iff] at h ⊢; intros; omega
    by_cases h2 : k = 2
    · subst h2; simp [-List.length_eq_zero_iff] at h ⊢; intros; omega
    by_cases h3 : k = 3
    · subst h3; simp [-List.length_eq_zero_iff] at h ⊢; simp [h]
    rw [if_neg h1, if_neg h2, if_neg h3]
    rw [if_neg h1, if_neg h2] at h
    simp [-List.length_eq_zero_iff]; intros; omega
  rw [this]; simp
theorem term_good {F : LFun} {k val : Int} {to : List Int} (h : ¬ badT k to) : termR F k val to = if k = 1 ∨ (k = 3 ∧ F.res = 0) then decide (val = -1) else regB F val := by
  unfold badT wayN at h
  have : k = 1 ∨ k = 2 ∨ k = 3 ∨ k = 4 := by omega
  rcases this with rfl | rfl | rfl | rfl
  · simp [-List.length_eq_zero_iff] at h; simp [termR, -List.length_eq_zero_iff]; intros; omega
  · simp [-List.length_eq_zero_iff] at h; simp [termR, -List.length_eq_zero_iff]; intros; omega
  · simp [-List.length_eq_zero_iff] at h
    by_cases hr : F.res = 0 <;> simp [termR, h, hr]
  · simp [-List.length_eq_zero_iff] at h; simp [termR, h]
set_option maxRecDepth 100000 in
theorem refTerm_ok (hR : Heap) (F : LFun) (su sv : SV) (k val : Int) (to : List Int) (a : SV) (hF : FunV hR F su sv) (ha : SlR rdI hR a.val to) (hl : to.length ≤ 1000000) :
    Tri Tryd.prog hR 51 #[.agg ⟨fcs F su sv⟩, .agg ⟨[.int .i64 k, .int .i64 val, a.val]⟩] [] fun r Γ' => r = .bool (termB F k val to) ∧ Γ' = [] := by
  refine Tri.of (args := [.agg ⟨fcs F su sv⟩, .agg ⟨[.int .i64 k, .int .i64 val, a.val]⟩]) Tryd.func51 rfl Tryd.ntmps51 (by simp) ?_
  have hv := hF.hv
  have sb := hF.sb
  refine Zp ?_
  refine Run.box rfl rfl rfl rfl rfl ?_
  intro b2
  refine Run.box rfl rfl rfl rfl rfl ?_
  intro b3
  refine Zm ?_
  refine Ze ?_
  refine Zp ?_
  refine Run.buildSlice (E := (Enc.int .i64)) rfl sl_22 zr_3 ([0, 1, 2, 0, 0]) rfl rfl rfl (by decide) rfl rfl ?_
  intro b7
  refine Zm ?_
  refine Ze ?_
  have hal : (to.length : Int) ≤ 1000000 := by omega
  refine WP.seq ?_
  refine WP.seqCut [(2, .pointer (some ⟨b2, 0, none⟩)), (3, .pointer (some ⟨b3, 0, none⟩)), (26, .bool (decide (badT k to)))] [blk b2 (fcs F su sv) 25, blk b3 [.int .i64 k, .int .i64 val, a.val] 54] ?_ ?_
  · refine WP.drawn0 cf0 mixed rfl (by kernel_rfl) ?_
    all_goals (first | refine Zf fo_54_0 ?_)
    all_goals (first | refine Zl 1 ag_3 ?_)
    all_goals (first | refine Zi ?_)
    all_goals (first | refine Run.tt (by first | assumption | omega) ?_ | refine Run.ff (by first | assumption | omega) ?_ | refine Run.split (fun hc10 => ?_) (fun hc10 => ?_) | refine Run.splitB (fun hc10 => ?_) (fun hc10 => ?_) | skip)
    all_goals (first | refine Zm ?_)
    all_goals (first | refine Zv ?_ | refine Zf fo_54_0 ?_)
    all_goals (first | refine Zv ?_ | refine Zl 1 ag_3 ?_)
    all_goals (first | refine Zv ?_ | refine Zi ?_)
    all_goals (first | refine Run.tt (by first | assumption | omega) ?_ | refine Run.ff (by first | assumption | omega) ?_ | refine Run.split (fun hc14 => ?_) (fun hc14 => ?_) | refine Run.splitB (fun hc14 => ?_) (fun hc14 => ?_) | skip)
    all_goals (first | refine Zq ?_)
    all_goals (first | refine Zm ?_)
    all_goals (first | refine Zv ?_ | refine Zf fo_54_2 ?_)
    all_goals (first | refine Zv ?_ | refine Zl 1 ag_22 ?_)
    all_goals (first | refine Zv ?_ | refine Zh sl_22 ha ?_)
    all_goals (first | refine Zv ?_ | refine Zm ?_)
    all_goals (first | refine Zv ?_ | refine Zf fo_54_0 ?_)
    all_goals (first | refine Zv ?_ | refine Zl 1 ag_3 ?_)
    all_goals (first | refine Zv ?_ | refine Run.idxO 2 rfl rfl rfl sl_22 rfl rfl rfl rfl (by omega) (by simp; omega) ?_)
    all_goals (first | refine Zv ?_ | refine Run.loadO 2 k.toNat 0 rfl rfl ag_3 rfl rfl rfl rfl (ways_get (by omega) (by omega)) rfl ?_)
    all_goals (first | refine Zv ?_ | refine Zi ?_)
    all_goals (first | refine Zq ?_)
    all_goals (refine Run.nil ?_)
    all_goals refine thn_next ⟨⟨rfl, rfl, ?_, trivial⟩, pick_only [0, 0] _⟩
    all_goals simp [Env.get, badT, *]
    all_goals first | done | (intros; omega) | (rw [Bool.eq_iff_iff]; simp; omega)
  refine WP.ite rfl (fun hb => ?_) (fun hb => ?_)
  · refine Zp ?_
    refine Zm ?_
    refine Ze ?_
    refine WP.via (Γ' := []) (pick_only [] _) ?_
    refine WP.ret ?_; refine thn_ret ?_
    exact retT [4] _ rfl rfl ⟨by rw [term_bad hb]; rfl, rfl⟩
  refine Zb ?_
  refine WP.seqMeet (α := Unit) (fun _ => to.all (wayB F) = true) (fun _ => [(2, .pointer (some ⟨b2, 0, none⟩)), (3, .pointer (some ⟨b3, 0, none⟩))]) (fun _ => [blk b2 (fcs F su sv) 25, blk b3 [.int .i64 k, .int .i64 val, a.val] 54]) ?_ ?_
  · refine Zp ?_
    refine Zm ?_
    refine Ze ?_
    refine WP.block ?_
    refine WP.loop (α := Nat) (fun i => i ≤ to.length ∧ ∀ k y, k < i → to[k]? = some y → wayB F y = true) (fun i => [(2, .pointer (some ⟨b2, 0, none⟩)), (3, .pointer (some ⟨b3, 0, none⟩)), (6, .int .i64 (i : Int))])
      (fun _ => [blk b2 (fcs F su sv) 25, blk b3 [.int .i64 k, .int .i64 val, a.val] 54]) (fun i => to.length - i) 0 ⟨Nat.zero_le _, fun k y h => by omega⟩ ⟨rfl, rfl, rfl, trivial⟩ (ent.refl _) ?_
    rintro i ⟨hi, hk⟩
    refine WP.seq ?_
    refine Zp ?_
    refine Zm ?_
    refine Zf fo_54_2 ?_
    refine Zl 1 ag_22 ?_
    refine Zh sl_22 ha ?_
    refine Zi ?_
    refine Ze ?_
    refine WP.ite rfl (fun hlt => ?_) (fun hge => ?_)
    · refine Zb ?_
      obtain ⟨y, gy⟩ : ∃ y, to[(i : Int).toNat]? = some y := ⟨_, List.getElem?_eq_getElem (by omega)⟩
      have gy' : to[i]? = some y := gy
      refine WP.seq ?_
      refine WP.block ?_
      refine WP.seqCut [(2, .pointer (some ⟨b2, 0, none⟩)), (3, .pointer (some ⟨b3, 0, none⟩)), (6, .int .i64 (i : Int)), (50, .bool (!wayB F y))] [blk b2 (fcs F su sv) 25, blk b3 [.int .i64 k, .int .i64 val, a.val] 54] ?_ ?_
      · refine WP.drawn0 cf0 mixed rfl (by kernel_rfl) ?_
        all_goals (first | refine Zf fo_54_2 ?_)
        all_goals (first | refine Zl 1 ag_22 ?_)
        all_goals (first | refine Zm ?_)
        all_goals (first | refine Zx sl_22 ha ?_)
        all_goals (first | refine Zr ag_3 (SlR.cell0 ha gy rfl) ?_)
        all_goals (first | refine Zi ?_)
        all_goals (first | refine Run.tt (by first | assumption | omega) ?_ | refine Run.ff (by first | assumption | omega) ?_ | refine Run.split (fun hc39 => ?_) (fun hc39 => ?_) | refine Run.splitB (fun hc39 => ?_) (fun hc39 => ?_) | skip)
        all_goals (first | refine Zm ?_)
        all_goals (first | refine Zv ?_ | refine Zf fo_54_2 ?_)
        all_goals (first | refine Zv ?_ | refine Zl 1 ag_22 ?_)
        all_goals (first | refine Zv ?_ | refine Zm ?_)
        all_goals (first | refine Zv ?_ | refine Zx sl_22 ha ?_)
        all_goals (first | refine Zv ?_ | refine Zr ag_3 (SlR.cell0 ha gy rfl) ?_)
        all_goals (first | refine Zv ?_ | refine Zf fo_25_4 ?_)
        all_goals (first | refine Zv ?_ | refine Zl 0 ag_23 ?_)
        all_goals (first | refine Zv ?_ | refine Zh sl_23 hv ?_)
        all_goals (first | refine Zv ?_ | refine Zi ?_)
        all_goals (first | refine Zq ?_)
        all_goals (refine Run.nil ?_)
        all_goals refine thn_next ⟨⟨rfl, rfl, rfl, ?_, trivial⟩, ent.refl _⟩
        all_goals simp [Env.get, wayB, *]
        all_goals first | done | (intros; omega) | (rw [Bool.eq_iff_iff]; simp; omega)
      refine WP.cond (t := !wayB F y) rfl (fun hy => ?_) (fun hy => ?_)
      · refine Zp ?_
        refine Zm ?_
        refine Ze ?_
        refine WP.via (Γ' := []) (pick_only [] _) ?_
        refine WP.ret ?_; refine blk_ret ?_; refine thn_ret ?_; refine thn_ret ?_; refine blk_ret ?_; refine thn_ret ?_
        exact retT [4] _ rfl rfl ⟨by unfold termB; rw [all_not gy' (by simpa using hy)]; rfl, rfl⟩
      · refine WP.skip ?_; refine blk_norm ?_; refine thn_next ?_
        refine Zc ?_
        refine Zm ?_
        refine Za ?_
        refine Zm ?_
        refine Run.nil ?_
        refine thn_next ⟨i + 1, ⟨by omega, fun k z h1 h2 => ?_⟩, by omega, ⟨rfl, rfl, rfl, trivial⟩, ent.refl _⟩
        by_cases e : k = i
        · subst e; rw [gy'] at h2; cases h2; simpa using hy
        · exact hk k z (by omega) h2
    · refine Zj ?_
      refine thn_next ⟨(), all_of fun k y h1 h2 => hk k y (by omega) h2, ⟨rfl, rfl, trivial⟩, ent.refl _⟩
  rintro _ hall
  have eR : termB F k val to = if k = 1 ∨ (k = 3 ∧ F.res = 0) then decide (val = -1) else regB F val := by unfold termB; rw [hall, term_good hb]; rfl
  rw [eR]
  refine WP.seq ?_
  refine WP.seqCut [(2, .pointer (some ⟨b2, 0, none⟩)), (3, .pointer (some ⟨b3, 0, none⟩)), (63, .bool (decide (k = 1 ∨ (k = 3 ∧ F.res = 0))))] [blk b2 (fcs F su sv) 25, blk b3 [.int .i64 k, .int .i64 val, a.val] 54] ?_ ?_
  · refine Zc ?_
    all_goals (first | refine Zf fo_54_0 ?_)
    all_goals (first | refine Zl 1 ag_3 ?_)
    all_goals (first | refine Zi ?_)
    all_goals (first | refine Run.tt (by first | assumption | omega) ?_ | refine Run.ff (by first | assumption | omega) ?_ | refine Run.split (fun hc53 => ?_) (fun hc53 => ?_) | refine Run.splitB (fun hc53 => ?_) (fun hc53 => ?_) | skip)
    all_goals (first | refine Zm ?_)
    all_goals (first | refine Zv ?_ | refine Zf fo_54_0 ?_)
    all_goals (first | refine Zv ?_ | refine Zl 1 ag_3 ?_)
    all_goals (first | refine Zv ?_ | refine Zi ?_)
    all_goals (first | refine Run.tt (by first | assumption | omega) ?_ | refine Run.ff (by first | assumption | omega) ?_ | refine Run.split (fun hc57 => ?_) (fun hc57 => ?_) | refine Run.splitB (fun hc57 => ?_) (fun hc57 => ?_) | skip)
    all_goals (first | refine Zv ?_ | refine Zm ?_)
    all_goals (first | refine Zv ?_ | refine Zf fo_25_3 ?_)
    all_goals (first | refine Zv ?_ | refine Zl 0 ag_3 ?_)
    all_goals (first | refine Zv ?_ | refine Zi ?_)
    all_goals (first | refine Zv ?_ | refine Zq ?_)
    all_goals (first | refine Zq ?_)
    all_goals (refine Run.nil ?_)
    all_goals refine thn_next ⟨⟨rfl, rfl, ?_, trivial⟩, ent.refl _⟩
    all_goals simp [Env.get, *]
  refine WP.ite rfl (fun h13 => ?_) (fun h13 => ?_)
  · refine Zp ?_
    refine Zf fo_54_1 ?_
    refine Zl 1 ag_3 ?_
    refine Zi ?_
    refine Zm ?_
    refine Ze ?_
    refine WP.via (Γ' := []) (pick_only [] _) ?_
    refine WP.ret ?_; refine thn_ret ?_
    exact retT [4] _ rfl rfl ⟨by rw [if_pos h13]; rfl, rfl⟩
  refine Zb ?_
  refine Zp ?_
  refine Run.loadBagg 0 rfl rfl ag_25 rfl rfl rfl rfl rfl ?_
  refine Zf fo_54_1 ?_
  refine Zl 1 ag_3 ?_
  refine Run.call (Δ := []) (Θ := [blk b2 (fcs F su sv) 25, blk b3 [.int .i64 k, .int .i64 val, a.val] 54]) rfl rfl rfl rfl ok_49 rfl rfl (ent.refl _) (refRegister_ok hR F su sv val) ?_; rintro _ _ ⟨rfl, rfl⟩
  refine Zm ?_
  refine Ze ?_
  refine WP.via (Γ' := []) (pick_only [] _) ?_
  refine WP.ret ?_
  exact retT [4] _ rfl rfl ⟨by rw [if_neg h13]; rfl, rfl⟩
end Go.Proofs.YtjjfehdlmdhhmaaDoor
end
section
/- The document's own rule of a function's form; walked. -/
namespace Go.Proofs.YtjjfehdlmdhhmaaDoor
open Go.Sep
set_option linter.unusedSimpArgs false
set_option linter.unusedVariables false
attribute [local irreducible] blk slA mp mpF rows rowsBut many
set_option maxHeartbeats 1000000 in
set_option maxRecDepth 100000 in
theorem refFormed_ok (hR : Heap) (F : LFun) (su sv : SV) (hF : FunV hR F su sv) (hS : SmallF F) :
    Tri Tryd.prog hR 21 #[.agg ⟨fcs F su sv⟩] [] fun r Γ' => r = .bool (formB F) ∧ Γ' = [] := by
  refine Tri.of (args := [.agg ⟨fcs F su sv⟩]) Tryd.func21 rfl Tryd.ntmps21 (by simp) ?_
  have hu := hF.hu
  have hv := hF.hv
  have sp := hF.sp
  have sb := hF.sb
  refine Zp ?_
  refine Run.box rfl rfl rfl rfl rfl ?_
  intro b1
  refine Zm ?_
  refine Ze ?_
  refine WP.via (Γ' := [blk b1 (fcs F su sv) 25]) (ent.refl _) ?_
  refine WP.seq ?_
  refine WP.seqCut [(1, .pointer (some ⟨b1, 0, none⟩)), (37, .bool (!headB F))] [blk b1 (fcs F su sv) 25] ?_ ?_
  · refine Zc ?_
    all_goals (first | refine Zf fo_25_2 ?_)
    all_goals (first | refine Zl 0 ag_3 ?_)
    all_goals (first | refine Zi ?_)
    all_goals (first | refine Run.tt (by first | assumption | omega) ?_ | refine Run.ff (by first | assumption | omega) ?_ | refine Run.split (fun hc10 => ?_) (fun hc10 => ?_) | refine Run.splitB (fun hc10 => ?_) (fun hc10 => ?_) | skip)
    all_goals (first | refine Zm ?_)
    all_goals (first | refine Zv ?_ | refine Zf fo_25_2 ?_)
    all_goals (first | refine Zv ?_ | refine Zl 0 ag_3 ?_)
    all_goals (first | refine Zv ?_ | refine Zi ?_)
    all_goals (first | refine Run.tt (by first | assumption | omega) ?_ | refine Run.ff (by first | assumption | omega) ?_ | refine Run.split (fun hc14 => ?_) (fun hc14 => ?_) | refine Run.splitB (fun hc14 => ?_) (fun hc14 => ?_) | skip)
    all_goals (first | refine Zq ?_)
    all_goals (first | refine Zm ?_)
    all_goals (first | refine Zv ?_ | refine Zf fo_25_1 ?_)
    all_goals (first | refine Zv ?_ | refine Zl 0 ag_22 ?_)
    all_goals (first | refine Zv ?_ | refine Zh sl_22 hu ?_)
    all_goals (first | refine Zv ?_ | refine Zi ?_)
    all_goals (first | refine Run.tt (by first | assumption | omega) ?_ | refine Run.ff (by first | assumption | omega) ?_ | refine Run.split (fun hc20 => ?_) (fun hc20 => ?_) | refine Run.splitB (fun hc20 => ?_) (fun hc20 => ?_) | skip)
    all_goals (first | refine Zq ?_)
    all_goals (first | refine Zm ?_)
    all_goals (first | refine Zv ?_ | refine Zf fo_25_3 ?_)
    all_goals (first | refine Zv ?_ | refine Zl 0 ag_3 ?_)
    all_goals (first | refine Zv ?_ | refine Zi ?_)
    all_goals (first | refine Run.tt (by first | assumption | omega) ?_ | refine Run.ff (by first | assumption | omega) ?_ | refine Run.split (fun hc25 => ?_) (fun hc25 => ?_) | refine Run.splitB (fun hc25 => ?_) (fun hc25 => ?_) | skip)
    all_goals (first | refine Zq ?_)
    all_goals (first | refine Zm ?_)
    all_goals (first | refine Zv ?_ | refine Zf fo_25_3 ?_)
    all_goals (first | refine Zv ?_ | refine Zl 0 ag_3 ?_)
    all_goals (first | refine Zv ?_ | refine Zi ?_)
    all_goals (first | refine Run.tt (by first | assumption | omega) ?_ | refine Run.ff (by first | assumption | omega) ?_ | refine Run.split (fun hc30 => ?_) (fun hc30 => ?_) | refine Run.splitB (fun hc30 => ?_) (fun hc30 => ?_) | skip)
    all_goals (first | refine Zq ?_)
    all_goals (first | refine Zm ?_)
    all_goals (first | refine Zv ?_ | refine Zf fo_25_4 ?_)
    all_goals (first | refine Zv ?_ | refine Zl 0 ag_23 ?_)
    all_goals (first | refine Zv ?_ | refine Zh sl_23 hv ?_)
    all_goals (first | refine Zv ?_ | refine Zi ?_)
    all_goals (first | refine Zq ?_)
    all_goals (refine Run.nil ?_)
    all_goals refine thn_next ⟨⟨rfl, ?_, trivial⟩, ent.refl _⟩
    all_goals simp [Env.get, headB, -List.length_eq_zero_iff, *]
    all_goals first | done | omega | (intros; omega) | (rw [Bool.eq_iff_iff]; simp [-List.length_eq_zero_iff]; omega)
  refine WP.cond (t := !headB F) rfl (fun hh => ?_) (fun hh => ?_)
  · refine Zp ?_
    refine Zm ?_
    refine Ze ?_
    refine WP.via (Γ' := []) (pick_only [] _) ?_
    refine WP.ret ?_; refine thn_ret ?_
    exact retT [2] _ rfl rfl ⟨by unfold formB; simp at hh; rw [hh]; rfl, rfl⟩
  refine Zb ?_
  have hh' : headB F = true := by simpa using hh
  -- the parameters
  refine WP.seqMeet (α := Unit) (fun _ => (F.params.all (regB F) && decide F.params.Nodup) = true) (fun _ => [(1, .pointer (some ⟨b1, 0, none⟩))]) (fun _ => [blk b1 (fcs F su sv) 25]) ?_ ?_
  · refine Zp ?_
    refine Zm ?_
    refine Ze ?_
    refine WP.block ?_
    refine WP.loop (α := Nat) (fun i => i ≤ F.params.length ∧ ∀ k y, k < i → F.params[k]? = some y → regB F y = true ∧ ∀ j z, j < k → F.params[j]? = some z → z ≠ y) (fun i => [(1, .pointer (some ⟨b1, 0, none⟩)), (3, .int .i64 (i : Int))])
      (fun _ => [blk b1 (fcs F su sv) 25]) (fun i => F.params.length - i) 0 ⟨Nat.zero_le _, fun k y h => by omega⟩ ⟨rfl, rfl, trivial⟩ (ent.refl _) ?_
    rintro i ⟨hi, hk⟩
    refine WP.seq ?_
    refine Zp ?_
    refine Zm ?_
    refine Zf fo_25_1 ?_
    refine Zl 0 ag_22 ?_
    refine Zh sl_22 hu ?_
    refine Zi ?_
    refine Ze ?_
    refine WP.ite rfl (fun hlt => ?_) (fun hge => ?_)
    · refine Zb ?_
      obtain ⟨y, gy⟩ : ∃ y, F.params[(i : Int).toNat]? = some y := ⟨_, List.getElem?_eq_getElem (by omega)⟩
      have gy' : F.params[i]? = some y := gy
      refine WP.seqMeet (α := Unit) (fun _ => regB F y = true ∧ ∀ j z, j < i → F.params[j]? = some z → z ≠ y) (fun _ => [(1, .pointer (some ⟨b1, 0, none⟩)), (3, .int .i64 (i : Int))]) (fun _ => [blk b1 (fcs F su sv) 25]) ?_ ?_
      · refine WP.block ?_
        refine WP.seq ?_
        refine WP.seq ?_
        refine WP.drawn0 cf0 mixed rfl (by kernel_rfl) ?_
        refine Run.loadBagg 0 rfl rfl ag_25 rfl rfl rfl rfl rfl ?_
        refine Zf fo_25_1 ?_
        refine Zl 0 ag_22 ?_
        refine Zm ?_
        refine Zx sl_22 hu ?_
        refine Zr ag_3 (SlR.cell0 hu gy rfl) ?_
        refine Run.call (Δ := []) (Θ := [blk b1 (fcs F su sv) 25]) rfl rfl rfl rfl ok_49 rfl rfl (ent.refl _) (refRegister_ok hR F su sv y) ?_; rintro _ _ ⟨rfl, rfl⟩
        refine Run.bnot rfl rfl rfl rfl ?_
        refine Ze ?_
        refine WP.ite rfl (fun hy => ?_) (fun hy => ?_)
        · refine Zp ?_
          refine Zm ?_
          refine Ze ?_
          refine WP.via (Γ' := []) (pick_only [] _) ?_
          refine WP.ret ?_; refine thn_ret ?_; refine blk_ret ?_; refine thn_ret ?_; refine thn_ret ?_; refine blk_ret ?_; refine thn_ret ?_
          exact retT [2] _ rfl rfl ⟨by unfold formB; rw [all_not gy' (decide_eq_false hy)]; simp [tupV], rfl⟩
        refine Zb ?_
        have hy' : regB F y = true := decide_eq_true (Decidable.not_not.1 hy)
        refine Zp ?_
        refine Zm ?_
        refine Ze ?_
        refine WP.block ?_
        refine WP.loop (α := Nat) (fun j => j ≤ i ∧ ∀ k z, k < j → F.params[k]? = some z → z ≠ y) (fun j => [(1, .pointer (some ⟨b1, 0, none⟩)), (3, .int .i64 (i : Int)), (4, .int .i64 (j : Int))])
          (fun _ => [blk b1 (fcs F su sv) 25]) (fun j => i - j) 0 ⟨Nat.zero_le _, fun k z h => by omega⟩ ⟨rfl, rfl, rfl, trivial⟩ (ent.refl _) ?_
        rintro j ⟨hj, hjk⟩
        refine WP.seq ?_
        refine Zp ?_
        refine Zm ?_
        refine Zm ?_
        refine Zi ?_
        refine Ze ?_
        refine WP.ite rfl (fun hlt2 => ?_) (fun hge2 => ?_)
        · refine Zb ?_
          obtain ⟨z, gz⟩ : ∃ z, F.params[(j : Int).toNat]? = some z := ⟨_, List.getElem?_eq_getElem (by omega)⟩
          have gz' : F.params[j]? = some z := gz
          refine WP.seq ?_
          refine WP.block ?_
          refine WP.seq ?_
          refine WP.drawn0 cf0 mixed rfl (by kernel_rfl) ?_
          refine Zf fo_25_1 ?_
          refine Zl 0 ag_22 ?_
          refine Zm ?_
          refine Zx sl_22 hu ?_
          refine Zr ag_3 (SlR.cell0 hu gz rfl) ?_
          refine Zf fo_25_1 ?_
          refine Zl 0 ag_22 ?_
          refine Zm ?_
          refine Zx sl_22 hu ?_
          refine Zr ag_3 (SlR.cell0 hu gy rfl) ?_
          refine Zi ?_
          refine Ze ?_
          refine WP.ite rfl (fun he => ?_) (fun he => ?_)
          · refine Zp ?_
            refine Zm ?_
            refine Ze ?_
            refine WP.via (Γ' := []) (pick_only [] _) ?_
            refine WP.ret ?_; refine blk_ret ?_; refine thn_ret ?_; refine thn_ret ?_; refine blk_ret ?_; refine blk_ret ?_; refine thn_ret ?_; refine thn_ret ?_; refine blk_ret ?_; refine thn_ret ?_
            subst he
            exact retT [2] _ rfl rfl ⟨by unfold formB; rw [decide_eq_false (not_nodup (by omega) gy' gz')]; simp [tupV], rfl⟩
          · refine WP.skip ?_; refine blk_norm ?_; refine thn_next ?_
            refine Zc ?_
            refine Zm ?_
            refine Za ?_
            refine Zm ?_
            refine Run.nil ?_
            refine thn_next ⟨j + 1, ⟨by omega, fun k x h1 h2 => ?_⟩, by omega, ⟨rfl, rfl, rfl, trivial⟩, ent.refl _⟩
            by_cases e : k = j
            · subst e; rw [gz'] at h2; cases h2; exact he
            · exact hjk k x (by omega) h2
        · refine Zj ?_; refine blk_norm ?_
          exact thn_next ⟨(), ⟨hy', fun k z h1 h2 => hjk k z (by omega) h2⟩, ⟨rfl, rfl, trivial⟩, ent.refl _⟩
      rintro _ ⟨hy1, hy2⟩
      refine Zc ?_
      refine Zm ?_
      refine Za ?_
      refine Zm ?_
      refine Run.nil ?_
      refine thn_next ⟨i + 1, ⟨by omega, fun k z h1 h2 => ?_⟩, by omega, ⟨rfl, rfl, trivial⟩, ent.refl _⟩
      by_cases e : k = i
      · subst e; rw [gy'] at h2; cases h2; exact ⟨hy1, hy2⟩
      · exact hk k z (by omega) h2
    · refine Zj ?_
      refine thn_next ⟨(), ?_, ⟨rfl, trivial⟩, ent.refl _⟩
      rw [Bool.and_eq_true]
      exact ⟨all_of fun k y h1 h2 => (hk k y (by omega) h2).1, decide_eq_true (nodup_of fun i k y z h1 h2 h3 => (hk i y (by have := (List.getElem?_eq_some_iff.1 h2).1; omega) h2).2 k z h1 h3)⟩
  rintro _ hpar
  -- the blocks
  refine WP.seqMeet (α := Unit) (fun _ => F.blocks.all (blkB F) = true) (fun _ => []) (fun _ => []) ?_ ?_
  · refine Zp ?_
    refine Zm ?_
    refine Ze ?_
    refine WP.block ?_
    refine WP.loop (α := Nat) (fun i => i ≤ F.blocks.length ∧ ∀ k y, k < i → F.blocks[k]? = some y → blkB F y = true) (fun i => [(1, .pointer (some ⟨b1, 0, none⟩)), (5, .int .i64 (i : Int))])
      (fun _ => [blk b1 (fcs F su sv) 25]) (fun i => F.blocks.length - i) 0 ⟨Nat.zero_le _, fun k y h => by omega⟩ ⟨rfl, rfl, trivial⟩ (ent.refl _) ?_
    rintro i ⟨hi, hk⟩
    refine WP.seq ?_
    refine Zp ?_
    refine Zm ?_
    refine Zf fo_25_4 ?_
    refine Zl 0 ag_23 ?_
    refine Zh sl_23 hv ?_
    refine Zi ?_
    refine Ze ?_
    refine WP.ite rfl (fun hlt => ?_) (fun hge => ?_)
    · refine Zb ?_
      obtain ⟨b, gb⟩ : ∃ y, F.blocks[(i : Int).toNat]? = some y := ⟨_, List.getElem?_eq_getElem (by omega)⟩
      have gb' : F.blocks[i]? = some b := gb
      have hbm := List.mem_of_getElem? gb'
      have hb1 := hS.bodies b hbm
      have hb2 := hS.tos b hbm
      have hb3 := hS.args b hbm
      obtain ⟨_, ⟨bu0, bv0, rfl, hbu, hbv⟩, hrow⟩ := hv.at gb
      obtain ⟨bu, rfl, _, _⟩ := SlR.sv hbu
      obtain ⟨bv, rfl, _, _⟩ := SlR.sv hbv
      refine WP.seqMeet (α := Unit) (fun _ => blkB F b = true) (fun _ => [(1, .pointer (some ⟨b1, 0, none⟩)), (5, .int .i64 (i : Int))]) (fun _ => [blk b1 (fcs F su sv) 25]) ?_ ?_
      · refine WP.block ?_
        refine Zp ?_
        refine Zf fo_25_4 ?_
        refine Zl 0 ag_23 ?_
        refine Zm ?_
        refine Zx sl_23 hv ?_
        refine Run.loadRagg rfl rfl ag_56 rfl rfl hrow (by rfl) ?_
        refine Run.alloc rfl zr_56 rfl rfl rfl ?_
        intro b6
        refine Run.storeB 1 rfl rfl rfl rfl ag_56 rfl rfl rfl rfl rfl ?_
        refine Ze ?_
        refine WP.via (Γ' := [blk b1 (fcs F su sv) 25, blk b6 [bu.val, .int .i64 b.kind, .int .i64 b.value, bv.val] 56]) (ent.refl _) ?_
        refine WP.seqMeet (α := Unit) (fun _ => b.body.all (insB F) = true) (fun _ => [(1, .pointer (some ⟨b1, 0, none⟩)), (5, .int .i64 (i : Int)), (6, .pointer (some ⟨b6, 0, none⟩))]) (fun _ => [blk b1 (fcs F su sv) 25, blk b6 [bu.val, .int .i64 b.kind, .int .i64 b.value, bv.val] 56]) ?_ ?_
        · refine Zp ?_
          refine Zm ?_
          refine Ze ?_
          refine WP.block ?_
          refine WP.loop (α := Nat) (fun j => j ≤ b.body.length ∧ ∀ k y, k < j → b.body[k]? = some y → insB F y = true) (fun j => [(1, .pointer (some ⟨b1, 0, none⟩)), (5, .int .i64 (i : Int)), (6, .pointer (some ⟨b6, 0, none⟩)), (7, .int .i64 (j : Int))])
            (fun _ => [blk b1 (fcs F su sv) 25, blk b6 [bu.val, .int .i64 b.kind, .int .i64 b.value, bv.val] 56]) (fun j => b.body.length - j) 0 ⟨Nat.zero_le _, fun k y h => by omega⟩ ⟨rfl, rfl, rfl, rfl, trivial⟩ (ent.refl _) ?_
          rintro j ⟨hj, hjk⟩
          refine WP.seq ?_
          refine Zp ?_
          refine Zm ?_
          refine Zf fo_56_0 ?_
          refine Zl 1 ag_52 ?_
          refine Zh sl_52 hbu ?_
          refine Zi ?_
          refine Ze ?_
          refine WP.ite rfl (fun hlt2 => ?_) (fun hge2 => ?_)
          · refine Zb ?_
            obtain ⟨x, gx⟩ : ∃ y, b.body[(j : Int).toNat]? = some y := ⟨_, List.getElem?_eq_getElem (by omega)⟩
            have gx' : b.body[j]? = some x := gx
            have hx3 := hb3 x (List.mem_of_getElem? gx')
            obtain ⟨_, ⟨xa0, rfl, hxa⟩, hxrow⟩ := hbu.at gx
            obtain ⟨xa, rfl, _, _⟩ := SlR.sv hxa
            refine WP.seq ?_
            refine WP.block ?_
            refine WP.seq ?_
            refine WP.drawn0 cf0 mixed rfl (by kernel_rfl) ?_
            refine Run.loadBagg 0 rfl rfl ag_25 rfl rfl rfl rfl rfl ?_
            refine Zf fo_56_0 ?_
            refine Zl 1 ag_52 ?_
            refine Zm ?_
            refine Zx sl_52 hbu ?_
            refine Run.loadRagg rfl rfl ag_67 rfl rfl hxrow (by rfl) ?_
            refine Run.call (Δ := []) (Θ := [blk b1 (fcs F su sv) 25, blk b6 [bu.val, .int .i64 b.kind, .int .i64 b.value, bv.val] 56]) rfl rfl rfl rfl ok_50 rfl rfl (ent.refl _) (refIns_ok hR F su sv x xa hxa hx3) ?_; rintro _ _ ⟨rfl, rfl⟩
            refine Run.bnotB rfl rfl rfl rfl ?_
            refine Ze ?_
            refine WP.cond (t := !insB F x) rfl (fun hy => ?_) (fun hy => ?_)
            · refine Zp ?_
              refine Zm ?_
              refine Ze ?_
              refine WP.via (Γ' := []) (pick_only [] _) ?_
              refine WP.ret ?_; refine blk_ret ?_; refine thn_ret ?_; refine thn_ret ?_; refine blk_ret ?_; refine thn_ret ?_; refine blk_ret ?_; refine thn_ret ?_; refine thn_ret ?_; refine blk_ret ?_; refine thn_ret ?_
              have hbB : blkB F b = false := by unfold blkB; rw [all_not gx' (by simpa using hy)]; rfl
              exact retT [2] _ rfl rfl ⟨by unfold formB; rw [all_not gb' hbB]; simp [tupV], rfl⟩
            · refine WP.skip ?_; refine blk_norm ?_; refine thn_next ?_
              refine Zc ?_
              refine Zm ?_
              refine Za ?_
              refine Zm ?_
              refine Run.nil ?_
              refine thn_next ⟨j + 1, ⟨by omega, fun k z h1 h2 => ?_⟩, by omega, ⟨rfl, rfl, rfl, rfl, trivial⟩, ent.refl _⟩
              by_cases e : k = j
              · subst e; rw [gx'] at h2; cases h2; simpa using hy
              · exact hjk k z (by omega) h2
          · refine Zj ?_
            exact thn_next ⟨(), all_of fun k y h1 h2 => hjk k y (by omega) h2, ⟨rfl, rfl, rfl, trivial⟩, ent.refl _⟩
        rintro _ hbody
        refine Zp ?_
        refine Run.loadBagg 0 rfl rfl ag_25 rfl rfl rfl rfl rfl ?_
        refine Zf fo_56_1 ?_
        refine Run.loadBagg 1 rfl rfl ag_54 rfl rfl rfl rfl rfl ?_
        refine Run.call (Δ := []) (Θ := [blk b1 (fcs F su sv) 25, blk b6 [bu.val, .int .i64 b.kind, .int .i64 b.value, bv.val] 56]) rfl rfl rfl rfl ok_51 rfl rfl (ent.refl _) (refTerm_ok hR F su sv b.kind b.value b.to bv hF hbv hb2) ?_; rintro _ _ ⟨rfl, rfl⟩
        refine Run.bnotB rfl rfl rfl rfl ?_
        refine Ze ?_
        refine WP.cond (t := !termB F b.kind b.value b.to) rfl (fun hy => ?_) (fun hy => ?_)
        · refine Zp ?_
          refine Zm ?_
          refine Ze ?_
          refine WP.via (Γ' := []) (pick_only [] _) ?_
          refine WP.ret ?_; refine blk_ret ?_; refine thn_ret ?_; refine thn_ret ?_; refine blk_ret ?_; refine thn_ret ?_
          have hbB : blkB F b = false := by unfold blkB; simp at hy; rw [hy]; simp
          exact retT [2] _ rfl rfl ⟨by unfold formB; rw [all_not gb' hbB]; simp [tupV], rfl⟩
        · refine WP.skip ?_; refine blk_norm ?_
          exact thn_next ⟨(), by unfold blkB; rw [hbody]; simpa using hy, ⟨rfl, rfl, trivial⟩, pick_only [0] _⟩
      rintro _ hbB
      refine Zc ?_
      refine Zm ?_
      refine Za ?_
      refine Zm ?_
      refine Run.nil ?_
      refine thn_next ⟨i + 1, ⟨by omega, fun k z h1 h2 => ?_⟩, by omega, ⟨rfl, rfl, trivial⟩, ent.refl _⟩
      by_cases e : k = i
      · subst e; rw [gb'] at h2; cases h2; exact hbB
      · exact hk k z (by omega) h2
    · refine Zj ?_
      exact thn_next ⟨(), all_of fun k y h1 h2 => hk k y (by omega) h2, trivial, pick_only [] _⟩
  rintro _ hblk
  refine Zp ?_
  refine Zm ?_
  refine Ze ?_
  refine WP.ret ?_
  exact retT [2] _ rfl rfl ⟨by unfold formB; rw [hh', hpar, hblk]; rfl, rfl⟩
end Go.Proofs.YtjjfehdlmdhhmaaDoor
end
