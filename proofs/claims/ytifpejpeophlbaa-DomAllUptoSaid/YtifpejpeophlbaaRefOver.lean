/- The document's Over, walked. -/
import Derived.Test.YtifpejpeophlbaaOver
namespace Go.Proofs.Ytifpejpeophlbaa
open Go.Sep
set_option linter.unusedSimpArgs false
set_option linter.unusedVariables false
attribute [local irreducible] blk slA mp mpF

def refGo (tr : List Int) (a : Int) : Nat → Int → Bool → Bool
  | 0, _, _ => false
  | k + 1, b, f => if offB tr.length (nextB tr b) then f || decide (b = a) else refGo tr a k (nextB tr b) (f || decide (b = a))
def refOverL (tr : List Int) (a b : Int) : Bool := if offB tr.length a ∨ offB tr.length b then false else refGo tr a tr.length b false

set_option maxRecDepth 100000 in
theorem refOver_ok (hR : Heap) (v : Value) (tr : List Int) (a b : Int) (hl : SlR (Enc.int .i64).rd hR v tr) (hlen : tr.length ≤ 1000000000000000000) :
    Tri Try.prog hR 21 #[v, .int .i64 a, .int .i64 b] [] fun u Γ' => u = .bool (refOverL tr a b) ∧ Γ' = [] := by
  refine Tri.of (args := [v, .int .i64 a, .int .i64 b]) Try.func21 rfl Try.ntmps21 (by simp) ?_
  refine WP.seq ?_
  refine WP.plain cf0 rfl ?_
  refine Run.mv rfl rfl rfl rfl ?_
  refine Run.nil ?_
  refine thn_next ?_
  refine WP.seq ?_
  refine WP.plain cf0 rfl ?_
  refine Run.mv rfl rfl rfl rfl ?_
  refine Run.lenR rfl rfl sl_31 rfl rfl (by assumption) ?_
  refine Run.mv rfl rfl rfl rfl ?_
  refine Run.nil ?_
  refine thn_next ?_
  refine WP.seq ?_
  refine WP.seqCut [(0, v), (1, .int .i64 a), (2, .int .i64 b), (7, .int .i64 (tr.length : Int)), (27, .bool (decide (offB tr.length a ∨ offB tr.length b)))] [] ?_ ?_
  · refine WP.plain cf0 rfl ?_
    all_goals (first | refine Run.mv rfl rfl rfl rfl ?_)
    all_goals (first | refine Run.int2 rfl rfl rfl rfl rfl rfl ?_)
    all_goals (first | refine Run.tt (by first | assumption | omega) ?_ | refine Run.ff (by first | assumption | omega) ?_ | refine Run.split (fun hc13 => ?_) (fun hc13 => ?_) | refine Run.splitB (fun hc13 => ?_) (fun hc13 => ?_) | skip)
    all_goals (first | refine Run.mv rfl rfl rfl rfl ?_)
    all_goals (first | refine Run.not rfl rfl ?_ | refine Run.mv rfl rfl rfl rfl ?_)
    all_goals (first | refine Run.not rfl rfl ?_ | refine Run.mv rfl rfl rfl rfl ?_)
    all_goals (first | refine Run.not rfl rfl ?_ | refine Run.int2 rfl rfl rfl rfl rfl rfl ?_)
    all_goals (first | refine Run.tt (by first | assumption | omega) ?_ | refine Run.ff (by first | assumption | omega) ?_ | refine Run.split (fun hc17 => ?_) (fun hc17 => ?_) | refine Run.splitB (fun hc17 => ?_) (fun hc17 => ?_) | skip)
    all_goals (first | refine Run.pick rfl rfl rfl rfl rfl ?_)
    all_goals (first | refine Run.mv rfl rfl rfl rfl ?_)
    all_goals (first | refine Run.not rfl rfl ?_ | refine Run.mv rfl rfl rfl rfl ?_)
    all_goals (first | refine Run.not rfl rfl ?_ | refine Run.int2 rfl rfl rfl rfl rfl rfl ?_)
    all_goals (first | refine Run.tt (by first | assumption | omega) ?_ | refine Run.ff (by first | assumption | omega) ?_ | refine Run.split (fun hc21 => ?_) (fun hc21 => ?_) | refine Run.splitB (fun hc21 => ?_) (fun hc21 => ?_) | skip)
    all_goals (first | refine Run.pick rfl rfl rfl rfl rfl ?_)
    all_goals (first | refine Run.mv rfl rfl rfl rfl ?_)
    all_goals (first | refine Run.not rfl rfl ?_ | refine Run.mv rfl rfl rfl rfl ?_)
    all_goals (first | refine Run.not rfl rfl ?_ | refine Run.mv rfl rfl rfl rfl ?_)
    all_goals (first | refine Run.not rfl rfl ?_ | refine Run.int2 rfl rfl rfl rfl rfl rfl ?_)
    all_goals (first | refine Run.pick rfl rfl rfl rfl rfl ?_)
    all_goals (refine Run.nil ?_)
    all_goals refine thn_next ⟨⟨rfl, rfl, rfl, rfl, ?_, trivial⟩, ent.refl _⟩
    all_goals simp [Env.get, offB, *]
  refine WP.ite rfl (fun h => ?_) (fun h => ?_)
  · refine WP.seq ?_
    refine WP.plain cf0 rfl ?_
    refine Run.mv rfl rfl rfl rfl ?_
    refine Run.nil ?_
    refine thn_next ?_
    refine WP.ret ?_; refine thn_ret ?_
    exact retT [6] _ rfl rfl ⟨by unfold refOverL; rw [if_pos h]; rfl, rfl⟩
  refine WP.skip ?_; refine thn_next ?_
  have hb0 : ¬ offB tr.length b := fun e => h (.inr e)
  have hov : refOverL tr a b = refGo tr a tr.length b false := by unfold refOverL; rw [if_neg h]
  refine WP.seq ?_
  refine WP.plain cf0 rfl ?_
  refine Run.mv rfl rfl rfl rfl ?_
  refine Run.nil ?_
  refine thn_next ?_
  refine WP.seqMeet (α := Unit) (fun _ => refOverL tr a b = false) (fun _ => []) (fun _ => []) ?_ ?_
  · refine WP.seq ?_
    refine WP.plain cf0 rfl ?_
    refine Run.mv rfl rfl rfl rfl ?_
    refine Run.nil ?_
    refine thn_next ?_
    refine WP.block ?_
    refine WP.loop (α := Nat × Int × Bool) (fun z => ¬ offB tr.length z.2.1 ∧ z.1 ≤ tr.length ∧ refOverL tr a b = refGo tr a z.1 z.2.1 z.2.2)
      (fun z => [(0, v), (1, .int .i64 a), (2, .int .i64 z.2.1), (7, .int .i64 (tr.length : Int)), (8, .bool z.2.2), (9, .int .i64 ((tr.length : Int) - z.1))]) (fun _ => []) (fun z => z.1)
      (tr.length, b, false) ⟨hb0, Nat.le_refl _, hov⟩ ⟨rfl, rfl, rfl, rfl, rfl, by simp [Env.get], trivial⟩ (ent.refl _) ?_
    rintro ⟨k, c, f⟩ ⟨hc, hk, hgo⟩
    simp only at hc hk hgo ⊢
    have gc := int_at hc
    have hc' := hc
    unfold offB at hc'
    have hc1 : 0 ≤ c := by omega
    have hc2 : c < (tr.length : Int) := by omega
    refine WP.seq ?_
    refine WP.seq ?_
    refine WP.plain cf0 rfl ?_
    refine Run.mv rfl rfl rfl rfl ?_
    refine Run.mv rfl rfl rfl rfl ?_
    refine Run.int2 rfl rfl rfl rfl rfl rfl ?_
    refine Run.nil ?_
    refine thn_next ?_
    refine WP.ite rfl (fun hlt => ?_) (fun hge => ?_)
    · refine WP.skip ?_; refine thn_next ?_
      obtain ⟨k', rfl⟩ : ∃ k', k = k' + 1 := ⟨k - 1, by omega⟩
      refine WP.seq ?_
      refine WP.block ?_
      refine WP.seqMeet (α := Unit) (fun _ => True) (fun _ => [(0, v), (1, .int .i64 a), (2, .int .i64 c), (7, .int .i64 (tr.length : Int)), (8, .bool (f || decide (c = a))), (9, .int .i64 ((tr.length : Int) - ((k' + 1 : Nat) : Int)))]) (fun _ => []) ?_ ?_
      · refine WP.seq ?_
        refine WP.plain cf0 rfl ?_
        refine Run.mv rfl rfl rfl rfl ?_
        refine Run.mv rfl rfl rfl rfl ?_
        refine Run.int2 rfl rfl rfl rfl rfl rfl ?_
        refine Run.nil ?_
        refine thn_next ?_
        refine WP.ite rfl (fun h2 => ?_) (fun h2 => ?_)
        · refine WP.plain cf0 rfl ?_
          refine Run.mv rfl rfl rfl rfl ?_
          refine Run.nil ?_
          refine thn_next ⟨(), trivial, ⟨rfl, rfl, rfl, rfl, ?_, rfl, trivial⟩, ent.refl _⟩
          rw [decide_eq_true h2, Bool.or_true]; rfl
        · refine WP.skip ?_
          refine thn_next ⟨(), trivial, ⟨rfl, rfl, rfl, rfl, ?_, rfl, trivial⟩, ent.refl _⟩
          rw [decide_eq_false h2, Bool.or_false]; rfl
      rintro _ _
      refine WP.seq ?_
      refine WP.plain cf0 rfl ?_
      refine Run.mv rfl rfl rfl rfl ?_
      refine Run.mv rfl rfl rfl rfl ?_
      refine Run.idxR rfl rfl rfl sl_31 rfl rfl (by assumption) (by rfl) (by first | omega | (simp <;> omega)) (by first | omega | (simp <;> omega)) ?_
      refine Run.loadR rfl rfl ag_3 rfl rfl (by first | assumption | exact SlR.cell0 (by assumption) (by assumption) rfl | exact SlR.cell (by assumption) (by assumption) rfl) ?_
      refine Run.mv rfl rfl rfl rfl ?_
      refine Run.nil ?_
      refine thn_next ?_
      refine WP.seqCut [(0, v), (1, .int .i64 a), (2, .int .i64 (nextB tr c)), (7, .int .i64 (tr.length : Int)), (8, .bool (f || decide (c = a))), (9, .int .i64 ((tr.length : Int) - ((k' + 1 : Nat) : Int))), (46, .bool (decide (offB tr.length (nextB tr c))))] [] ?_ ?_
      · refine WP.plain cf0 rfl ?_
        all_goals (first | refine Run.mv rfl rfl rfl rfl ?_)
        all_goals (first | refine Run.int2 rfl rfl rfl rfl rfl rfl ?_)
        all_goals (first | refine Run.tt (by first | assumption | omega) ?_ | refine Run.ff (by first | assumption | omega) ?_ | refine Run.split (fun hc41 => ?_) (fun hc41 => ?_) | refine Run.splitB (fun hc41 => ?_) (fun hc41 => ?_) | skip)
        all_goals (first | refine Run.mv rfl rfl rfl rfl ?_)
        all_goals (first | refine Run.not rfl rfl ?_ | refine Run.mv rfl rfl rfl rfl ?_)
        all_goals (first | refine Run.not rfl rfl ?_ | refine Run.mv rfl rfl rfl rfl ?_)
        all_goals (first | refine Run.not rfl rfl ?_ | refine Run.int2 rfl rfl rfl rfl rfl rfl ?_)
        all_goals (first | refine Run.pick rfl rfl rfl rfl rfl ?_)
        all_goals (refine Run.nil ?_)
        all_goals refine thn_next ⟨⟨rfl, rfl, rfl, rfl, rfl, rfl, ?_, trivial⟩, ent.refl _⟩
        all_goals simp [Env.get, offB, *]
      refine WP.ite rfl (fun h2 => ?_) (fun h2 => ?_)
      · refine WP.seq ?_
        refine WP.plain cf0 rfl ?_
        refine Run.mv rfl rfl rfl rfl ?_
        refine Run.mv rfl rfl rfl rfl ?_
        refine Run.nil ?_
        refine thn_next ?_
        refine WP.ret ?_; refine blk_ret ?_; refine thn_ret ?_; refine thn_ret ?_; refine blk_ret ?_; refine thn_ret ?_
        exact retT [6] _ rfl rfl ⟨by rw [hgo, refGo, if_pos h2]; rfl, rfl⟩
      · refine WP.skip ?_; refine blk_norm ?_; refine thn_next ?_
        refine WP.plain cf0 rfl ?_
        refine Run.mv rfl rfl rfl rfl ?_
        refine Run.add64 rfl rfl rfl rfl rfl (by first | omega | (simp <;> omega)) (by first | omega | (simp <;> omega)) ?_
        refine Run.mv rfl rfl rfl rfl ?_
        refine Run.nil ?_
        refine thn_next ⟨(k', nextB tr c, f || decide (c = a)), ⟨h2, by omega, by rw [hgo, refGo, if_neg h2]⟩, by simp, ⟨rfl, rfl, rfl, rfl, rfl, ?_, trivial⟩, ent.refl _⟩
        have : (tr.length : Int) - ((k' + 1 : Nat) : Int) + 1 = (tr.length : Int) - (k' : Int) := by omega
        simp only
        rw [← this]; rfl
    · refine WP.exit ?_; refine thn_exit ?_; refine thn_exit ?_; refine blk_hit ?_; refine thn_next ?_
      have hk0 : k = 0 := by omega
      subst hk0
      exact ⟨(), by rw [hgo]; rfl, trivial, ent.refl _⟩
  rintro _ he
  refine WP.seq ?_
  refine WP.plain cf0 rfl ?_
  refine Run.mv rfl rfl rfl rfl ?_
  refine Run.nil ?_
  refine thn_next ?_
  refine WP.ret ?_
  exact retT [6] _ rfl rfl ⟨by rw [he]; rfl, rfl⟩
end Go.Proofs.Ytifpejpeophlbaa
