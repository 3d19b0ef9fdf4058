/- Over: the ways up, walked; the program's and the document's. -/
import Derived.Test.YtifpejpeophlbaaFacts
namespace Go.Proofs.Ytifpejpeophlbaa
open Go.Sep
set_option linter.unusedSimpArgs false
set_option linter.unusedVariables false
attribute [local irreducible] blk slA mp mpF

def nextB (tr : List Int) (b : Int) : Int := tr.getD b.toNat 0
def offB (n : Nat) (b : Int) : Prop := b < 0 ∨ b ≥ n
instance (n : Nat) (b : Int) : Decidable (offB n b) := by unfold offB; infer_instance
def overGo (tr : List Int) (a : Int) : Nat → Int → Bool → Bool
  | 0, b, f => if offB tr.length (nextB tr b) then f || decide (a = b) else false
  | k + 1, b, f => if offB tr.length (nextB tr b) then f || decide (a = b) else overGo tr a k (nextB tr b) (f || decide (a = b))
def overL (tr : List Int) (a b : Int) : Bool := if offB tr.length a ∨ offB tr.length b then false else overGo tr a tr.length b false

theorem int_at {tr : List Int} {b : Int} (h : ¬ offB tr.length b) : tr[b.toNat]? = some (nextB tr b) := by
  unfold offB at h
  have : b.toNat < tr.length := by omega
  simp [nextB, List.getD_eq_getElem?_getD, this]

set_option maxRecDepth 100000 in
theorem over_ok (hR : Heap) (v : Value) (tr : List Int) (a b : Int) (hl : SlR (Enc.int .i64).rd hR v tr) (hlen : tr.length ≤ 1000000000000000000) :
    Tri Try.prog hR 20 #[v, .int .i64 a, .int .i64 b] [] fun u Γ' => u = .bool (overL tr a b) ∧ Γ' = [] := by
  refine Tri.of (args := [v, .int .i64 a, .int .i64 b]) Try.func20 rfl Try.ntmps20 (by simp) ?_
  refine WP.seq ?_
  refine WP.plain cf0 rfl ?_
  refine Run.mv rfl rfl rfl rfl ?_
  refine Run.nil ?_
  refine thn_next ?_
  refine WP.scope ?_
  refine WP.seq ?_
  refine WP.seqCut [(0, v), (1, .int .i64 a), (2, .int .i64 b), (26, .bool (decide (offB tr.length a ∨ offB tr.length b)))] [] ?_ ?_
  · refine WP.plain cf0 rfl ?_
    all_goals (first | refine Run.mv rfl rfl rfl rfl ?_)
    all_goals (first | refine Run.int2 rfl rfl rfl rfl rfl rfl ?_)
    all_goals (first | refine Run.tt (by first | assumption | omega) ?_ | refine Run.ff (by first | assumption | omega) ?_ | refine Run.split (fun hc10 => ?_) (fun hc10 => ?_) | refine Run.splitB (fun hc10 => ?_) (fun hc10 => ?_) | skip)
    all_goals (first | refine Run.mv rfl rfl rfl rfl ?_)
    all_goals (first | refine Run.not rfl rfl ?_ | refine Run.mv rfl rfl rfl rfl ?_)
    all_goals (first | refine Run.not rfl rfl ?_ | refine Run.mv rfl rfl rfl rfl ?_)
    all_goals (first | refine Run.not rfl rfl ?_ | refine Run.lenR rfl rfl sl_31 rfl rfl (by assumption) ?_)
    all_goals (first | refine Run.not rfl rfl ?_ | refine Run.int2 rfl rfl rfl rfl rfl rfl ?_)
    all_goals (first | refine Run.tt (by first | assumption | omega) ?_ | refine Run.ff (by first | assumption | omega) ?_ | refine Run.split (fun hc15 => ?_) (fun hc15 => ?_) | refine Run.splitB (fun hc15 => ?_) (fun hc15 => ?_) | skip)
    all_goals (first | refine Run.pick rfl rfl rfl rfl rfl ?_)
    all_goals (first | refine Run.mv rfl rfl rfl rfl ?_)
    all_goals (first | refine Run.not rfl rfl ?_ | refine Run.mv rfl rfl rfl rfl ?_)
    all_goals (first | refine Run.not rfl rfl ?_ | refine Run.int2 rfl rfl rfl rfl rfl rfl ?_)
    all_goals (first | refine Run.tt (by first | assumption | omega) ?_ | refine Run.ff (by first | assumption | omega) ?_ | refine Run.split (fun hc19 => ?_) (fun hc19 => ?_) | refine Run.splitB (fun hc19 => ?_) (fun hc19 => ?_) | skip)
    all_goals (first | refine Run.pick rfl rfl rfl rfl rfl ?_)
    all_goals (first | refine Run.mv rfl rfl rfl rfl ?_)
    all_goals (first | refine Run.not rfl rfl ?_ | refine Run.mv rfl rfl rfl rfl ?_)
    all_goals (first | refine Run.not rfl rfl ?_ | refine Run.mv rfl rfl rfl rfl ?_)
    all_goals (first | refine Run.not rfl rfl ?_ | refine Run.lenR rfl rfl sl_31 rfl rfl (by assumption) ?_)
    all_goals (first | refine Run.not rfl rfl ?_ | refine Run.int2 rfl rfl rfl rfl rfl rfl ?_)
    all_goals (first | refine Run.pick rfl rfl rfl rfl rfl ?_)
    all_goals (refine Run.nil ?_)
    all_goals refine thn_next ⟨⟨rfl, rfl, rfl, ?_, trivial⟩, ent.refl _⟩
    all_goals simp [Env.get, offB, *]
  refine WP.ite rfl (fun h => ?_) (fun h => ?_)
  · refine WP.seq ?_
    refine WP.plain cf0 rfl ?_
    refine Run.mv rfl rfl rfl rfl ?_
    refine Run.nil ?_
    refine thn_next ?_
    refine WP.ret ?_; refine thn_ret ?_
    refine scp_ret ?_
    exact retT [6] _ rfl rfl ⟨by unfold overL; rw [if_pos h]; rfl, rfl⟩
  refine WP.skip ?_; refine thn_next ?_
  have hb0 : ¬ offB tr.length b := fun e => h (.inr e)
  have hov : overL tr a b = overGo tr a tr.length b false := by unfold overL; rw [if_neg h]
  refine WP.seq ?_
  refine WP.plain cf0 rfl ?_
  refine Run.mv rfl rfl rfl rfl ?_
  refine Run.nil ?_
  refine thn_next ?_
  refine WP.seq ?_
  refine WP.plain cf0 rfl ?_
  refine Run.mv rfl rfl rfl rfl ?_
  refine Run.nil ?_
  refine thn_next ?_
  refine WP.seq ?_
  refine WP.label ?_; refine thn_next ?_
  refine WP.seqMeet (α := Unit) (fun _ => True) (fun _ => [(7, .bool (overL tr a b))]) (fun _ => []) ?_ ?_
  · refine WP.block ?_
    refine WP.loop (α := Nat × Int × Bool) (fun z => ¬ offB tr.length z.2.1 ∧ z.1 ≤ tr.length ∧ overL tr a b = overGo tr a z.1 z.2.1 z.2.2)
      (fun z => [(0, v), (1, .int .i64 a), (2, .int .i64 z.2.1), (7, .bool z.2.2), (8, .int .i64 ((tr.length : Int) - z.1))]) (fun _ => []) (fun z => z.1)
      (tr.length, b, false) ⟨hb0, Nat.le_refl _, hov⟩ ⟨rfl, rfl, rfl, rfl, by simp [Env.get], trivial⟩ (ent.refl _) ?_
    rintro ⟨k, c, f⟩ ⟨hc, hk, hgo⟩
    simp only at hc hk hgo ⊢
    have gc := int_at hc
    have hc' := hc
    unfold offB at hc'
    have hc1 : 0 ≤ c := by omega
    have hc2 : c < (tr.length : Int) := by omega
    refine WP.block ?_
    refine WP.seqCut [(0, v), (1, .int .i64 a), (2, .int .i64 c), (7, .bool (f || decide (a = c))), (8, .int .i64 ((tr.length : Int) - k))] [] ?_ ?_
    · cases f with
      | true =>
        refine WP.plain cf0 rfl ?_
        all_goals (first | refine Run.mv rfl rfl rfl rfl ?_)
        all_goals (first | refine Run.mv rfl rfl rfl rfl ?_)
        all_goals (first | refine Run.not rfl rfl ?_ | refine Run.mv rfl rfl rfl rfl ?_)
        all_goals (first | refine Run.not rfl rfl ?_ | refine Run.mv rfl rfl rfl rfl ?_)
        all_goals (first | refine Run.not rfl rfl ?_ | refine Run.int2 rfl rfl rfl rfl rfl rfl ?_)
        all_goals (first | refine Run.tt (by first | assumption | omega) ?_ | refine Run.ff (by first | assumption | omega) ?_ | refine Run.split (fun hc31 => ?_) (fun hc31 => ?_) | refine Run.splitB (fun hc31 => ?_) (fun hc31 => ?_) | skip)
        all_goals (first | refine Run.pick rfl rfl rfl rfl rfl ?_)
        all_goals (first | refine Run.mv rfl rfl rfl rfl ?_)
        all_goals (refine Run.nil ?_)
        refine thn_next ⟨⟨rfl, rfl, rfl, rfl, rfl, trivial⟩, ent.refl _⟩
      | false =>
        rw [Bool.false_or]
        refine WP.plain cf0 rfl ?_
        all_goals (first | refine Run.mv rfl rfl rfl rfl ?_)
        all_goals (first | refine Run.mv rfl rfl rfl rfl ?_)
        all_goals (first | refine Run.not rfl rfl ?_ | refine Run.mv rfl rfl rfl rfl ?_)
        all_goals (first | refine Run.not rfl rfl ?_ | refine Run.mv rfl rfl rfl rfl ?_)
        all_goals (first | refine Run.not rfl rfl ?_ | refine Run.int2 rfl rfl rfl rfl rfl rfl ?_)
        all_goals (first | refine Run.tt (by first | assumption | omega) ?_ | refine Run.ff (by first | assumption | omega) ?_ | refine Run.split (fun hc31 => ?_) (fun hc31 => ?_) | refine Run.splitB (fun hc31 => ?_) (fun hc31 => ?_) | skip)
        all_goals (first | refine Run.pick rfl rfl rfl rfl rfl ?_)
        all_goals (first | refine Run.mv rfl rfl rfl rfl ?_)
        all_goals (refine Run.nil ?_)
        all_goals refine thn_next ⟨⟨rfl, rfl, rfl, ?_, rfl, trivial⟩, ent.refl _⟩
        · rw [decide_eq_true (by assumption)]; rfl
        · rw [decide_eq_false (by assumption)]; rfl
    refine WP.seq ?_
    refine WP.plain cf0 rfl ?_
    refine Run.mv rfl rfl rfl rfl ?_
    refine Run.mv rfl rfl rfl rfl ?_
    refine Run.idxR rfl rfl rfl sl_31 rfl rfl (by assumption) (by rfl) (by first | omega | (simp <;> omega)) (by first | omega | (simp <;> omega)) ?_
    refine Run.loadR rfl rfl ag_3 rfl rfl (by first | assumption | exact SlR.cell0 (by assumption) (by assumption) rfl | exact SlR.cell (by assumption) (by assumption) rfl) ?_
    refine Run.mv rfl rfl rfl rfl ?_
    refine Run.nil ?_
    refine thn_next ?_
    refine WP.seq ?_
    refine WP.seqCut [(0, v), (1, .int .i64 a), (2, .int .i64 (nextB tr c)), (7, .bool (f || decide (a = c))), (8, .int .i64 ((tr.length : Int) - k)), (44, .bool (decide (offB tr.length (nextB tr c))))] [] ?_ ?_
    · refine WP.plain cf0 rfl ?_
      all_goals (first | refine Run.mv rfl rfl rfl rfl ?_)
      all_goals (first | refine Run.int2 rfl rfl rfl rfl rfl rfl ?_)
      all_goals (first | refine Run.tt (by first | assumption | omega) ?_ | refine Run.ff (by first | assumption | omega) ?_ | refine Run.split (fun hc38 => ?_) (fun hc38 => ?_) | refine Run.splitB (fun hc38 => ?_) (fun hc38 => ?_) | skip)
      all_goals (first | refine Run.mv rfl rfl rfl rfl ?_)
      all_goals (first | refine Run.not rfl rfl ?_ | refine Run.mv rfl rfl rfl rfl ?_)
      all_goals (first | refine Run.not rfl rfl ?_ | refine Run.mv rfl rfl rfl rfl ?_)
      all_goals (first | refine Run.not rfl rfl ?_ | refine Run.lenR rfl rfl sl_31 rfl rfl (by assumption) ?_)
      all_goals (first | refine Run.not rfl rfl ?_ | refine Run.int2 rfl rfl rfl rfl rfl rfl ?_)
      all_goals (first | refine Run.pick rfl rfl rfl rfl rfl ?_)
      all_goals (refine Run.nil ?_)
      all_goals refine thn_next ⟨⟨rfl, rfl, rfl, rfl, rfl, ?_, trivial⟩, ent.refl _⟩
      all_goals simp [Env.get, offB, *]
    refine WP.ite rfl (fun h2 => ?_) (fun h2 => ?_)
    · refine WP.exit ?_; refine thn_exit ?_; refine blk_miss rfl ?_; refine thn_exit ?_; refine blk_hit ?_; refine thn_next ?_
      refine ⟨(), trivial, ⟨?_, trivial⟩, ent.refl _⟩
      rw [hgo]
      cases k with
      | zero => rw [overGo, if_pos h2]; rfl
      | succ k => rw [overGo, if_pos h2]; rfl
    · refine WP.skip ?_; refine thn_next ?_
      refine WP.seq ?_
      refine WP.plain cf0 rfl ?_
      refine Run.mv rfl rfl rfl rfl ?_
      refine Run.add64 rfl rfl rfl rfl rfl (by first | omega | (simp <;> omega)) (by first | omega | (simp <;> omega)) ?_
      refine Run.mv rfl rfl rfl rfl ?_
      refine Run.nil ?_
      refine thn_next ?_
      refine WP.seq ?_
      refine WP.plain cf0 rfl ?_
      refine Run.mv rfl rfl rfl rfl ?_
      refine Run.mv rfl rfl rfl rfl ?_
      refine Run.lenR rfl rfl sl_31 rfl rfl (by assumption) ?_
      refine Run.int2 rfl rfl rfl rfl rfl rfl ?_
      refine Run.nil ?_
      refine thn_next ?_
      refine WP.ite rfl (fun h3 => ?_) (fun h3 => ?_)
      · refine WP.seq ?_
        refine WP.plain cf0 rfl ?_
        refine Run.mv rfl rfl rfl rfl ?_
        refine Run.nil ?_
        refine thn_next ?_
        refine WP.ret ?_; refine blk_ret ?_; refine thn_ret ?_; refine blk_ret ?_; refine thn_ret ?_
        refine scp_ret ?_
        have hk0 : k = 0 := by omega
        subst hk0
        exact retT [6] _ rfl rfl ⟨by rw [hgo, overGo, if_neg h2]; rfl, rfl⟩
      · refine WP.skip ?_; refine blk_norm ?_
        obtain ⟨k', rfl⟩ : ∃ k', k = k' + 1 := ⟨k - 1, by omega⟩
        refine thn_next ⟨(k', nextB tr c, f || decide (a = c)), ⟨h2, by omega, by rw [hgo, overGo, if_neg h2]⟩, by simp, ⟨rfl, rfl, rfl, rfl, ?_, trivial⟩, ent.refl _⟩
        have : (tr.length : Int) - ((k' + 1 : Nat) : Int) + 1 = (tr.length : Int) - (k' : Int) := by omega
        simp only
        rw [← this]; rfl
  rintro _ _
  refine WP.seq ?_
  refine WP.plain cf0 rfl ?_
  refine Run.mv rfl rfl rfl rfl ?_
  refine Run.mv rfl rfl rfl rfl ?_
  refine Run.nil ?_
  refine thn_next ?_
  refine WP.ret ?_
  refine scp_ret ?_
  exact retT [6] _ rfl rfl ⟨rfl, rfl⟩
end Go.Proofs.Ytifpejpeophlbaa
