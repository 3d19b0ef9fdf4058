/- Two lists compared. -/
import Derived.Test.YtifpejpeophlbaaPlainOver
namespace Go.Proofs.Ytifpejpeophlbaa
open Go.Sep
set_option linter.unusedSimpArgs false
set_option linter.unusedVariables false
attribute [local irreducible] blk slA mp mpF

theorem same_ok (hR : Heap) (a b : Value) (xs ys : List Int) (ha : SlR (Enc.int .i64).rd hR a xs) (hb : SlR (Enc.int .i64).rd hR b ys) (hlen : xs.length ≤ 1000000000000000000) (hlen2 : ys.length ≤ 1000000000000000000) :
    Tri Try.prog hR 18 #[a, b] [] fun u Γ' => u = .bool (decide (xs = ys)) ∧ Γ' = [] := by
  refine Tri.of (args := [a, b]) Try.func18 rfl Try.ntmps18 (by simp) ?_
  refine WP.seq ?_
  refine WP.plain cf0 rfl ?_
  refine Run.mv rfl rfl rfl rfl ?_
  refine Run.nil ?_
  refine thn_next ?_
  refine WP.seq ?_
  refine WP.seq ?_
  refine WP.plain cf0 rfl ?_
  refine Run.mv rfl rfl rfl rfl ?_
  refine Run.lenR rfl rfl sl_31 rfl rfl ha ?_
  refine Run.mv rfl rfl rfl rfl ?_
  refine Run.lenR rfl rfl sl_31 rfl rfl hb ?_
  refine Run.int2 rfl rfl rfl rfl rfl rfl ?_
  refine Run.nil ?_
  refine thn_next ?_
  refine WP.ite rfl (fun hne => ?_) (fun heq => ?_)
  · refine WP.seq ?_
    refine WP.plain cf0 rfl ?_
    refine Run.mv rfl rfl rfl rfl ?_
    refine Run.nil ?_
    refine thn_next ?_
    refine WP.ret ?_; refine thn_ret ?_
    have : xs ≠ ys := fun e => hne (by rw [e])
    exact retT [4] _ rfl rfl ⟨by rw [decide_eq_false this]; rfl, rfl⟩
  refine WP.skip ?_; refine thn_next ?_
  have hll : xs.length = ys.length := by omega
  refine WP.seqMeet (α := Unit) (fun _ => xs = ys) (fun _ => []) (fun _ => []) ?_ ?_
  · refine WP.seq ?_
    refine WP.plain cf0 rfl ?_
    refine Run.mv rfl rfl rfl rfl ?_
    refine Run.nil ?_
    refine thn_next ?_
    refine WP.block ?_
    refine WP.loop (α := Nat) (fun i => i ≤ xs.length ∧ (xs = ys ↔ xs.drop i = ys.drop i)) (fun i => [(0, a), (1, b), (5, .int .i64 (i : Int))]) (fun i => []) (fun i => xs.length - i)
      0 ⟨Nat.zero_le _, Iff.rfl⟩ ⟨rfl, rfl, rfl, trivial⟩ (ent.refl _) ?_
    rintro i ⟨hi, hiff⟩
    refine WP.seq ?_
    refine WP.seq ?_
    refine WP.plain cf0 rfl ?_
    refine Run.mv rfl rfl rfl rfl ?_
    refine Run.mv rfl rfl rfl rfl ?_
    refine Run.lenR rfl rfl sl_31 rfl rfl ha ?_
    refine Run.int2 rfl rfl rfl rfl rfl rfl ?_
    refine Run.nil ?_
    refine thn_next ?_
    refine WP.ite rfl (fun hlt => ?_) (fun hge => ?_)
    · refine WP.skip ?_; refine thn_next ?_
      have hlt' : i < xs.length := by omega
      have hlt2 : i < ys.length := by omega
      obtain ⟨x, gx⟩ : ∃ x, xs[i]? = some x := ⟨_, List.getElem?_eq_getElem hlt'⟩
      obtain ⟨y, gy⟩ : ∃ x, ys[i]? = some x := ⟨_, List.getElem?_eq_getElem hlt2⟩
      have gx' : xs[(i : Int).toNat]? = some x := gx
      have gy' : ys[(i : Int).toNat]? = some y := gy
      have hdx : xs.drop i = x :: xs.drop (i + 1) := by rw [List.drop_eq_getElem_cons hlt']; congr 1; rw [List.getElem?_eq_getElem hlt'] at gx; cases gx; rfl
      have hdy : ys.drop i = y :: ys.drop (i + 1) := by rw [List.drop_eq_getElem_cons hlt2]; congr 1; rw [List.getElem?_eq_getElem hlt2] at gy; cases gy; rfl
      refine WP.seq ?_
      refine WP.block ?_
      refine WP.seq ?_
      refine WP.drawn0 cf0 mixed rfl (by kernel_rfl) ?_
      refine Run.mv rfl rfl rfl rfl ?_
      refine Run.mv rfl rfl rfl rfl ?_
      refine Run.idxR rfl rfl rfl sl_31 rfl rfl ha (by rfl) (by omega) (by omega) ?_
      refine Run.loadR rfl rfl ag_3 rfl rfl (SlR.cell0 ha gx' rfl) ?_
      refine Run.mv rfl rfl rfl rfl ?_
      refine Run.mv rfl rfl rfl rfl ?_
      refine Run.idxR rfl rfl rfl sl_31 rfl rfl hb (by rfl) (by omega) (by omega) ?_
      refine Run.loadR rfl rfl ag_3 rfl rfl (SlR.cell0 hb gy' rfl) ?_
      refine Run.int2 rfl rfl rfl rfl rfl rfl ?_
      refine Run.nil ?_
      refine thn_next ?_
      refine WP.ite rfl (fun hxy => ?_) (fun hxy => ?_)
      · refine WP.seq ?_
        refine WP.plain cf0 rfl ?_
        refine Run.mv rfl rfl rfl rfl ?_
        refine Run.nil ?_
        refine thn_next ?_
        refine WP.ret ?_; refine blk_ret ?_; refine thn_ret ?_; refine thn_ret ?_; refine blk_ret ?_; refine thn_ret ?_
        have : xs ≠ ys := fun e => by rw [hiff, hdx, hdy] at e; simp at e; exact hxy e.1
        exact retT [4] _ rfl rfl ⟨by rw [decide_eq_false this]; rfl, rfl⟩
      · refine WP.skip ?_; refine blk_norm ?_; refine thn_next ?_
        refine WP.plain cf0 rfl ?_
        refine Run.mv rfl rfl rfl rfl ?_
        refine Run.add64 rfl rfl rfl rfl rfl (by first | omega | (simp <;> omega)) (by first | omega | (simp <;> omega)) ?_
        refine Run.mv rfl rfl rfl rfl ?_
        refine Run.nil ?_
        refine thn_next ⟨i + 1, ⟨hlt', ?_⟩, by omega, ⟨rfl, rfl, by simp [Env.get], trivial⟩, ent.refl _⟩
        have : x = y := Decidable.not_not.1 hxy
        rw [hiff, hdx, hdy, this]; simp
    · refine WP.exit ?_; refine thn_exit ?_; refine thn_exit ?_; refine blk_hit ?_
      refine thn_next ⟨(), ?_, trivial, ent.refl _⟩
      rw [hiff, List.drop_eq_nil_of_le (by omega), List.drop_eq_nil_of_le (by omega)]
  rintro _ he
  refine WP.seq ?_
  refine WP.plain cf0 rfl ?_
  refine Run.mv rfl rfl rfl rfl ?_
  refine Run.nil ?_
  refine thn_next ?_
  refine WP.ret ?_
  exact retT [4] _ rfl rfl ⟨by rw [decide_eq_true he]; rfl, rfl⟩

end Go.Proofs.Ytifpejpeophlbaa
