/- DomReach, DomTree, walked. -/
import Derived.Test.YtifpejpeophlbaaRefTreeW
namespace Go.Proofs.Ytifpejpeophlbaa
open Go.Sep
set_option linter.unusedSimpArgs false
set_option linter.unusedVariables false
attribute [local irreducible] blk slA mp mpF rows rowsBut memL

theorem row_le {to : List (List Int)} {l : List Int} (h : l ∈ to) : l.length ≤ edgesL to := by
  unfold edgesL
  induction to with
  | nil => cases h
  | cons x to ih =>
    simp only [List.map_cons, List.sum_cons]
    rcases List.mem_cons.1 h with rfl | h
    · omega
    · have := ih h; omega
theorem memL_know {lv s1 s2 : SV} {o : List SV} {p : List (SV × List Int)} : ∀ h, sat (memL lv s1 s2 o p) h → lv.n = o.length ∧ o.length ≤ lv.c := by
  unfold memL; exact slA_know 0 rfl

set_option maxRecDepth 100000 in
theorem domReach_ok (hR : Heap) (v : Value) (to : List (List Int)) (hl : SlR (Enc.int .i64).rd.slice hR v to) (hb : to.length + edgesL to ≤ 1048576) :
    Tri Try.prog hR 3 #[v] [] fun u Γ' => u = .bool true ∧ Γ' = [] := by
  have hrow : ∀ l ∈ to, l.length ≤ 1000000000 := fun l h => by have := row_le h; omega
  refine Tri.of (args := [v]) Try.func3 rfl Try.ntmps3 (by simp) ?_
  refine WP.seq ?_
  refine WP.plain cf0 rfl ?_
  refine Run.mv rfl rfl rfl rfl ?_
  refine Run.nil ?_
  refine thn_next ?_
  refine WP.seq ?_
  refine WP.seq ?_
  refine WP.plain cf0 rfl ?_
  refine Run.mv rfl rfl rfl rfl ?_
  refine Run.lenR rfl rfl sl_22 rfl rfl hl ?_
  refine Run.mv rfl rfl rfl rfl ?_
  refine Run.call (Δ := []) (Θ := []) rfl rfl rfl rfl ok_10 rfl rfl (ent.refl _) (edges_ok hR v to hl (by omega) (by omega)) ?_; rintro _ _ ⟨rfl, rfl⟩
  refine Run.add64 rfl rfl rfl rfl rfl (by first | omega | (simp <;> omega)) (by first | omega | (simp <;> omega)) ?_
  refine Run.int2 rfl rfl rfl rfl rfl rfl ?_
  refine Run.nil ?_
  refine thn_next ?_
  refine WP.ite rfl (fun hbig => ?_) (fun hsm => ?_)
  · refine WP.seq ?_
    refine WP.plain cf0 rfl ?_
    refine Run.call (Δ := []) (Θ := []) rfl rfl rfl rfl ok_11 rfl rfl (ent.refl _) (alive_ok hR) ?_; rintro _ _ ⟨rfl, rfl⟩
    refine Run.mv rfl rfl rfl rfl ?_
    refine Run.nil ?_
    refine thn_next ?_
    refine WP.ret ?_; refine thn_ret ?_
    exact retT [2] _ rfl rfl ⟨rfl, rfl⟩
  refine WP.skip ?_; refine thn_next ?_
  refine WP.seq ?_
  refine WP.plain cf0 rfl ?_
  refine Run.mv rfl rfl rfl rfl ?_
  refine Run.call (Δ := []) (Θ := []) rfl rfl rfl rfl ok_12 rfl rfl (ent.refl _) (lent_ok hR v to hl (by omega) hrow) ?_; rintro _ _ ⟨lv, s1, s2, p, rfl, hp, rfl⟩
  refine Run.mv rfl rfl rfl rfl ?_
  refine Run.nil ?_
  refine thn_next ?_
  rw [List.append_nil]
  refine WP.know memL_know fun hkn => ?_
  have hol : (p.map cutq ++ [s1, s2]).length = to.length + 2 := by have := congrArg List.length hp; simp at this; simp; omega
  refine WP.seq ?_
  refine WP.plain cf0 rfl ?_
  refine Run.mv rfl rfl rfl rfl ?_
  refine Run.mv rfl rfl rfl rfl ?_
  refine Run.lenR rfl rfl sl_22 rfl rfl hl ?_
  refine Run.sliceV (sv := lv) rfl rfl sl_22 (il := 0) (ih := (to.length : Int)) rfl rfl rfl rfl (by omega) (by omega) (by omega) ?_
  refine Run.callLend (Δ := []) (Θ := memL lv s1 s2 (p.map cutq ++ [s1, s2]) p) (Ξ := []) rfl rfl rfl rfl ok_13 rfl rfl (by rw [List.append_nil]; exact ent.refl _) (fun g hg hd => reach_ok (un hR g) _ to (lent_lend hp hg hd) (by omega) (fun l h => by have := hrow l h; omega)) ?_; rintro _ _ ⟨sv, bs, rfl, hans, rfl⟩
  refine Run.mv rfl rfl rfl rfl ?_
  refine Run.nil ?_
  refine thn_next ?_
  rw [List.append_nil]
  refine WP.seq ?_
  refine WP.plain cf0 rfl ?_
  refine Run.call (Δ := []) (Θ := [slA 4 Enc.bool sv.val bs] ++ memL lv s1 s2 (p.map cutq ++ [s1, s2]) p) rfl rfl rfl rfl ok_11 rfl rfl (ent.refl _) (alive_ok hR) ?_; rintro _ _ ⟨rfl, rfl⟩
  refine Run.mv rfl rfl rfl rfl ?_
  refine Run.mv rfl rfl rfl rfl ?_
  refine Run.mv rfl rfl rfl rfl ?_
  refine Run.call (Δ := memL lv s1 s2 (p.map cutq ++ [s1, s2]) p) (Θ := [slA 4 Enc.bool sv.val bs]) rfl rfl rfl rfl ok_14 rfl rfl (ent.perm (by rw [List.nil_append]; exact List.perm_append_comm)) (stays_ok hR v to lv s1 s2 p hl (by omega) hrow hp) ?_; rintro _ Γ' rfl
  refine Run.via (ent.right _ _) ?_
  refine Run.pick rfl rfl rfl rfl rfl ?_
  refine Run.mv rfl rfl rfl rfl ?_
  refine Run.mv rfl rfl rfl rfl ?_
  refine Run.mv rfl rfl rfl rfl ?_
  refine Run.call (Δ := []) (Θ := [slA 4 Enc.bool sv.val bs]) rfl rfl rfl rfl ok_16 rfl rfl (ent.refl _) (refReach_ok hR v to hl (by omega) (fun l h => by have := hrow l h; omega)) ?_; rintro _ _ ⟨sv2, bs2, rfl, hans2, rfl⟩
  have hbs : bs2 = bs := hans2.unique (sv' := sv) hans
  subst hbs
  have hblen : bs2.length ≤ 1000000000 := by
    rcases hans with ⟨_, h⟩ | ⟨tn, h1, _, h2⟩
    · rw [h]; simp
    · rw [h2.len]; have : to.length = tn.length := by rw [h1]; simp
      omega
  refine Run.callLend (Δ := []) (Θ := [slA 4 Enc.bool sv2.val bs2, slA 4 Enc.bool sv.val bs2]) (Ξ := []) rfl rfl rfl rfl ok_15 rfl rfl (ent.refl _) (fun g hg hd => alike_ok (un hR g) _ _ _ _ (lent_at 1 rfl hg hd) (lent_at 0 rfl hg hd) (by omega) (by omega)) ?_; rintro _ _ ⟨rfl, rfl⟩; refine Run.tt rfl ?_
  refine Run.pick rfl rfl rfl rfl rfl ?_
  refine Run.mv rfl rfl rfl rfl ?_
  refine Run.nil ?_
  refine thn_next ?_
  refine WP.via (pick_only [] _) ?_
  refine WP.ret ?_
  exact retT [2] _ rfl rfl ⟨rfl, rfl⟩

set_option maxRecDepth 100000 in
theorem domTree_ok (hR : Heap) (v : Value) (to : List (List Int)) (hl : SlR (Enc.int .i64).rd.slice hR v to) (hb : to.length + edgesL to ≤ 1048576) :
    Tri Try.prog hR 4 #[v] [] fun u Γ' => u = .bool true ∧ Γ' = [] := by
  have hrow : ∀ l ∈ to, l.length ≤ 1000000000 := fun l h => by have := row_le h; omega
  refine Tri.of (args := [v]) Try.func4 rfl Try.ntmps4 (by simp) ?_
  refine WP.seq ?_
  refine WP.plain cf0 rfl ?_
  refine Run.mv rfl rfl rfl rfl ?_
  refine Run.nil ?_
  refine thn_next ?_
  refine WP.seq ?_
  refine WP.seqCut [(0, v), (12, .bool (decide (300 < to.length ∨ 20000 < edgesL to)))] [] ?_ ?_
  · refine WP.plain cf0 rfl ?_
    all_goals (first | refine Run.mv rfl rfl rfl rfl ?_)
    all_goals (first | refine Run.lenR rfl rfl sl_22 rfl rfl hl ?_)
    all_goals (first | refine Run.int2 rfl rfl rfl rfl rfl rfl ?_)
    all_goals (first | refine Run.tt (by first | assumption | omega) ?_ | refine Run.ff (by first | assumption | omega) ?_ | refine Run.split (fun hc7 => ?_) (fun hc7 => ?_) | refine Run.splitB (fun hc7 => ?_) (fun hc7 => ?_) | skip)
    all_goals (first | refine Run.mv rfl rfl rfl rfl ?_)
    all_goals (first | refine Run.not rfl rfl ?_ | refine Run.mv rfl rfl rfl rfl ?_)
    all_goals (first | refine Run.not rfl rfl ?_ | refine Run.call (Δ := []) (Θ := []) rfl rfl rfl rfl ok_10 rfl rfl (ent.refl _) (edges_ok hR v to hl (by omega) (by omega)) ?_; rintro _ _ ⟨rfl, rfl⟩)
    all_goals (first | refine Run.not rfl rfl ?_ | refine Run.int2 rfl rfl rfl rfl rfl rfl ?_)
    all_goals (first | refine Run.pick rfl rfl rfl rfl rfl ?_)
    all_goals (refine Run.nil ?_)
    all_goals refine thn_next ⟨⟨rfl, ?_, trivial⟩, ent.refl _⟩
    all_goals simp [Env.get, *]
    · omega
    · have h1 : ¬ 300 < to.length := by omega
      have h2 : (20000 < (edgesL to : Int)) ↔ 20000 < edgesL to := by omega
      simp [h1, h2]
  refine WP.ite rfl (fun hbig => ?_) (fun hsm => ?_)
  · refine WP.seq ?_
    refine WP.plain cf0 rfl ?_
    refine Run.call (Δ := []) (Θ := []) rfl rfl rfl rfl ok_11 rfl rfl (ent.refl _) (alive_ok hR) ?_; rintro _ _ ⟨rfl, rfl⟩
    refine Run.mv rfl rfl rfl rfl ?_
    refine Run.nil ?_
    refine thn_next ?_
    refine WP.ret ?_; refine thn_ret ?_
    exact retT [2] _ rfl rfl ⟨rfl, rfl⟩
  refine WP.skip ?_; refine thn_next ?_
  refine WP.seq ?_
  refine WP.plain cf0 rfl ?_
  refine Run.mv rfl rfl rfl rfl ?_
  refine Run.call (Δ := []) (Θ := []) rfl rfl rfl rfl ok_12 rfl rfl (ent.refl _) (lent_ok hR v to hl (by omega) hrow) ?_; rintro _ _ ⟨lv, s1, s2, p, rfl, hp, rfl⟩
  refine Run.mv rfl rfl rfl rfl ?_
  refine Run.nil ?_
  refine thn_next ?_
  rw [List.append_nil]
  refine WP.know memL_know fun hkn => ?_
  have hol : (p.map cutq ++ [s1, s2]).length = to.length + 2 := by have := congrArg List.length hp; simp at this; simp; omega
  have hnD : to.length * 20000 ≤ 1000000000000 := by omega
  refine WP.seq ?_
  refine WP.plain cf0 rfl ?_
  refine Run.mv rfl rfl rfl rfl ?_
  refine Run.mv rfl rfl rfl rfl ?_
  refine Run.lenR rfl rfl sl_22 rfl rfl hl ?_
  refine Run.sliceV (sv := lv) rfl rfl sl_22 (il := 0) (ih := (to.length : Int)) rfl rfl rfl rfl (by omega) (by omega) (by omega) ?_
  refine Run.callLend (Δ := []) (Θ := memL lv s1 s2 (p.map cutq ++ [s1, s2]) p) (Ξ := []) rfl rfl rfl rfl ok_17 rfl rfl (by rw [List.append_nil]; exact ent.refl _) (fun g hg hd => tree_ok (un hR g) _ to 20000 (lent_lend hp hg hd) (by omega) (fun l h => by have := row_le h; omega) (by omega) hnD) ?_; rintro _ _ ⟨sv, ts, rfl, hans, rfl⟩
  refine Run.mv rfl rfl rfl rfl ?_
  refine Run.nil ?_
  refine thn_next ?_
  rw [List.append_nil]
  refine WP.seq ?_
  refine WP.plain cf0 rfl ?_
  refine Run.call (Δ := []) (Θ := [slA 3 (Enc.int .i64) sv.val ts] ++ memL lv s1 s2 (p.map cutq ++ [s1, s2]) p) rfl rfl rfl rfl ok_11 rfl rfl (ent.refl _) (alive_ok hR) ?_; rintro _ _ ⟨rfl, rfl⟩
  refine Run.mv rfl rfl rfl rfl ?_
  refine Run.mv rfl rfl rfl rfl ?_
  refine Run.mv rfl rfl rfl rfl ?_
  refine Run.call (Δ := memL lv s1 s2 (p.map cutq ++ [s1, s2]) p) (Θ := [slA 3 (Enc.int .i64) sv.val ts]) rfl rfl rfl rfl ok_14 rfl rfl (ent.perm (by rw [List.nil_append]; exact List.perm_append_comm)) (stays_ok hR v to lv s1 s2 p hl (by omega) hrow hp) ?_; rintro _ Γ' rfl
  refine Run.via (ent.right _ _) ?_
  refine Run.pick rfl rfl rfl rfl rfl ?_
  refine Run.mv rfl rfl rfl rfl ?_
  refine Run.mv rfl rfl rfl rfl ?_
  refine Run.mv rfl rfl rfl rfl ?_
  refine Run.call (Δ := []) (Θ := [slA 3 (Enc.int .i64) sv.val ts]) rfl rfl rfl rfl ok_19 rfl rfl (ent.refl _) (refTree_ok hR v to hl (by omega) (fun l h => by have := hrow l h; omega)) ?_; rintro _ _ ⟨sv2, ts2, rfl, hans2, rfl⟩
  have hts : ts2 = ts := hans2.unique hans
  subst hts
  have hblen : ts2.length ≤ 1000000000 := by
    rcases hans with ⟨_, h⟩ | ⟨tn, h1, _, h2⟩
    · rw [h]; simp
    · rw [h2.len]; have : to.length = tn.length := by rw [h1]; simp
      omega
  refine Run.callLend (Δ := []) (Θ := [slA 3 (Enc.int .i64) sv2.val ts2, slA 3 (Enc.int .i64) sv.val ts2]) (Ξ := []) rfl rfl rfl rfl ok_18 rfl rfl (ent.refl _) (fun g hg hd => same_ok (un hR g) _ _ _ _ (lent_at 1 rfl hg hd) (lent_at 0 rfl hg hd) (by omega) (by omega)) ?_; rintro _ _ ⟨rfl, rfl⟩; refine Run.tt rfl ?_
  refine Run.pick rfl rfl rfl rfl rfl ?_
  refine Run.mv rfl rfl rfl rfl ?_
  refine Run.nil ?_
  refine thn_next ?_
  refine WP.via (pick_only [] _) ?_
  refine WP.ret ?_
  exact retT [2] _ rfl rfl ⟨rfl, rfl⟩
end Go.Proofs.Ytifpejpeophlbaa
