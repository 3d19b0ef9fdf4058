/- The shapes of all answers of both calls; plain. -/
import Derived.Test.YtjjfehdlmdhhmaaDoorGW3
import Derived.Test.YtjjfehdlmdhhmaaDoorGV8
import Derived.Test.YtjjfehdlmdhhmaaDoorGX1
import Derived.Test.YtjjfehdlmdhhmaaDoorGX2
section
/- The shapes of all answers of both calls; plain. -/
namespace Go.Proofs.YtjjfehdlmdhhmaaDoor
open Go.Sep
set_option linter.unusedSimpArgs false
set_option linter.unusedVariables false
attribute [local irreducible] blk slA mp mpF rows rowsBut many
def errOf (F : LFun) (line : List Int) : Int := if formB F = true then if lineB line F.blocks.length = true then 0 else 170 else 140
def okAns (F : LFun) (line : List Int) (ys : List Iv) : Prop := (errOf F line ≠ 0 → ys = []) ∧ (errOf F line = 0 → ys.Perm ((spansF F line).filter keepB) ∧ ys.Pairwise ltV) ∧ (ys.length : Int) ≤ max F.regs 0
theorem okAns_uniq {F : LFun} {line : List Int} {xs ys : List Iv} (h1 : okAns F line xs) (h2 : okAns F line ys) : xs = ys := by
  by_cases e : errOf F line = 0
  · obtain ⟨p1, s1⟩ := h1.2.1 e
    obtain ⟨p2, s2⟩ := h2.2.1 e
    exact ltV_uniq (p1.trans p2.symm) s1 s2
  · rw [h1.1 e, h2.1 e]
/-- one shape of all answers -/
theorem iv_uni {F : LFun} {line : List Int} (hS : SmallF F) (hll : F.blocks.length ≤ 1000000) {x : Value} {Γ : List HProp} (H : IvRes F line x Γ) :
    ∃ (sv : SV) (ys : List Iv), x = .tuple #[sv.val, .int .i64 (errOf F line)] ∧ ent Γ [slA 62 encIv sv.val ys] ∧ okAns F line ys := by
  rcases H with ⟨h1, rfl, rfl⟩ | ⟨h1, h2, rfl, rfl⟩ | ⟨h1, h2, sv, ys, rfl, hp, hs, rfl⟩
  · have e : errOf F line = 140 := by unfold errOf; rw [h1]; rfl
    exact ⟨nilS, [], by rw [e]; rfl, slA_nil 62 encIv [], fun _ => rfl, fun h => (by rw [e] at h; cases h), by simp; omega⟩
  · have e : errOf F line = 170 := by unfold errOf; rw [h1, h2]; rfl
    exact ⟨nilS, [], by rw [e]; rfl, slA_nil 62 encIv [], fun _ => rfl, fun h => (by rw [e] at h; cases h), by simp; omega⟩
  · have e : errOf F line = 0 := by unfold errOf; rw [h1, h2]; rfl
    refine ⟨sv, ys, by rw [e], ent.refl _, fun h => absurd e h, fun _ => ⟨hp, hs⟩, ?_⟩
    have h3 := hp.length_eq
    have h4 := List.length_filter_le keepB (spansF F line)
    obtain ⟨hl, _⟩ := line_in h2
    have h5 := (spans_ok (formQ h1) hS (line := line) (by omega)).len
    have := (formQ h1).r0
    omega
theorem sortStableF (hR : Heap) (sv : SV) (xs : List Iv) (h1 : xs.Pairwise (fun x y => x.reg < y.reg)) (h2 : ∀ x ∈ xs, smallV x) (h3 : xs.length ≤ 262144) : Tri Tryd.prog hR 44 #[sv.val, cmpF] [slA 62 encIv sv.val xs] fun _ Γ' => ∃ ys : List Iv, ys.Perm xs ∧ ys.Pairwise ltV ∧ Γ' = [slA 62 encIv sv.val ys] :=
  sortStable_ok hR sv xs h1 h2 (by omega)
theorem okAns_len {F : LFun} {line : List Int} {ys : List Iv} (h : okAns F line ys) : ys.length ≤ 262144 := by
  by_cases e : errOf F line = 0
  · have h1 := h.2.2
    have h2 : formB F = true := by
      unfold errOf at e
      cases hf : formB F with
      | true => rfl
      | false => rw [hf] at e; cases e
    have := (formQ h2).r1
    omega
  · rw [h.1 e]; simp

/-! ### Live's -/
def lerr (F : LFun) : Int := if formB F = true then 0 else 140
noncomputable def aheads (F : LFun) : List (List Int) := if formB F = true then (List.range F.blocks.length).map (aheadOf F) else []
noncomputable def behinds (F : LFun) : List (List Int) := if formB F = true then (List.range F.blocks.length).map (behindOf F) else []
theorem slA_rows_nil (Γ : List HProp) : ent Γ (slA 22 Enc.slice nilS.val [] :: rows 3 (Enc.int .i64) [] :: Γ) := by
  have h1 : ent Γ (rows 3 (Enc.int .i64) [] :: Γ) := rows_new Γ
  have h2 : ent (rows 3 (Enc.int .i64) [] :: Γ) (rows 3 (Enc.int .i64) [] :: Γ ++ [slA 22 Enc.slice nilS.val []]) := slA_nil 22 Enc.slice _
  exact h1.trans (h2.trans (ent.perm List.perm_append_comm))
theorem lent_rowsE {v : Value} {p : List (SV × List Int)} {ys : List (List Int)} {Θ : List HProp} {hR g : Heap} (hs : sat Θ g) (hd : Disj hR g) (e : p.map Prod.snd = ys) (k1 k2 : Nat) (hk1 : Θ[k1]? = some (slA 22 Enc.slice v (p.map Prod.fst))) (hk2 : Θ[k2]? = some (rows 3 (Enc.int .i64) p)) :
    SlR rdI.slice (un hR g) v ys := e ▸ lent_rows k1 k2 hk1 hk2 hs hd
theorem live_uni {F : LFun} {x : Value} {Γ : List HProp} (H : LiveRes F x Γ) : ∃ (o1 o2 : SV) (P Q : List (SV × List Int)), x = .tuple #[o1.val, o2.val, .int .i64 (lerr F)] ∧
    ent Γ [slA 22 Enc.slice o1.val (P.map Prod.fst), rows 3 (Enc.int .i64) P, slA 22 Enc.slice o2.val (Q.map Prod.fst), rows 3 (Enc.int .i64) Q] ∧ P.map Prod.snd = aheads F ∧ Q.map Prod.snd = behinds F := by
  rcases H with ⟨h1, rfl, rfl⟩ | ⟨h1, o1, o2, P, Q, rfl, hP, hQ, rfl⟩
  · have e : lerr F = 140 := by unfold lerr; rw [h1]; rfl
    exact ⟨nilS, nilS, [], [], by rw [e]; rfl, (slA_rows_nil []).trans (slA_rows_nil _), by simp [aheads, h1], by simp [behinds, h1]⟩
  · have e : lerr F = 0 := by unfold lerr; rw [h1]; rfl
    exact ⟨o1, o2, P, Q, by rw [e], ent.refl _, by simp [aheads, h1, hP], by simp [behinds, h1, hQ]⟩
theorem aheads_len (F : LFun) : (aheads F).length ≤ F.blocks.length ∧ ∀ x ∈ aheads F, x.length ≤ 1000000 := by
  unfold aheads
  split
  · next h =>
    refine ⟨by simp, fun x hx => ?_⟩
    obtain ⟨i, _, rfl⟩ := List.mem_map.1 hx
    have := listOf_len F (fun r => LiveIn F r i)
    have := (formQ h).r1
    unfold aheadOf; omega
  · exact ⟨by simp, by simp⟩
theorem behinds_len (F : LFun) : (behinds F).length ≤ F.blocks.length ∧ ∀ x ∈ behinds F, x.length ≤ 1000000 := by
  unfold behinds
  split
  · next h =>
    refine ⟨by simp, fun x hx => ?_⟩
    obtain ⟨i, _, rfl⟩ := List.mem_map.1 hx
    have := listOf_len F (fun r => LiveOut F r i)
    have := (formQ h).r1
    unfold behindOf; omega
  · exact ⟨by simp, by simp⟩
end Go.Proofs.YtjjfehdlmdhhmaaDoor
end
