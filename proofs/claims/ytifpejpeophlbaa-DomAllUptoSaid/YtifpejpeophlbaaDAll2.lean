/- DomAll, walked. -/
import Derived.Test.YtifpejpeophlbaaDAll
namespace Go.Proofs.Ytifpejpeophlbaa
open Go.Sep Go.ChangeShapes Go.WideShapes Go.ChangeAt Go.RowKit
set_option linter.unusedSimpArgs false
set_option linter.unusedVariables false
attribute [local irreducible] blk slA mp mpF rows rowsBut memL many

theorem ent_none (Γ : List HProp) : ent Γ [] := fun _ _ => trivial

set_option maxHeartbeats 1000000 in
set_option maxRecDepth 100000 in
theorem domAll_ok (hR : Heap) (v : Value) (mss : List (List (List Int))) (hl : SlR (Enc.int .i64).rd.slice.slice hR v mss) (hb : mss.length ≤ 1048576 ∧ ∀ to ∈ mss, to.length + edgesL to ≤ 1048576) :
    Tri Try.prog hR 9 #[v] [] fun u Γ' => u = .bool true ∧ Γ' = [] := by
  obtain ⟨hlen, hto⟩ := hb
  refine Tri.of (args := [v]) Try.func9 rfl Try.ntmps9 (by simp) ?_
  refine WP.seq ?_
  refine WP.plain cf0 rfl ?_
  refine Run.mv rfl rfl rfl rfl ?_
  refine Run.nil ?_
  refine thn_next ?_
  refine WP.seq ?_
  refine WP.plain cf0 rfl ?_
  refine Run.call (Δ := []) (Θ := []) rfl rfl rfl rfl ok_11 rfl rfl (ent.refl _) (alive_ok hR) ?_; rintro _ _ ⟨rfl, rfl⟩
  refine Run.mv rfl rfl rfl rfl ?_
  refine Run.mv rfl rfl rfl rfl ?_
  refine Run.build rfl bd_43 rfl rfl rfl rfl ?_
  refine Run.box rfl rfl rfl rfl rfl ?_
  intro b7
  refine Run.via (Γ' := KN b7 nilV nilV nilV [] [] [] nilV nilV) ((slA_nil 31 Enc.slice _).trans ((slA_nil 3 (Enc.int .i64) _).trans ((rows_new (T := 3) (E := Enc.int .i64) _).trans (pick_only [1, 1, 1, 0] _)))) ?_
  refine Run.call (Δ := KN b7 nilV nilV nilV [] [] [] nilV nilV) (Θ := []) rfl rfl rfl rfl ok_24 rfl rfl (by rw [List.append_nil]; exact ent.refl _) (all_ok hR v mss b7 (fun j Γ => ∃ V M G ls ms, Γ = KN b7 nilV nilV nilV V M G ls ms ∧ Views V M G ∧ V.length ≤ 41 * j) hl hlen hto ?_ ?_ _ ⟨[], [], [], nilV, nilV, rfl, ⟨rfl, fun i v m h => by simp at h⟩, by simp⟩) ?_
  · rintro hS j _ sv ts ⟨V, M, G, ls, ms, rfl, hV, hVl⟩ hj ht
    refine (putNow_ok hS b7 nilV nilV nilV ls ms sv V M G ts hV (by omega) (by omega)).mono ?_
    rintro _ _ ⟨V', M', G', ls', ms', rfl, h1, h2⟩
    exact ⟨V', M', G', ls', ms', rfl, h1, by omega⟩
  · rintro hS j _ ⟨V, M, G, ls, ms, rfl, hV, hVl⟩ hj
    exact wholeNow_ok hS b7 nilV nilV nilV ls ms V M G hV (by omega)
  rintro _ Γ1 rfl
  refine Run.via (ent_none _) ?_
  refine Run.pick rfl rfl rfl rfl rfl ?_
  refine Run.mv rfl rfl rfl rfl ?_
  refine Run.mv rfl rfl rfl rfl ?_
  refine Run.build rfl bd_43 rfl rfl rfl rfl ?_
  refine Run.box rfl rfl rfl rfl rfl ?_
  intro b13
  refine Run.via (Γ' := KL b13 nilV nilV [] [] nilV nilV nilV) ((slA_nil 31 Enc.slice _).trans ((slA_nil 31 Enc.slice _).trans ((rows_new (T := 3) (E := Enc.int .i64) _).trans ((rows_new (T := 3) (E := Enc.int .i64) _).trans (pick_only [2, 2, 0, 1, 0] _))))) ?_
  refine Run.call (Δ := KL b13 nilV nilV [] [] nilV nilV nilV) (Θ := []) rfl rfl rfl rfl ok_24 rfl rfl (by rw [List.append_nil]; exact ent.refl _) (all_ok hR v mss b13 (fun j Γ => ∃ p q ls ws, Γ = KL b13 nilV nilV p q ls ws nilV ∧ p.map Prod.snd = q.map Prod.snd ∧ p.length ≤ j ∧ ∀ sv xs, (sv, xs) ∈ p → xs.length ≤ 64) hl hlen hto ?_ ?_ _ ⟨[], [], nilV, nilV, rfl, rfl, by simp, fun sv xs h => by cases h⟩) ?_
  · rintro hS j _ sv ts ⟨p, q, ls, ws, rfl, hpq, hpl, hpx⟩ hj ht
    have hql : q.length = p.length := by have := congrArg List.length hpq; simpa using this.symm
    refine (putLate_ok hS b13 nilV nilV ls ws nilV sv p q ts (by omega) (by omega) (by omega)).mono ?_
    rintro _ _ ⟨c, ls', ws', rfl⟩
    refine ⟨_, _, ls', ws', rfl, by simp [hpq], by simp; omega, fun sv' xs h => ?_⟩
    rcases List.mem_append.1 h with h | h
    · exact hpx sv' xs h
    · simp at h; obtain ⟨_, rfl⟩ := h; omega
  · rintro hS j _ ⟨p, q, ls, ws, rfl, hpq, hpl, hpx⟩ hj
    exact wholeLate_ok hS b13 nilV nilV ls ws nilV p q hpq (by omega) (fun sv xs h => by have := hpx sv xs h; omega)
  rintro _ Γ2 rfl
  refine Run.via (ent_none _) ?_
  refine Run.pick rfl rfl rfl rfl rfl ?_
  refine Run.mv rfl rfl rfl rfl ?_
  refine Run.nil ?_
  refine thn_next ?_
  refine WP.ret ?_
  exact retT [2] _ rfl rfl ⟨rfl, rfl⟩

theorem mem_le_sum : ∀ {l : List Nat} {x : Nat}, x ∈ l → x ≤ l.sum
  | y :: l, x, h => by
    simp only [List.sum_cons]
    rcases List.mem_cons.1 h with rfl | h
    · omega
    · have := mem_le_sum h; omega
theorem intsss_openB {w : World} : OpensB Try.prog w 38 (Enc.int .i64).rd.slice.slice.slice (fun xs b => xs.length + 1 ≤ b ∧ ∀ x ∈ xs, x.length + edgesL x + 1 ≤ b) := fun h => by
  obtain ⟨xs, h1, bs, h2, h3, h4⟩ := OpensB.slice Try.underlying38 co_22 intss_openB h
  refine ⟨xs, h1, ?_, fun x hx => ?_⟩
  · have := sum_ones bs xs.length h2 fun x hx => by obtain ⟨y, h⟩ := each_get h2 h3 x hx; omega
    omega
  · obtain ⟨i, hi⟩ := List.getElem?_of_mem hx
    have hlt := (List.getElem?_eq_some_iff.1 hi).1
    have h5 := h3 i x (bs[i]'(by omega)) hi (List.getElem?_eq_getElem _)
    have h6 : bs[i]'(by omega) ≤ bs.sum := mem_le_sum (List.getElem_mem _)
    omega
theorem intsss_arg {w : World} {H : Type} {enc : TypeId × Value → H} {base : Nat} {spare : Nat → Bool} {held : Bool} {v : Value} {d : DataW H} {ps : List MemPlace} {a : Option Addr} {n c : Nat} (hv : v = .slice a n c) (h : DataW.Trod enc Try.prog w base spare held 38 v d ps) :
    ∃ xs, SlR (Enc.int .i64).rd.slice.slice (hp w) v xs ∧ (xs.length + 1 ≤ Rows.uptoBulk d ∧ ∀ x ∈ xs, x.length + edgesL x + 1 ≤ Rows.uptoBulk d) := by
  obtain ⟨fuel, hf⟩ := h
  obtain ⟨xs, ⟨v', e, g⟩, G⟩ := intsss_openB hf
  subst hv
  simp [Value.cells] at e
  subst e
  exact ⟨xs, g, G⟩
end Go.Proofs.Ytifpejpeophlbaa
