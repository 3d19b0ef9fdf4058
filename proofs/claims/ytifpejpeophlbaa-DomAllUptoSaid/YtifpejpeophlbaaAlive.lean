/- What a program that does nothing does not tell: the law's first question, which is answered yes. -/
import Derived.Test.YtifpejpeophlbaaTreeW
namespace Go.Proofs.Ytifpejpeophlbaa
open Go.Sep
set_option linter.unusedSimpArgs false
set_option linter.unusedVariables false
attribute [local irreducible] blk slA mp mpF rows rowsBut

def g4 : Gr := [[1], [2, 3], [1], []]
theorem g4_0 {c : Nat} (h : Edge g4 0 c) : c = 1 := by obtain ⟨l, h1, h2⟩ := h; simp [g4] at h1; subst h1; simpa using h2
theorem g4_good : GoodN g4 := ⟨by decide, by decide⟩
theorem e01 : Edge g4 0 1 := ⟨[1], rfl, by simp⟩
theorem e12 : Edge g4 1 2 := ⟨[2, 3], rfl, by simp⟩
theorem e13 : Edge g4 1 3 := ⟨[2, 3], rfl, by simp⟩
theorem g4_only0 {b : Nat} (h : RA g4 1 b) : b = 0 := h.sub (S := fun b => b = 0) (fun _ => rfl) fun b c hb he hne => by
  subst hb; have := g4_0 he; subst this; exact absurd rfl hne
theorem g4_tree : IsTree g4 [-1, 0, 1, 1] := by
  have r0 : RA g4 (-1) 0 := .start (by decide)
  have r1 : RA g4 (-1) 1 := .step r0 e01 (by decide)
  have r2 : RA g4 (-1) 2 := .step r1 e12 (by decide)
  have r3 : RA g4 (-1) 3 := .step r1 e13 (by decide)
  refine ⟨rfl, fun b hb hno => ?_, fun b h0 hr => ?_⟩
  · have hb' : b < 4 := hb
    match b, hb', hno with
    | 0, _, _ => rfl
    | 1, _, h => exact absurd r1 (h.resolve_left (by decide))
    | 2, _, h => exact absurd r2 (h.resolve_left (by decide))
    | 3, _, h => exact absurd r3 (h.resolve_left (by decide))
  · have hb' : b < 4 := hr.lt g4_good
    match b, hb', h0 with
    | 1, _, _ =>
      refine ⟨0, rfl, by decide, r0, fun h => ?_, fun a ha hne hn hx => ?_⟩
      · exact h.sub (S := fun _ => False) (fun h => h rfl) fun _ _ h _ _ => h
      · exact hn (.step hx e01 (by omega))
    | 2, _, _ =>
      refine ⟨1, rfl, by decide, r1, fun h => ?_, fun a ha hne hn hx => hn (.step hx e12 (by omega))⟩
      have := g4_only0 h; omega
    | 3, _, _ =>
      refine ⟨1, rfl, by decide, r1, fun h => ?_, fun a ha hne hn hx => hn (.step hx e13 (by omega))⟩
      have := g4_only0 h; omega
def g3 : Gr := [[1, 1], [1], [1]]
theorem g3_good : GoodN g3 := ⟨by decide, by decide⟩
theorem g3_met : MetOf g3 (-1) [true, true, false] := by
  have r0 : RA g3 (-1) 0 := .start (by decide)
  have r1 : RA g3 (-1) 1 := .step r0 ⟨[1, 1], rfl, by simp⟩ (by decide)
  have key : ∀ b, RA g3 (-1) b → b = 0 ∨ b = 1 := fun b h => h.sub (S := fun b => b = 0 ∨ b = 1) (fun _ => .inl rfl) fun b c hb he _ => by
    obtain ⟨l, h1, h2⟩ := he
    rcases hb with rfl | rfl <;> simp [g3] at h1 <;> subst h1 <;> simp at h2 <;> exact .inr h2
  refine ⟨rfl, fun b => ⟨fun h => ?_, fun h => ?_⟩⟩
  · have hb : b < 3 := (List.getElem?_eq_some_iff.1 h).1
    match b, hb with
    | 0, _ => exact r0
    | 1, _ => exact r1
    | 2, _ => simp at h
  · rcases key b h with rfl | rfl <;> rfl

set_option maxRecDepth 100000 in
theorem alive_ok (hR : Heap) : Tri Try.prog hR 11 #[] [] fun u Γ' => u = .bool true ∧ Γ' = [] := by
  refine Tri.of (args := []) Try.func11 rfl Try.ntmps11 (by simp) ?_
  refine WP.seq ?_
  refine WP.plain cf0 rfl ?_
  refine Run.mv rfl rfl rfl rfl ?_
  refine Run.nil ?_
  refine thn_next ?_
  refine WP.seq ?_
  refine WP.plain cf0 rfl ?_
  refine Run.buildSlice (E := (Enc.int .i64)) rfl sl_31 zr_3 ([1]) rfl rfl rfl (by decide) rfl rfl ?_
  intro b2
  refine Run.buildSlice (E := (Enc.int .i64)) rfl sl_31 zr_3 ([2, 3]) rfl rfl rfl (by decide) rfl rfl ?_
  intro b3
  refine Run.buildSlice (E := (Enc.int .i64)) rfl sl_31 zr_3 ([1]) rfl rfl rfl (by decide) rfl rfl ?_
  intro b4
  refine Run.buildSlice (E := Enc.slice) rfl sl_22 zr_31 ([⟨some ⟨b2, 0, none⟩, 1, 1⟩, ⟨some ⟨b3, 0, none⟩, 2, 2⟩, ⟨some ⟨b4, 0, none⟩, 1, 1⟩, (⟨none, 0, 0⟩ : SV)]) rfl rfl rfl (by decide) rfl rfl ?_
  intro b5
  obtain ⟨p, hp⟩ : ∃ p : List (SV × List Int), p = [(⟨some ⟨b2, 0, none⟩, 1, 1⟩, [1]), (⟨some ⟨b3, 0, none⟩, 2, 2⟩, [2, 3]), (⟨some ⟨b4, 0, none⟩, 1, 1⟩, [1]), (⟨none, 0, 0⟩, [])] := ⟨_, rfl⟩
  have hps : p.map Prod.snd = g4.map toI := by rw [hp]; rfl
  refine Run.via (Γ' := [rows 3 (Enc.int .i64) p, slA 31 Enc.slice (.slice (some ⟨b5, 0, none⟩) 4 4) (p.map Prod.fst)]) ?_ ?_
  · refine (slA_nil 3 (Enc.int .i64) _).trans ((pick_only [0, 0, 0, 1, 0] _).trans ?_)
    rw [hp]
    exact rows_all [(⟨some ⟨b2, 0, none⟩, 1, 1⟩, [1]), (⟨some ⟨b3, 0, none⟩, 2, 2⟩, [2, 3]), (⟨some ⟨b4, 0, none⟩, 1, 1⟩, [1]), (⟨none, 0, 0⟩, [])] _
  refine Run.callLend (Δ := []) (Θ := [rows 3 (Enc.int .i64) p, slA 31 Enc.slice (.slice (some ⟨b5, 0, none⟩) 4 4) (p.map Prod.fst)]) (Ξ := []) rfl rfl rfl rfl ok_17 rfl rfl (ent.refl _) (fun g hg hd => tree_ok (un hR g) _ (g4.map toI) 2 (by rw [← hps]; exact lent_rows 1 0 rfl rfl hg hd) (by decide) (by decide) (by decide) (by decide)) ?_; rintro _ _ ⟨tv, ts, rfl, hans, rfl⟩
  refine Run.mv rfl rfl rfl rfl ?_
  refine Run.nil ?_
  have hts : ts = [-1, 0, 1, 1] := hans.unique (.inr ⟨g4, rfl, g4_good, g4_tree⟩)
  subst hts
  refine thn_next ?_
  refine WP.via (pick_only [0] _) ?_
  refine WP.seq ?_
  refine WP.plain cf0 rfl ?_
  refine Run.mv rfl rfl rfl rfl ?_
  refine Run.buildSlice (E := (Enc.int .i64)) rfl sl_31 zr_3 ([-1, 0, 1, 1]) rfl rfl rfl (by decide) rfl rfl ?_
  intro b8
  refine Run.callLend (Δ := []) (Θ := [slA 3 (Enc.int .i64) tv.val [-1, 0, 1, 1], slA 3 (Enc.int .i64) (.slice (some ⟨b8, 0, none⟩) 4 4) [-1, 0, 1, 1]]) (Ξ := []) rfl rfl rfl rfl ok_18 rfl rfl (ent.refl _) (fun g hg hd => same_ok (un hR g) _ _ _ _ (lent_at 0 rfl hg hd) (lent_at 1 rfl hg hd) (by decide) (by decide)) ?_; rintro _ _ ⟨rfl, rfl⟩; refine Run.tt rfl ?_
  refine Run.mv rfl rfl rfl rfl ?_
  refine Run.mv rfl rfl rfl rfl ?_
  refine Run.callLend (Δ := []) (Θ := [slA 3 (Enc.int .i64) tv.val [-1, 0, 1, 1]]) (Ξ := [slA 3 (Enc.int .i64) (.slice (some ⟨b8, 0, none⟩) 4 4) [-1, 0, 1, 1]]) rfl rfl rfl rfl ok_20 rfl rfl (ent.refl _) (fun g hg hd => over_ok (un hR g) _ _ 1 3 (lent_at 0 rfl hg hd) (by decide)) ?_; rintro _ _ ⟨rfl, rfl⟩; refine Run.eqv (v' := .bool true) rfl ?_
  refine Run.pick rfl rfl rfl rfl rfl ?_
  refine Run.mv rfl rfl rfl rfl ?_
  refine Run.mv rfl rfl rfl rfl ?_
  refine Run.callLend (Δ := []) (Θ := [slA 3 (Enc.int .i64) tv.val [-1, 0, 1, 1]]) (Ξ := [slA 3 (Enc.int .i64) (.slice (some ⟨b8, 0, none⟩) 4 4) [-1, 0, 1, 1]]) rfl rfl rfl rfl ok_20 rfl rfl (ent.refl _) (fun g hg hd => over_ok (un hR g) _ _ 2 3 (lent_at 0 rfl hg hd) (by decide)) ?_; rintro _ _ ⟨rfl, rfl⟩; refine Run.eqv (v' := .bool false) rfl ?_
  refine Run.bnotB rfl rfl rfl rfl ?_
  refine Run.pick rfl rfl rfl rfl rfl ?_
  refine Run.mv rfl rfl rfl rfl ?_
  refine Run.buildSlice (E := (Enc.int .i64)) rfl sl_31 zr_3 ([1, 1]) rfl rfl rfl (by decide) rfl rfl ?_
  intro b20
  refine Run.buildSlice (E := (Enc.int .i64)) rfl sl_31 zr_3 ([1]) rfl rfl rfl (by decide) rfl rfl ?_
  intro b21
  refine Run.buildSlice (E := (Enc.int .i64)) rfl sl_31 zr_3 ([1]) rfl rfl rfl (by decide) rfl rfl ?_
  intro b22
  refine Run.buildSlice (E := Enc.slice) rfl sl_22 zr_31 ([⟨some ⟨b20, 0, none⟩, 2, 2⟩, ⟨some ⟨b21, 0, none⟩, 1, 1⟩, (⟨some ⟨b22, 0, none⟩, 1, 1⟩ : SV)]) rfl rfl rfl (by decide) rfl rfl ?_
  intro b23
  obtain ⟨p, hp⟩ : ∃ p : List (SV × List Int), p = [(⟨some ⟨b20, 0, none⟩, 2, 2⟩, [1, 1]), (⟨some ⟨b21, 0, none⟩, 1, 1⟩, [1]), (⟨some ⟨b22, 0, none⟩, 1, 1⟩, [1])] := ⟨_, rfl⟩
  have hps : p.map Prod.snd = g3.map toI := by rw [hp]; rfl
  refine Run.via (Γ' := [rows 3 (Enc.int .i64) p, slA 31 Enc.slice (.slice (some ⟨b23, 0, none⟩) 3 3) (p.map Prod.fst)]) ?_ ?_
  · refine (pick_only [2, 2, 2, 2] _).trans ?_
    rw [hp]
    exact rows_all [(⟨some ⟨b20, 0, none⟩, 2, 2⟩, [1, 1]), (⟨some ⟨b21, 0, none⟩, 1, 1⟩, [1]), (⟨some ⟨b22, 0, none⟩, 1, 1⟩, [1])] _
  refine Run.callLend (Δ := []) (Θ := [rows 3 (Enc.int .i64) p, slA 31 Enc.slice (.slice (some ⟨b23, 0, none⟩) 3 3) (p.map Prod.fst)]) (Ξ := []) rfl rfl rfl rfl ok_13 rfl rfl (ent.refl _) (fun g hg hd => reach_ok (un hR g) _ (g3.map toI) (by rw [← hps]; exact lent_rows 1 0 rfl rfl hg hd) (by decide) (by decide)) ?_; rintro _ _ ⟨rv, bs, rfl, hans2, rfl⟩
  have hbs : bs = [true, true, false] := hans2.unique (sv' := rv) (.inr ⟨g3, rfl, g3_good, g3_met⟩)
  subst hbs
  refine Run.buildSlice (E := Enc.bool) rfl sl_26 zr_4 ([true, true, false]) rfl rfl rfl (by decide) rfl rfl ?_
  intro b25
  refine Run.callLend (Δ := []) (Θ := [slA 4 Enc.bool rv.val [true, true, false], slA 4 Enc.bool (.slice (some ⟨b25, 0, none⟩) 3 3) [true, true, false]]) (Ξ := []) rfl rfl rfl rfl ok_15 rfl rfl (pick_only [0, 2] _) (fun g hg hd => alike_ok (un hR g) _ _ _ _ (lent_at 0 rfl hg hd) (lent_at 1 rfl hg hd) (by decide) (by decide)) ?_; rintro _ _ ⟨rfl, rfl⟩; refine Run.tt rfl ?_
  refine Run.pick rfl rfl rfl rfl rfl ?_
  refine Run.mv rfl rfl rfl rfl ?_
  refine Run.nil ?_
  refine thn_next ?_
  refine WP.via (pick_only [] _) ?_
  refine WP.ret ?_
  exact retT [0] _ rfl rfl ⟨rfl, rfl⟩
end Go.Proofs.Ytifpejpeophlbaa
