/- What was kept is what it was: each list is full of its mark; walked. -/
import Derived.Test.YtifpejpeophlbaaKHold
namespace Go.Proofs.Ytifpejpeophlbaa
open Go.Sep
set_option linter.unusedSimpArgs false
set_option linter.unusedVariables false
attribute [local irreducible] blk slA mp mpF rows rowsBut memL

set_option maxHeartbeats 1000000 in
set_option maxRecDepth 100000 in
theorem wholeNow_ok (hR : Heap) (kb : Nat) (ws bs bw ls ms : SV) (V : List SV) (M : List Int) (G : List (SV × List Int)) (hV : Views V M G) (hVl : V.length ≤ 1000000) :
    Tri Try.prog hR 33 #[.pointer (some ⟨kb, 0, none⟩)] (KN kb ws bs bw V M G ls ms) fun u Γ' => u = .bool true := by
  refine Tri.of (args := [.pointer (some ⟨kb, 0, none⟩)]) Try.func33 rfl Try.ntmps33 (by simp) ?_
  unfold KN
  have hMl := hV.len
  refine WP.seq ?_
  refine WP.plain cf0 rfl ?_
  refine Run.mv rfl rfl rfl rfl ?_
  refine Run.nil ?_
  refine thn_next ?_
  refine WP.seq ?_
  refine WP.seq ?_
  refine WP.plain cf0 rfl ?_
  refine Run.mv rfl rfl rfl rfl ?_
  refine Run.nilCheck rfl rfl rfl rfl ?_
  refine Run.fieldAddr rfl rfl fo_43_0 rfl rfl ?_
  refine Run.loadB 0 rfl rfl ag_4 rfl rfl rfl rfl rfl ?_
  refine Run.nil ?_
  refine thn_next ?_
  refine WP.cond (t := false) rfl (fun h => by cases h) (fun _ => ?_)
  refine WP.skip ?_; refine thn_next ?_
  refine WP.seqMeet (α := Unit) (fun _ => True) (fun _ => []) (fun _ => []) ?_ ?_
  · refine WP.via (Γ' := [] ++ [keepB kb false ls ws ms bs bw, slA 31 Enc.slice ls.val V, slA 3 (Enc.int .i64) ms.val M, rows 3 (Enc.int .i64) G]) (ent.refl _) ?_
    refine WP.freeze (Γ := []) [keepB kb false ls ws ms bs bw, slA 31 Enc.slice ls.val V, slA 3 (Enc.int .i64) ms.val M, rows 3 (Enc.int .i64) G] fun g hg hd => ?_
    have c1 : cellH (un hR g) ⟨kb, 1, none⟩ ls.val := lent_blk 0 1 rfl rfl hg hd
    have c3 : cellH (un hR g) ⟨kb, 3, none⟩ ms.val := lent_blk 0 3 rfl rfl hg hd
    have rV : SlR Enc.slice.rd (un hR g) ls.val V := lent_at 1 rfl hg hd
    have rM : SlR (Enc.int .i64).rd (un hR g) ms.val M := lent_at 2 rfl hg hd
    have rG : ∀ c v, Pre G c v → SlR (Enc.int .i64).rd (un hR g) v.val (List.replicate v.n c) := fun c v hp => by
      obtain ⟨h1, q1, q2⟩ := lent_sub 3 rfl hg hd
      exact (hp.read q1).mono q2
    generalize un hR g = hS at c1 c3 rV rM rG
    refine WP.seq ?_
    refine WP.plain cf0 rfl ?_
    refine Run.mv rfl rfl rfl rfl ?_
    refine Run.nil ?_
    refine thn_next ?_
    refine WP.block ?_
    refine WP.loop (α := Nat) (fun i => i ≤ V.length) (fun i => [(0, .pointer (some ⟨kb, 0, none⟩)), (7, .int .i64 (i : Int))]) (fun _ => []) (fun i => V.length - i) 0 (Nat.zero_le _) ⟨rfl, rfl, trivial⟩ (ent.refl _) ?_
    intro i hi
    refine WP.seq ?_
    refine WP.seq ?_
    refine WP.plain cf0 rfl ?_
    refine Run.mv rfl rfl rfl rfl ?_
    refine Run.mv rfl rfl rfl rfl ?_
    refine Run.nilCheck rfl rfl rfl rfl ?_
    refine Run.fieldAddr rfl rfl fo_43_1 rfl rfl ?_
    refine Run.loadR rfl rfl ag_22 rfl rfl c1 ?_
    refine Run.lenR rfl rfl sl_22 rfl rfl rV ?_
    refine Run.int2 rfl rfl rfl rfl rfl rfl ?_
    refine Run.nil ?_
    refine thn_next ?_
    refine WP.ite rfl (fun hlt => ?_) (fun hge => ?_)
    · refine WP.skip ?_; refine thn_next ?_
      have hiV : i < V.length := by omega
      obtain ⟨v, gv⟩ : ∃ x, V[(i : Int).toNat]? = some x := ⟨_, List.getElem?_eq_getElem (by omega)⟩
      obtain ⟨m, gm⟩ : ∃ x, M[(i : Int).toNat]? = some x := ⟨_, List.getElem?_eq_getElem (by omega)⟩
      obtain ⟨hp, hm0, hm1, hvn1⟩ := hV.pre i v m gv gm
      have rv := rG _ _ hp
      have hrl : (List.replicate v.n (-9 - m)).length = v.n := by simp
      refine WP.seqMeet (α := Unit) (fun _ => True) (fun _ => [(0, .pointer (some ⟨kb, 0, none⟩)), (7, .int .i64 (i : Int))]) (fun _ => []) ?_ ?_
      · refine WP.block ?_
        refine WP.seq ?_
        refine WP.plain cf0 rfl ?_
        refine Run.mv rfl rfl rfl rfl ?_
        refine Run.nil ?_
        refine thn_next ?_
        refine WP.block ?_
        refine WP.loop (α := Nat) (fun j => j ≤ v.n) (fun j => [(0, .pointer (some ⟨kb, 0, none⟩)), (7, .int .i64 (i : Int)), (8, .int .i64 (j : Int))]) (fun _ => []) (fun j => v.n - j) 0 (Nat.zero_le _) ⟨rfl, rfl, rfl, trivial⟩ (ent.refl _) ?_
        intro j hj
        refine WP.seq ?_
        refine WP.seq ?_
        refine WP.plain cf0 rfl ?_
        refine Run.mv rfl rfl rfl rfl ?_
        refine Run.mv rfl rfl rfl rfl ?_
        refine Run.nilCheck rfl rfl rfl rfl ?_
        refine Run.fieldAddr rfl rfl fo_43_1 rfl rfl ?_
        refine Run.loadR rfl rfl ag_22 rfl rfl c1 ?_
        refine Run.mv rfl rfl rfl rfl ?_
        refine Run.idxR rfl rfl rfl sl_22 rfl rfl rV (by rfl) (by omega) (by omega) ?_
        refine Run.loadR rfl rfl ag_31 rfl rfl (SlR.cell0 rV gv rfl) ?_
        refine Run.lenR rfl rfl sl_31 rfl rfl rv ?_
        refine Run.int2 rfl rfl rfl rfl rfl rfl ?_
        refine Run.nil ?_
        refine thn_next ?_
        refine WP.ite rfl (fun hlt2 => ?_) (fun hge2 => ?_)
        · refine WP.skip ?_; refine thn_next ?_
          have gj : (List.replicate v.n (-9 - m))[(j : Int).toNat]? = some (-9 - m) := by
            rw [List.getElem?_replicate, if_pos (by simp at hlt2; omega)]
          refine WP.seq ?_
          refine WP.block ?_
          refine WP.seq ?_
          refine WP.drawn0 cf0 mixed rfl (by kernel_rfl) ?_
          refine Run.mv rfl rfl rfl rfl ?_
          refine Run.nilCheck rfl rfl rfl rfl ?_
          refine Run.fieldAddr rfl rfl fo_43_1 rfl rfl ?_
          refine Run.loadR rfl rfl ag_22 rfl rfl c1 ?_
          refine Run.mv rfl rfl rfl rfl ?_
          refine Run.idxR rfl rfl rfl sl_22 rfl rfl rV (by rfl) (by omega) (by omega) ?_
          refine Run.loadR rfl rfl ag_31 rfl rfl (SlR.cell0 rV gv rfl) ?_
          refine Run.mv rfl rfl rfl rfl ?_
          refine Run.idxR rfl rfl rfl sl_31 rfl rfl rv (by rfl) (by omega) (by omega) ?_
          refine Run.loadR rfl rfl ag_3 rfl rfl (SlR.cell0 rv gj rfl) ?_
          refine Run.mv rfl rfl rfl rfl ?_
          refine Run.nilCheck rfl rfl rfl rfl ?_
          refine Run.fieldAddr rfl rfl fo_43_3 rfl rfl ?_
          refine Run.loadR rfl rfl ag_31 rfl rfl c3 ?_
          refine Run.mv rfl rfl rfl rfl ?_
          refine Run.idxR rfl rfl rfl sl_31 rfl rfl rM (by rfl) (by omega) (by omega) ?_
          refine Run.loadR rfl rfl ag_3 rfl rfl (SlR.cell0 rM gm rfl) ?_
          refine Run.sub64 rfl rfl rfl rfl rfl (by first | omega | (simp <;> omega)) (by first | omega | (simp <;> omega)) ?_
          refine Run.int2 rfl rfl rfl rfl rfl rfl ?_
          refine Run.nil ?_
          refine thn_next ?_
          refine WP.ite rfl (fun h => absurd rfl h) (fun _ => ?_)
          refine WP.skip ?_; refine blk_norm ?_; refine thn_next ?_
          refine WP.plain cf0 rfl ?_
          refine Run.mv rfl rfl rfl rfl ?_
          refine Run.add64 rfl rfl rfl rfl rfl (by first | omega | (simp <;> omega)) (by first | omega | (simp <;> omega)) ?_
          refine Run.mv rfl rfl rfl rfl ?_
          refine Run.nil ?_
          refine thn_next ⟨j + 1, by simp at hlt2; omega, by omega, ⟨rfl, rfl, rfl, trivial⟩, ent.refl _⟩
        · refine WP.exit ?_; refine thn_exit ?_; refine thn_exit ?_; refine blk_hit ?_; refine blk_norm ?_
          refine thn_next ⟨(), trivial, ⟨rfl, rfl, trivial⟩, ent.refl _⟩
      rintro _ _
      refine WP.plain cf0 rfl ?_
      refine Run.mv rfl rfl rfl rfl ?_
      refine Run.add64 rfl rfl rfl rfl rfl (by first | omega | (simp <;> omega)) (by first | omega | (simp <;> omega)) ?_
      refine Run.mv rfl rfl rfl rfl ?_
      refine Run.nil ?_
      refine thn_next ⟨i + 1, hiV, by omega, ⟨rfl, rfl, trivial⟩, ent.refl _⟩
    · refine WP.exit ?_; refine thn_exit ?_; refine thn_exit ?_; refine blk_hit ?_
      refine thn_next ⟨(), trivial, trivial, pick_only [] _⟩
  rintro _ _
  refine WP.seq ?_
  refine WP.plain cf0 rfl ?_
  refine Run.mv rfl rfl rfl rfl ?_
  refine Run.nil ?_
  refine thn_next ?_
  refine WP.ret ?_
  exact retT [2] _ rfl rfl rfl
end Go.Proofs.Ytifpejpeophlbaa
