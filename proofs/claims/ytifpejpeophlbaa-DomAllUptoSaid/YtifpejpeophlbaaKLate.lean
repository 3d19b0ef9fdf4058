/- What was answered is put away: at once, or left till the end; walked. -/
import Derived.Test.YtifpejpeophlbaaKWhole
import Derived.Test.YtifpejpeophlbaaS24
namespace Go.Proofs.Ytifpejpeophlbaa
open Go.Sep
set_option linter.unusedSimpArgs false
set_option linter.unusedVariables false
attribute [local irreducible] blk slA mp mpF rows rowsBut memL

theorem putNow_ok (hR : Heap) (kb : Nat) (ws bs bw ls ms l : SV) (V : List SV) (M : List Int) (G : List (SV × List Int)) (ts : List Int) (hV : Views V M G) (hn : ts.length ≤ 1000000) (hVl : V.length ≤ 1000000) :
    Tri Try.prog hR 30 #[.pointer (some ⟨kb, 0, none⟩), l.val] (KN kb ws bs bw V M G ls ms ++ [slA 3 (Enc.int .i64) l.val ts])
      fun u Γ' => ∃ V' M' G' ls' ms', Γ' = KN kb ws bs bw V' M' G' ls' ms' ∧ Views V' M' G' ∧ V'.length ≤ V.length + 41 := by
  refine Tri.of (args := [.pointer (some ⟨kb, 0, none⟩), l.val]) Try.func30 rfl Try.ntmps30 (by simp) ?_
  have hMl := hV.len
  refine WP.via (Γ' := [keepB kb false ls ws ms bs bw, slA 31 Enc.slice ls.val V, slA 3 (Enc.int .i64) ms.val M, rows 3 (Enc.int .i64) G, slA 3 (Enc.int .i64) l.val ts]) (ent.refl _) ?_
  refine WP.seq ?_
  refine WP.seq ?_
  refine WP.plain cf0 rfl ?_
  refine Run.mv rfl rfl rfl rfl ?_
  refine Run.nilCheck rfl rfl rfl rfl ?_
  refine Run.fieldAddr rfl rfl fo_43_0 rfl rfl ?_
  refine Run.loadB 0 rfl rfl ag_4 rfl rfl rfl rfl rfl ?_
  refine Run.nil ?_
  refine thn_next ?_
  refine WP.cond (t := false) rfl (fun h => by cases h) (fun _ => ?_)
  refine WP.skip ?_; refine thn_next ?_
  refine WP.seq ?_
  refine WP.plain cf0 rfl ?_
  refine Run.mv rfl rfl rfl rfl ?_
  refine Run.nilCheck rfl rfl rfl rfl ?_
  refine Run.fieldAddr rfl rfl fo_43_3 rfl rfl ?_
  refine Run.loadB 0 rfl rfl ag_31 rfl rfl rfl rfl rfl ?_
  refine Run.lenO 2 rfl rfl sl_31 rfl rfl rfl ?_
  refine Run.mv rfl rfl rfl rfl ?_
  refine Run.nil ?_
  refine thn_next ?_
  refine WP.seq ?_
  refine WP.plain cf0 rfl ?_
  refine Run.mv rfl rfl rfl rfl ?_
  refine Run.mv rfl rfl rfl rfl ?_
  refine Run.call (Δ := [slA 3 (Enc.int .i64) l.val ts]) (Θ := [keepB kb false ls ws ms bs bw, slA 31 Enc.slice ls.val V, slA 3 (Enc.int .i64) ms.val M, rows 3 (Enc.int .i64) G]) rfl rfl rfl rfl ok_34 rfl rfl (pick_only [4, 0, 0, 0, 0] _) (fill_ok hR l (M.length : Int) ts (by omega) (by omega) (by omega)) ?_; rintro _ _ rfl
  refine Run.nil ?_
  refine thn_next ?_
  refine WP.plain cf0 rfl ?_
  refine Run.mv rfl rfl rfl rfl ?_
  refine Run.mv rfl rfl rfl rfl ?_
  refine Run.mv rfl rfl rfl rfl ?_
  refine Run.call (Δ := KN kb ws bs bw V M G ls ms ++ [slA 3 (Enc.int .i64) l.val (List.replicate ts.length (-9 - (M.length : Int)))]) (Θ := []) rfl rfl rfl rfl ok_35 rfl rfl (pick_only [1, 1, 1, 1, 0] _) (hold_ok hR kb ws bs bw ls ms l V M G (M.length : Int) ts.length hV (by omega) (by omega) hn hVl) ?_; rintro _ _ ⟨V', M', G', ls', ms', rfl, h1, h2⟩
  refine Run.nil ?_
  exact retN [] [] rfl rfl ⟨V', M', G', ls', ms', by simp, h1, h2⟩

def KL (kb : Nat) (bs bw : SV) (p q : List (SV × List Int)) (ls ws ms : SV) : List HProp :=
  [keepB kb true ls ws ms bs bw, slA 31 Enc.slice ls.val (p.map Prod.fst), rows 3 (Enc.int .i64) p, slA 31 Enc.slice ws.val (q.map Prod.fst), rows 3 (Enc.int .i64) q]

set_option maxHeartbeats 1000000 in
set_option maxRecDepth 100000 in
theorem putLate_ok (hR : Heap) (kb : Nat) (bs bw ls ws ms l : SV) (p q : List (SV × List Int)) (ts : List Int) (hn : ts.length ≤ 1000000) (hp : p.length ≤ 1000000) (hq : q.length ≤ 1000000) :
    Tri Try.prog hR 30 #[.pointer (some ⟨kb, 0, none⟩), l.val] (KL kb bs bw p q ls ws ms ++ [slA 3 (Enc.int .i64) l.val ts])
      fun u Γ' => ∃ (c ls' ws' : SV), Γ' = KL kb bs bw (p ++ [(l, ts)]) (q ++ [(c, ts)]) ls' ws' ms := by
  refine Tri.of (args := [.pointer (some ⟨kb, 0, none⟩), l.val]) Try.func30 rfl Try.ntmps30 (by simp) ?_
  have hpl : (p.map Prod.fst).length = p.length := by simp
  have hql : (q.map Prod.fst).length = q.length := by simp
  refine WP.via (Γ' := [keepB kb true ls ws ms bs bw, slA 31 Enc.slice ls.val (p.map Prod.fst), rows 3 (Enc.int .i64) p, slA 31 Enc.slice ws.val (q.map Prod.fst), rows 3 (Enc.int .i64) q, slA 3 (Enc.int .i64) l.val ts]) (ent.refl _) ?_
  refine WP.seq ?_
  refine WP.seq ?_
  refine WP.plain cf0 rfl ?_
  refine Run.mv rfl rfl rfl rfl ?_
  refine Run.nilCheck rfl rfl rfl rfl ?_
  refine Run.fieldAddr rfl rfl fo_43_0 rfl rfl ?_
  refine Run.loadB 0 rfl rfl ag_4 rfl rfl rfl rfl rfl ?_
  refine Run.nil ?_
  refine thn_next ?_
  refine WP.cond (t := true) rfl (fun _ => ?_) (fun h => by cases h)
  refine WP.seq ?_
  refine WP.plain cf0 rfl ?_
  refine Run.mv rfl rfl rfl rfl ?_
  refine Run.mv rfl rfl rfl rfl ?_
  refine Run.nilCheck rfl rfl rfl rfl ?_
  refine Run.fieldAddr rfl rfl fo_43_1 rfl rfl ?_
  refine Run.loadB 0 rfl rfl ag_22 rfl rfl rfl rfl rfl ?_
  refine Run.mv rfl rfl rfl rfl ?_
  refine Run.buildSlice (E := Enc.slice) rfl sl_22 zr_31 ([l]) rfl rfl rfl (by decide) rfl rfl ?_
  intro b15
  refine Run.append 1 rfl rfl rfl rfl rfl rfl sl_22 zr_31 rfl (src_own 6 rfl) (by first | omega | (simp <;> omega)) (by first | omega | (simp <;> omega)) ?_
  intro sv16 hv16
  refine Run.nilCheck rfl rfl rfl rfl ?_
  refine Run.fieldAddr rfl rfl fo_43_1 rfl rfl ?_
  refine Run.storeB 0 rfl rfl rfl rfl ag_22 rfl rfl rfl rfl rfl ?_
  refine Run.nil ?_
  refine thn_next ?_
  refine WP.seq ?_
  refine WP.weaken (ρ' := [(0, .pointer (some ⟨kb, 0, none⟩)), (1, l.val)]) (Γ' := [slA 31 Enc.slice sv16.val (p.map Prod.fst ++ [l]), rows 3 (Enc.int .i64) p, slA 31 Enc.slice ws.val (q.map Prod.fst), rows 3 (Enc.int .i64) q, slA 3 (Enc.int .i64) l.val ts, slA 3 (Enc.int .i64) (.slice none 0 0) []] ++ [keepB kb true sv16 ws ms bs bw])
    ⟨rfl, rfl, trivial⟩ ((slA_nil 3 (Enc.int .i64) _).trans (pick_only [1, 1, 1, 1, 1, 2, 0] _)) ?_
  refine WP.drawnF cfF [0, 1, 2, 3, 4, 5, 6, 7, 8, 9, 10] [11] ([keepB kb true sv16 ws ms bs bw]) mixed rfl rfl (by kernel_rfl) (fun gF hgF hdF => ?_)
  have c2 := lent_blk (v := ws.val) 0 2 rfl rfl hgF hdF; refine Run.mv rfl rfl rfl rfl ?_
  refine Run.mv rfl rfl rfl rfl ?_
  refine Run.nilCheck rfl rfl rfl rfl ?_
  refine Run.fieldAddr rfl rfl fo_43_2 rfl rfl ?_
  refine Run.loadF rfl rfl ag_22 rfl rfl c2 ?_
  refine Run.mv rfl rfl rfl rfl ?_
  refine Run.append 5 rfl rfl rfl rfl rfl rfl sl_31 zr_3 rfl (src_own 4 rfl) (by first | omega | (simp <;> omega)) (by first | omega | (simp <;> omega)) ?_
  intro sv25 hv25
  refine Run.buildSlice (E := Enc.slice) rfl sl_22 zr_31 ([sv25]) rfl rfl rfl (by decide) rfl rfl ?_
  intro b26
  refine Run.append 2 rfl rfl rfl rfl rfl rfl sl_22 zr_31 rfl (src_own 6 rfl) (by first | omega | (simp <;> omega)) (by first | omega | (simp <;> omega)) ?_
  intro sv27 hv27
  refine Run.nilCheck rfl rfl rfl rfl ?_
  refine Run.fieldAddr rfl rfl fo_43_2 rfl rfl ?_
  refine Run.nil ?_
  refine Run.storeB 7 rfl rfl rfl rfl ag_22 rfl rfl rfl rfl rfl ?_
  refine Run.nil ?_
  refine thn_next ?_
  refine WP.via (Γ' := KL kb bs bw (p ++ [(l, ts)]) (q ++ [(sv25, ts)]) sv16 sv27 ms) ?_ ?_
  · unfold KL
    simp only [List.map_append, List.map_cons, List.map_nil]
    exact (pick_only [1, 3, 0, 0, 0, 0, 1] _).trans ((rows_snoc _).trans ((pick_only [3, 3, 0, 0, 0, 0] _).trans ((rows_snoc _).trans (pick_only [4, 2, 1, 1, 0] _))))
  refine WP.ret ?_; refine thn_ret ?_
  exact retT [] [] rfl rfl ⟨sv25, sv16, sv27, rfl⟩

set_option maxHeartbeats 1000000 in
set_option maxRecDepth 100000 in
theorem wholeLate_ok (hR : Heap) (kb : Nat) (bs bw ls ws ms : SV) (p q : List (SV × List Int)) (hpq : p.map Prod.snd = q.map Prod.snd) (hpl : p.length ≤ 1000) (hln : ∀ sv xs, (sv, xs) ∈ p → xs.length ≤ 1000000) :
    Tri Try.prog hR 33 #[.pointer (some ⟨kb, 0, none⟩)] (KL kb bs bw p q ls ws ms) fun u Γ' => u = .bool true := by
  refine Tri.of (args := [.pointer (some ⟨kb, 0, none⟩)]) Try.func33 rfl Try.ntmps33 (by simp) ?_
  unfold KL
  have hqp : q.length = p.length := by have := congrArg List.length hpq; simpa using this.symm
  refine WP.seq ?_
  refine WP.plain cf0 rfl ?_
  refine Run.mv rfl rfl rfl rfl ?_
  refine Run.nil ?_
  refine thn_next ?_
  refine WP.seq ?_
  refine WP.seq ?_
  refine WP.plain cf0 rfl ?_
  refine Run.mv rfl rfl rfl rfl ?_
  refine Run.nilCheck rfl rfl rfl rfl ?_
  refine Run.fieldAddr rfl rfl fo_43_0 rfl rfl ?_
  refine Run.loadB 0 rfl rfl ag_4 rfl rfl rfl rfl rfl ?_
  refine Run.nil ?_
  refine thn_next ?_
  refine WP.cond (t := true) rfl (fun _ => ?_) (fun h => by cases h)
  refine WP.seq ?_
  refine WP.plain cf0 rfl ?_
  refine Run.build rfl bd_43 rfl rfl rfl rfl ?_
  refine Run.box rfl rfl rfl rfl rfl ?_
  intro b14
  refine Run.mv rfl rfl rfl rfl ?_
  refine Run.nil ?_
  refine thn_next ?_
  refine WP.weaken (ρ' := [(0, .pointer (some ⟨kb, 0, none⟩)), (3, .pointer (some ⟨b14, 0, none⟩))]) (Γ' := [blk b14 [.bool false, .slice none 0 0, .slice none 0 0, .slice none 0 0, .slice none 0 0, .slice none 0 0] 43] ++ [keepB kb true ls ws ms bs bw, slA 31 Enc.slice ls.val (p.map Prod.fst), rows 3 (Enc.int .i64) p, slA 31 Enc.slice ws.val (q.map Prod.fst), rows 3 (Enc.int .i64) q])
    ⟨rfl, rfl, trivial⟩ (pick_only [5, 0, 0, 0, 0, 0] _) ?_
  -- are they what they were?
  refine WP.seqMeet (α := Unit) (fun _ => True) (fun _ => [(0, .pointer (some ⟨kb, 0, none⟩)), (3, .pointer (some ⟨b14, 0, none⟩))]) (fun _ => [blk b14 [.bool false, .slice none 0 0, .slice none 0 0, .slice none 0 0, .slice none 0 0, .slice none 0 0] 43, keepB kb true ls ws ms bs bw, slA 31 Enc.slice ls.val (p.map Prod.fst), rows 3 (Enc.int .i64) p]) ?_ ?_
  · refine WP.freeze (Γ := [blk b14 [.bool false, .slice none 0 0, .slice none 0 0, .slice none 0 0, .slice none 0 0, .slice none 0 0] 43]) [keepB kb true ls ws ms bs bw, slA 31 Enc.slice ls.val (p.map Prod.fst), rows 3 (Enc.int .i64) p, slA 31 Enc.slice ws.val (q.map Prod.fst), rows 3 (Enc.int .i64) q] fun g hg hd => ?_
    have c1 : cellH (un hR g) ⟨kb, 1, none⟩ ls.val := lent_blk 0 1 rfl rfl hg hd
    have c2 : cellH (un hR g) ⟨kb, 2, none⟩ ws.val := lent_blk 0 2 rfl rfl hg hd
    have rP : SlR (Enc.int .i64).rd.slice (un hR g) ls.val (p.map Prod.snd) := lent_rows 1 2 rfl rfl hg hd
    have rQ : SlR (Enc.int .i64).rd.slice (un hR g) ws.val (p.map Prod.snd) := by rw [hpq]; exact lent_rows 3 4 rfl rfl hg hd
    generalize un hR g = hS at c1 c2 rP rQ
    have hpm : (p.map Prod.snd).length = p.length := by simp
    refine WP.seq ?_
    refine WP.plain cf0 rfl ?_
    refine Run.mv rfl rfl rfl rfl ?_
    refine Run.nil ?_
    refine thn_next ?_
    refine WP.block ?_
    refine WP.loop (α := Nat) (fun i => i ≤ p.length) (fun i => [(0, .pointer (some ⟨kb, 0, none⟩)), (3, .pointer (some ⟨b14, 0, none⟩)), (4, .int .i64 (i : Int))]) (fun _ => [blk b14 [.bool false, .slice none 0 0, .slice none 0 0, .slice none 0 0, .slice none 0 0, .slice none 0 0] 43]) (fun i => p.length - i) 0 (Nat.zero_le _) ⟨rfl, rfl, rfl, trivial⟩ (ent.refl _) ?_
    intro i hi
    refine WP.seq ?_
    refine WP.seq ?_
    refine WP.plain cf0 rfl ?_
    refine Run.mv rfl rfl rfl rfl ?_
    refine Run.mv rfl rfl rfl rfl ?_
    refine Run.nilCheck rfl rfl rfl rfl ?_
    refine Run.fieldAddr rfl rfl fo_43_1 rfl rfl ?_
    refine Run.loadR rfl rfl ag_22 rfl rfl c1 ?_
    refine Run.lenR rfl rfl sl_22 rfl rfl rP ?_
    refine Run.int2 rfl rfl rfl rfl rfl rfl ?_
    refine Run.nil ?_
    refine thn_next ?_
    refine WP.ite rfl (fun hlt => ?_) (fun hge => ?_)
    · refine WP.skip ?_; refine thn_next ?_
      have hip : i < p.length := by omega
      obtain ⟨⟨sv, xs⟩, gp⟩ : ∃ x, p[i]? = some x := ⟨_, List.getElem?_eq_getElem hip⟩
      have gp2 : (p.map Prod.snd)[i]? = some xs := by simp [gp]
      obtain ⟨u1, gu1, hu1⟩ := rP.rowV gp2
      have gu1' : cellH hS (elemAddr ls.val ((i : Int).toNat * 1)) u1 := gu1
      obtain ⟨u2, gu2, hu2⟩ := rQ.rowV gp2
      have gu2' : cellH hS (elemAddr ws.val ((i : Int).toNat * 1)) u2 := gu2
      have hxl := hln sv xs (List.mem_of_getElem? gp)
      refine WP.seq ?_
      refine WP.block ?_
      refine WP.seq ?_
      refine WP.drawn0 cf0 mixed rfl (by kernel_rfl) ?_
      refine Run.mv rfl rfl rfl rfl ?_
      refine Run.nilCheck rfl rfl rfl rfl ?_
      refine Run.fieldAddr rfl rfl fo_43_1 rfl rfl ?_
      refine Run.loadR rfl rfl ag_22 rfl rfl c1 ?_
      refine Run.mv rfl rfl rfl rfl ?_
      refine Run.idxR rfl rfl rfl sl_22 rfl rfl rP (by rfl) (by omega) (by omega) ?_
      refine Run.loadR rfl rfl ag_31 rfl rfl gu1' ?_
      refine Run.mv rfl rfl rfl rfl ?_
      refine Run.nilCheck rfl rfl rfl rfl ?_
      refine Run.fieldAddr rfl rfl fo_43_2 rfl rfl ?_
      refine Run.loadR rfl rfl ag_22 rfl rfl c2 ?_
      refine Run.mv rfl rfl rfl rfl ?_
      refine Run.idxR rfl rfl rfl sl_22 rfl rfl rQ (by rfl) (by omega) (by omega) ?_
      refine Run.loadR rfl rfl ag_31 rfl rfl gu2' ?_
      refine Run.call (Δ := []) (Θ := [blk b14 [.bool false, .slice none 0 0, .slice none 0 0, .slice none 0 0, .slice none 0 0, .slice none 0 0] 43]) rfl rfl rfl rfl ok_18 rfl rfl (ent.refl _) (same_ok hS u1 u2 xs xs hu1 hu2 (by omega) (by omega)) ?_; rintro _ _ ⟨rfl, rfl⟩; refine Run.tt rfl ?_
      refine Run.bnotB rfl rfl rfl rfl ?_
      refine Run.nil ?_
      refine thn_next ?_
      refine WP.cond (t := false) rfl (fun h => by cases h) (fun _ => ?_)
      refine WP.skip ?_; refine blk_norm ?_; refine thn_next ?_
      refine WP.plain cf0 rfl ?_
      refine Run.mv rfl rfl rfl rfl ?_
      refine Run.add64 rfl rfl rfl rfl rfl (by first | omega | (simp <;> omega)) (by first | omega | (simp <;> omega)) ?_
      refine Run.mv rfl rfl rfl rfl ?_
      refine Run.nil ?_
      refine thn_next ⟨i + 1, hip, by omega, ⟨rfl, rfl, rfl, trivial⟩, ent.refl _⟩
    · refine WP.exit ?_; refine thn_exit ?_; refine thn_exit ?_; refine blk_hit ?_
      refine thn_next ⟨(), trivial, ⟨rfl, rfl, trivial⟩, pick_only [0, 0, 0, 0] _⟩
  rintro _ _
  -- written full
  refine WP.seqMeet (α := List (SV × List Int)) (fun p' => p'.map Prod.fst = p.map Prod.fst ∧ ∀ (k : Nat) sv xs, p'[k]? = some (sv, xs) → xs.length ≤ 1000000 ∧ xs = List.replicate xs.length (-9 - (k : Int))) (fun _ => [(0, .pointer (some ⟨kb, 0, none⟩)), (3, .pointer (some ⟨b14, 0, none⟩))])
    (fun p' => [blk b14 [.bool false, .slice none 0 0, .slice none 0 0, .slice none 0 0, .slice none 0 0, .slice none 0 0] 43, keepB kb true ls ws ms bs bw, slA 31 Enc.slice ls.val (p.map Prod.fst), rows 3 (Enc.int .i64) p']) ?_ ?_
  · refine WP.seq ?_
    refine WP.plain cf0 rfl ?_
    refine Run.mv rfl rfl rfl rfl ?_
    refine Run.nil ?_
    refine thn_next ?_
    refine WP.block ?_
    refine WP.loop (α := Nat × List (SV × List Int)) (fun z => z.1 ≤ p.length ∧ z.2.map Prod.fst = p.map Prod.fst ∧ ∀ (k : Nat) sv xs, z.2[k]? = some (sv, xs) → xs.length ≤ 1000000 ∧ (k < z.1 → xs = List.replicate xs.length (-9 - (k : Int)))) (fun z => [(0, .pointer (some ⟨kb, 0, none⟩)), (3, .pointer (some ⟨b14, 0, none⟩)), (5, .int .i64 (z.1 : Int))])
      (fun z => [blk b14 [.bool false, .slice none 0 0, .slice none 0 0, .slice none 0 0, .slice none 0 0, .slice none 0 0] 43, keepB kb true ls ws ms bs bw, slA 31 Enc.slice ls.val (p.map Prod.fst), rows 3 (Enc.int .i64) z.2]) (fun z => p.length - z.1) (0, p)
      ⟨Nat.zero_le _, rfl, fun k sv xs h => ⟨hln sv xs (List.mem_of_getElem? h), fun h => by simp at h⟩⟩ ⟨rfl, rfl, rfl, trivial⟩ (ent.refl _) ?_
    rintro ⟨i, p'⟩ ⟨hi, hf, hk⟩
    simp only at hi hf hk ⊢
    have hfl : p'.length = p.length := by have := congrArg List.length hf; simpa using this
    have hfm : (p.map Prod.fst).length = p.length := by simp
    refine WP.seq ?_
    refine WP.seq ?_
    refine WP.plain cf0 rfl ?_
    refine Run.mv rfl rfl rfl rfl ?_
    refine Run.mv rfl rfl rfl rfl ?_
    refine Run.nilCheck rfl rfl rfl rfl ?_
    refine Run.fieldAddr rfl rfl fo_43_1 rfl rfl ?_
    refine Run.loadB 1 rfl rfl ag_22 rfl rfl rfl rfl rfl ?_
    refine Run.lenO 2 rfl rfl sl_22 rfl rfl rfl ?_
    refine Run.int2 rfl rfl rfl rfl rfl rfl ?_
    refine Run.nil ?_
    refine thn_next ?_
    refine WP.ite rfl (fun hlt => ?_) (fun hge => ?_)
    · refine WP.skip ?_; refine thn_next ?_
      have hip : i < p.length := by omega
      obtain ⟨⟨sv, xs⟩, gp⟩ : ∃ x, p'[i]? = some x := ⟨_, List.getElem?_eq_getElem (by omega)⟩
      have gpf : (p.map Prod.fst)[i]? = some sv := by rw [← hf]; simp [gp]
      obtain ⟨hxl, _⟩ := hk i sv xs gp
      refine WP.seq ?_
      refine WP.block ?_
      refine WP.via (ent.app (ent.refl [blk b14 [.bool false, .slice none 0 0, .slice none 0 0, .slice none 0 0, .slice none 0 0, .slice none 0 0] 43, keepB kb true ls ws ms bs bw, slA 31 Enc.slice ls.val (p.map Prod.fst)]) (rows_out gp [])) ?_
      refine WP.plain cf0 rfl ?_
      refine Run.mv rfl rfl rfl rfl ?_
      refine Run.nilCheck rfl rfl rfl rfl ?_
      refine Run.fieldAddr rfl rfl fo_43_1 rfl rfl ?_
      refine Run.loadB 1 rfl rfl ag_22 rfl rfl rfl rfl rfl ?_
      refine Run.mv rfl rfl rfl rfl ?_
      refine Run.idxO 2 rfl rfl rfl sl_22 rfl rfl rfl rfl (by omega) (by omega) ?_
      refine Run.loadO 2 i 0 rfl rfl ag_31 rfl rfl rfl rfl gpf rfl ?_
      refine Run.mv rfl rfl rfl rfl ?_
      refine Run.call (Δ := [slA 3 (Enc.int .i64) sv.val xs]) (Θ := [rowsBut 3 (Enc.int .i64) i p', blk b14 [.bool false, .slice none 0 0, .slice none 0 0, .slice none 0 0, .slice none 0 0, .slice none 0 0] 43, keepB kb true ls ws ms bs bw, slA 31 Enc.slice ls.val (p.map Prod.fst)]) rfl rfl rfl rfl ok_34 rfl rfl (pick_only [3, 3, 0, 0, 0] _) (fill_ok hR sv (i : Int) xs (by omega) (by omega) (by omega)) ?_; rintro _ _ rfl
      refine Run.nil ?_
      refine blk_norm ?_; refine thn_next ?_
      refine WP.plain cf0 rfl ?_
      refine Run.mv rfl rfl rfl rfl ?_
      refine Run.add64 rfl rfl rfl rfl rfl (by first | omega | (simp <;> omega)) (by first | omega | (simp <;> omega)) ?_
      refine Run.mv rfl rfl rfl rfl ?_
      refine Run.nil ?_
      refine thn_next ⟨(i + 1, p'.set i (sv, List.replicate xs.length (-9 - (i : Int)))), ⟨hip, ?_, fun k sv' xs' h => ?_⟩, by simp only; omega, ⟨rfl, rfl, rfl, trivial⟩, ?_⟩
      · simp only [List.map_set, hf]
        apply List.ext_getElem?
        intro k
        by_cases e : i = k
        · subst e; rw [List.getElem?_set_self (by omega), gpf]
        · rw [List.getElem?_set_ne e]
      · by_cases e : i = k
        · subst e
          rw [List.getElem?_set_self (by omega)] at h; cases h
          exact ⟨by simpa using hxl, fun _ => by simp⟩
        · rw [List.getElem?_set_ne e] at h
          obtain ⟨q1, q2⟩ := hk k sv' xs' h
          exact ⟨q1, fun hk2 => q2 (by simp only at hk2; omega)⟩
      · exact (rows_in (by omega) _).trans (pick_only [1, 1, 1, 0] _)
    · refine WP.exit ?_; refine thn_exit ?_; refine thn_exit ?_; refine blk_hit ?_
      refine thn_next ⟨p', ⟨hf, fun k sv xs h => ?_⟩, ⟨rfl, rfl, trivial⟩, ent.refl _⟩
      obtain ⟨q1, q2⟩ := hk k sv xs h
      exact ⟨q1, q2 (by have := (List.getElem?_eq_some_iff.1 h).1; omega)⟩
  rintro p' ⟨hf, hk⟩
  have hfl : p'.length = p.length := by have := congrArg List.length hf; simpa using this
  have hfm : (p.map Prod.fst).length = p.length := by simp
  -- grown
  refine WP.seqMeet (α := List SV × List Int × List (SV × List Int) × SV × SV) (fun z => Views z.1 z.2.1 z.2.2.1 ∧ z.1.length ≤ 41 * p.length) (fun _ => [(3, .pointer (some ⟨b14, 0, none⟩))]) (fun z => KN b14 ⟨none, 0, 0⟩ ⟨none, 0, 0⟩ ⟨none, 0, 0⟩ z.1 z.2.1 z.2.2.1 z.2.2.2.1 z.2.2.2.2) ?_ ?_
  · refine WP.seq ?_
    refine WP.plain cf0 rfl ?_
    refine Run.mv rfl rfl rfl rfl ?_
    refine Run.nil ?_
    refine thn_next ?_
    refine WP.block ?_
    refine WP.loop (α := Nat × List SV × List Int × List (SV × List Int) × SV × SV) (fun z => z.1 ≤ p.length ∧ Views z.2.1 z.2.2.1 z.2.2.2.1 ∧ z.2.1.length ≤ 41 * z.1) (fun z => [(0, .pointer (some ⟨kb, 0, none⟩)), (3, .pointer (some ⟨b14, 0, none⟩)), (6, .int .i64 (z.1 : Int))])
      (fun z => KN b14 ⟨none, 0, 0⟩ ⟨none, 0, 0⟩ ⟨none, 0, 0⟩ z.2.1 z.2.2.1 z.2.2.2.1 z.2.2.2.2.1 z.2.2.2.2.2 ++ [keepB kb true ls ws ms bs bw, slA 31 Enc.slice ls.val (p.map Prod.fst), rows 3 (Enc.int .i64) (p'.drop z.1)]) (fun z => p.length - z.1)
      (0, [], [], [], ⟨none, 0, 0⟩, ⟨none, 0, 0⟩) ⟨Nat.zero_le _, ⟨rfl, fun i v m h => by simp at h⟩, by simp⟩ ⟨rfl, rfl, rfl, trivial⟩
      ((slA_nil 31 Enc.slice _).trans ((slA_nil 3 (Enc.int .i64) _).trans ((rows_new _).trans (pick_only [1, 4, 4, 0, 0, 0, 0] _)))) ?_
    rintro ⟨i, V, M, G, lsT, msT⟩ ⟨hi, hV, hVl⟩
    simp only at hi hV hVl ⊢
    refine WP.seq ?_
    refine WP.seq ?_
    unfold KN
    refine WP.plain cf0 rfl ?_
    refine Run.mv rfl rfl rfl rfl ?_
    refine Run.mv rfl rfl rfl rfl ?_
    refine Run.nilCheck rfl rfl rfl rfl ?_
    refine Run.fieldAddr rfl rfl fo_43_1 rfl rfl ?_
    refine Run.loadB 4 rfl rfl ag_22 rfl rfl rfl rfl rfl ?_
    refine Run.lenO 5 rfl rfl sl_22 rfl rfl rfl ?_
    refine Run.int2 rfl rfl rfl rfl rfl rfl ?_
    refine Run.nil ?_
    refine thn_next ?_
    refine WP.ite rfl (fun hlt => ?_) (fun hge => ?_)
    · refine WP.skip ?_; refine thn_next ?_
      have hip : i < p.length := by omega
      obtain ⟨⟨sv, xs⟩, gp⟩ : ∃ x, p'[i]? = some x := ⟨_, List.getElem?_eq_getElem (by omega)⟩
      have gpf : (p.map Prod.fst)[i]? = some sv := by rw [← hf]; simp [gp]
      obtain ⟨hxl, hxe⟩ := hk i sv xs gp
      have hdr : p'.drop i = (sv, xs) :: p'.drop (i + 1) := by rw [List.drop_eq_getElem_cons (by omega)]; congr 1; rw [List.getElem?_eq_getElem (by omega)] at gp; exact Option.some.inj gp
      refine WP.seq ?_
      refine WP.block ?_
      refine WP.via (Γ' := KN b14 ⟨none, 0, 0⟩ ⟨none, 0, 0⟩ ⟨none, 0, 0⟩ V M G lsT msT ++ [keepB kb true ls ws ms bs bw, slA 31 Enc.slice ls.val (p.map Prod.fst), slA 3 (Enc.int .i64) sv.val (List.replicate xs.length (-9 - (i : Int))), rows 3 (Enc.int .i64) (p'.drop (i + 1))]) ?_ ?_
      · rw [hdr, ← hxe]
        have h6 := ent.app (ent.refl [keepB b14 false lsT ⟨none, 0, 0⟩ msT ⟨none, 0, 0⟩ ⟨none, 0, 0⟩, slA 31 Enc.slice lsT.val V, slA 3 (Enc.int .i64) msT.val M, rows 3 (Enc.int .i64) G, keepB kb true ls ws ms bs bw, slA 31 Enc.slice ls.val (p.map Prod.fst)]) (rows_first (T := 3) (E := Enc.int .i64) (sv := sv) (xs := xs) (p'.drop (i + 1)) [])
        unfold KN
        exact h6
      unfold KN
      refine WP.plain cf0 rfl ?_
      refine Run.mv rfl rfl rfl rfl ?_
      refine Run.mv rfl rfl rfl rfl ?_
      refine Run.nilCheck rfl rfl rfl rfl ?_
      refine Run.fieldAddr rfl rfl fo_43_1 rfl rfl ?_
      refine Run.loadB 4 rfl rfl ag_22 rfl rfl rfl rfl rfl ?_
      refine Run.mv rfl rfl rfl rfl ?_
      refine Run.idxO 5 rfl rfl rfl sl_22 rfl rfl rfl rfl (by omega) (by omega) ?_
      refine Run.loadO 5 i 0 rfl rfl ag_31 rfl rfl rfl rfl gpf rfl ?_
      refine Run.mv rfl rfl rfl rfl ?_
      refine Run.call (Δ := KN b14 ⟨none, 0, 0⟩ ⟨none, 0, 0⟩ ⟨none, 0, 0⟩ V M G lsT msT ++ [slA 3 (Enc.int .i64) sv.val (List.replicate xs.length (-9 - (i : Int)))]) (Θ := [keepB kb true ls ws ms bs bw, slA 31 Enc.slice ls.val (p.map Prod.fst), rows 3 (Enc.int .i64) (p'.drop (i + 1))]) rfl rfl rfl rfl ok_35 rfl rfl (pick_only [0, 0, 0, 0, 2, 0, 0, 0] _) (hold_ok hR b14 ⟨none, 0, 0⟩ ⟨none, 0, 0⟩ ⟨none, 0, 0⟩ lsT msT sv V M G (i : Int) xs.length hV (by omega) (by omega) hxl (by omega)) ?_; rintro _ _ ⟨V', M', G', ls', ms', rfl, k1, k2⟩
      refine Run.nil ?_
      refine blk_norm ?_; refine thn_next ?_
      refine WP.plain cf0 rfl ?_
      refine Run.mv rfl rfl rfl rfl ?_
      refine Run.add64 rfl rfl rfl rfl rfl (by first | omega | (simp <;> omega)) (by first | omega | (simp <;> omega)) ?_
      refine Run.mv rfl rfl rfl rfl ?_
      refine Run.nil ?_
      refine thn_next ⟨(i + 1, V', M', G', ls', ms'), ⟨hip, k1, by simp only; omega⟩, by simp only; omega, ⟨rfl, rfl, rfl, trivial⟩, ent.refl _⟩
    · refine WP.exit ?_; refine thn_exit ?_; refine thn_exit ?_; refine blk_hit ?_
      refine thn_next ⟨(V, M, G, lsT, msT), ⟨hV, by simp only; omega⟩, ⟨rfl, trivial⟩, pick_only [0, 0, 0, 0] _⟩
  rintro ⟨V, M, G, lsT, msT⟩ ⟨hV, hVl⟩
  simp only at hV hVl ⊢
  refine WP.seq ?_
  refine WP.plain cf0 rfl ?_
  refine Run.mv rfl rfl rfl rfl ?_
  refine Run.call (Δ := KN b14 ⟨none, 0, 0⟩ ⟨none, 0, 0⟩ ⟨none, 0, 0⟩ V M G lsT msT) (Θ := []) rfl rfl rfl rfl ok_33 rfl rfl (by rw [List.append_nil]; exact ent.refl _) (wholeNow_ok hR b14 ⟨none, 0, 0⟩ ⟨none, 0, 0⟩ ⟨none, 0, 0⟩ lsT msT V M G hV (by omega)) ?_; rintro _ Γ9 rfl
  refine Run.mv rfl rfl rfl rfl ?_
  refine Run.nil ?_
  refine thn_next ?_
  refine WP.ret ?_; refine thn_ret ?_
  exact retT [2] _ rfl rfl rfl
end Go.Proofs.Ytifpejpeophlbaa
