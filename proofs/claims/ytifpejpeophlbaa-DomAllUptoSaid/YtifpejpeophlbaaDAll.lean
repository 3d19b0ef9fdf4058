/- Many calls, one behind the other, over the same memory with other blocks; walked. -/
import Derived.Test.YtifpejpeophlbaaKTruth
namespace Go.Proofs.Ytifpejpeophlbaa
open Go.Sep
set_option linter.unusedSimpArgs false
set_option linter.unusedVariables false
attribute [local irreducible] blk slA mp mpF rows rowsBut memL many

abbrev nilV : SV := ⟨none, 0, 0⟩
abbrev AM (b14 b16 : Nat) (pr : List (SV × List Int)) (p q : List (SV × List Bool)) (bs bw : SV) (Γk : List HProp) : List HProp :=
  [slA 31 Enc.slice (SV.val ⟨some ⟨b14, 0, none⟩, 64, 64⟩) (pr.map Prod.fst), rows 3 (Enc.int .i64) pr, keepB b16 false nilV nilV nilV bs bw, slA 26 Enc.slice bs.val (p.map Prod.fst), rows 4 Enc.bool p, slA 26 Enc.slice bw.val (q.map Prod.fst), rows 4 Enc.bool q, many Γk]
theorem ReachAns.le {to : List (List Int)} {sv : SV} {bs : List Bool} (h : ReachAns to sv bs) : bs.length ≤ to.length := by
  rcases h with ⟨_, h⟩ | ⟨tn, h1, _, h2⟩
  · rw [h]; simp
  · rw [h2.len, h1]; simp
theorem TreeAns.le {to : List (List Int)} {ts : List Int} (h : TreeAns to ts) : ts.length ≤ to.length := by
  rcases h with ⟨_, h⟩ | ⟨tn, h1, _, h2⟩
  · rw [h]; simp
  · rw [h2.len, h1]; simp

set_option maxHeartbeats 2000000 in
set_option maxRecDepth 100000 in
theorem all_ok (hR : Heap) (v : Value) (mss : List (List (List Int))) (kb : Nat) (Kp : Nat → List HProp → Prop) (hl : SlR (Enc.int .i64).rd.slice.slice hR v mss) (hlen : mss.length ≤ 1048576) (hto : ∀ to ∈ mss, to.length + edgesL to ≤ 1048576)
    (hput : ∀ (hS : Heap) (j : Nat) (Γ : List HProp) (sv : SV) (ts : List Int), Kp j Γ → j ≤ 60 → ts.length ≤ 64 → Tri Try.prog hS 30 #[.pointer (some ⟨kb, 0, none⟩), sv.val] (Γ ++ [slA 3 (Enc.int .i64) sv.val ts]) (fun u Γ' => Kp (j + 1) Γ'))
    (hwhole : ∀ (hS : Heap) (j : Nat) (Γ : List HProp), Kp j Γ → j ≤ 60 → Tri Try.prog hS 33 #[.pointer (some ⟨kb, 0, none⟩)] Γ (fun u Γ' => u = .bool true))
    (Γ0 : List HProp) (h0 : Kp 0 Γ0) : Tri Try.prog hR 24 #[v, .pointer (some ⟨kb, 0, none⟩)] Γ0 (fun u Γ' => u = .bool true) := by
  refine Tri.of (args := [v, .pointer (some ⟨kb, 0, none⟩)]) Try.func24 rfl Try.ntmps24 (by simp) ?_
  refine WP.via (Γ' := [many Γ0]) (by have := many_in Γ0 []; rwa [List.append_nil] at this) ?_
  refine WP.seq ?_
  refine WP.plain cf0 rfl ?_
  refine Run.mv rfl rfl rfl rfl ?_
  refine Run.nil ?_
  refine thn_next ?_
  refine WP.seq ?_
  refine WP.plain cf0 rfl ?_
  refine Run.makeSlice (E := Enc.slice) (nilV) rfl rfl rfl sl_22 zr_31 rfl rfl rfl (by first | omega | (simp <;> omega)) (by first | omega | (simp <;> omega)) (by first | omega | (simp <;> omega)) (by first | omega | (simp <;> omega)) ?_
  intro b14
  refine Run.mv rfl rfl rfl rfl ?_
  refine Run.nil ?_
  refine thn_next ?_
  refine WP.seq ?_
  refine WP.plain cf0 rfl ?_
  refine Run.build rfl bd_43 rfl rfl rfl rfl ?_
  refine Run.box rfl rfl rfl rfl rfl ?_
  intro b16
  refine Run.mv rfl rfl rfl rfl ?_
  refine Run.nil ?_
  refine thn_next ?_
  refine WP.seqMeet (α := Nat × List (SV × List Bool) × List (SV × List Bool) × SV × SV × List HProp) (fun z => z.1 ≤ 60 ∧ z.2.1.map Prod.snd = z.2.2.1.map Prod.snd ∧ z.2.1.length ≤ 60 ∧ (∀ sv xs, (sv, xs) ∈ z.2.1 → xs.length ≤ 64) ∧ Kp z.1 z.2.2.2.2.2) (fun _ => [(1, .pointer (some ⟨kb, 0, none⟩)), (6, .pointer (some ⟨b16, 0, none⟩))])
    (fun z => KB b16 nilV nilV nilV z.2.1 z.2.2.1 z.2.2.2.1 z.2.2.2.2.1 ++ [many z.2.2.2.2.2]) ?_ ?_
  · refine WP.seq ?_
    refine WP.plain cf0 rfl ?_
    refine Run.mv rfl rfl rfl rfl ?_
    refine Run.nil ?_
    refine thn_next ?_
    refine WP.block ?_
    refine WP.loop (α := Nat × List (SV × List Int) × Nat × List (SV × List Bool) × List (SV × List Bool) × SV × SV × List HProp)
      (fun z => z.1 ≤ mss.length ∧ z.1 ≤ 30 ∧ z.2.1.length = 64 ∧ z.2.2.1 ≤ 2 * z.1 ∧ z.2.2.2.1.map Prod.snd = z.2.2.2.2.1.map Prod.snd ∧ z.2.2.2.1.length ≤ 2 * z.1 ∧ (∀ sv xs, (sv, xs) ∈ z.2.2.2.1 → xs.length ≤ 64) ∧ Kp z.2.2.1 z.2.2.2.2.2.2.2)
      (fun z => [(0, v), (1, .pointer (some ⟨kb, 0, none⟩)), (5, .slice (some ⟨b14, 0, none⟩) 64 64), (6, .pointer (some ⟨b16, 0, none⟩)), (7, .int .i64 (z.1 : Int))])
      (fun z => AM b14 b16 z.2.1 z.2.2.2.1 z.2.2.2.2.1 z.2.2.2.2.2.1 z.2.2.2.2.2.2.1 z.2.2.2.2.2.2.2) (fun z => mss.length - z.1)
      (0, List.replicate 64 (nilV, []), 0, [], [], nilV, nilV, Γ0) ⟨Nat.zero_le _, by simp, by simp, by simp, rfl, by simp, fun sv xs h => (by cases h), h0⟩ ⟨rfl, rfl, rfl, rfl, rfl, trivial⟩ ?_ ?_
    · simp only [List.map_replicate]
      exact (slA_nil 26 Enc.slice _).trans ((slA_nil 26 Enc.slice _).trans ((rows_new (T := 4) (E := Enc.bool) _).trans ((rows_new (T := 4) (E := Enc.bool) _).trans ((rows_nils (T := 3) (E := Enc.int .i64) _ 64).trans (pick_only [4, 0, 3, 3, 0, 2, 0, 0] _)))))
    rintro ⟨i, pr, jk, p, q, bs, bw, Γk⟩ ⟨hi, hi30, hprl, hjk, hpq, hpl, hpx, hK⟩
    simp only at hi hi30 hprl hjk hpq hpl hpx hK ⊢
    refine WP.seq ?_
    refine WP.seqCut [(0, v), (1, .pointer (some ⟨kb, 0, none⟩)), (5, .slice (some ⟨b14, 0, none⟩) 64 64), (6, .pointer (some ⟨b16, 0, none⟩)), (7, .int .i64 (i : Int)), (24, .bool (decide (i < mss.length ∧ i < 30)))] (AM b14 b16 pr p q bs bw Γk) ?_ ?_
    · refine WP.plain cf0 rfl ?_
      all_goals (first | refine Run.mv rfl rfl rfl rfl ?_)
      all_goals (first | refine Run.mv rfl rfl rfl rfl ?_)
      all_goals (first | refine Run.lenR rfl rfl sl_38 rfl rfl hl ?_)
      all_goals (first | refine Run.int2 rfl rfl rfl rfl rfl rfl ?_)
      all_goals (first | refine Run.tt (by first | assumption | omega) ?_ | refine Run.ff (by first | assumption | omega) ?_ | refine Run.split (fun hc20 => ?_) (fun hc20 => ?_) | refine Run.splitB (fun hc20 => ?_) (fun hc20 => ?_) | skip)
      all_goals (first | refine Run.mv rfl rfl rfl rfl ?_)
      all_goals (first | refine Run.not rfl rfl ?_ | refine Run.mv rfl rfl rfl rfl ?_)
      all_goals (first | refine Run.not rfl rfl ?_ | refine Run.int2 rfl rfl rfl rfl rfl rfl ?_)
      all_goals (first | refine Run.pick rfl rfl rfl rfl rfl ?_)
      all_goals (refine Run.nil ?_)
      all_goals refine thn_next ⟨⟨rfl, rfl, rfl, rfl, rfl, ?_, trivial⟩, ent.refl _⟩
      · have h1 : i < mss.length := by omega
        have h2 : ((i : Int) < 30) ↔ i < 30 := by omega
        simp [Env.get, h1, h2]
      · have h1 : ¬ i < mss.length := by omega
        simp [Env.get, h1]
    refine WP.ite rfl (fun hlt => ?_) (fun hge => ?_)
    · refine WP.skip ?_; refine thn_next ?_
      obtain ⟨hlt1, hlt2⟩ := hlt
      obtain ⟨to, gto⟩ : ∃ x, mss[i]? = some x := ⟨_, List.getElem?_eq_getElem hlt1⟩
      obtain ⟨u, gu, hu⟩ := hl.rowV gto
      have gu' : cellH hR (elemAddr v ((i : Int).toNat * 1)) u := gu
      have hto1 := hto to (List.mem_of_getElem? gto)
      refine WP.seqMeet (α := List (SV × List Int) × Nat × List (SV × List Bool) × List (SV × List Bool) × SV × SV × List HProp)
        (fun z => z.1.length = 64 ∧ z.2.1 ≤ 2 * (i + 1) ∧ z.2.2.1.map Prod.snd = z.2.2.2.1.map Prod.snd ∧ z.2.2.1.length ≤ 2 * (i + 1) ∧ (∀ sv xs, (sv, xs) ∈ z.2.2.1 → xs.length ≤ 64) ∧ Kp z.2.1 z.2.2.2.2.2.2)
        (fun z => [(0, v), (1, .pointer (some ⟨kb, 0, none⟩)), (5, .slice (some ⟨b14, 0, none⟩) 64 64), (6, .pointer (some ⟨b16, 0, none⟩)), (7, .int .i64 (i : Int))]) (fun z => AM b14 b16 z.1 z.2.2.1 z.2.2.2.1 z.2.2.2.2.1 z.2.2.2.2.2.1 z.2.2.2.2.2.2) ?_ ?_
      · refine WP.block ?_
        refine WP.seq ?_
        refine WP.plain cf0 rfl ?_
        refine Run.mv rfl rfl rfl rfl ?_
        refine Run.mv rfl rfl rfl rfl ?_
        refine Run.idxR rfl rfl rfl sl_38 rfl rfl hl (by rfl) (by omega) (by omega) ?_
        refine Run.loadR rfl rfl ag_22 rfl rfl gu' ?_
        refine Run.mv rfl rfl rfl rfl ?_
        refine Run.nil ?_
        refine thn_next ?_
        refine WP.seq ?_
        refine WP.seqCut [(0, v), (1, .pointer (some ⟨kb, 0, none⟩)), (5, .slice (some ⟨b14, 0, none⟩) 64 64), (6, .pointer (some ⟨b16, 0, none⟩)), (7, .int .i64 (i : Int)), (8, u), (38, .bool (decide (64 < to.length ∨ 2000 < edgesL to)))] (AM b14 b16 pr p q bs bw Γk) ?_ ?_
        · refine WP.plain cf0 rfl ?_
          all_goals (first | refine Run.mv rfl rfl rfl rfl ?_)
          all_goals (first | refine Run.lenR rfl rfl sl_22 rfl rfl hu ?_)
          all_goals (first | refine Run.int2 rfl rfl rfl rfl rfl rfl ?_)
          all_goals (first | refine Run.tt (by first | assumption | omega) ?_ | refine Run.ff (by first | assumption | omega) ?_ | refine Run.split (fun hc33 => ?_) (fun hc33 => ?_) | refine Run.splitB (fun hc33 => ?_) (fun hc33 => ?_) | skip)
          all_goals (first | refine Run.mv rfl rfl rfl rfl ?_)
          all_goals (first | refine Run.not rfl rfl ?_ | refine Run.mv rfl rfl rfl rfl ?_)
          all_goals (first | refine Run.not rfl rfl ?_ | refine Run.call (Δ := []) (Θ := AM b14 b16 pr p q bs bw Γk) rfl rfl rfl rfl ok_10 rfl rfl (ent.refl _) (edges_ok hR u to hu (by omega) (by omega)) ?_; rintro _ _ ⟨rfl, rfl⟩)
          all_goals (first | refine Run.not rfl rfl ?_ | refine Run.int2 rfl rfl rfl rfl rfl rfl ?_)
          all_goals (first | refine Run.pick rfl rfl rfl rfl rfl ?_)
          all_goals (refine Run.nil ?_)
          all_goals refine thn_next ⟨⟨rfl, rfl, rfl, rfl, rfl, rfl, ?_, trivial⟩, ent.refl _⟩
          · simp [Env.get]; omega
          · have h1 : ¬ 64 < to.length := by omega
            have h2 : (2000 < (edgesL to : Int)) ↔ 2000 < edgesL to := by omega
            simp [Env.get, h1, h2]
        refine WP.ite rfl (fun hbig => ?_) (fun hsm => ?_)
        · refine WP.exit ?_; refine thn_exit ?_; refine blk_hit ?_
          refine thn_next ⟨(pr, jk, p, q, bs, bw, Γk), ⟨hprl, by simp only; omega, hpq, by simp only; omega, hpx, hK⟩, ⟨rfl, rfl, rfl, rfl, rfl, trivial⟩, ent.refl _⟩
        refine WP.skip ?_; refine thn_next ?_
        have hn64 : to.length ≤ 64 := by omega
        have hrow : ∀ l ∈ to, l.length ≤ 2000 := fun l h => by have := row_le h; omega
        refine WP.seq ?_
        refine WP.plain cf0 rfl ?_
        refine Run.mv rfl rfl rfl rfl ?_
        refine Run.mv rfl rfl rfl rfl ?_
        refine Run.lenR rfl rfl sl_22 rfl rfl hu ?_
        refine Run.sliceV (sv := ⟨some ⟨b14, 0, none⟩, 64, 64⟩) rfl rfl sl_22 (il := 0) (ih := (to.length : Int)) rfl rfl rfl rfl (by omega) (by omega) (by simp only; omega) ?_; refine Run.eqv (v' := .slice (some ⟨b14, 0, none⟩) to.length 64) rfl ?_
        refine Run.mv rfl rfl rfl rfl ?_
        refine Run.nil ?_
        refine thn_next ?_
        refine WP.seqMeet (α := List (SV × List Int)) (fun pr => pr.length = 64 ∧ (pr.map Prod.snd).take to.length = to) (fun _ => [(0, v), (1, .pointer (some ⟨kb, 0, none⟩)), (5, .slice (some ⟨b14, 0, none⟩) 64 64), (6, .pointer (some ⟨b16, 0, none⟩)), (7, .int .i64 (i : Int)), (8, u), (9, .slice (some ⟨b14, 0, none⟩) to.length 64)]) (fun pr => AM b14 b16 pr p q bs bw Γk) ?_ ?_
        · refine WP.seq ?_
          refine WP.plain cf0 rfl ?_
          refine Run.mv rfl rfl rfl rfl ?_
          refine Run.nil ?_
          refine thn_next ?_
          refine WP.block ?_
          refine WP.loop (α := Nat × List (SV × List Int)) (fun z => z.1 ≤ to.length ∧ z.2.length = 64 ∧ (z.2.map Prod.snd).take z.1 = to.take z.1) (fun z => [(0, v), (1, .pointer (some ⟨kb, 0, none⟩)), (5, .slice (some ⟨b14, 0, none⟩) 64 64), (6, .pointer (some ⟨b16, 0, none⟩)), (7, .int .i64 (i : Int)), (8, u), (9, .slice (some ⟨b14, 0, none⟩) to.length 64), (10, .int .i64 (z.1 : Int))]) (fun z => AM b14 b16 z.2 p q bs bw Γk) (fun z => to.length - z.1) (0, pr) ⟨Nat.zero_le _, hprl, rfl⟩ ⟨rfl, rfl, rfl, rfl, rfl, rfl, rfl, rfl, trivial⟩ (ent.refl _) ?_
          rintro ⟨j, pr⟩ ⟨hj, hprl, hpt⟩
          simp only at hj hprl hpt ⊢
          refine WP.seq ?_
          refine WP.seq ?_
          refine WP.plain cf0 rfl ?_
          refine Run.mv rfl rfl rfl rfl ?_
          refine Run.mv rfl rfl rfl rfl ?_
          refine Run.lenR rfl rfl sl_22 rfl rfl hu ?_
          refine Run.int2 rfl rfl rfl rfl rfl rfl ?_
          refine Run.nil ?_
          refine thn_next ?_
          refine WP.ite rfl (fun hlt3 => ?_) (fun hge3 => ?_)
          · refine WP.skip ?_; refine thn_next ?_
            have hjt : j < to.length := by omega
            obtain ⟨row, grow⟩ : ∃ x, to[j]? = some x := ⟨_, List.getElem?_eq_getElem hjt⟩
            obtain ⟨u2, gu2, hu2⟩ := hu.rowV grow
            have gu2' : cellH hR (elemAddr u ((j : Int).toNat * 1)) u2 := gu2
            have hrowl := hrow row (List.mem_of_getElem? grow)
            obtain ⟨⟨sv0, r0⟩, gp⟩ : ∃ x, pr[j]? = some x := ⟨_, List.getElem?_eq_getElem (by omega)⟩
            have gp1 : (pr.map Prod.fst)[j]? = some sv0 := by simp [gp]
            refine WP.seq ?_
            refine WP.block ?_
            refine WP.via (slA_nil 3 (Enc.int .i64) _) ?_
            refine WP.plain cf0 rfl ?_
            refine Run.mv rfl rfl rfl rfl ?_
            refine Run.mv rfl rfl rfl rfl ?_
            refine Run.mv rfl rfl rfl rfl ?_
            refine Run.mv rfl rfl rfl rfl ?_
            refine Run.idxR rfl rfl rfl sl_22 rfl rfl hu (by rfl) (by omega) (by omega) ?_
            refine Run.loadR rfl rfl ag_31 rfl rfl gu2' ?_
            refine Run.append 8 rfl rfl rfl rfl rfl rfl sl_31 zr_3 rfl (src_ro hu2) (by first | omega | (simp <;> omega)) (by first | omega | (simp <;> omega)) ?_
            intro sv55 hv55
            refine Run.indexAddr rfl rfl rfl sl_22 rfl rfl (by omega) (by omega) ?_
            refine Run.storeO 0 j 0 (y' := sv55) rfl rfl rfl rfl ag_31 rfl rfl rfl rfl gp1 rfl rfl ?_
            refine Run.nil ?_
            refine blk_norm ?_; refine thn_next ?_
            refine WP.plain cf0 rfl ?_
            refine Run.mv rfl rfl rfl rfl ?_
            refine Run.add64 rfl rfl rfl rfl rfl (by first | omega | (simp <;> omega)) (by first | omega | (simp <;> omega)) ?_
            refine Run.mv rfl rfl rfl rfl ?_
            refine Run.nil ?_
            refine thn_next ⟨(j + 1, pr.set j (sv55, row)), ⟨hjt, by simp [hprl], ?_⟩, by simp only; omega, ⟨rfl, rfl, rfl, rfl, rfl, rfl, rfl, rfl, trivial⟩, ?_⟩
            · simp only [List.map_set]
              rw [take_snoc grow, take_snoc (x := row) (List.getElem?_set_self (by simp; omega)), List.take_set_of_le (Nat.le_refl _), hpt]
            · simp only [AM, List.map_set]
              exact (pick_only [1, 0, 0, 0, 0, 0, 0, 0, 0] _).trans ((rows_out gp _).trans ((pick_only [9, 1, 1, 1, 1, 1, 1, 1, 1] _).trans ((rows_in (sv := sv55) (xs := row) (show j < pr.length by omega) _).trans (pick_only [1, 0, 0, 0, 0, 0, 0, 0] _))))
          · refine WP.exit ?_; refine thn_exit ?_; refine thn_exit ?_; refine blk_hit ?_
            refine thn_next ⟨pr, ⟨hprl, ?_⟩, ⟨rfl, rfl, rfl, rfl, rfl, rfl, rfl, trivial⟩, ent.refl _⟩
            have : j = to.length := by omega
            subst this
            rw [hpt, List.take_length]
        clear hprl
        rintro pr ⟨hprl, hpt⟩
        have hread : ∀ g, sat [slA 31 Enc.slice (SV.val ⟨some ⟨b14, 0, none⟩, 64, 64⟩) (pr.map Prod.fst), rows 3 (Enc.int .i64) pr] g → Disj hR g → SlR (Enc.int .i64).rd.slice (un hR g) (.slice (some ⟨b14, 0, none⟩) to.length 64) to := fun g hg hd => by
          have h1 := lent_rows 0 1 rfl rfl hg hd
          have h2 := SlR_cut h1 (lo := 0) (hi := to.length) (by omega) (by simp; omega)
          rw [List.drop_zero, hpt] at h2
          exact h2
        have hnD : to.length * 2000 ≤ 1000000000000 := by omega
        refine WP.seq ?_
        refine WP.plain cf0 rfl ?_
        refine Run.mv rfl rfl rfl rfl ?_
        refine Run.nil ?_
        refine thn_next ?_
        refine WP.block ?_
        refine WP.loop (α := Nat × Nat × List (SV × List Bool) × List (SV × List Bool) × SV × SV × List HProp) (fun z => z.1 ≤ 2 ∧ z.2.1 ≤ 2 * i + z.1 ∧ z.2.2.1.map Prod.snd = z.2.2.2.1.map Prod.snd ∧ z.2.2.1.length ≤ 2 * i + z.1 ∧ (∀ sv xs, (sv, xs) ∈ z.2.2.1 → xs.length ≤ 64) ∧ Kp z.2.1 z.2.2.2.2.2.2)
          (fun z => [(0, v), (1, .pointer (some ⟨kb, 0, none⟩)), (5, .slice (some ⟨b14, 0, none⟩) 64 64), (6, .pointer (some ⟨b16, 0, none⟩)), (7, .int .i64 (i : Int)), (8, u), (9, .slice (some ⟨b14, 0, none⟩) to.length 64), (11, .int .i64 (z.1 : Int))]) (fun z => AM b14 b16 pr z.2.2.1 z.2.2.2.1 z.2.2.2.2.1 z.2.2.2.2.2.1 z.2.2.2.2.2.2) (fun z => 2 - z.1)
          (0, jk, p, q, bs, bw, Γk) ⟨by simp, hjk, hpq, hpl, hpx, hK⟩ ⟨rfl, rfl, rfl, rfl, rfl, rfl, rfl, rfl, trivial⟩ (ent.refl _) ?_
        clear hjk hpq hpl hpx hK
        rintro ⟨t, jk, p, q, bs, bw, Γk⟩ ⟨ht, hjk, hpq, hpl, hpx, hK⟩
        simp only at ht hjk hpq hpl hpx hK ⊢
        refine WP.seq ?_
        refine WP.seq ?_
        refine WP.plain cf0 rfl ?_
        refine Run.mv rfl rfl rfl rfl ?_
        refine Run.int2 rfl rfl rfl rfl rfl rfl ?_
        refine Run.nil ?_
        refine thn_next ?_
        refine WP.ite rfl (fun hlt3 => ?_) (fun hge3 => ?_)
        · refine WP.skip ?_; refine thn_next ?_
          refine WP.seq ?_
          refine WP.block ?_
          refine WP.seq ?_
          refine WP.plain cf0 rfl ?_
          refine Run.mv rfl rfl rfl rfl ?_
          refine Run.callLend (Δ := []) (Θ := [slA 31 Enc.slice (SV.val ⟨some ⟨b14, 0, none⟩, 64, 64⟩) (pr.map Prod.fst), rows 3 (Enc.int .i64) pr]) (Ξ := [keepB b16 false nilV nilV nilV bs bw, slA 26 Enc.slice bs.val (p.map Prod.fst), rows 4 Enc.bool p, slA 26 Enc.slice bw.val (q.map Prod.fst), rows 4 Enc.bool q, many Γk]) rfl rfl rfl rfl ok_17 rfl rfl (ent.refl _) (fun g hg hd => tree_ok (un hR g) _ to 2000 (hread g hg hd) (by omega) hrow (by omega) hnD) ?_; rintro _ _ ⟨tv, ts, rfl, hta, rfl⟩
          refine Run.mv rfl rfl rfl rfl ?_
          refine Run.nil ?_
          refine thn_next ?_
          refine WP.seq ?_
          refine WP.plain cf0 rfl ?_
          refine Run.mv rfl rfl rfl rfl ?_
          refine Run.callLend (Δ := []) (Θ := [slA 31 Enc.slice (SV.val ⟨some ⟨b14, 0, none⟩, 64, 64⟩) (pr.map Prod.fst), rows 3 (Enc.int .i64) pr]) (Ξ := [slA 3 (Enc.int .i64) tv.val ts, keepB b16 false nilV nilV nilV bs bw, slA 26 Enc.slice bs.val (p.map Prod.fst), rows 4 Enc.bool p, slA 26 Enc.slice bw.val (q.map Prod.fst), rows 4 Enc.bool q, many Γk]) rfl rfl rfl rfl ok_13 rfl rfl (pick_only [1, 1, 0, 0, 0, 0, 0, 0, 0] _) (fun g hg hd => reach_ok (un hR g) _ to (hread g hg hd) (by omega) (fun l h => by have := hrow l h; omega)) ?_; rintro _ _ ⟨bv, br, rfl, hba, rfl⟩
          refine Run.mv rfl rfl rfl rfl ?_
          refine Run.nil ?_
          refine thn_next ?_
          have htl := hta.le
          have hbl := hba.le
          refine WP.seq ?_
          refine WP.seq ?_
          refine WP.plain cf0 rfl ?_
          refine Run.mv rfl rfl rfl rfl ?_
          refine Run.mv rfl rfl rfl rfl ?_
          refine Run.call (Δ := []) (Θ := [slA 4 Enc.bool bv.val br, slA 31 Enc.slice (SV.val ⟨some ⟨b14, 0, none⟩, 64, 64⟩) (pr.map Prod.fst), rows 3 (Enc.int .i64) pr, slA 3 (Enc.int .i64) tv.val ts, keepB b16 false nilV nilV nilV bs bw, slA 26 Enc.slice bs.val (p.map Prod.fst), rows 4 Enc.bool p, slA 26 Enc.slice bw.val (q.map Prod.fst), rows 4 Enc.bool q, many Γk]) rfl rfl rfl rfl ok_19 rfl rfl (ent.refl _) (refTree_ok hR u to hu (by omega) (fun l h => by have := hrow l h; omega)) ?_; rintro _ _ ⟨tv2, ts2, rfl, hta2, rfl⟩
          have hts : ts2 = ts := hta2.unique hta
          subst hts
          refine Run.callLend (Δ := []) (Θ := [slA 3 (Enc.int .i64) tv2.val ts2, slA 3 (Enc.int .i64) tv.val ts2]) (Ξ := [slA 4 Enc.bool bv.val br, slA 31 Enc.slice (SV.val ⟨some ⟨b14, 0, none⟩, 64, 64⟩) (pr.map Prod.fst), rows 3 (Enc.int .i64) pr, keepB b16 false nilV nilV nilV bs bw, slA 26 Enc.slice bs.val (p.map Prod.fst), rows 4 Enc.bool p, slA 26 Enc.slice bw.val (q.map Prod.fst), rows 4 Enc.bool q, many Γk]) rfl rfl rfl rfl ok_18 rfl rfl (pick_only [0, 3, 0, 0, 0, 0, 0, 0, 0, 0, 0] _) (fun g hg hd => same_ok (un hR g) _ _ _ _ (lent_at 1 rfl hg hd) (lent_at 0 rfl hg hd) (by omega) (by omega)) ?_; rintro _ _ ⟨rfl, rfl⟩; refine Run.tt rfl ?_
          refine Run.bnotB rfl rfl rfl rfl ?_
          refine Run.mv rfl rfl rfl rfl ?_
          refine Run.mv rfl rfl rfl rfl ?_
          refine Run.mv rfl rfl rfl rfl ?_
          refine Run.call (Δ := []) (Θ := [slA 3 (Enc.int .i64) tv2.val ts2, slA 3 (Enc.int .i64) tv.val ts2, slA 4 Enc.bool bv.val br, slA 31 Enc.slice (SV.val ⟨some ⟨b14, 0, none⟩, 64, 64⟩) (pr.map Prod.fst), rows 3 (Enc.int .i64) pr, keepB b16 false nilV nilV nilV bs bw, slA 26 Enc.slice bs.val (p.map Prod.fst), rows 4 Enc.bool p, slA 26 Enc.slice bw.val (q.map Prod.fst), rows 4 Enc.bool q, many Γk]) rfl rfl rfl rfl ok_16 rfl rfl (ent.refl _) (refReach_ok hR u to hu (by omega) (fun l h => by have := hrow l h; omega)) ?_; rintro _ _ ⟨bv2, br2, rfl, hba2, rfl⟩
          have hbr : br2 = br := hba2.unique (sv' := bv) hba
          subst hbr
          refine Run.callLend (Δ := []) (Θ := [slA 4 Enc.bool bv2.val br2, slA 4 Enc.bool bv.val br2]) (Ξ := [slA 3 (Enc.int .i64) tv2.val ts2, slA 3 (Enc.int .i64) tv.val ts2, slA 31 Enc.slice (SV.val ⟨some ⟨b14, 0, none⟩, 64, 64⟩) (pr.map Prod.fst), rows 3 (Enc.int .i64) pr, keepB b16 false nilV nilV nilV bs bw, slA 26 Enc.slice bs.val (p.map Prod.fst), rows 4 Enc.bool p, slA 26 Enc.slice bw.val (q.map Prod.fst), rows 4 Enc.bool q, many Γk]) rfl rfl rfl rfl ok_15 rfl rfl (pick_only [0, 2, 0, 0, 0, 0, 0, 0, 0, 0, 0, 0] _) (fun g hg hd => alike_ok (un hR g) _ _ _ _ (lent_at 1 rfl hg hd) (lent_at 0 rfl hg hd) (by omega) (by omega)) ?_; rintro _ _ ⟨rfl, rfl⟩; refine Run.tt rfl ?_
          refine Run.bnotB rfl rfl rfl rfl ?_
          refine Run.pick rfl rfl rfl rfl rfl ?_
          refine Run.nil ?_
          refine thn_next ?_
          refine WP.cond (t := false) rfl (fun h => by cases h) (fun _ => ?_)
          refine WP.skip ?_; refine thn_next ?_
          refine WP.via (Γ' := (Γk ++ [slA 3 (Enc.int .i64) tv.val ts2]) ++ [slA 4 Enc.bool bv.val br2, slA 31 Enc.slice (SV.val ⟨some ⟨b14, 0, none⟩, 64, 64⟩) (pr.map Prod.fst), rows 3 (Enc.int .i64) pr, keepB b16 false nilV nilV nilV bs bw, slA 26 Enc.slice bs.val (p.map Prod.fst), rows 4 Enc.bool p, slA 26 Enc.slice bw.val (q.map Prod.fst), rows 4 Enc.bool q]) ?_ ?_
          · refine (pick_only [11, 3, 1, 2, 2, 2, 2, 2, 2, 2] _).trans ?_
            have h9 := many_out Γk [slA 3 (Enc.int .i64) tv.val ts2, slA 4 Enc.bool bv.val br2, slA 31 Enc.slice (SV.val ⟨some ⟨b14, 0, none⟩, 64, 64⟩) (pr.map Prod.fst), rows 3 (Enc.int .i64) pr, keepB b16 false nilV nilV nilV bs bw, slA 26 Enc.slice bs.val (p.map Prod.fst), rows 4 Enc.bool p, slA 26 Enc.slice bw.val (q.map Prod.fst), rows 4 Enc.bool q]
            have e9 : Γk ++ [slA 3 (Enc.int .i64) tv.val ts2, slA 4 Enc.bool bv.val br2, slA 31 Enc.slice (SV.val ⟨some ⟨b14, 0, none⟩, 64, 64⟩) (pr.map Prod.fst), rows 3 (Enc.int .i64) pr, keepB b16 false nilV nilV nilV bs bw, slA 26 Enc.slice bs.val (p.map Prod.fst), rows 4 Enc.bool p, slA 26 Enc.slice bw.val (q.map Prod.fst), rows 4 Enc.bool q] = (Γk ++ [slA 3 (Enc.int .i64) tv.val ts2]) ++ [slA 4 Enc.bool bv.val br2, slA 31 Enc.slice (SV.val ⟨some ⟨b14, 0, none⟩, 64, 64⟩) (pr.map Prod.fst), rows 3 (Enc.int .i64) pr, keepB b16 false nilV nilV nilV bs bw, slA 26 Enc.slice bs.val (p.map Prod.fst), rows 4 Enc.bool p, slA 26 Enc.slice bw.val (q.map Prod.fst), rows 4 Enc.bool q] := by simp
            rw [e9] at h9
            exact h9
          refine WP.seq ?_
          refine WP.plain cf0 rfl ?_
          refine Run.mv rfl rfl rfl rfl ?_
          refine Run.mv rfl rfl rfl rfl ?_
          refine Run.call (Δ := Γk ++ [slA 3 (Enc.int .i64) tv.val ts2]) (Θ := [slA 4 Enc.bool bv.val br2, slA 31 Enc.slice (SV.val ⟨some ⟨b14, 0, none⟩, 64, 64⟩) (pr.map Prod.fst), rows 3 (Enc.int .i64) pr, keepB b16 false nilV nilV nilV bs bw, slA 26 Enc.slice bs.val (p.map Prod.fst), rows 4 Enc.bool p, slA 26 Enc.slice bw.val (q.map Prod.fst), rows 4 Enc.bool q]) rfl rfl rfl rfl ok_30 rfl rfl (ent.refl _) (hput hR jk Γk tv ts2 hK (by omega) (by omega)) ?_; rintro _ Γ' hK'
          refine Run.nil ?_
          refine thn_next ?_
          refine WP.via (many_in Γ' _) ?_
          refine WP.plain cf0 rfl ?_
          refine Run.mv rfl rfl rfl rfl ?_
          refine Run.mv rfl rfl rfl rfl ?_
          refine Run.call (Δ := KB b16 nilV nilV nilV p q bs bw ++ [slA 4 Enc.bool bv.val br2]) (Θ := [many Γ', slA 31 Enc.slice (SV.val ⟨some ⟨b14, 0, none⟩, 64, 64⟩) (pr.map Prod.fst), rows 3 (Enc.int .i64) pr]) rfl rfl rfl rfl ok_31 rfl rfl (pick_only [4, 4, 4, 4, 4, 1, 0, 0, 0] _) (truth_ok hR b16 nilV nilV nilV bs bw bv p q br2 (by omega) (by omega) (by have := congrArg List.length hpq; simp at this; omega)) ?_; rintro _ _ ⟨cv, bs', bw', rfl⟩
          refine Run.nil ?_
          refine blk_norm ?_; refine thn_next ?_
          refine WP.plain cf0 rfl ?_
          refine Run.mv rfl rfl rfl rfl ?_
          refine Run.add64 rfl rfl rfl rfl rfl (by first | omega | (simp <;> omega)) (by first | omega | (simp <;> omega)) ?_
          refine Run.mv rfl rfl rfl rfl ?_
          refine Run.nil ?_
          refine thn_next ⟨(t + 1, jk + 1, p ++ [(bv, br2)], q ++ [(cv, br2)], bs', bw', Γ'), ⟨by simp only; omega, by simp only; omega, by simp [hpq], by simp; omega, fun sv xs h => ?_, hK'⟩, by simp only; omega, ⟨rfl, rfl, rfl, rfl, rfl, rfl, rfl, rfl, trivial⟩, pick_only [6, 6, 0, 0, 0, 0, 0, 0] _⟩
          rcases List.mem_append.1 h with h | h
          · exact hpx sv xs h
          · simp at h; obtain ⟨_, rfl⟩ := h; omega
        · refine WP.exit ?_; refine thn_exit ?_; refine thn_exit ?_; refine blk_hit ?_; refine blk_norm ?_
          exact thn_next ⟨(pr, jk, p, q, bs, bw, Γk), ⟨hprl, by simp only; omega, hpq, by simp only; omega, hpx, hK⟩, ⟨rfl, rfl, rfl, rfl, rfl, trivial⟩, ent.refl _⟩
      rintro ⟨pr2, jk2, p2, q2, bs2, bw2, Γ2⟩ ⟨w1, w2, w3, w4, w5, w6⟩
      refine WP.plain cf0 rfl ?_
      refine Run.mv rfl rfl rfl rfl ?_
      refine Run.add64 rfl rfl rfl rfl rfl (by first | omega | (simp <;> omega)) (by first | omega | (simp <;> omega)) ?_
      refine Run.mv rfl rfl rfl rfl ?_
      refine Run.nil ?_
      refine thn_next ⟨(i + 1, pr2, jk2, p2, q2, bs2, bw2, Γ2), ⟨hlt1, by simp only; omega, w1, w2, w3, w4, w5, w6⟩, by simp only; omega, ⟨rfl, rfl, rfl, rfl, rfl, trivial⟩, ent.refl _⟩
    · refine WP.exit ?_; refine thn_exit ?_; refine thn_exit ?_; refine blk_hit ?_
      refine thn_next ⟨(jk, p, q, bs, bw, Γk), ⟨by simp only; omega, hpq, by simp only; omega, hpx, hK⟩, ⟨rfl, rfl, trivial⟩, pick_only [2, 2, 2, 2, 2, 2] _⟩
  rintro ⟨jk, p, q, bs, bw, Γk⟩ ⟨hjk, hpq, hpl, hpx, hK⟩
  simp only at hjk hpq hpl hpx hK ⊢
  refine WP.seq ?_
  refine WP.plain cf0 rfl ?_
  refine Run.mv rfl rfl rfl rfl ?_
  refine Run.call (Δ := KB b16 nilV nilV nilV p q bs bw) (Θ := [many Γk]) rfl rfl rfl rfl ok_32 rfl rfl (ent.refl _) (truths_ok hR b16 nilV nilV nilV bs bw p q hpq (by omega) (fun sv xs h => by have := hpx sv xs h; omega)) ?_; rintro _ Γ1 rfl
  refine Run.mv rfl rfl rfl rfl ?_
  refine Run.via (ent.right _ _) ?_
  refine Run.via (Γ' := Γk) (by have := many_out Γk []; rwa [List.append_nil] at this) ?_
  refine Run.mv rfl rfl rfl rfl ?_
  refine Run.call (Δ := Γk) (Θ := []) rfl rfl rfl rfl ok_33 rfl rfl (by rw [List.append_nil]; exact ent.refl _) (hwhole hR jk Γk hK hjk) ?_; rintro _ Γ2 rfl
  refine Run.pick rfl rfl rfl rfl rfl ?_
  refine Run.mv rfl rfl rfl rfl ?_
  refine Run.nil ?_
  refine thn_next ?_
  refine WP.ret ?_
  exact retT [4] _ rfl rfl rfl
end Go.Proofs.Ytifpejpeophlbaa
