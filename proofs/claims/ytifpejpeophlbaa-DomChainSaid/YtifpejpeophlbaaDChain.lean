/- DomChain: the chain's tree, and the walk. -/
import Derived.Test.YtifpejpeophlbaaDNear
namespace Go.Proofs.Ytifpejpeophlbaa
open Go.Sep
set_option linter.unusedSimpArgs false
set_option linter.unusedVariables false
attribute [local irreducible] blk slA mp mpF rows rowsBut memL

def chainG (N : Nat) : Gr := (List.range N).map fun i => if i + 2 < N then [i + 1, N - 1] else if i + 2 = N then [0, N - 2] else []
def chainT (N : Nat) : List Int := (List.range N).map fun i => if i = 0 then -1 else if i + 1 = N then 0 else (i : Int) - 1
theorem chain_len (N : Nat) : (chainG N).length = N := by simp [chainG]
theorem chain_edge {N b c : Nat} : Edge (chainG N) b c ↔ (b + 2 < N ∧ (c = b + 1 ∨ c = N - 1)) ∨ (b + 2 = N ∧ (c = 0 ∨ c = N - 2)) := by
  unfold Edge chainG
  constructor
  · rintro ⟨l, h1, h2⟩
    have hb : b < N := by have := (List.getElem?_eq_some_iff.1 h1).1; simpa using this
    simp [hb] at h1
    subst h1
    by_cases e : b + 2 < N
    · rw [if_pos e] at h2; simp at h2; exact .inl ⟨e, h2⟩
    · rw [if_neg e] at h2
      by_cases e2 : b + 2 = N
      · rw [if_pos e2] at h2; simp at h2; exact .inr ⟨e2, h2⟩
      · rw [if_neg e2] at h2; cases h2
  · rintro (⟨h1, h2⟩ | ⟨h1, h2⟩)
    · refine ⟨[b + 1, N - 1], ?_, by simpa using h2⟩
      rw [List.getElem?_map, List.getElem?_range (by omega)]; simp [h1]
    · refine ⟨[0, N - 2], ?_, by simpa using h2⟩
      rw [List.getElem?_map, List.getElem?_range (by omega)]; simp [h1]
theorem chain_good {N : Nat} (h : 4 ≤ N) : GoodN (chainG N) := by
  refine ⟨by rw [chain_len]; omega, fun l hl c hc => ?_⟩
  obtain ⟨b, hb⟩ := List.getElem?_of_mem hl
  have := chain_edge.1 ⟨l, hb, hc⟩
  rw [chain_len]; omega
theorem chain_all {N : Nat} (h : 4 ≤ N) : ∀ b, b < N → RA (chainG N) (-1) b := by
  have low : ∀ b, b + 1 < N → RA (chainG N) (-1) b := fun b => by
    induction b with
    | zero => exact fun _ => .start (by decide)
    | succ b ih => exact fun hb => .step (ih (by omega)) (chain_edge.2 (.inl ⟨by omega, .inl rfl⟩)) (by omega)
  intro b hb
  by_cases e : b + 1 < N
  · exact low b e
  · exact .step (low 0 (by omega)) (chain_edge.2 (.inl ⟨by omega, .inr (by omega)⟩)) (by omega)
theorem chain_no0 {N : Nat} {b : Nat} : ¬ RA (chainG N) ((0 : Nat) : Int) b := fun h => h.sub (S := fun _ => False) (fun h => h rfl) fun _ _ h _ _ => h
theorem chain_tree {N : Nat} (h : 4 ≤ N) : IsTree (chainG N) (chainT N) := by
  have get : ∀ b, b < N → (chainT N)[b]? = some (if b = 0 then -1 else if b + 1 = N then 0 else (b : Int) - 1) := fun b hb => by simp [chainT, hb]
  refine ⟨by simp [chainT, chainG], fun b hb hno => ?_, fun b h0 hr => ?_⟩
  · rw [chain_len] at hb
    rcases hno with rfl | hno
    · rw [get 0 hb]; simp
    · exact absurd (chain_all h b hb) hno
  · have hb : b < N := by have := hr.lt (chain_good h); rwa [chain_len] at this
    by_cases e : b + 1 = N
    · refine ⟨0, by rw [get b hb, if_neg h0, if_pos e]; rfl, Ne.symm h0, chain_all h 0 (by omega), chain_no0, fun a ha hne hn hx => hn (.step hx (chain_edge.2 (.inl ⟨by omega, .inr (by omega)⟩)) (by omega))⟩
    · refine ⟨b - 1, by rw [get b hb, if_neg h0, if_neg e]; congr 1; omega, by omega, chain_all h _ (by omega), fun hr => ?_, fun a ha hne hn hx => hn (.step hx (chain_edge.2 (.inl ⟨by omega, .inl (by omega)⟩)) (by omega))⟩
      have := hr.sub (S := fun x => x + 1 < b ∨ x + 1 = N) (fun h => .inl (by omega)) fun x c hx he hne => by
        have := chain_edge.1 he
        omega
      omega

set_option maxHeartbeats 1000000 in
set_option maxRecDepth 100000 in
theorem domChain_ok (hR : Heap) (many : Int) : Tri Try.prog hR 8 #[.int .i64 many] [] fun u Γ' => u = .bool true ∧ Γ' = [] := by
  refine Tri.of (args := [.int .i64 many]) Try.func8 rfl Try.ntmps8 (by simp) ?_
  refine WP.seq ?_
  refine WP.plain cf0 rfl ?_
  refine Run.mv rfl rfl rfl rfl ?_
  refine Run.nil ?_
  refine thn_next ?_
  refine WP.seq ?_
  refine WP.plain cf0 rfl ?_
  refine Run.call (Δ := []) (Θ := []) rfl rfl rfl rfl ok_11 rfl rfl (ent.refl _) (alive_ok hR) ?_; rintro _ _ ⟨rfl, rfl⟩
  refine Run.mv rfl rfl rfl rfl ?_
  refine Run.nil ?_
  refine thn_next ?_
  refine WP.seq ?_
  refine WP.seqCut [(0, .int .i64 many), (3, .bool true), (14, .bool (decide (many < 4 ∨ many > 1000)))] [] ?_ ?_
  · refine WP.plain cf0 rfl ?_
    all_goals (first | refine Run.mv rfl rfl rfl rfl ?_)
    all_goals (first | refine Run.int2 rfl rfl rfl rfl rfl rfl ?_)
    all_goals (first | refine Run.tt (by first | assumption | omega) ?_ | refine Run.ff (by first | assumption | omega) ?_ | refine Run.split (fun hc10 => ?_) (fun hc10 => ?_) | refine Run.splitB (fun hc10 => ?_) (fun hc10 => ?_) | skip)
    all_goals (first | refine Run.mv rfl rfl rfl rfl ?_)
    all_goals (first | refine Run.not rfl rfl ?_ | refine Run.mv rfl rfl rfl rfl ?_)
    all_goals (first | refine Run.not rfl rfl ?_ | refine Run.int2 rfl rfl rfl rfl rfl rfl ?_)
    all_goals (first | refine Run.pick rfl rfl rfl rfl rfl ?_)
    all_goals (refine Run.nil ?_)
    all_goals refine thn_next ⟨⟨rfl, rfl, ?_, trivial⟩, ent.refl _⟩
    all_goals simp [Env.get, *]
  refine WP.ite rfl (fun hbig => ?_) (fun hsm => ?_)
  · refine WP.seq ?_
    refine WP.plain cf0 rfl ?_
    refine Run.mv rfl rfl rfl rfl ?_
    refine Run.mv rfl rfl rfl rfl ?_
    refine Run.nil ?_
    refine thn_next ?_
    refine WP.ret ?_; refine thn_ret ?_
    exact retT [2] _ rfl rfl ⟨rfl, rfl⟩
  refine WP.skip ?_; refine thn_next ?_
  obtain ⟨N, rfl⟩ : ∃ N : Nat, many = (N : Int) := ⟨many.toNat, by omega⟩
  have h4 : 4 ≤ N := by omega
  have h1000 : N ≤ 1000 := by omega
  refine WP.seq ?_
  refine WP.plain cf0 rfl ?_
  refine Run.mv rfl rfl rfl rfl ?_
  refine Run.makeSlice (E := Enc.slice) ((⟨none, 0, 0⟩ : SV)) rfl rfl rfl sl_22 zr_31 rfl rfl rfl (by first | omega | (simp <;> omega)) (by first | omega | (simp <;> omega)) (by first | omega | (simp <;> omega)) (by first | omega | (simp <;> omega)) ?_
  intro b17
  refine Run.mv rfl rfl rfl rfl ?_
  refine Run.nil ?_
  refine thn_next ?_
  obtain ⟨ov, hov⟩ : ∃ x : SV, x = ⟨some ⟨b17, 0, none⟩, N, N⟩ := ⟨_, rfl⟩
  refine WP.seqMeet (α := List (SV × List Int)) (fun p => p.length = N ∧ ∀ k, k < N → ∃ sv, p[k]? = some (sv, if k + 2 < N then [(k : Int) + 1, (N : Int) - 1] else [])) (fun _ => [(0, .int .i64 (N : Int)), (3, .bool true), (4, ov.val)]) (fun p => [slA 31 Enc.slice ov.val (p.map Prod.fst), rows 3 (Enc.int .i64) p]) ?_ ?_
  · refine WP.seq ?_
    refine WP.plain cf0 rfl ?_
    refine Run.mv rfl rfl rfl rfl ?_
    refine Run.nil ?_
    refine thn_next ?_
    refine WP.block ?_
    refine WP.loop (α := Nat × List (SV × List Int)) (fun z => z.1 + 2 ≤ N ∧ z.2.length = N ∧ ∀ k, k < N → ∃ sv, z.2[k]? = some (sv, if k < z.1 then [(k : Int) + 1, (N : Int) - 1] else [])) (fun z => [(0, .int .i64 (N : Int)), (3, .bool true), (4, ov.val), (5, .int .i64 (z.1 : Int))])
      (fun z => [slA 31 Enc.slice ov.val (z.2.map Prod.fst), rows 3 (Enc.int .i64) z.2]) (fun z => N - z.1) (0, List.replicate N ((⟨none, 0, 0⟩ : SV), ([] : List Int))) ⟨by omega, by simp, fun k hk => ⟨⟨none, 0, 0⟩, by simp [hk]⟩⟩ ⟨rfl, rfl, by rw [hov]; rfl, rfl, trivial⟩ ?_ ?_
    · have e : (List.replicate N ((⟨none, 0, 0⟩ : SV), ([] : List Int))).map Prod.fst = List.replicate N ⟨none, 0, 0⟩ := by simp
      simp only [e]
      rw [hov]
      exact (rows_nils (T := 3) (E := Enc.int .i64) _ N).trans (pick_only [1, 0] _)
    clear hov
    rintro ⟨i, p⟩ ⟨hi, hpl, hp⟩
    simp only at hi hpl hp ⊢
    refine WP.seq ?_
    refine WP.seq ?_
    refine WP.plain cf0 rfl ?_
    refine Run.mv rfl rfl rfl rfl ?_
    refine Run.add64 rfl rfl rfl rfl rfl (by first | omega | (simp <;> omega)) (by first | omega | (simp <;> omega)) ?_
    refine Run.mv rfl rfl rfl rfl ?_
    refine Run.int2 rfl rfl rfl rfl rfl rfl ?_
    refine Run.nil ?_
    refine thn_next ?_
    refine WP.ite rfl (fun hlt => ?_) (fun hge => ?_)
    · refine WP.skip ?_; refine thn_next ?_
      have hlt' : i + 2 < N := by omega
      obtain ⟨sv0, gp⟩ := hp i (by omega)
      have gp1 : (p.map Prod.fst)[i]? = some sv0 := by simp [gp]
      have hpm : (p.map Prod.fst).length = N := by simp [hpl]
      refine WP.seq ?_
      refine WP.block ?_
      refine WP.plain cf0 rfl ?_
      refine Run.mv rfl rfl rfl rfl ?_
      refine Run.mv rfl rfl rfl rfl ?_
      refine Run.mv rfl rfl rfl rfl ?_
      refine Run.add64 rfl rfl rfl rfl rfl (by first | omega | (simp <;> omega)) (by first | omega | (simp <;> omega)) ?_
      refine Run.mv rfl rfl rfl rfl ?_
      refine Run.sub64 rfl rfl rfl rfl rfl (by first | omega | (simp <;> omega)) (by first | omega | (simp <;> omega)) ?_
      refine Run.buildSlice (E := (Enc.int .i64)) rfl sl_31 zr_3 ([(i : Int) + 1, (N : Int) - 1]) rfl rfl rfl (by decide) rfl rfl ?_
      intro b30
      refine Run.idxO 0 rfl rfl rfl sl_22 rfl rfl rfl rfl (by omega) (by omega) ?_
      refine Run.storeO 0 i 0 (y' := (⟨some ⟨b30, 0, none⟩, 2, 2⟩ : SV)) rfl rfl rfl rfl ag_31 rfl rfl rfl rfl gp1 rfl rfl ?_
      refine Run.nil ?_
      refine blk_norm ?_; refine thn_next ?_
      refine WP.plain cf0 rfl ?_
      refine Run.mv rfl rfl rfl rfl ?_
      refine Run.add64 rfl rfl rfl rfl rfl (by first | omega | (simp <;> omega)) (by first | omega | (simp <;> omega)) ?_
      refine Run.mv rfl rfl rfl rfl ?_
      refine Run.nil ?_
      refine thn_next ⟨(i + 1, p.set i (⟨some ⟨b30, 0, none⟩, 2, 2⟩, [(i : Int) + 1, (N : Int) - 1])), ⟨by simp only; omega, by simp [hpl], fun k hk => ?_⟩, by simp only; omega, ⟨rfl, rfl, rfl, rfl, trivial⟩, ?_⟩
      · by_cases e : k = i
        · subst e; exact ⟨⟨some ⟨b30, 0, none⟩, 2, 2⟩, by rw [List.getElem?_set_self (by omega)]; simp⟩
        · obtain ⟨sv, h1⟩ := hp k hk
          refine ⟨sv, ?_⟩
          rw [List.getElem?_set_ne (Ne.symm e), h1]
          by_cases e2 : k < i
          · rw [if_pos e2, if_pos (by simp only; omega)]
          · rw [if_neg e2, if_neg (by simp only; omega)]
      · simp only [List.map_set]
        exact (pick_only [1, 0, 0] _).trans ((rows_out gp _).trans ((pick_only [3, 1, 1] _).trans ((rows_in (sv := ⟨some ⟨b30, 0, none⟩, 2, 2⟩) (xs := [(i : Int) + 1, (N : Int) - 1]) (show i < p.length by omega) _).trans (pick_only [1, 0] _))))
    · refine WP.exit ?_; refine thn_exit ?_; refine thn_exit ?_; refine blk_hit ?_
      refine thn_next ⟨p, ⟨hpl, fun k hk => ?_⟩, ⟨rfl, rfl, rfl, trivial⟩, ent.refl _⟩
      obtain ⟨sv, h1⟩ := hp k hk
      refine ⟨sv, ?_⟩
      rw [h1]
      by_cases e2 : k < i
      · rw [if_pos e2, if_pos (by omega)]
      · rw [if_neg e2, if_neg (by omega)]
  clear hov
  rintro p ⟨hpl, hp⟩
  obtain ⟨sv0, gp⟩ := hp (N - 2) (by omega)
  have gp1 : (p.map Prod.fst)[N - 2]? = some sv0 := by simp [gp]
  have hpm : (p.map Prod.fst).length = N := by simp [hpl]
  have eN : ((N : Int) - 2).toNat = N - 2 := by omega
  refine WP.seq ?_
  refine WP.plain cf0 rfl ?_
  refine Run.mv rfl rfl rfl rfl ?_
  refine Run.mv rfl rfl rfl rfl ?_
  refine Run.sub64 rfl rfl rfl rfl rfl (by first | omega | (simp <;> omega)) (by first | omega | (simp <;> omega)) ?_
  refine Run.mv rfl rfl rfl rfl ?_
  refine Run.sub64 rfl rfl rfl rfl rfl (by first | omega | (simp <;> omega)) (by first | omega | (simp <;> omega)) ?_
  refine Run.buildSlice (E := (Enc.int .i64)) rfl sl_31 zr_3 ([0, (N : Int) - 2]) rfl rfl rfl (by decide) rfl rfl ?_
  intro b37
  refine Run.idxO 0 rfl rfl rfl sl_22 rfl rfl rfl rfl (by omega) (by omega) ?_; refine Run.eqv (v' := .pointer (some (elemAddr ov.val ((N - 2) * 1)))) (by rw [eN]; rfl) ?_
  refine Run.storeO 0 (N - 2) 0 (y' := (⟨some ⟨b37, 0, none⟩, 2, 2⟩ : SV)) rfl rfl rfl rfl ag_31 rfl rfl rfl rfl gp1 rfl rfl ?_
  refine Run.nil ?_
  refine thn_next ?_
  obtain ⟨q, hq⟩ : ∃ q, q = p.set (N - 2) ((⟨some ⟨b37, 0, none⟩, 2, 2⟩ : SV), [(0 : Int), (N : Int) - 2]) := ⟨_, rfl⟩
  refine WP.via (Γ' := [slA 31 Enc.slice ov.val (q.map Prod.fst), rows 3 (Enc.int .i64) q]) ?_ ?_
  · rw [hq]
    simp only [List.map_set]
    exact (pick_only [1, 0, 0] _).trans ((rows_out gp _).trans ((pick_only [3, 1, 1] _).trans ((rows_in (sv := ⟨some ⟨b37, 0, none⟩, 2, 2⟩) (xs := [(0 : Int), (N : Int) - 2]) (show N - 2 < p.length by omega) _).trans (pick_only [1, 0] _))))
  have hqs : q.map Prod.snd = (chainG N).map toI := by
    refine List.ext_getElem? fun k => ?_
    by_cases hk : k < N
    · rw [List.getElem?_map, List.getElem?_map, hq]
      unfold chainG
      rw [List.getElem?_map, List.getElem?_range hk]
      by_cases e : k = N - 2
      · subst e
        rw [List.getElem?_set_self (by omega)]
        have e1 : ¬ (N - 2 + 2 < N) := by omega
        have e2 : N - 2 + 2 = N := by omega
        simp [e1, e2, toI]; omega
      · rw [List.getElem?_set_ne (Ne.symm e)]
        obtain ⟨sv, h1⟩ := hp k hk
        rw [h1]
        by_cases e1 : k + 2 < N
        · simp [e1, toI]; omega
        · have e2 : ¬ (k + 2 = N) := by omega
          simp [e1, e2, toI]
    · rw [List.getElem?_eq_none (by simp [hq, hpl]; omega), List.getElem?_eq_none (by simp [chainG]; omega)]
  clear hq
  have hgn := chain_good h4
  have hclen := chain_len N
  refine WP.seq ?_
  refine WP.plain cf0 rfl ?_
  refine Run.mv rfl rfl rfl rfl ?_
  refine Run.callLend (Δ := []) (Θ := [slA 31 Enc.slice ov.val (q.map Prod.fst), rows 3 (Enc.int .i64) q]) (Ξ := []) rfl rfl rfl rfl ok_17 rfl rfl (ent.refl _) (fun g hg hd => tree_ok (un hR g) _ ((chainG N).map toI) 2 (by rw [← hqs]; exact lent_rows 0 1 rfl rfl hg hd) (by simp [hclen]; omega) ?_ (by decide) (by simp [hclen]; omega)) ?_
  · intro l hl
    obtain ⟨m, hm, rfl⟩ := List.mem_map.1 hl
    rw [toI_len]
    obtain ⟨b, hb⟩ := List.getElem?_of_mem hm
    have hbN : b < N := by have := (List.getElem?_eq_some_iff.1 hb).1; rwa [hclen] at this
    unfold chainG at hb
    rw [List.getElem?_map, List.getElem?_range hbN] at hb
    simp at hb; subst hb
    split
    · simp
    · split <;> simp
  rintro _ _ ⟨tv, ts, rfl, hans, rfl⟩
  refine Run.mv rfl rfl rfl rfl ?_
  refine Run.nil ?_
  refine thn_next ?_
  have hts : ts = chainT N := hans.unique (.inr ⟨chainG N, rfl, hgn, chain_tree h4⟩)
  subst hts
  have ht := chain_tree h4
  have htl : (chainT N).length = N := by simp [chainT]
  have get : ∀ b, b < N → (chainT N)[b]? = some (if b = 0 then -1 else if b + 1 = N then 0 else (b : Int) - 1) := fun b hb => by simp [chainT, hb]
  have g0 : (chainT N)[0]? = some (-1) := by rw [get 0 (by omega)]; simp
  have gl : (chainT N)[N - 1]? = some 0 := by rw [get _ (by omega), if_neg (by omega), if_pos (by omega)]
  have eN1 : ((N : Int) - 1).toNat = N - 1 := by omega
  refine WP.via (pick_only [0] _) ?_
  refine WP.seq ?_
  refine WP.seqCut [(0, .int .i64 (N : Int)), (3, .bool true), (6, tv.val), (58, .bool false)] [slA 3 (Enc.int .i64) tv.val (chainT N)] ?_ ?_
  · refine WP.plain cf0 rfl ?_
    all_goals (first | refine Run.mv rfl rfl rfl rfl ?_)
    all_goals (first | refine Run.lenO 0 rfl rfl sl_31 rfl rfl rfl ?_)
    all_goals (first | refine Run.mv rfl rfl rfl rfl ?_)
    all_goals (first | refine Run.int2 rfl rfl rfl rfl rfl rfl ?_)
    all_goals (first | refine Run.tt (by first | assumption | omega) ?_ | refine Run.ff (by first | assumption | omega) ?_ | refine Run.split (fun hc44 => ?_) (fun hc44 => ?_) | refine Run.splitB (fun hc44 => ?_) (fun hc44 => ?_) | skip)
    all_goals (first | refine Run.mv rfl rfl rfl rfl ?_)
    all_goals (first | refine Run.not rfl rfl ?_ | refine Run.mv rfl rfl rfl rfl ?_)
    all_goals (first | refine Run.not rfl rfl ?_ | refine Run.idxO 0 rfl rfl rfl sl_31 rfl rfl rfl rfl (by omega) (by omega) ?_)
    all_goals (first | refine Run.not rfl rfl ?_ | refine Run.loadO 0 0 0 rfl rfl ag_3 rfl rfl rfl rfl g0 rfl ?_)
    all_goals (first | refine Run.not rfl rfl ?_ | refine Run.int2 rfl rfl rfl rfl rfl rfl ?_; refine Run.eqv (v' := .bool false) rfl ?_)
    all_goals (first | refine Run.pick rfl rfl rfl rfl rfl ?_)
    all_goals (first | refine Run.mv rfl rfl rfl rfl ?_)
    all_goals (first | refine Run.not rfl rfl ?_ | refine Run.mv rfl rfl rfl rfl ?_)
    all_goals (first | refine Run.not rfl rfl ?_ | refine Run.mv rfl rfl rfl rfl ?_)
    all_goals (first | refine Run.not rfl rfl ?_ | refine Run.sub64 rfl rfl rfl rfl rfl (by first | omega | (simp <;> omega)) (by first | omega | (simp <;> omega)) ?_)
    all_goals (first | refine Run.not rfl rfl ?_ | refine Run.idxO 0 rfl rfl rfl sl_31 rfl rfl rfl rfl (by omega) (by omega) ?_; refine Run.eqv (v' := .pointer (some (elemAddr tv.val ((N - 1) * 1)))) (by rw [eN1]; rfl) ?_)
    all_goals (first | refine Run.not rfl rfl ?_ | refine Run.loadO 0 (N - 1) 0 rfl rfl ag_3 rfl rfl rfl rfl gl rfl ?_)
    all_goals (first | refine Run.not rfl rfl ?_ | refine Run.int2 rfl rfl rfl rfl rfl rfl ?_; refine Run.eqv (v' := .bool false) rfl ?_)
    all_goals (first | refine Run.pick rfl rfl rfl rfl rfl ?_)
    all_goals (refine Run.nil ?_)
    all_goals refine thn_next ⟨⟨rfl, rfl, rfl, rfl, trivial⟩, ent.refl _⟩
  refine WP.cond (t := false) rfl (fun h => by cases h) (fun _ => ?_)
  refine WP.skip ?_; refine thn_next ?_
  refine WP.seqMeet (α := Unit) (fun _ => True) (fun _ => [(0, .int .i64 (N : Int)), (3, .bool true), (6, tv.val)]) (fun _ => [slA 3 (Enc.int .i64) tv.val (chainT N)]) ?_ ?_
  · refine WP.seq ?_
    refine WP.plain cf0 rfl ?_
    refine Run.mv rfl rfl rfl rfl ?_
    refine Run.nil ?_
    refine thn_next ?_
    refine WP.block ?_
    refine WP.loop (α := Nat) (fun i => 1 ≤ i ∧ i + 1 ≤ N) (fun i => [(0, .int .i64 (N : Int)), (3, .bool true), (6, tv.val), (7, .int .i64 (i : Int))]) (fun _ => [slA 3 (Enc.int .i64) tv.val (chainT N)]) (fun i => N - i) 1 ⟨Nat.le_refl _, by omega⟩ ⟨rfl, rfl, rfl, rfl, trivial⟩ (ent.refl _) ?_
    rintro i ⟨hi1, hi2⟩
    refine WP.seq ?_
    refine WP.seq ?_
    refine WP.plain cf0 rfl ?_
    refine Run.mv rfl rfl rfl rfl ?_
    refine Run.mv rfl rfl rfl rfl ?_
    refine Run.sub64 rfl rfl rfl rfl rfl (by first | omega | (simp <;> omega)) (by first | omega | (simp <;> omega)) ?_
    refine Run.int2 rfl rfl rfl rfl rfl rfl ?_
    refine Run.nil ?_
    refine thn_next ?_
    refine WP.ite rfl (fun hlt => ?_) (fun hge => ?_)
    · refine WP.skip ?_; refine thn_next ?_
      have gi : (chainT N)[i]? = some ((i : Int) - 1) := by rw [get i (by omega), if_neg (by omega), if_neg (by omega)]
      refine WP.seq ?_
      refine WP.block ?_
      refine WP.seq ?_
      refine WP.plain cf0 rfl ?_
      refine Run.mv rfl rfl rfl rfl ?_
      refine Run.mv rfl rfl rfl rfl ?_
      refine Run.idxO 0 rfl rfl rfl sl_31 rfl rfl rfl rfl (by omega) (by omega) ?_
      refine Run.loadO 0 i 0 rfl rfl ag_3 rfl rfl rfl rfl gi rfl ?_
      refine Run.mv rfl rfl rfl rfl ?_
      refine Run.sub64 rfl rfl rfl rfl rfl (by first | omega | (simp <;> omega)) (by first | omega | (simp <;> omega)) ?_
      refine Run.int2 rfl rfl rfl rfl rfl rfl ?_
      refine Run.nil ?_
      refine thn_next ?_
      refine WP.ite rfl (fun h => absurd rfl h) (fun _ => ?_)
      refine WP.skip ?_; refine blk_norm ?_; refine thn_next ?_
      refine WP.plain cf0 rfl ?_
      refine Run.mv rfl rfl rfl rfl ?_
      refine Run.add64 rfl rfl rfl rfl rfl (by first | omega | (simp <;> omega)) (by first | omega | (simp <;> omega)) ?_
      refine Run.mv rfl rfl rfl rfl ?_
      refine Run.nil ?_
      refine thn_next ⟨i + 1, ⟨by omega, by omega⟩, by omega, ⟨rfl, rfl, rfl, rfl, trivial⟩, ent.refl _⟩
    · refine WP.exit ?_; refine thn_exit ?_; refine thn_exit ?_; refine blk_hit ?_
      refine thn_next ⟨(), trivial, ⟨rfl, rfl, rfl, trivial⟩, ent.refl _⟩
  rintro _ _
  have eN2 : (N : Int) - 2 = ((N - 2 : Nat) : Int) := by omega
  have eN3 : (N : Int) - 1 = ((N - 1 : Nat) : Int) := by omega
  have o1 : overL (chainT N) 0 ((N : Int) - 2) = true := by rw [eN2]; exact (overL_tree hgn ht (A := 0) (chain_all h4 0 (by omega)) (chain_all h4 (N - 2) (by omega))).2 chain_no0
  have o2 : overL (chainT N) 1 ((N : Int) - 1) = false := by
    rw [eN3]
    cases hq : overL (chainT N) 1 ((N - 1 : Nat) : Int) with
    | false => rfl
    | true =>
      refine absurd ?_ ((overL_tree hgn ht (A := 1) (chain_all h4 1 (by omega)) (chain_all h4 (N - 1) (by omega))).1 hq)
      exact .step (.start (by decide)) (chain_edge.2 (.inl ⟨by omega, .inr rfl⟩)) (by omega)
  have o3 : overL (chainT N) ((N : Int) - 2) 1 = false := by
    rw [eN2]
    cases hq : overL (chainT N) ((N - 2 : Nat) : Int) 1 with
    | false => rfl
    | true =>
      refine absurd ?_ ((overL_tree hgn ht (A := N - 2) (b := 1) (chain_all h4 (N - 2) (by omega)) (chain_all h4 1 (by omega))).1 hq)
      exact .step (.start (by omega)) (chain_edge.2 (.inl ⟨by omega, .inl rfl⟩)) (by omega)
  refine WP.seq ?_
  refine WP.plain cf0 rfl ?_
  refine Run.mv rfl rfl rfl rfl ?_
  refine Run.mv rfl rfl rfl rfl ?_
  refine Run.mv rfl rfl rfl rfl ?_
  refine Run.mv rfl rfl rfl rfl ?_
  refine Run.sub64 rfl rfl rfl rfl rfl (by first | omega | (simp <;> omega)) (by first | omega | (simp <;> omega)) ?_
  refine Run.callLend (Δ := []) (Θ := [slA 3 (Enc.int .i64) tv.val (chainT N)]) (Ξ := []) rfl rfl rfl rfl ok_20 rfl rfl (ent.refl _) (fun g hg hd => over_ok (un hR g) _ _ 0 ((N : Int) - 2) (lent_at 0 rfl hg hd) (by omega)) ?_; rintro _ _ ⟨rfl, rfl⟩; refine Run.eqv (v' := .bool true) (by rw [o1]) ?_
  refine Run.pick rfl rfl rfl rfl rfl ?_
  refine Run.mv rfl rfl rfl rfl ?_
  refine Run.mv rfl rfl rfl rfl ?_
  refine Run.mv rfl rfl rfl rfl ?_
  refine Run.sub64 rfl rfl rfl rfl rfl (by first | omega | (simp <;> omega)) (by first | omega | (simp <;> omega)) ?_
  refine Run.callLend (Δ := []) (Θ := [slA 3 (Enc.int .i64) tv.val (chainT N)]) (Ξ := []) rfl rfl rfl rfl ok_20 rfl rfl (ent.refl _) (fun g hg hd => over_ok (un hR g) _ _ 1 ((N : Int) - 1) (lent_at 0 rfl hg hd) (by omega)) ?_; rintro _ _ ⟨rfl, rfl⟩; refine Run.eqv (v' := .bool false) (by rw [o2]) ?_
  refine Run.bnotB rfl rfl rfl rfl ?_
  refine Run.pick rfl rfl rfl rfl rfl ?_
  refine Run.mv rfl rfl rfl rfl ?_
  refine Run.mv rfl rfl rfl rfl ?_
  refine Run.mv rfl rfl rfl rfl ?_
  refine Run.sub64 rfl rfl rfl rfl rfl (by first | omega | (simp <;> omega)) (by first | omega | (simp <;> omega)) ?_
  refine Run.callLend (Δ := []) (Θ := [slA 3 (Enc.int .i64) tv.val (chainT N)]) (Ξ := []) rfl rfl rfl rfl ok_20 rfl rfl (ent.refl _) (fun g hg hd => over_ok (un hR g) _ _ ((N : Int) - 2) 1 (lent_at 0 rfl hg hd) (by omega)) ?_; rintro _ _ ⟨rfl, rfl⟩; refine Run.eqv (v' := .bool false) (by rw [o3]) ?_
  refine Run.bnotB rfl rfl rfl rfl ?_
  refine Run.pick rfl rfl rfl rfl rfl ?_
  refine Run.mv rfl rfl rfl rfl ?_
  refine Run.nil ?_
  refine thn_next ?_
  refine WP.via (pick_only [] _) ?_
  refine WP.ret ?_
  exact retT [2] _ rfl rfl ⟨rfl, rfl⟩
end Go.Proofs.Ytifpejpeophlbaa
