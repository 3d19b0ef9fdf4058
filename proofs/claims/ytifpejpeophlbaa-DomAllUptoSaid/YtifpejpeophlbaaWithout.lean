/- Which blocks are met with one taken out: the document's, and the law's own; walked. -/
import Derived.Test.YtifpejpeophlbaaLent
namespace Go.Proofs.Ytifpejpeophlbaa
open Go.Sep
set_option linter.unusedSimpArgs false
set_option linter.unusedVariables false
attribute [local irreducible] blk slA mp mpF rows rowsBut

def cfL (bs : List Bool) : Nat := (bs.map fun b => if b then 0 else 1).sum
theorem cfL_set {bs : List Bool} {c : Nat} (h : bs[c]? = some false) : cfL (bs.set c true) + 1 = cfL bs := by
  have := sum_set (bs.map fun b => if b then 0 else 1) c 0 1 (by simp [h])
  unfold cfL
  rw [List.map_set]
  simp only [if_true]; omega
theorem cfL_new : ∀ n, cfL (List.replicate n false) = n
  | 0 => rfl
  | n + 1 => by have := cfL_new n; unfold cfL at *; simp [List.replicate_succ] at *; omega

structure BInv (tn : Gr) (out : Int) (bs : List Bool) (work : List Nat) : Prop where
  len : bs.length = tn.length
  zero : out ≠ 0 → bs[0]? = some true
  reach : ∀ b, bs[b]? = some true → RA tn out b
  inw : ∀ b ∈ work, bs[b]? = some true
  closed : ∀ b, bs[b]? = some true → b ∈ work ∨ ∀ c, Edge tn b c → (c : Int) ≠ out → bs[c]? = some true
structure BMid (tn : Gr) (out : Int) (bs : List Bool) (work : List Nat) (b : Nat) (l : List Nat) (k : Nat) : Prop where
  len : bs.length = tn.length
  zero : out ≠ 0 → bs[0]? = some true
  reach : ∀ b, bs[b]? = some true → RA tn out b
  inw : ∀ b ∈ work, bs[b]? = some true
  closed : ∀ x, bs[x]? = some true → x ∈ work ∨ x = b ∨ ∀ c, Edge tn x c → (c : Int) ≠ out → bs[c]? = some true
  here : bs[b]? = some true
  first : ∀ (j c : Nat), j < k → l[j]? = some c → (c : Int) ≠ out → bs[c]? = some true
section
variable {tn : Gr} {out : Int} {bs : List Bool} {work : List Nat} {b : Nat} {l : List Nat} {k : Nat}
theorem BInv.into (h : BInv tn out bs (b :: work)) : BMid tn out bs work b l 0 :=
  ⟨h.len, h.zero, h.reach, fun x hx => h.inw x (by simp [hx]), fun x hx => by
    rcases h.closed x hx with h1 | h1
    · rcases List.mem_cons.1 h1 with h1 | h1
      · exact .inr (.inl h1)
      · exact .inl h1
    · exact .inr (.inr h1), h.inw b (by simp), fun j c hj => by omega⟩
theorem BMid.next (h : BMid tn out bs work b l k) {c : Nat} (hc : l[k]? = some c) (hs : (c : Int) ≠ out → bs[c]? = some true) : BMid tn out bs work b l (k + 1) :=
  ⟨h.len, h.zero, h.reach, h.inw, h.closed, h.here, fun j x hj hx hne => by
    by_cases e : j = k
    · subst e; rw [hc] at hx; cases hx; exact hs hne
    · exact h.first j x (by omega) hx hne⟩
theorem BMid.push (hg : GoodN tn) (h : BMid tn out bs work b l k) (hl : tn[b]? = some l) {c : Nat} (hc : l[k]? = some c) (hne : (c : Int) ≠ out) : BMid tn out (bs.set c true) (work ++ [c]) b l (k + 1) := by
  have he : Edge tn b c := ⟨l, hl, List.mem_of_getElem? hc⟩
  have hcn : c < bs.length := by rw [h.len]; exact he.lt hg
  have up : ∀ x, bs[x]? = some true → (bs.set c true)[x]? = some true := fun x hx => by
    by_cases e : x = c
    · subst e; exact List.getElem?_set_self hcn
    · rw [List.getElem?_set_ne (Ne.symm e)]; exact hx
  have dn : ∀ x, (bs.set c true)[x]? = some true → x = c ∨ bs[x]? = some true := fun x hx => by
    by_cases e : x = c
    · exact .inl e
    · rw [List.getElem?_set_ne (Ne.symm e)] at hx; exact .inr hx
  refine ⟨by simp [h.len], fun h0 => up 0 (h.zero h0), fun x hx => ?_, fun x hx => ?_, fun x hx => ?_, up b h.here, fun j x hj hx hnx => ?_⟩
  · rcases dn x hx with rfl | hx
    · exact .step (h.reach b h.here) he hne
    · exact h.reach x hx
  · rcases List.mem_append.1 hx with hx | hx
    · exact up x (h.inw x hx)
    · simp at hx; subst hx; exact List.getElem?_set_self hcn
  · rcases dn x hx with rfl | hx
    · exact .inl (by simp)
    · rcases h.closed x hx with h1 | h1 | h1
      · exact .inl (by simp [h1])
      · exact .inr (.inl h1)
      · exact .inr (.inr fun y hy hny => up y (h1 y hy hny))
  · by_cases e : j = k
    · subst e; rw [hc] at hx; cases hx; exact List.getElem?_set_self hcn
    · exact up x (h.first j x (by omega) hx hnx)
theorem BMid.done (h : BMid tn out bs work b l k) (hl : tn[b]? = some l) (hk : l.length ≤ k) : BInv tn out bs work :=
  ⟨h.len, h.zero, h.reach, h.inw, fun x hx => by
    rcases h.closed x hx with h1 | h1 | h1
    · exact .inl h1
    · subst h1
      refine .inr fun c hc hne => ?_
      obtain ⟨l', h2, h3⟩ := hc
      rw [hl] at h2; cases h2
      obtain ⟨j, hj⟩ := List.getElem?_of_mem h3
      exact h.first j c (by have := (List.getElem?_eq_some_iff.1 hj).1; omega) hj hne
    · exact .inr h1⟩
theorem BInv.met (h : BInv tn out bs []) : MetOf tn out bs :=
  ⟨h.len, fun b => ⟨h.reach b, fun hr => hr.sub (S := fun b => bs[b]? = some true) h.zero fun x c hx he hne => ((h.closed x hx).resolve_left (by simp)) c he hne⟩⟩
theorem BInv.start (hg : GoodN tn) (h0 : out ≠ 0) : BInv tn out ((List.replicate tn.length false).set 0 true) [0] := by
  have hp := hg.pos
  have dn : ∀ x, ((List.replicate tn.length false).set 0 true)[x]? = some true → x = 0 := fun x hx => by
    by_cases e : x = 0
    · exact e
    · rw [List.getElem?_set_ne (Ne.symm e), List.getElem?_replicate] at hx; split at hx <;> cases hx
  refine ⟨by simp, fun _ => List.getElem?_set_self (by simpa using hp), fun b hb => ?_, fun b hb => ?_, fun b hb => ?_⟩
  · rw [dn b hb]; exact .start h0
  · simp at hb; subst hb; exact List.getElem?_set_self (by simpa using hp)
  · rw [dn b hb]; exact .inl (by simp)
theorem MetOf.zero : MetOf tn 0 (List.replicate tn.length false) :=
  ⟨by simp, fun b => ⟨fun h => (by rw [List.getElem?_replicate] at h; split at h <;> cases h), fun h => (h.sub (S := fun _ => False) (fun h => h rfl) fun _ _ h _ _ => h).elim⟩⟩
end

set_option maxRecDepth 100000 in
theorem without_ok (hR : Heap) (v : Value) (tn : Gr) (out : Int) (hg : GoodN tn) (hl : SlR Enc.nat.rd.slice hR v tn) (hlen : tn.length ≤ 1000000000) (hrow : ∀ l ∈ tn, l.length ≤ 1000000000000) :
    Tri Try.prog hR 28 #[v, .int .i64 out] [] fun u Γ' => ∃ (sv : SV) (bs : List Bool), u = sv.val ∧ MetOf tn out bs ∧ Γ' = [slA 4 Enc.bool sv.val bs] := by
  refine Tri.of (args := [v, .int .i64 out]) Try.func28 rfl Try.ntmps28 (by simp) ?_
  have hpos := hg.pos
  refine WP.seq ?_
  refine WP.plain cf0 rfl ?_
  refine Run.mv rfl rfl rfl rfl ?_
  refine Run.nil ?_
  refine thn_next ?_
  refine WP.seq ?_
  refine WP.plain cf0 rfl ?_
  refine Run.mv rfl rfl rfl rfl ?_
  refine Run.lenR rfl rfl sl_22 rfl rfl (by assumption) ?_
  refine Run.makeSlice (E := Enc.bool) (false) rfl rfl rfl sl_26 zr_4 rfl rfl rfl (by first | omega | (simp <;> omega)) (by first | omega | (simp <;> omega)) (by first | omega | (simp <;> omega)) (by first | omega | (simp <;> omega)) ?_
  intro b12
  refine Run.mv rfl rfl rfl rfl ?_
  refine Run.nil ?_
  refine thn_next ?_
  obtain ⟨mv, hmv⟩ : ∃ x : SV, x = ⟨some ⟨b12, 0, none⟩, tn.length, tn.length⟩ := ⟨_, rfl⟩
  refine WP.weaken (ρ' := [(0, v), (1, .int .i64 out), (5, mv.val)]) (Γ' := [slA 4 Enc.bool mv.val (List.replicate tn.length false)]) ⟨rfl, rfl, by rw [hmv]; rfl, trivial⟩ (by rw [hmv]; exact ent.refl _) ?_
  clear hmv
  refine WP.seq ?_
  refine WP.seq ?_
  refine WP.plain cf0 rfl ?_
  refine Run.mv rfl rfl rfl rfl ?_
  refine Run.int2 rfl rfl rfl rfl rfl rfl ?_
  refine Run.nil ?_
  refine thn_next ?_
  refine WP.ite rfl (fun h0 => ?_) (fun h0 => ?_)
  · refine WP.seq ?_
    refine WP.plain cf0 rfl ?_
    refine Run.mv rfl rfl rfl rfl ?_
    refine Run.mv rfl rfl rfl rfl ?_
    refine Run.nil ?_
    refine thn_next ?_
    refine WP.ret ?_; refine thn_ret ?_
    subst h0
    exact retT [4] _ rfl rfl ⟨mv, _, rfl, MetOf.zero, rfl⟩
  refine WP.skip ?_; refine thn_next ?_
  have hrl : (List.replicate tn.length false).length = tn.length := by simp
  have g0 : (List.replicate tn.length false)[0]? = some false := by simp [hpos]
  refine WP.seq ?_
  refine WP.plain cf0 rfl ?_
  refine Run.mv rfl rfl rfl rfl ?_
  refine Run.idxO 0 rfl rfl rfl sl_26 rfl rfl rfl rfl (by omega) (by omega) ?_
  refine Run.storeO 0 0 0 (y' := true) rfl rfl rfl rfl ag_4 rfl rfl rfl rfl g0 rfl rfl ?_
  refine Run.nil ?_
  refine thn_next ?_
  refine WP.seq ?_
  refine WP.plain cf0 rfl ?_
  refine Run.buildSlice (E := Enc.nat) rfl sl_31 zr_3 ([0]) rfl rfl rfl (by decide) rfl rfl ?_
  intro b18
  refine Run.mv rfl rfl rfl rfl ?_
  refine Run.nil ?_
  refine thn_next ?_
  have hcf := cfL_set g0
  rw [cfL_new] at hcf
  refine WP.seqMeet (α := List Bool) (fun bs => MetOf tn out bs) (fun _ => [(5, mv.val)]) (fun bs => [slA 4 Enc.bool mv.val bs]) ?_ ?_
  · refine WP.block ?_
    refine WP.loop (α := List Bool × List Nat × SV) (fun z => BInv tn out z.1 z.2.1 ∧ cfL z.1 + z.2.1.length ≤ tn.length) (fun z => [(0, v), (1, .int .i64 out), (5, mv.val), (6, z.2.2.val)])
      (fun z => [slA 4 Enc.bool mv.val z.1, slA 3 Enc.nat z.2.2.val z.2.1]) (fun z => 2 * cfL z.1 + z.2.1.length) (_, [0], ⟨some ⟨b18, 0, none⟩, 1, 1⟩) ⟨BInv.start hg h0, by simp only [List.length_singleton]; omega⟩ ⟨rfl, rfl, rfl, rfl, trivial⟩ (ent.refl _) ?_
    rintro ⟨bs, work, wv⟩ ⟨hI, hcl⟩
    simp only at hI hcl ⊢
    refine WP.seq ?_
    refine WP.seq ?_
    refine WP.plain cf0 rfl ?_
    refine Run.mv rfl rfl rfl rfl ?_
    refine Run.lenO 1 rfl rfl sl_31 rfl rfl rfl ?_
    refine Run.int2 rfl rfl rfl rfl rfl rfl ?_
    refine Run.nil ?_
    refine thn_next ?_
    refine WP.ite rfl (fun hlt => ?_) (fun hge => ?_)
    · refine WP.skip ?_; refine thn_next ?_
      cases work with
      | nil => simp at hlt
      | cons b work =>
      have hbm := hI.inw b (by simp)
      have hbn : b < tn.length := (hI.reach b hbm).lt hg
      obtain ⟨l, gl⟩ : ∃ x, tn[b]? = some x := ⟨_, List.getElem?_eq_getElem hbn⟩
      obtain ⟨u, gu, hu⟩ := hl.rowV gl
      have gu' : cellH hR (elemAddr v ((b : Int).toNat * 1)) u := gu
      have hll := hrow l (List.mem_of_getElem? gl)
      have hwl : (b :: work).length = work.length + 1 := rfl
      have gw : (b :: work)[0]? = some b := rfl
      refine WP.know (slA_know 1 rfl) fun hkn => ?_
      refine WP.block ?_
      refine WP.seq ?_
      refine WP.plain cf0 rfl ?_
      refine Run.mv rfl rfl rfl rfl ?_
      refine Run.idxO 1 rfl rfl rfl sl_31 rfl rfl rfl rfl (by omega) (by omega) ?_
      refine Run.loadO 1 0 0 rfl rfl ag_3 rfl rfl rfl rfl gw rfl ?_
      refine Run.mv rfl rfl rfl rfl ?_
      refine Run.nil ?_
      refine thn_next ?_
      refine WP.seq ?_
      refine WP.plain cf0 rfl ?_
      refine Run.mv rfl rfl rfl rfl ?_
      refine Run.sliceO 1 (il := 1) (ih := ((b :: work).length : Int)) rfl rfl rfl sl_31 rfl rfl rfl rfl (by omega) (by omega) (by omega) ?_
      refine Run.mv rfl rfl rfl rfl ?_
      refine Run.nil ?_
      refine thn_next ?_
      refine WP.weaken (ρ' := [(0, v), (1, .int .i64 out), (5, mv.val), (6, (wv.cut 1 1 (b :: work).length).val), (7, .int .i64 (b : Int))]) (Γ' := [slA 4 Enc.bool mv.val bs, slA 3 Enc.nat (wv.cut 1 1 (b :: work).length).val work]) ⟨rfl, rfl, rfl, rfl, rfl, trivial⟩ ?_ ?_
      · have e : ((b :: work).take ((b :: work).length : Int).toNat).drop (1 : Int).toNat = work := by
          have : ((b :: work).length : Int).toNat = (b :: work).length := by omega
          rw [this, List.take_length]; rfl
        rw [e]; exact ent.refl _
      generalize wv.cut 1 1 (b :: work).length = wv1
      refine WP.seq ?_
      refine WP.plain cf0 rfl ?_
      refine Run.mv rfl rfl rfl rfl ?_
      refine Run.nil ?_
      refine thn_next ?_
      refine WP.block ?_
      refine WP.loop (α := Nat × List Bool × List Nat × SV) (fun z => z.1 ≤ l.length ∧ BMid tn out z.2.1 z.2.2.1 b l z.1 ∧ cfL z.2.1 + z.2.2.1.length ≤ tn.length ∧ 2 * cfL z.2.1 + z.2.2.1.length ≤ 2 * cfL bs + work.length) (fun z => [(0, v), (1, .int .i64 out), (5, mv.val), (6, z.2.2.2.val), (7, .int .i64 (b : Int)), (8, .int .i64 (z.1 : Int))])
        (fun z => [slA 4 Enc.bool mv.val z.2.1, slA 3 Enc.nat z.2.2.2.val z.2.2.1]) (fun z => l.length - z.1) (0, bs, work, wv1) ⟨Nat.zero_le _, hI.into, by simp only; omega, Nat.le_refl _⟩ ⟨rfl, rfl, rfl, rfl, rfl, rfl, trivial⟩ (ent.refl _) ?_
      rintro ⟨k, bs2, work2, wv2⟩ ⟨hk, hM, hcl2, hms⟩
      simp only at hk hM hcl2 hms ⊢
      refine WP.seq ?_
      refine WP.seq ?_
      refine WP.plain cf0 rfl ?_
      refine Run.mv rfl rfl rfl rfl ?_
      refine Run.mv rfl rfl rfl rfl ?_
      refine Run.mv rfl rfl rfl rfl ?_
      refine Run.idxR rfl rfl rfl sl_22 rfl rfl hl (by rfl) (by omega) (by omega) ?_
      refine Run.loadR rfl rfl ag_31 rfl rfl gu' ?_
      refine Run.lenR rfl rfl sl_31 rfl rfl hu ?_
      refine Run.int2 rfl rfl rfl rfl rfl rfl ?_
      refine Run.nil ?_
      refine thn_next ?_
      refine WP.ite rfl (fun hlt2 => ?_) (fun hge2 => ?_)
      · refine WP.skip ?_; refine thn_next ?_
        have hkl : k < l.length := by omega
        obtain ⟨c, gc⟩ : ∃ x, l[k]? = some x := ⟨_, List.getElem?_eq_getElem hkl⟩
        have gc' : l[(k : Int).toNat]? = some c := gc
        have hcn : c < tn.length := hg.lt l (List.mem_of_getElem? gl) c (List.mem_of_getElem? gc)
        have hbl2 := hM.len
        obtain ⟨y, gy⟩ : ∃ x, bs2[c]? = some x := ⟨_, List.getElem?_eq_getElem (by omega)⟩
        refine WP.seqMeet (α := List Bool × List Nat × SV) (fun z => BMid tn out z.1 z.2.1 b l (k + 1) ∧ cfL z.1 + z.2.1.length ≤ tn.length ∧ 2 * cfL z.1 + z.2.1.length ≤ 2 * cfL bs + work.length) (fun z => [(0, v), (1, .int .i64 out), (5, mv.val), (6, z.2.2.val), (7, .int .i64 (b : Int)), (8, .int .i64 (k : Int))])
          (fun z => [slA 4 Enc.bool mv.val z.1, slA 3 Enc.nat z.2.2.val z.2.1]) ?_ ?_
        · refine WP.block ?_
          refine WP.seq ?_
          refine WP.plain cf0 rfl ?_
          refine Run.mv rfl rfl rfl rfl ?_
          refine Run.mv rfl rfl rfl rfl ?_
          refine Run.idxR rfl rfl rfl sl_22 rfl rfl hl (by rfl) (by omega) (by omega) ?_
          refine Run.loadR rfl rfl ag_31 rfl rfl gu' ?_
          refine Run.mv rfl rfl rfl rfl ?_
          refine Run.idxR rfl rfl rfl sl_31 rfl rfl hu (by rfl) (by omega) (by omega) ?_
          refine Run.loadR rfl rfl ag_3 rfl rfl (SlR.cell0 hu gc' rfl) ?_
          refine Run.mv rfl rfl rfl rfl ?_
          refine Run.nil ?_
          refine thn_next ?_
          refine WP.seqCut [(0, v), (1, .int .i64 out), (5, mv.val), (6, wv2.val), (7, .int .i64 (b : Int)), (8, .int .i64 (k : Int)), (9, .int .i64 (c : Int)), (52, .bool (decide ((c : Int) ≠ out ∧ y = false)))] [slA 4 Enc.bool mv.val bs2, slA 3 Enc.nat wv2.val work2] ?_ ?_
          · refine WP.plain cf0 rfl ?_
            all_goals (first | refine Run.mv rfl rfl rfl rfl ?_)
            all_goals (first | refine Run.mv rfl rfl rfl rfl ?_)
            all_goals (first | refine Run.int2 rfl rfl rfl rfl rfl rfl ?_)
            all_goals (first | refine Run.tt (by first | assumption | omega) ?_ | refine Run.ff (by first | assumption | omega) ?_ | refine Run.split (fun hc45 => ?_) (fun hc45 => ?_) | refine Run.splitB (fun hc45 => ?_) (fun hc45 => ?_) | skip)
            all_goals (first | refine Run.mv rfl rfl rfl rfl ?_)
            all_goals (first | refine Run.not rfl rfl ?_ | refine Run.mv rfl rfl rfl rfl ?_)
            all_goals (first | refine Run.not rfl rfl ?_ | refine Run.mv rfl rfl rfl rfl ?_)
            all_goals (first | refine Run.not rfl rfl ?_ | refine Run.idxO 0 rfl rfl rfl sl_26 rfl rfl rfl rfl (by omega) (by omega) ?_)
            all_goals (first | refine Run.not rfl rfl ?_ | refine Run.loadO 0 c 0 rfl rfl ag_4 rfl rfl rfl rfl gy rfl ?_)
            all_goals (first | refine Run.not rfl rfl ?_ | refine Run.bnotB rfl rfl rfl rfl ?_)
            all_goals (first | refine Run.pick rfl rfl rfl rfl rfl ?_)
            all_goals (refine Run.nil ?_)
            all_goals refine thn_next ⟨⟨rfl, rfl, rfl, rfl, rfl, rfl, rfl, ?_, trivial⟩, ent.refl _⟩
            all_goals simp [Env.get, *]
          refine WP.ite rfl (fun hc2 => ?_) (fun hc2 => ?_)
          · obtain ⟨hne, rfl⟩ := hc2
            have hcf2 := cfL_set gy
            refine WP.seq ?_
            refine WP.plain cf0 rfl ?_
            refine Run.mv rfl rfl rfl rfl ?_
            refine Run.mv rfl rfl rfl rfl ?_
            refine Run.idxO 0 rfl rfl rfl sl_26 rfl rfl rfl rfl (by omega) (by omega) ?_
            refine Run.storeO 0 c 0 (y' := true) rfl rfl rfl rfl ag_4 rfl rfl rfl rfl gy rfl rfl ?_
            refine Run.nil ?_
            refine thn_next ?_
            refine WP.plain cf0 rfl ?_
            refine Run.mv rfl rfl rfl rfl ?_
            refine Run.mv rfl rfl rfl rfl ?_
            refine Run.buildSlice (E := Enc.nat) rfl sl_31 zr_3 ([c]) rfl rfl rfl (by decide) rfl rfl ?_
            intro b58
            refine Run.append 1 rfl rfl rfl rfl rfl rfl sl_31 zr_3 rfl (src_own 2 rfl) (by first | omega | (simp <;> omega)) (by first | omega | (simp <;> omega)) ?_
            intro sv59 hv59
            refine Run.mv rfl rfl rfl rfl ?_
            refine Run.nil ?_
            refine blk_norm ?_
            have hap : (work2 ++ [c]).length = work2.length + 1 := by simp
            refine thn_next ⟨(bs2.set c true, work2 ++ [c], sv59), ⟨hM.push hg gl gc hne, by simp only; omega, by simp only; omega⟩, ⟨rfl, rfl, rfl, rfl, rfl, rfl, trivial⟩, pick_only [0, 0] _⟩
          · refine WP.skip ?_; refine blk_norm ?_
            refine thn_next ⟨(bs2, work2, wv2), ⟨hM.next gc fun hne => ?_, hcl2, hms⟩, ⟨rfl, rfl, rfl, rfl, rfl, rfl, trivial⟩, ent.refl _⟩
            cases y with
            | true => exact gy
            | false => exact absurd ⟨hne, rfl⟩ hc2
        rintro ⟨bs3, work3, wv3⟩ ⟨hM3, hcl3, hms3⟩
        refine WP.plain cf0 rfl ?_
        refine Run.mv rfl rfl rfl rfl ?_
        refine Run.add64 rfl rfl rfl rfl rfl (by first | omega | (simp <;> omega)) (by first | omega | (simp <;> omega)) ?_
        refine Run.mv rfl rfl rfl rfl ?_
        refine Run.nil ?_
        refine thn_next ⟨(k + 1, bs3, work3, wv3), ⟨hkl, hM3, hcl3, hms3⟩, by simp only; omega, ⟨rfl, rfl, rfl, rfl, rfl, rfl, trivial⟩, ent.refl _⟩
      · refine WP.exit ?_; refine thn_exit ?_; refine thn_exit ?_; refine blk_hit ?_; refine blk_norm ?_
        refine thn_next ⟨(bs2, work2, wv2), ⟨hM.done gl (by omega), hcl2⟩, by simp only [hwl]; omega, ⟨rfl, rfl, rfl, rfl, trivial⟩, ent.refl _⟩
    · refine WP.exit ?_; refine thn_exit ?_; refine thn_exit ?_; refine blk_hit ?_
      have e : work = [] := by cases work with
        | nil => rfl
        | cons x w => exact absurd (by simp <;> omega) hge
      subst e
      refine thn_next ⟨bs, hI.met, ⟨rfl, trivial⟩, pick_only [0] _⟩
  rintro bs hbs
  refine WP.seq ?_
  refine WP.plain cf0 rfl ?_
  refine Run.mv rfl rfl rfl rfl ?_
  refine Run.mv rfl rfl rfl rfl ?_
  refine Run.nil ?_
  refine thn_next ?_
  refine WP.ret ?_
  exact retT [4] _ rfl rfl ⟨mv, bs, rfl, hbs, rfl⟩

set_option maxRecDepth 100000 in
theorem cut_ok (hR : Heap) (v : Value) (tn : Gr) (out : Int) (hg : GoodN tn) (hl : SlR Enc.nat.rd.slice hR v tn) (hlen : tn.length ≤ 1000000000) (hrow : ∀ l ∈ tn, l.length ≤ 1000000000000) :
    Tri Try.prog hR 23 #[v, .int .i64 out] [] fun u Γ' => ∃ (sv : SV) (bs : List Bool), u = sv.val ∧ MetOf tn out bs ∧ Γ' = [slA 4 Enc.bool sv.val bs] := by
  refine Tri.of (args := [v, .int .i64 out]) Try.func23 rfl Try.ntmps23 (by simp) ?_
  have hpos := hg.pos
  refine WP.seq ?_
  refine WP.plain cf0 rfl ?_
  refine Run.mv rfl rfl rfl rfl ?_
  refine Run.nil ?_
  refine thn_next ?_
  refine WP.seq ?_
  refine WP.plain cf0 rfl ?_
  refine Run.mv rfl rfl rfl rfl ?_
  refine Run.lenR rfl rfl sl_22 rfl rfl (by assumption) ?_
  refine Run.makeSlice (E := Enc.bool) (false) rfl rfl rfl sl_26 zr_4 rfl rfl rfl (by first | omega | (simp <;> omega)) (by first | omega | (simp <;> omega)) (by first | omega | (simp <;> omega)) (by first | omega | (simp <;> omega)) ?_
  intro b12
  refine Run.mv rfl rfl rfl rfl ?_
  refine Run.nil ?_
  refine thn_next ?_
  obtain ⟨mv, hmv⟩ : ∃ x : SV, x = ⟨some ⟨b12, 0, none⟩, tn.length, tn.length⟩ := ⟨_, rfl⟩
  refine WP.weaken (ρ' := [(0, v), (1, .int .i64 out), (5, mv.val)]) (Γ' := [slA 4 Enc.bool mv.val (List.replicate tn.length false)]) ⟨rfl, rfl, by rw [hmv]; rfl, trivial⟩ (by rw [hmv]; exact ent.refl _) ?_
  clear hmv
  refine WP.seq ?_
  refine WP.plain cf0 rfl ?_
  refine Run.mv rfl rfl rfl rfl ?_
  refine Run.nil ?_
  refine thn_next ?_
  have hrl : (List.replicate tn.length false).length = tn.length := by simp
  have g0 : (List.replicate tn.length false)[0]? = some false := by simp [hpos]
  have hcf := cfL_set g0
  rw [cfL_new] at hcf
  refine WP.seqMeet (α := List Bool × List Nat × SV) (fun z => (BInv tn out z.1 z.2.1 ∨ (out = 0 ∧ z.2.1 = [] ∧ z.1 = List.replicate tn.length false)) ∧ cfL z.1 + z.2.1.length = tn.length) (fun z => [(0, v), (1, .int .i64 out), (5, mv.val), (6, z.2.2.val)])
    (fun z => [slA 4 Enc.bool mv.val z.1, slA 3 Enc.nat z.2.2.val z.2.1]) ?_ ?_
  · refine WP.seq ?_
    refine WP.plain cf0 rfl ?_
    refine Run.mv rfl rfl rfl rfl ?_
    refine Run.int2 rfl rfl rfl rfl rfl rfl ?_
    refine Run.nil ?_
    refine thn_next ?_
    refine WP.ite rfl (fun h0 => ?_) (fun h0 => ?_)
    · refine WP.seq ?_
      refine WP.plain cf0 rfl ?_
      refine Run.mv rfl rfl rfl rfl ?_
      refine Run.idxO 0 rfl rfl rfl sl_26 rfl rfl rfl rfl (by omega) (by omega) ?_
      refine Run.storeO 0 0 0 (y' := true) rfl rfl rfl rfl ag_4 rfl rfl rfl rfl g0 rfl rfl ?_
      refine Run.nil ?_
      refine thn_next ?_
      refine WP.plain cf0 rfl ?_
      refine Run.buildSlice (E := Enc.nat) rfl sl_31 zr_3 ([0]) rfl rfl rfl (by decide) rfl rfl ?_
      intro b17
      refine Run.mv rfl rfl rfl rfl ?_
      refine Run.nil ?_
      refine thn_next ⟨(_, [0], ⟨some ⟨b17, 0, none⟩, 1, 1⟩), ⟨.inl (BInv.start hg h0), by simp only [List.length_singleton]; omega⟩, ⟨rfl, rfl, rfl, rfl, trivial⟩, ent.refl _⟩
    · refine WP.skip ?_
      refine thn_next ⟨(_, [], ⟨none, 0, 0⟩), ⟨.inr ⟨Classical.not_not.1 h0, rfl, rfl⟩, by simp only [cfL_new]; rfl⟩, ⟨rfl, rfl, rfl, rfl, trivial⟩, slA_nil 3 Enc.nat _⟩
  rintro ⟨bs0, l0, lv0⟩ ⟨hor, hc0⟩
  simp only at hor hc0 ⊢
  refine WP.seqMeet (α := List Bool) (fun bs => MetOf tn out bs) (fun _ => [(5, mv.val)]) (fun bs => [slA 4 Enc.bool mv.val bs]) ?_ ?_
  · refine WP.seq ?_
    refine WP.plain cf0 rfl ?_
    refine Run.mv rfl rfl rfl rfl ?_
    refine Run.nil ?_
    refine thn_next ?_
    refine WP.block ?_
    refine WP.loop (α := Nat × List Bool × List Nat × SV) (fun z => z.1 ≤ z.2.2.1.length ∧ (BInv tn out z.2.1 (z.2.2.1.drop z.1) ∨ (out = 0 ∧ z.2.2.1 = [] ∧ z.2.1 = List.replicate tn.length false)) ∧ cfL z.2.1 + z.2.2.1.length = tn.length) (fun z => [(0, v), (1, .int .i64 out), (5, mv.val), (6, z.2.2.2.val), (7, .int .i64 (z.1 : Int))])
      (fun z => [slA 4 Enc.bool mv.val z.2.1, slA 3 Enc.nat z.2.2.2.val z.2.2.1]) (fun z => tn.length - z.1) (0, bs0, l0, lv0) ⟨Nat.zero_le _, hor, hc0⟩ ⟨rfl, rfl, rfl, rfl, rfl, trivial⟩ (ent.refl _) ?_
    rintro ⟨i, bs, L, wv⟩ ⟨hi, hI, hcl⟩
    simp only at hi hI hcl ⊢
    refine WP.seq ?_
    refine WP.seq ?_
    refine WP.plain cf0 rfl ?_
    refine Run.mv rfl rfl rfl rfl ?_
    refine Run.mv rfl rfl rfl rfl ?_
    refine Run.lenO 1 rfl rfl sl_31 rfl rfl rfl ?_
    refine Run.int2 rfl rfl rfl rfl rfl rfl ?_
    refine Run.nil ?_
    refine thn_next ?_
    refine WP.ite rfl (fun hlt => ?_) (fun hge => ?_)
    · refine WP.skip ?_; refine thn_next ?_
      have hiL : i < L.length := by omega
      obtain ⟨b, gb⟩ : ∃ x, L[i]? = some x := ⟨_, List.getElem?_eq_getElem hiL⟩
      have hdr : L.drop i = b :: L.drop (i + 1) := by rw [List.drop_eq_getElem_cons hiL]; congr 1; rw [List.getElem?_eq_getElem hiL] at gb; cases gb; rfl
      have hI2 : BInv tn out bs (b :: L.drop (i + 1)) := by
        rw [← hdr]
        rcases hI with h | ⟨_, h, _⟩
        · exact h
        · rw [h] at hiL; simp at hiL
      have hbm := hI2.inw b (by simp)
      have hbn : b < tn.length := (hI2.reach b hbm).lt hg
      obtain ⟨l, gl⟩ : ∃ x, tn[b]? = some x := ⟨_, List.getElem?_eq_getElem hbn⟩
      obtain ⟨u, gu, hu⟩ := hl.rowV gl
      have gu' : cellH hR (elemAddr v ((b : Int).toNat * 1)) u := gu
      have hll := hrow l (List.mem_of_getElem? gl)
      refine WP.seqMeet (α := List Bool × List Nat × SV) (fun z => i + 1 ≤ z.2.1.length ∧ BInv tn out z.1 (z.2.1.drop (i + 1)) ∧ cfL z.1 + z.2.1.length = tn.length) (fun z => [(0, v), (1, .int .i64 out), (5, mv.val), (6, z.2.2.val), (7, .int .i64 (i : Int))])
        (fun z => [slA 4 Enc.bool mv.val z.1, slA 3 Enc.nat z.2.2.val z.2.1]) ?_ ?_
      · refine WP.block ?_
        refine WP.seq ?_
        refine WP.plain cf0 rfl ?_
        refine Run.mv rfl rfl rfl rfl ?_
        refine Run.mv rfl rfl rfl rfl ?_
        refine Run.mv rfl rfl rfl rfl ?_
        refine Run.idxO 1 rfl rfl rfl sl_31 rfl rfl rfl rfl (by omega) (by omega) ?_
        refine Run.loadO 1 i 0 rfl rfl ag_3 rfl rfl rfl rfl gb rfl ?_
        refine Run.idxR rfl rfl rfl sl_22 rfl rfl hl (by rfl) (by omega) (by omega) ?_
        refine Run.loadR rfl rfl ag_31 rfl rfl gu' ?_
        refine Run.mv rfl rfl rfl rfl ?_
        refine Run.nil ?_
        refine thn_next ?_
        refine WP.seq ?_
        refine WP.plain cf0 rfl ?_
        refine Run.mv rfl rfl rfl rfl ?_
        refine Run.nil ?_
        refine thn_next ?_
        refine WP.block ?_
        refine WP.loop (α := Nat × List Bool × List Nat × SV) (fun z => z.1 ≤ l.length ∧ i + 1 ≤ z.2.2.1.length ∧ BMid tn out z.2.1 (z.2.2.1.drop (i + 1)) b l z.1 ∧ cfL z.2.1 + z.2.2.1.length = tn.length) (fun z => [(0, v), (1, .int .i64 out), (5, mv.val), (6, z.2.2.2.val), (7, .int .i64 (i : Int)), (8, u), (9, .int .i64 (z.1 : Int))])
          (fun z => [slA 4 Enc.bool mv.val z.2.1, slA 3 Enc.nat z.2.2.2.val z.2.2.1]) (fun z => l.length - z.1) (0, bs, L, wv) ⟨Nat.zero_le _, hiL, hI2.into, hcl⟩ ⟨rfl, rfl, rfl, rfl, rfl, rfl, rfl, trivial⟩ (ent.refl _) ?_
        rintro ⟨k, bs2, L2, wv2⟩ ⟨hk, hiL2, hM, hcl2⟩
        simp only at hk hiL2 hM hcl2 ⊢
        refine WP.seq ?_
        refine WP.seq ?_
        refine WP.plain cf0 rfl ?_
        refine Run.mv rfl rfl rfl rfl ?_
        refine Run.mv rfl rfl rfl rfl ?_
        refine Run.lenR rfl rfl sl_31 rfl rfl hu ?_
        refine Run.int2 rfl rfl rfl rfl rfl rfl ?_
        refine Run.nil ?_
        refine thn_next ?_
        refine WP.ite rfl (fun hlt2 => ?_) (fun hge2 => ?_)
        · refine WP.skip ?_; refine thn_next ?_
          have hkl : k < l.length := by omega
          obtain ⟨c, gc⟩ : ∃ x, l[k]? = some x := ⟨_, List.getElem?_eq_getElem hkl⟩
          have gc' : l[(k : Int).toNat]? = some c := gc
          have hcn : c < tn.length := hg.lt l (List.mem_of_getElem? gl) c (List.mem_of_getElem? gc)
          have hbl2 := hM.len
          obtain ⟨y, gy⟩ : ∃ x, bs2[c]? = some x := ⟨_, List.getElem?_eq_getElem (by omega)⟩
          refine WP.seqMeet (α := List Bool × List Nat × SV) (fun z => i + 1 ≤ z.2.1.length ∧ BMid tn out z.1 (z.2.1.drop (i + 1)) b l (k + 1) ∧ cfL z.1 + z.2.1.length = tn.length) (fun z => [(0, v), (1, .int .i64 out), (5, mv.val), (6, z.2.2.val), (7, .int .i64 (i : Int)), (8, u), (9, .int .i64 (k : Int))])
            (fun z => [slA 4 Enc.bool mv.val z.1, slA 3 Enc.nat z.2.2.val z.2.1]) ?_ ?_
          · refine WP.block ?_
            refine WP.seqCut [(0, v), (1, .int .i64 out), (5, mv.val), (6, wv2.val), (7, .int .i64 (i : Int)), (8, u), (9, .int .i64 (k : Int)), (52, .bool (decide ((c : Int) ≠ out ∧ y = false)))] [slA 4 Enc.bool mv.val bs2, slA 3 Enc.nat wv2.val L2] ?_ ?_
            · refine WP.plain cf0 rfl ?_
              all_goals (first | refine Run.mv rfl rfl rfl rfl ?_)
              all_goals (first | refine Run.mv rfl rfl rfl rfl ?_)
              all_goals (first | refine Run.idxR rfl rfl rfl sl_31 rfl rfl hu (by rfl) (by omega) (by omega) ?_)
              all_goals (first | refine Run.loadR rfl rfl ag_3 rfl rfl (SlR.cell0 hu gc' rfl) ?_)
              all_goals (first | refine Run.mv rfl rfl rfl rfl ?_)
              all_goals (first | refine Run.int2 rfl rfl rfl rfl rfl rfl ?_)
              all_goals (first | refine Run.tt (by first | assumption | omega) ?_ | refine Run.ff (by first | assumption | omega) ?_ | refine Run.split (fun hc42 => ?_) (fun hc42 => ?_) | refine Run.splitB (fun hc42 => ?_) (fun hc42 => ?_) | skip)
              all_goals (first | refine Run.mv rfl rfl rfl rfl ?_)
              all_goals (first | refine Run.not rfl rfl ?_ | refine Run.mv rfl rfl rfl rfl ?_)
              all_goals (first | refine Run.not rfl rfl ?_ | refine Run.mv rfl rfl rfl rfl ?_)
              all_goals (first | refine Run.not rfl rfl ?_ | refine Run.mv rfl rfl rfl rfl ?_)
              all_goals (first | refine Run.not rfl rfl ?_ | refine Run.idxR rfl rfl rfl sl_31 rfl rfl hu (by rfl) (by omega) (by omega) ?_)
              all_goals (first | refine Run.not rfl rfl ?_ | refine Run.loadR rfl rfl ag_3 rfl rfl (SlR.cell0 hu gc' rfl) ?_)
              all_goals (first | refine Run.not rfl rfl ?_ | refine Run.idxO 0 rfl rfl rfl sl_26 rfl rfl rfl rfl (by omega) (by omega) ?_)
              all_goals (first | refine Run.not rfl rfl ?_ | refine Run.loadO 0 c 0 rfl rfl ag_4 rfl rfl rfl rfl gy rfl ?_)
              all_goals (first | refine Run.not rfl rfl ?_ | refine Run.bnotB rfl rfl rfl rfl ?_)
              all_goals (first | refine Run.pick rfl rfl rfl rfl rfl ?_)
              all_goals (refine Run.nil ?_)
              all_goals refine thn_next ⟨⟨rfl, rfl, rfl, rfl, rfl, rfl, rfl, ?_, trivial⟩, ent.refl _⟩
              all_goals simp [Env.get, *]
            refine WP.ite rfl (fun hc2 => ?_) (fun hc2 => ?_)
            · obtain ⟨hne, rfl⟩ := hc2
              have hcf2 := cfL_set gy
              refine WP.seq ?_
              refine WP.plain cf0 rfl ?_
              refine Run.mv rfl rfl rfl rfl ?_
              refine Run.mv rfl rfl rfl rfl ?_
              refine Run.mv rfl rfl rfl rfl ?_
              refine Run.idxR rfl rfl rfl sl_31 rfl rfl hu (by rfl) (by omega) (by omega) ?_
              refine Run.loadR rfl rfl ag_3 rfl rfl (SlR.cell0 hu gc' rfl) ?_
              refine Run.idxO 0 rfl rfl rfl sl_26 rfl rfl rfl rfl (by omega) (by omega) ?_
              refine Run.storeO 0 c 0 (y' := true) rfl rfl rfl rfl ag_4 rfl rfl rfl rfl gy rfl rfl ?_
              refine Run.nil ?_
              refine thn_next ?_
              refine WP.plain cf0 rfl ?_
              refine Run.mv rfl rfl rfl rfl ?_
              refine Run.mv rfl rfl rfl rfl ?_
              refine Run.mv rfl rfl rfl rfl ?_
              refine Run.idxR rfl rfl rfl sl_31 rfl rfl hu (by rfl) (by omega) (by omega) ?_
              refine Run.loadR rfl rfl ag_3 rfl rfl (SlR.cell0 hu gc' rfl) ?_
              refine Run.buildSlice (E := Enc.nat) rfl sl_31 zr_3 ([c]) rfl rfl rfl (by decide) rfl rfl ?_
              intro b64
              refine Run.append 1 rfl rfl rfl rfl rfl rfl sl_31 zr_3 rfl (src_own 2 rfl) (by first | omega | (simp <;> omega)) (by first | omega | (simp <;> omega)) ?_
              intro sv65 hv65
              refine Run.mv rfl rfl rfl rfl ?_
              refine Run.nil ?_
              refine blk_norm ?_
              have hap : (L2 ++ [c]).length = L2.length + 1 := by simp
              refine thn_next ⟨(bs2.set c true, L2 ++ [c], sv65), ⟨by simp only; omega, ?_, by simp only; omega⟩, ⟨rfl, rfl, rfl, rfl, rfl, rfl, rfl, trivial⟩, pick_only [0, 0] _⟩
              simp only
              rw [List.drop_append_of_le_length hiL2]
              exact hM.push hg gl gc hne
            · refine WP.skip ?_; refine blk_norm ?_
              refine thn_next ⟨(bs2, L2, wv2), ⟨hiL2, hM.next gc fun hne => ?_, hcl2⟩, ⟨rfl, rfl, rfl, rfl, rfl, rfl, rfl, trivial⟩, ent.refl _⟩
              cases y with
              | true => exact gy
              | false => exact absurd ⟨hne, rfl⟩ hc2
          rintro ⟨bs3, L3, wv3⟩ ⟨hiL3, hM3, hcl3⟩
          refine WP.plain cf0 rfl ?_
          refine Run.mv rfl rfl rfl rfl ?_
          refine Run.add64 rfl rfl rfl rfl rfl (by first | omega | (simp <;> omega)) (by first | omega | (simp <;> omega)) ?_
          refine Run.mv rfl rfl rfl rfl ?_
          refine Run.nil ?_
          refine thn_next ⟨(k + 1, bs3, L3, wv3), ⟨hkl, hiL3, hM3, hcl3⟩, by simp only; omega, ⟨rfl, rfl, rfl, rfl, rfl, rfl, rfl, trivial⟩, ent.refl _⟩
        · refine WP.exit ?_; refine thn_exit ?_; refine thn_exit ?_; refine blk_hit ?_; refine blk_norm ?_
          refine thn_next ⟨(bs2, L2, wv2), ⟨hiL2, hM.done gl (by omega), hcl2⟩, ⟨rfl, rfl, rfl, rfl, rfl, trivial⟩, ent.refl _⟩
      rintro ⟨bs4, L4, wv4⟩ ⟨hiL4, hI4, hcl4⟩
      refine WP.plain cf0 rfl ?_
      refine Run.mv rfl rfl rfl rfl ?_
      refine Run.add64 rfl rfl rfl rfl rfl (by first | omega | (simp <;> omega)) (by first | omega | (simp <;> omega)) ?_
      refine Run.mv rfl rfl rfl rfl ?_
      refine Run.nil ?_
      refine thn_next ⟨(i + 1, bs4, L4, wv4), ⟨hiL4, .inl hI4, hcl4⟩, by simp only; omega, ⟨rfl, rfl, rfl, rfl, rfl, trivial⟩, ent.refl _⟩
    · refine WP.exit ?_; refine thn_exit ?_; refine thn_exit ?_; refine blk_hit ?_
      refine thn_next ⟨bs, ?_, ⟨rfl, trivial⟩, pick_only [0] _⟩
      rcases hI with h | ⟨rfl, _, rfl⟩
      · rw [List.drop_eq_nil_of_le (by omega)] at h; exact h.met
      · exact MetOf.zero
  rintro bs hbs
  refine WP.seq ?_
  refine WP.plain cf0 rfl ?_
  refine Run.mv rfl rfl rfl rfl ?_
  refine Run.mv rfl rfl rfl rfl ?_
  refine Run.nil ?_
  refine thn_next ?_
  refine WP.ret ?_
  exact retT [4] _ rfl rfl ⟨mv, bs, rfl, hbs, rfl⟩

theorem refReach_ok (hR : Heap) (v : Value) (to : List (List Int)) (hl : SlR (Enc.int .i64).rd.slice hR v to) (hlen : to.length ≤ 1000000000) (hrow : ∀ l ∈ to, l.length ≤ 1000000000000) :
    Tri Try.prog hR 16 #[v] [] fun u Γ' => ∃ (sv : SV) (bs : List Bool), u = sv.val ∧ ReachAns to sv bs ∧ Γ' = [slA 4 Enc.bool sv.val bs] := by
  refine Tri.of (args := [v]) Try.func16 rfl Try.ntmps16 (by simp) ?_
  refine WP.seq ?_
  refine WP.plain cf0 rfl ?_
  refine Run.mv rfl rfl rfl rfl ?_
  refine Run.nil ?_
  refine thn_next ?_
  refine WP.seq ?_
  refine WP.seq ?_
  refine WP.plain cf0 rfl ?_
  refine Run.mv rfl rfl rfl rfl ?_
  refine Run.call (Δ := []) (Θ := []) rfl rfl rfl rfl ok_27 rfl rfl (ent.refl _) (refGood_ok hR v to hl (by omega) hrow) ?_; rintro _ _ ⟨rfl, rfl⟩
  refine Run.bnot rfl rfl rfl rfl ?_
  refine Run.nil ?_
  refine thn_next ?_
  refine WP.ite rfl (fun hb => ?_) (fun hg => ?_)
  · refine WP.seq ?_
    refine WP.plain cf0 rfl ?_
    refine Run.mv rfl rfl rfl rfl ?_
    refine Run.nil ?_
    refine thn_next ?_
    refine WP.via (slA_nil 4 Enc.bool _) ?_
    refine WP.ret ?_; refine thn_ret ?_
    exact retT [2] _ rfl rfl ⟨⟨none, 0, 0⟩, [], rfl, .inl ⟨hb, rfl⟩, rfl⟩
  refine WP.skip ?_; refine thn_next ?_
  obtain ⟨tn, rfl, hgn⟩ := (Classical.not_not.1 hg).nat
  have htl : tn.length ≤ 1000000000 := by simpa using hlen
  have hrn : ∀ l ∈ tn, l.length ≤ 1000000000000 := fun l h => by have := hrow (toI l) (List.mem_map.2 ⟨l, h, rfl⟩); rwa [toI_len] at this
  refine WP.seq ?_
  refine WP.plain cf0 rfl ?_
  refine Run.mv rfl rfl rfl rfl ?_
  refine Run.call (Δ := []) (Θ := []) rfl rfl rfl rfl ok_28 rfl rfl (ent.refl _) (without_ok hR v tn (-1) hgn hl.nats htl hrn) ?_; rintro _ _ ⟨sv, bs, rfl, hbs, rfl⟩
  refine Run.mv rfl rfl rfl rfl ?_
  refine Run.nil ?_
  refine thn_next ?_
  refine WP.ret ?_
  exact retT [2] _ rfl rfl ⟨sv, bs, rfl, .inr ⟨tn, rfl, hgn, hbs⟩, rfl⟩
end Go.Proofs.Ytifpejpeophlbaa
