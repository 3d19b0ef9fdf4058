/- The tree of immediate dominators, walked. -/
import Derived.Test.YtifpejpeophlbaaMetW
import Derived.Test.YtifpejpeophlbaaS20
namespace Go.Proofs.Ytifpejpeophlbaa
open Go.Sep
set_option linter.unusedSimpArgs false
set_option linter.unusedVariables false
attribute [local irreducible] blk slA mp mpF rows rowsBut

structure PredI (tn : Gr) (L : List Nat) (D i b : Nat) (l : List Nat) (k : Nat) (p : List (SV × List Nat)) : Prop where
  len : p.length = tn.length
  mem : ∀ (c : Nat) (sv : SV) (ps : List Nat), p[c]? = some (sv, ps) → ∀ x, x ∈ ps ↔ (x ∈ L.take i ∧ Edge tn x c) ∨ (x = b ∧ c ∈ l.take k)
  bd : ∀ (c : Nat) (sv : SV) (ps : List Nat), p[c]? = some (sv, ps) → ps.length ≤ i * D + k
theorem PredI.start {tn : Gr} {L : List Nat} {D b : Nat} : PredI tn L D 0 b [] 0 (List.replicate tn.length ((⟨none, 0, 0⟩ : SV), ([] : List Nat))) := by
  refine ⟨by simp, fun c sv ps h x => ?_, fun c sv ps h => ?_⟩ <;> simp only [List.getElem?_replicate] at h <;> split at h <;> cases h <;> simp
theorem PredI.into {tn : Gr} {L : List Nat} {D i b b' : Nat} {l l' : List Nat} {p : List (SV × List Nat)} (h : PredI tn L D i b l 0 p) : PredI tn L D i b' l' 0 p :=
  ⟨h.len, fun c sv ps hc x => by rw [h.mem c sv ps hc x]; simp, h.bd⟩
theorem PredI.step {tn : Gr} {L : List Nat} {D i b : Nat} {l : List Nat} {k : Nat} {p : List (SV × List Nat)} (h : PredI tn L D i b l k p) {c : Nat} {sv sv' : SV} {ps : List Nat} (hc : l[k]? = some c) (hp : p[c]? = some (sv, ps)) :
    PredI tn L D i b l (k + 1) (p.set c (sv', ps ++ [b])) := by
  have hlt := (List.getElem?_eq_some_iff.1 hp).1
  refine ⟨by simp [h.len], fun c' sv1 ps1 h1 x => ?_, fun c' sv1 ps1 h1 => ?_⟩
  · rw [take_snoc hc]
    by_cases e : c' = c
    · subst e
      rw [List.getElem?_set_self hlt] at h1; cases h1
      simp only [List.mem_append, List.mem_singleton, h.mem c' sv ps hp x]
      constructor
      · rintro ((h2 | h2) | h2)
        · exact .inl h2
        · exact .inr ⟨h2.1, .inl h2.2⟩
        · exact .inr ⟨h2, .inr trivial⟩
      · rintro (h2 | ⟨h2, h3 | h3⟩)
        · exact .inl (.inl h2)
        · exact .inl (.inr ⟨h2, h3⟩)
        · exact .inr h2
    · rw [List.getElem?_set_ne (Ne.symm e)] at h1
      rw [h.mem c' sv1 ps1 h1 x]; simp [e]
  · by_cases e : c' = c
    · subst e
      rw [List.getElem?_set_self hlt] at h1; cases h1
      have := h.bd c' sv ps hp; simp; omega
    · rw [List.getElem?_set_ne (Ne.symm e)] at h1
      have := h.bd c' sv1 ps1 h1; omega
theorem PredI.next {tn : Gr} {L : List Nat} {D i b : Nat} {l : List Nat} {k : Nat} {p : List (SV × List Nat)} (h : PredI tn L D i b l k p) (hb : L[i]? = some b) (hl : tn[b]? = some l) (hk : l.length ≤ k) (hkD : k ≤ D) : PredI tn L D (i + 1) b [] 0 p := by
  refine ⟨h.len, fun c sv ps hc x => ?_, fun c sv ps hc => ?_⟩
  · rw [h.mem c sv ps hc x, take_snoc hb, List.take_of_length_le hk]
    simp only [List.mem_append, List.mem_singleton, List.take_nil, List.not_mem_nil, and_false, or_false]
    constructor
    · rintro (⟨h1, h2⟩ | ⟨h1, h2⟩)
      · exact ⟨.inl h1, h2⟩
      · subst h1; exact ⟨.inr rfl, l, hl, h2⟩
    · rintro ⟨h1 | h1, h2⟩
      · exact .inl ⟨h1, h2⟩
      · subst h1
        obtain ⟨l', h3, h4⟩ := h2
        rw [hl] at h3; cases h3
        exact .inr ⟨rfl, h4⟩
  · have := h.bd c sv ps hc
    rw [Nat.add_mul]; omega

def wgt (n : Nat) (pl : Nat → Nat) : Option Nat → Nat
  | none => n
  | some d => pl d
def wsum (n : Nat) (pl : Nat → Nat) (t : Tr) : Nat := (t.map (wgt n pl)).sum
theorem wsum_set {n : Nat} {pl : Nat → Nat} {t : Tr} {b m : Nat} {o : Option Nat} (h : t[b]? = some o) (hlt : pl m < wgt n pl o) : wsum n pl (t.set b (some m)) < wsum n pl t := by
  have := sum_set (t.map (wgt n pl)) b (pl m) (wgt n pl o) (by simp [h])
  unfold wsum
  rw [List.map_set]
  have e : wgt n pl (some m) = pl m := rfl
  rw [e]; omega

theorem Lined.places {tn : Gr} {L : List Nat} (hL : Lined tn L) {pls : List Nat} (h : ∀ (j : Nat) (b : Nat), L[j]? = some b → pls[b]? = some j) : Places L (plOf pls) ∧ ∀ (j : Nat) (b : Nat), L[j]? = some b → plOf pls b = j := by
  have key : ∀ (j : Nat) (b : Nat), L[j]? = some b → plOf pls b = j := fun j b hb => by
    simp [plOf, List.getD_eq_getElem?_getD, h j b hb]
  refine ⟨⟨key 0 0 hL.head, fun a b ha hb e => ?_, fun a ha => ?_⟩, key⟩
  · obtain ⟨i, hi⟩ := List.getElem?_of_mem ha
    obtain ⟨j, hj⟩ := List.getElem?_of_mem hb
    rw [key i a hi, key j b hj] at e
    subst e; rw [hi] at hj; cases hj; rfl
  · obtain ⟨i, hi⟩ := List.getElem?_of_mem ha
    rw [key i a hi]; exact (List.getElem?_eq_some_iff.1 hi).1

/-- what Tree answers -/
def TreeAns (to : List (List Int)) (ts : List Int) : Prop := (¬ GoodI to ∧ ts = []) ∨ ∃ tn, to = tn.map toI ∧ GoodN tn ∧ IsTree tn ts
theorem TreeAns.unique {to : List (List Int)} {ts ts' : List Int} (h : TreeAns to ts) (h' : TreeAns to ts') : ts = ts' := by
  rcases h with ⟨h1, h2⟩ | ⟨tn, rfl, h2, h3⟩ <;> rcases h' with ⟨k1, k2⟩ | ⟨tn', e, k2, k3⟩
  · rw [h2, k2]
  · subst e; exact absurd k2.good h1
  · exact absurd h2.good k1
  · have := mapI_inj e; subst this; exact h3.unique k3

theorem optI_some {q : Option Nat} {m : Nat} (h : (m : Int) = optI q) : q = some m := by
  cases q with
  | none => simp only [optI] at h; omega
  | some y => simp only [optI] at h; congr 1; omega

set_option maxRecDepth 100000 in
theorem tree_ok (hR : Heap) (v : Value) (to : List (List Int)) (D : Nat) (hl : SlR (Enc.int .i64).rd.slice hR v to) (hlen : to.length ≤ 1000000000) (hrow : ∀ l ∈ to, l.length ≤ D) (hD : D ≤ 1000000000) (hnD : to.length * D ≤ 1000000000000) :
    Tri Try.prog hR 17 #[v] [] fun u Γ' => ∃ (sv : SV) (ts : List Int), u = sv.val ∧ TreeAns to ts ∧ Γ' = [slA 3 (Enc.int .i64) sv.val ts] := by
  refine Tri.of (args := [v]) Try.func17 rfl Try.ntmps17 (by simp) ?_
  refine WP.seq ?_
  refine WP.plain cf0 rfl ?_
  refine Run.mv rfl rfl rfl rfl ?_
  refine Run.nil ?_
  refine thn_next ?_
  refine WP.seq ?_
  refine WP.seq ?_
  refine WP.plain cf0 rfl ?_
  refine Run.mv rfl rfl rfl rfl ?_
  refine Run.call (Δ := []) (Θ := []) rfl rfl rfl rfl ok_25 rfl rfl (ent.refl _) (good_ok hR v to hl (by omega) (fun l h => by have := hrow l h; omega)) ?_; rintro _ _ ⟨rfl, rfl⟩
  refine Run.bnot rfl rfl rfl rfl ?_
  refine Run.nil ?_
  refine thn_next ?_
  refine WP.ite rfl (fun hb => ?_) (fun hg => ?_)
  · refine WP.seq ?_
    refine WP.plain cf0 rfl ?_
    refine Run.mv rfl rfl rfl rfl ?_
    refine Run.nil ?_
    refine thn_next ?_
    refine WP.via (slA_nil 3 (Enc.int .i64) _) ?_
    refine WP.ret ?_; refine thn_ret ?_
    exact retT [2] _ rfl rfl ⟨⟨none, 0, 0⟩, [], rfl, .inl ⟨hb, rfl⟩, rfl⟩
  refine WP.skip ?_; refine thn_next ?_
  obtain ⟨tn, rfl, hgn⟩ := (Classical.not_not.1 hg).nat
  have hln : SlR Enc.nat.rd.slice hR v tn := hl.nats
  have hml : (tn.map toI).length = tn.length := by simp
  rw [hml] at hlen hnD
  have hrn : ∀ l ∈ tn, l.length ≤ D := fun l h => by have := hrow (toI l) (List.mem_map.2 ⟨l, h, rfl⟩); rwa [toI_len] at this
  clear hl hrow
  refine WP.seq ?_
  refine WP.plain cf0 rfl ?_
  refine Run.mv rfl rfl rfl rfl ?_
  refine Run.call (Δ := []) (Θ := []) rfl rfl rfl rfl ok_26 rfl rfl (ent.refl _) (lined_ok hR v tn hgn hln (by omega) (fun l h => by have := hrn l h; omega)) ?_; rintro _ _ ⟨lv, L, rfl, hL, rfl⟩
  refine Run.mv rfl rfl rfl rfl ?_
  refine Run.nil ?_
  refine thn_next ?_
  have hLlt : ∀ x ∈ L, x < tn.length := fun x hx => ((hL.mem x).1 hx).lt hgn
  have hLl : L.length ≤ tn.length := nodup_le _ _ hL.nodup hLlt
  have hLp : 0 < L.length := (List.getElem?_eq_some_iff.1 hL.head).1
  refine WP.seq ?_
  refine WP.plain cf0 rfl ?_
  refine Run.mv rfl rfl rfl rfl ?_
  refine Run.lenR rfl rfl sl_22 rfl rfl (by assumption) ?_
  refine Run.makeSlice (E := Enc.nat) (0) rfl rfl rfl sl_31 zr_3 rfl rfl rfl (by first | omega | (simp <;> omega)) (by first | omega | (simp <;> omega)) (by first | omega | (simp <;> omega)) (by first | omega | (simp <;> omega)) ?_
  intro b23
  refine Run.mv rfl rfl rfl rfl ?_
  refine Run.nil ?_
  refine thn_next ?_
  refine WP.seq ?_
  refine WP.plain cf0 rfl ?_
  refine Run.mv rfl rfl rfl rfl ?_
  refine Run.lenR rfl rfl sl_22 rfl rfl (by assumption) ?_
  refine Run.makeSlice (E := Enc.slice) ((⟨none, 0, 0⟩ : SV)) rfl rfl rfl sl_22 zr_31 rfl rfl rfl (by first | omega | (simp <;> omega)) (by first | omega | (simp <;> omega)) (by first | omega | (simp <;> omega)) (by first | omega | (simp <;> omega)) ?_
  intro b26
  refine Run.mv rfl rfl rfl rfl ?_
  refine Run.nil ?_
  refine thn_next ?_
  refine WP.seq ?_
  refine WP.plain cf0 rfl ?_
  refine Run.mv rfl rfl rfl rfl ?_
  refine Run.lenR rfl rfl sl_22 rfl rfl (by assumption) ?_
  refine Run.makeSlice (E := encO) (some 0) rfl rfl rfl sl_31 zr_3 rfl rfl rfl (by first | omega | (simp <;> omega)) (by first | omega | (simp <;> omega)) (by first | omega | (simp <;> omega)) (by first | omega | (simp <;> omega)) ?_
  intro b29
  refine Run.mv rfl rfl rfl rfl ?_
  refine Run.nil ?_
  refine thn_next ?_
  obtain ⟨plv, hplv⟩ : ∃ x : SV, x = ⟨some ⟨b23, 0, none⟩, tn.length, tn.length⟩ := ⟨_, rfl⟩
  obtain ⟨prv, hprv⟩ : ∃ x : SV, x = ⟨some ⟨b26, 0, none⟩, tn.length, tn.length⟩ := ⟨_, rfl⟩
  obtain ⟨tv, htv⟩ : ∃ x : SV, x = ⟨some ⟨b29, 0, none⟩, tn.length, tn.length⟩ := ⟨_, rfl⟩
  -- the tree, filled with -1
  refine WP.seqMeet (α := Unit) (fun _ => True) (fun _ => [(0, v), (3, lv.val), (4, plv.val), (5, prv.val), (6, tv.val)]) (fun _ => [slA 3 Enc.nat lv.val L, slA 3 Enc.nat plv.val (List.replicate tn.length 0), slA 31 Enc.slice prv.val (List.replicate tn.length ⟨none, 0, 0⟩), slA 3 encO tv.val (List.replicate tn.length none)]) ?_ ?_
  · refine WP.seq ?_
    refine WP.plain cf0 rfl ?_
    refine Run.mv rfl rfl rfl rfl ?_
    refine Run.lenO 3 rfl rfl sl_31 rfl rfl rfl ?_
    refine Run.mv rfl rfl rfl rfl ?_
    refine Run.nil ?_
    refine thn_next ?_
    refine WP.block ?_
    refine WP.loop (α := Nat × Tr) (fun z => z.1 ≤ tn.length ∧ z.2.length = tn.length ∧ ∀ k, k < z.1 → z.2[k]? = some none) (fun z => [(0, v), (3, lv.val), (4, plv.val), (5, prv.val), (6, tv.val), (31, .int .i64 (tn.length : Int)), (32, .int .i64 (z.1 : Int))])
      (fun z => [slA 3 Enc.nat lv.val L, slA 3 Enc.nat plv.val (List.replicate tn.length 0), slA 31 Enc.slice prv.val (List.replicate tn.length ⟨none, 0, 0⟩), slA 3 encO tv.val z.2]) (fun z => tn.length - z.1)
      (0, List.replicate tn.length (some 0)) ⟨Nat.zero_le _, by simp, fun k hk => by simp at hk⟩ ⟨rfl, rfl, by rw [hplv]; rfl, by rw [hprv]; rfl, by rw [htv]; rfl, by simp [Env.get]; rfl, rfl, trivial⟩ (by rw [hplv, hprv, htv]; exact ent.refl _) ?_
    rintro ⟨i, t⟩ ⟨hi, htl, hti⟩
    simp only at hi htl hti ⊢
    refine WP.seq ?_
    refine WP.plain cf0 rfl ?_
    refine Run.int2 rfl rfl rfl rfl rfl rfl ?_
    refine Run.nil ?_
    refine thn_next ?_
    refine WP.seq ?_
    refine WP.ite rfl (fun hlt => ?_) (fun hge => ?_)
    · refine WP.skip ?_; refine thn_next ?_
      have hlt' : i < tn.length := by omega
      obtain ⟨q, gq⟩ : ∃ x, t[i]? = some x := ⟨_, List.getElem?_eq_getElem (by omega)⟩
      refine WP.seq ?_
      refine WP.block ?_
      refine WP.seq ?_
      refine WP.plain cf0 rfl ?_
      refine Run.mv rfl rfl rfl rfl ?_
      refine Run.mv rfl rfl rfl rfl ?_
      refine Run.nil ?_
      refine thn_next ?_
      refine WP.plain cf0 rfl ?_
      refine Run.mv rfl rfl rfl rfl ?_
      refine Run.mv rfl rfl rfl rfl ?_
      refine Run.idxO 3 rfl rfl rfl sl_31 rfl rfl rfl rfl (by omega) (by omega) ?_
      refine Run.storeO 3 i 0 (y' := none) rfl rfl rfl rfl ag_3 rfl rfl rfl rfl gq rfl rfl ?_
      refine Run.nil ?_
      refine blk_norm ?_; refine thn_next ?_
      refine WP.plain cf0 rfl ?_
      refine Run.add64 rfl rfl rfl rfl rfl (by first | omega | (simp <;> omega)) (by first | omega | (simp <;> omega)) ?_
      refine Run.mv rfl rfl rfl rfl ?_
      refine Run.nil ?_
      refine thn_next ⟨(i + 1, t.set i none), ⟨hlt', by simp [htl], fun k hk => ?_⟩, by simp only; omega, ⟨rfl, rfl, rfl, rfl, rfl, rfl, rfl, trivial⟩, ent.refl _⟩
      by_cases e : k = i
      · subst e; simp [htl, hlt']
      · rw [List.getElem?_set_ne (Ne.symm e)]; exact hti k (by omega)
    · refine WP.exit ?_; refine thn_exit ?_; refine thn_exit ?_; refine blk_hit ?_
      have e : t = List.replicate tn.length none := by
        refine List.ext_getElem? fun k => ?_
        by_cases hk : k < tn.length
        · rw [hti k (by omega)]; simp [hk]
        · rw [List.getElem?_eq_none (by omega), List.getElem?_eq_none (by simp; omega)]
      subst e
      refine thn_next ⟨(), trivial, ⟨rfl, rfl, rfl, rfl, rfl, trivial⟩, ent.refl _⟩
  rintro _ _
  clear hplv hprv htv
  -- places and ways in
  refine WP.seqMeet (α := List Nat × List (SV × List Nat)) (fun z => z.1.length = tn.length ∧ (∀ (j : Nat) (b : Nat), L[j]? = some b → z.1[b]? = some j) ∧ PredI tn L D L.length 0 [] 0 z.2) (fun _ => [(0, v), (3, lv.val), (4, plv.val), (5, prv.val), (6, tv.val)])
    (fun z => [slA 3 encO tv.val (List.replicate tn.length none), slA 3 Enc.nat lv.val L, slA 3 Enc.nat plv.val z.1, slA 31 Enc.slice prv.val (z.2.map Prod.fst), rows 3 Enc.nat z.2]) ?_ ?_
  · refine WP.seq ?_
    refine WP.plain cf0 rfl ?_
    refine Run.mv rfl rfl rfl rfl ?_
    refine Run.lenO 0 rfl rfl sl_31 rfl rfl rfl ?_
    refine Run.mv rfl rfl rfl rfl ?_
    refine Run.nil ?_
    refine thn_next ?_
    refine WP.block ?_
    refine WP.loop (α := Nat × List Nat × List (SV × List Nat)) (fun z => z.1 ≤ L.length ∧ z.2.1.length = tn.length ∧ (∀ (j : Nat) (b : Nat), j < z.1 → L[j]? = some b → z.2.1[b]? = some j) ∧ PredI tn L D z.1 0 [] 0 z.2.2)
      (fun z => [(0, v), (3, lv.val), (4, plv.val), (5, prv.val), (6, tv.val), (39, lv.val), (40, .int .i64 (L.length : Int)), (41, .int .i64 (z.1 : Int))])
      (fun z => [slA 3 encO tv.val (List.replicate tn.length none), slA 3 Enc.nat lv.val L, slA 3 Enc.nat plv.val z.2.1, slA 31 Enc.slice prv.val (z.2.2.map Prod.fst), rows 3 Enc.nat z.2.2]) (fun z => L.length - z.1)
      (0, List.replicate tn.length 0, List.replicate tn.length ((⟨none, 0, 0⟩ : SV), ([] : List Nat))) ⟨Nat.zero_le _, by simp, fun j b hj => by simp at hj, PredI.start⟩ ⟨rfl, rfl, rfl, rfl, rfl, rfl, rfl, rfl, trivial⟩
      (by
        have e : (List.replicate tn.length ((⟨none, 0, 0⟩ : SV), ([] : List Nat))).map Prod.fst = List.replicate tn.length ⟨none, 0, 0⟩ := by simp
        simp only [e]
        exact (rows_nils _ tn.length).trans (pick_only [4, 1, 1, 1, 0] _)) ?_
    rintro ⟨i, pls, p⟩ ⟨hi, hpl, hpj, hP⟩
    simp only at hi hpl hpj hP ⊢
    refine WP.seq ?_
    refine WP.plain cf0 rfl ?_
    refine Run.int2 rfl rfl rfl rfl rfl rfl ?_
    refine Run.nil ?_
    refine thn_next ?_
    refine WP.seq ?_
    refine WP.ite rfl (fun hlt => ?_) (fun hge => ?_)
    · refine WP.skip ?_; refine thn_next ?_
      have hlt' : i < L.length := by omega
      obtain ⟨b, gb⟩ : ∃ x, L[i]? = some x := ⟨_, List.getElem?_eq_getElem hlt'⟩
      have hbn : b < tn.length := hLlt b (List.mem_of_getElem? gb)
      obtain ⟨y, gy⟩ : ∃ x, pls[b]? = some x := ⟨_, List.getElem?_eq_getElem (by omega)⟩
      obtain ⟨l, gl⟩ : ∃ x, tn[b]? = some x := ⟨_, List.getElem?_eq_getElem hbn⟩
      obtain ⟨u, gu, hu⟩ := hln.rowV gl
      have gu' : cellH hR (elemAddr v ((b : Int).toNat * 1)) u := gu
      have hll := hrn l (List.mem_of_getElem? gl)
      have hnD2 : i * D + D ≤ 1000000000000 := by
        have : (i + 1) * D ≤ tn.length * D := Nat.mul_le_mul_right D (by omega)
        rw [Nat.add_mul] at this; omega
      refine WP.seqMeet (α := List (SV × List Nat)) (fun p => PredI tn L D (i + 1) b [] 0 p) (fun _ => [(0, v), (3, lv.val), (4, plv.val), (5, prv.val), (6, tv.val), (39, lv.val), (40, .int .i64 (L.length : Int)), (41, .int .i64 (i : Int))])
        (fun p => [slA 3 encO tv.val (List.replicate tn.length none), slA 3 Enc.nat lv.val L, slA 3 Enc.nat plv.val (pls.set b i), slA 31 Enc.slice prv.val (p.map Prod.fst), rows 3 Enc.nat p]) ?_ ?_
      · refine WP.block ?_
        refine WP.seq ?_
        refine WP.plain cf0 rfl ?_
        refine Run.mv rfl rfl rfl rfl ?_
        refine Run.idxO 1 rfl rfl rfl sl_31 rfl rfl rfl rfl (by omega) (by omega) ?_
        refine Run.loadO 1 i 0 rfl rfl ag_3 rfl rfl rfl rfl gb rfl ?_
        refine Run.mv rfl rfl rfl rfl ?_
        refine Run.mv rfl rfl rfl rfl ?_
        refine Run.nil ?_
        refine thn_next ?_
        refine WP.seq ?_
        refine WP.plain cf0 rfl ?_
        refine Run.mv rfl rfl rfl rfl ?_
        refine Run.mv rfl rfl rfl rfl ?_
        refine Run.mv rfl rfl rfl rfl ?_
        refine Run.idxO 2 rfl rfl rfl sl_31 rfl rfl rfl rfl (by omega) (by omega) ?_
        refine Run.storeO 2 b 0 (y' := i) rfl rfl rfl rfl ag_3 rfl rfl rfl rfl gy rfl rfl ?_
        refine Run.nil ?_
        refine thn_next ?_
        refine WP.seq ?_
        refine WP.plain cf0 rfl ?_
        refine Run.mv rfl rfl rfl rfl ?_
        refine Run.mv rfl rfl rfl rfl ?_
        refine Run.idxR rfl rfl rfl sl_22 rfl rfl hln (by rfl) (by omega) (by omega) ?_
        refine Run.loadR rfl rfl ag_31 rfl rfl gu' ?_
        refine Run.lenR rfl rfl sl_31 rfl rfl hu ?_
        refine Run.mv rfl rfl rfl rfl ?_
        refine Run.nil ?_
        refine thn_next ?_
        refine WP.block ?_
        refine WP.loop (α := Nat × List (SV × List Nat)) (fun z => z.1 ≤ l.length ∧ PredI tn L D i b l z.1 z.2) (fun z => [(0, v), (3, lv.val), (4, plv.val), (5, prv.val), (6, tv.val), (9, .int .i64 (b : Int)), (39, lv.val), (40, .int .i64 (L.length : Int)), (41, .int .i64 (i : Int)), (53, u), (54, .int .i64 (l.length : Int)), (55, .int .i64 (z.1 : Int))])
          (fun z => [slA 3 encO tv.val (List.replicate tn.length none), slA 3 Enc.nat lv.val L, slA 3 Enc.nat plv.val (pls.set b i), slA 31 Enc.slice prv.val (z.2.map Prod.fst), rows 3 Enc.nat z.2]) (fun z => l.length - z.1)
          (0, p) ⟨Nat.zero_le _, hP.into⟩ ⟨rfl, rfl, rfl, rfl, rfl, rfl, rfl, rfl, rfl, rfl, rfl, rfl, trivial⟩ (ent.refl _) ?_
        rintro ⟨k, p⟩ ⟨hk, hP⟩
        simp only at hk hP ⊢
        refine WP.seq ?_
        refine WP.plain cf0 rfl ?_
        refine Run.int2 rfl rfl rfl rfl rfl rfl ?_
        refine Run.nil ?_
        refine thn_next ?_
        refine WP.seq ?_
        refine WP.ite rfl (fun hlt2 => ?_) (fun hge2 => ?_)
        · refine WP.skip ?_; refine thn_next ?_
          have hkl : k < l.length := by omega
          obtain ⟨c, gc⟩ : ∃ x, l[k]? = some x := ⟨_, List.getElem?_eq_getElem hkl⟩
          have gc' : l[(k : Int).toNat]? = some c := gc
          have hcn : c < tn.length := hgn.lt l (List.mem_of_getElem? gl) c (List.mem_of_getElem? gc)
          have hpl2 := hP.len
          obtain ⟨⟨sv, ps⟩, gp⟩ : ∃ x, p[c]? = some x := ⟨_, List.getElem?_eq_getElem (by omega)⟩
          have gp1 : (p.map Prod.fst)[c]? = some sv := by simp [gp]
          have hpb := hP.bd c sv ps gp
          have hpm : (p.map Prod.fst).length = tn.length := by simp [hpl2]
          refine WP.seq ?_
          refine WP.block ?_
          refine WP.seq ?_
          refine WP.plain cf0 rfl ?_
          refine Run.idxR rfl rfl rfl sl_31 rfl rfl hu (by rfl) (by omega) (by omega) ?_
          refine Run.loadR rfl rfl ag_3 rfl rfl (SlR.cell0 hu gc' rfl) ?_
          refine Run.mv rfl rfl rfl rfl ?_
          refine Run.nil ?_
          refine thn_next ?_
          refine WP.via (ent.app (ent.refl [slA 3 encO tv.val (List.replicate tn.length none), slA 3 Enc.nat lv.val L, slA 3 Enc.nat plv.val (pls.set b i), slA 31 Enc.slice prv.val (p.map Prod.fst)]) (rows_out gp [])) ?_
          refine WP.plain cf0 rfl ?_
          refine Run.mv rfl rfl rfl rfl ?_
          refine Run.mv rfl rfl rfl rfl ?_
          refine Run.mv rfl rfl rfl rfl ?_
          refine Run.mv rfl rfl rfl rfl ?_
          refine Run.idxO 3 rfl rfl rfl sl_22 rfl rfl rfl rfl (by omega) (by omega) ?_
          refine Run.loadO 3 c 0 rfl rfl ag_31 rfl rfl rfl rfl gp1 rfl ?_
          refine Run.mv rfl rfl rfl rfl ?_
          refine Run.buildSlice (E := Enc.nat) rfl sl_31 zr_3 ([b]) rfl rfl rfl (by decide) rfl rfl ?_
          intro b66
          refine Run.append 4 rfl rfl rfl rfl rfl rfl sl_31 zr_3 rfl (src_own 6 rfl) (by first | omega | (simp <;> omega)) (by first | omega | (simp <;> omega)) ?_
          intro sv67 hv67
          refine Run.idxO 3 rfl rfl rfl sl_22 rfl rfl rfl rfl (by omega) (by omega) ?_
          refine Run.storeO 3 c 0 (y' := sv67) rfl rfl rfl rfl ag_31 rfl rfl rfl rfl gp1 rfl rfl ?_
          refine Run.nil ?_
          refine blk_norm ?_; refine thn_next ?_
          refine WP.plain cf0 rfl ?_
          refine Run.add64 rfl rfl rfl rfl rfl (by first | omega | (simp <;> omega)) (by first | omega | (simp <;> omega)) ?_
          refine Run.mv rfl rfl rfl rfl ?_
          refine Run.nil ?_
          refine thn_next ⟨(k + 1, p.set c (sv67, ps ++ [b])), ⟨hkl, hP.step gc gp⟩, by simp only; omega, ⟨rfl, rfl, rfl, rfl, rfl, rfl, rfl, rfl, rfl, rfl, rfl, rfl, trivial⟩, ?_⟩
          simp only [List.map_set]
          exact (pick_only [0, 0, 0, 0, 0, 0] _).trans (ent.app (ent.refl [slA 3 encO tv.val (List.replicate tn.length none), slA 3 Enc.nat lv.val L, slA 3 Enc.nat plv.val (pls.set b i), slA 31 Enc.slice prv.val ((p.map Prod.fst).set c sv67)]) (rows_in (by omega) []))
        · refine WP.exit ?_; refine thn_exit ?_; refine thn_exit ?_; refine blk_hit ?_; refine blk_norm ?_
          refine thn_next ⟨p, hP.next gb gl (by omega) (by omega), ⟨rfl, rfl, rfl, rfl, rfl, rfl, rfl, rfl, trivial⟩, ent.refl _⟩
      rintro p hP
      refine WP.plain cf0 rfl ?_
      refine Run.add64 rfl rfl rfl rfl rfl (by first | omega | (simp <;> omega)) (by first | omega | (simp <;> omega)) ?_
      refine Run.mv rfl rfl rfl rfl ?_
      refine Run.nil ?_
      refine thn_next ⟨(i + 1, pls.set b i, p), ⟨hlt', by simp [hpl], fun j x hj hx => ?_, hP.into⟩, by simp only; omega, ⟨rfl, rfl, rfl, rfl, rfl, rfl, rfl, rfl, trivial⟩, ent.refl _⟩
      by_cases e : j = i
      · subst e; rw [gb] at hx; cases hx; rw [List.getElem?_set_self (by omega)]
      · have hne : b ≠ x := fun e2 => by
          subst e2
          have := (List.getElem?_inj (List.getElem?_eq_some_iff.1 hx).1 hL.nodup).1 (hx.trans gb.symm)
          exact e this
        rw [List.getElem?_set_ne hne]; exact hpj j x (by omega) hx
    · refine WP.exit ?_; refine thn_exit ?_; refine thn_exit ?_; refine blk_hit ?_
      have e : i = L.length := by omega
      subst e
      refine thn_next ⟨(pls, p), ⟨hpl, fun j b hb => hpj j b (List.getElem?_eq_some_iff.1 hb).1 hb, hP⟩, ⟨rfl, rfl, rfl, rfl, rfl, trivial⟩, ent.refl _⟩
  rintro ⟨pls, p⟩ ⟨hpl, hpj, hP⟩
  simp only at hpl hpj hP ⊢
  obtain ⟨hpls, hplj⟩ := hL.places hpj
  have hLm := hL.mem
  have hPm : ∀ c sv ps, p[c]? = some (sv, ps) → ∀ x, x ∈ ps ↔ x ∈ L ∧ Edge tn x c := fun c sv ps h x => by
    rw [hP.mem c sv ps h x, List.take_length]; simp
  have ht0 : (List.replicate tn.length (none : Option Nat))[0]? = some none := by simp [hgn.pos]
  have hrl : (List.replicate tn.length (none : Option Nat)).length = tn.length := by simp
  have hpos := hgn.pos
  refine WP.seq ?_
  refine WP.plain cf0 rfl ?_
  refine Run.mv rfl rfl rfl rfl ?_
  refine Run.idxO 0 rfl rfl rfl sl_31 rfl rfl rfl rfl (by omega) (by omega) ?_
  refine Run.storeO 0 0 0 (y' := some 0) rfl rfl rfl rfl ag_3 rfl rfl rfl rfl ht0 rfl rfl ?_
  refine Run.nil ?_
  refine thn_next ?_
  have hstart : Inv tn L (plOf pls) 1 ((List.replicate tn.length none).set 0 (some 0)) := by
    refine Inv.start hpos ((hLm 0).2 (.start (by decide))) hpls (by simp) fun x => ?_
    rw [pa_set (by simp [hpos])]
    by_cases e : x = 0
    · rw [if_pos e, if_pos e]
    · rw [if_neg e, if_neg e]; unfold pa; rw [List.getElem?_replicate]; split <;> rfl
  refine WP.seqMeet (α := Tr) (fun t => Inv tn L (plOf pls) 1 t ∧ (∀ x ∈ L, known t x) ∧ ∀ x ∈ L, x ≠ 0 → Fixed tn t x) (fun _ => [(6, tv.val)]) (fun t => [slA 3 encO tv.val t]) ?_ ?_
  · refine WP.seq ?_
    refine WP.plain cf0 rfl ?_
    refine Run.mv rfl rfl rfl rfl ?_
    refine Run.nil ?_
    refine thn_next ?_
    refine WP.know (slA_know 1 rfl) fun hkn => ?_
    refine WP.freeze (Γ := [slA 3 encO tv.val ((List.replicate tn.length none).set 0 (some 0))]) [slA 3 Enc.nat lv.val L, slA 3 Enc.nat plv.val pls, slA 31 Enc.slice prv.val (p.map Prod.fst), rows 3 Enc.nat p] fun g hg hd => ?_
    have rL : SlR Enc.nat.rd (un hR g) lv.val L := lent_at 0 rfl hg hd
    have rP : SlR Enc.nat.rd (un hR g) plv.val pls := lent_at 1 rfl hg hd
    have rS : SlR Enc.nat.rd.slice (un hR g) prv.val (p.map Prod.snd) := lent_rows 2 3 rfl rfl hg hd
    have rC : SlR Enc.nat.rd (un hR g) ((lv.cut 1 1 L.length).val) ((L.take L.length).drop 1) := SlR_cut rL (by omega) (by omega)
    have hC : (L.take L.length).drop 1 = L.drop 1 := by rw [List.take_length]
    rw [hC] at rC
    have hCl : (L.drop 1).length = L.length - 1 := by simp
    generalize un hR g = hS at rL rP rS rC
    refine WP.block ?_
    refine WP.loop (α := Tr × Bool) (fun z => Inv tn L (plOf pls) 1 z.1 ∧ (z.2 = false → (∀ x ∈ L, known z.1 x) ∧ ∀ x ∈ L, x ≠ 0 → Fixed tn z.1 x)) (fun z => [(3, lv.val), (4, plv.val), (5, prv.val), (6, tv.val), (12, .bool z.2)]) (fun z => [slA 3 encO tv.val z.1])
      (fun z => 2 * wsum tn.length (plOf pls) z.1 + if z.2 then 1 else 0) ((List.replicate tn.length none).set 0 (some 0), true) ⟨hstart, fun h => by cases h⟩ ⟨rfl, rfl, rfl, rfl, rfl, trivial⟩ (ent.refl _) ?_
    rintro ⟨t, again⟩ ⟨hI, hfin⟩
    simp only at hI hfin ⊢
    refine WP.seq ?_
    refine WP.seq ?_
    refine WP.plain cf0 rfl ?_
    refine Run.mv rfl rfl rfl rfl ?_
    refine Run.nil ?_
    refine thn_next ?_
    refine WP.cond rfl (fun hag => ?_) (fun hag => ?_)
    · refine WP.skip ?_; refine thn_next ?_
      subst hag
      refine WP.block ?_
      refine WP.seq ?_
      refine WP.plain cf0 rfl ?_
      refine Run.mv rfl rfl rfl rfl ?_
      refine Run.nil ?_
      refine thn_next ?_
      refine WP.seq ?_
      refine WP.plain cf0 rfl ?_
      refine Run.mv rfl rfl rfl rfl ?_
      refine Run.sliceV (sv := lv) rfl rfl sl_31 (il := 1) (ih := (L.length : Int)) rfl (by rw [hkn.1]; rfl) rfl rfl (by omega) (by omega) (by have := hkn.2; omega) ?_
      refine Run.lenR rfl rfl sl_31 rfl rfl rC ?_
      refine Run.mv rfl rfl rfl rfl ?_
      refine Run.nil ?_
      refine thn_next ?_
      refine WP.block ?_
      refine WP.loop (α := Nat × Tr × Bool) (fun z => z.1 ≤ L.length - 1 ∧ Inv tn L (plOf pls) (z.1 + 1) z.2.1 ∧ ((z.2.2 = false ∧ z.2.1 = t ∧ ∀ x ∈ L, x ≠ 0 → plOf pls x < z.1 + 1 → Fixed tn t x) ∨ (z.2.2 = true ∧ wsum tn.length (plOf pls) z.2.1 < wsum tn.length (plOf pls) t)))
        (fun z => [(3, lv.val), (4, plv.val), (5, prv.val), (6, tv.val), (12, .bool z.2.2), (75, (lv.cut 1 1 L.length).val), (76, .int .i64 ((L.drop 1).length : Int)), (77, .int .i64 (z.1 : Int))]) (fun z => [slA 3 encO tv.val z.2.1]) (fun z => L.length - 1 - z.1)
        (0, t, false) ⟨Nat.zero_le _, hI, .inl ⟨rfl, rfl, fun x hx h0 hlt => absurd (hpls.inj x 0 hx ((hLm 0).2 (.start (by decide))) (by rw [hpls.zero]; omega)) h0⟩⟩ ⟨rfl, rfl, rfl, rfl, rfl, rfl, rfl, rfl, trivial⟩ (ent.refl _) ?_
      rintro ⟨j, s, ag⟩ ⟨hj, hI2, hor⟩
      simp only at hj hI2 hor ⊢
      refine WP.seq ?_
      refine WP.plain cf0 rfl ?_
      refine Run.int2 rfl rfl rfl rfl rfl rfl ?_
      refine Run.nil ?_
      refine thn_next ?_
      refine WP.seq ?_
      refine WP.ite rfl (fun hlt => ?_) (fun hge => ?_)
      · refine WP.skip ?_; refine thn_next ?_
        have hjl : j + 1 < L.length := by omega
        obtain ⟨b, gb⟩ : ∃ x, L[j + 1]? = some x := ⟨_, List.getElem?_eq_getElem hjl⟩
        have gb' : (L.drop 1)[(j : Int).toNat]? = some b := by
          show (L.drop 1)[j]? = some b
          rw [List.getElem?_drop, Nat.add_comm]; exact gb
        have hbL : b ∈ L := List.mem_of_getElem? gb
        have hbn := hLlt b hbL
        have hpb := hplj _ _ gb
        have hb0 : b ≠ 0 := fun e => by subst e; rw [hpls.zero] at hpb; omega
        have hpl2 := hP.len
        obtain ⟨⟨sv, ps⟩, gp⟩ : ∃ x, p[b]? = some x := ⟨_, List.getElem?_eq_getElem (by omega)⟩
        have gp2 : (p.map Prod.snd)[b]? = some ps := by simp [gp]
        obtain ⟨u, gu, hu⟩ := rS.rowV gp2
        have gu' : cellH hS (elemAddr prv.val ((b : Int).toNat * 1)) u := gu
        have hps := hPm b sv ps gp
        have hpsl := hP.bd b sv ps gp
        have hLD : L.length * D ≤ 1000000000000 := Nat.le_trans (Nat.mul_le_mul_right D hLl) hnD
        obtain ⟨jj, p0, hjj, gp0, he0⟩ := hL.prev _ _ gb hb0
        have hp0L : p0 ∈ L := List.mem_of_getElem? gp0
        have hpp0 := hplj _ _ gp0
        have hsl := hI2.len
        have hpm2 : (p.map Prod.snd).length = tn.length := by simp [hpl2]
        obtain ⟨q, gq⟩ : ∃ x, s[b]? = some x := ⟨_, List.getElem?_eq_getElem (by omega)⟩
        refine WP.seqMeet (α := Tr × Bool) (fun z => Inv tn L (plOf pls) (j + 2) z.1 ∧ ((z.2 = false ∧ z.1 = t ∧ ∀ x ∈ L, x ≠ 0 → plOf pls x < j + 2 → Fixed tn t x) ∨ (z.2 = true ∧ wsum tn.length (plOf pls) z.1 < wsum tn.length (plOf pls) t)))
          (fun z => [(3, lv.val), (4, plv.val), (5, prv.val), (6, tv.val), (12, .bool z.2), (75, (lv.cut 1 1 L.length).val), (76, .int .i64 ((L.drop 1).length : Int)), (77, .int .i64 (j : Int))]) (fun z => [slA 3 encO tv.val z.1]) ?_ ?_
        · refine WP.block ?_
          refine WP.seq ?_
          refine WP.plain cf0 rfl ?_
          refine Run.idxR rfl rfl rfl sl_31 rfl rfl rC (by rfl) (by omega) (by omega) ?_
          refine Run.loadR rfl rfl ag_3 rfl rfl (SlR.cell0 rC gb' rfl) ?_
          refine Run.mv rfl rfl rfl rfl ?_
          refine Run.nil ?_
          refine thn_next ?_
          refine WP.seq ?_
          refine WP.plain cf0 rfl ?_
          refine Run.mv rfl rfl rfl rfl ?_
          refine Run.mv rfl rfl rfl rfl ?_
          refine Run.mv rfl rfl rfl rfl ?_
          refine Run.mv rfl rfl rfl rfl ?_
          refine Run.idxR rfl rfl rfl sl_22 rfl rfl rS (by rfl) (by omega) (by omega) ?_
          refine Run.loadR rfl rfl ag_31 rfl rfl gu' ?_
          refine Run.callLend (Δ := []) (Θ := [slA 3 encO tv.val s]) (Ξ := []) rfl rfl rfl rfl ok_29 rfl rfl (ent.refl _) (fun g2 hg2 hd2 => met_ok (un hS g2) tv.val plv.val u s pls ps (lent_at 0 rfl hg2 hd2) (rP.mono (sub_un_left _ _)) (hu.mono (sub_un_left _ _)) (by omega) (fun x hx => by have := hLlt x ((hps x).1 hx).1; omega) hI2.par hpls.zero (fun a c ha hc => hpls.inj a c (hI2.kn a ha) (hI2.kn c hc)) (by omega)) ?_; rintro _ _ ⟨o, rfl, hO, rfl⟩
          refine Run.mv rfl rfl rfl rfl ?_
          refine Run.nil ?_
          refine thn_next ?_
          have hp0k : known s p0 := hI2.first p0 hp0L (by omega)
          obtain ⟨m, rfl, hmk, hM⟩ : ∃ m, o = some m ∧ known s m ∧ Meet s ps m := by
            rcases hO with ⟨_, h2⟩ | h2
            · exact absurd hp0k (h2 p0 ((hps p0).2 ⟨hp0L, he0⟩))
            · exact h2
          have hmp0 := hM.over p0 ((hps p0).2 ⟨hp0L, he0⟩) hp0k
          have hmle := hmp0.le hI2.par
          refine WP.via (Γ' := [slA 3 encO tv.val s]) (ent.refl _) ?_
          refine WP.seq ?_
          refine WP.plain cf0 rfl ?_
          refine Run.mv rfl rfl rfl rfl ?_
          refine Run.mv rfl rfl rfl rfl ?_
          refine Run.mv rfl rfl rfl rfl ?_
          refine Run.idxO 0 rfl rfl rfl sl_31 rfl rfl rfl rfl (by omega) (by omega) ?_
          refine Run.loadO 0 b 0 rfl rfl ag_3 rfl rfl rfl rfl gq rfl ?_
          refine Run.int2 rfl rfl rfl rfl rfl rfl ?_
          refine Run.nil ?_
          refine thn_next ?_
          refine WP.ite rfl (fun hne => ?_) (fun heq => ?_)
          · refine WP.plain cf0 rfl ?_
            refine Run.mv rfl rfl rfl rfl ?_
            refine Run.mv rfl rfl rfl rfl ?_
            refine Run.mv rfl rfl rfl rfl ?_
            refine Run.idxO 0 rfl rfl rfl sl_31 rfl rfl rfl rfl (by omega) (by omega) ?_
            refine Run.storeO 0 b 0 (y' := some m) rfl rfl rfl rfl ag_3 rfl rfl rfl rfl gq rfl rfl ?_
            refine Run.mv rfl rfl rfl rfl ?_
            refine Run.nil ?_
            refine blk_norm ?_
            have hmv := hI2.move hLlt hpls hbL hb0 hpb hps hM hp0L he0 (by omega)
            have hw : wsum tn.length (plOf pls) (s.set b (some m)) < wsum tn.length (plOf pls) s := by
              refine wsum_set gq ?_
              cases q with
              | none => 
                have h1 := hpls.lt m (hI2.kn m hmk)
                show plOf pls m < tn.length
                omega
              | some y =>
                have h1 := hI2.up hpls hbL hb0 hpb hps hM hp0L he0 (by omega) (pa_of gq)
                exact h1.lt hI2.par fun e => hne (by rw [e])
            refine thn_next ⟨(s.set b (some m), true), ⟨hmv, .inr ⟨rfl, ?_⟩⟩, ⟨rfl, rfl, rfl, rfl, rfl, rfl, rfl, rfl, trivial⟩, ent.refl _⟩
            rcases hor with ⟨_, h2, _⟩ | ⟨_, h2⟩
            · subst h2; exact hw
            · exact Nat.lt_trans hw h2
          · refine WP.skip ?_; refine blk_norm ?_
            have hq : q = some m := optI_some (Classical.not_not.1 heq)
            subst hq
            have hsm := hI2.same (p0 := p0) hpls hbL hb0 hpb hps hM (pa_of gq)
            refine thn_next ⟨(s, ag), ⟨hsm, ?_⟩, ⟨rfl, rfl, rfl, rfl, rfl, rfl, rfl, rfl, trivial⟩, ent.refl _⟩
            rcases hor with ⟨h1, h2, h3⟩ | h2
            · refine .inl ⟨h1, h2, fun x hx hx0 hlt3 => ?_⟩
              by_cases e : plOf pls x < j + 1
              · exact h3 x hx hx0 e
              · have : x = b := hpls.inj x b hx hbL (by omega)
                subst this; subst h2
                intro y hy p1 he1 hk1
                rw [pa_of gq] at hy; cases hy
                exact hM.over p1 ((hps p1).2 ⟨hI2.kn p1 hk1, he1⟩) hk1
            · exact .inr h2
        rintro ⟨s2, ag2⟩ ⟨hI3, hor3⟩
        refine WP.plain cf0 rfl ?_
        refine Run.add64 rfl rfl rfl rfl rfl (by first | omega | (simp <;> omega)) (by first | omega | (simp <;> omega)) ?_
        refine Run.mv rfl rfl rfl rfl ?_
        refine Run.nil ?_
        refine thn_next ⟨(j + 1, s2, ag2), ⟨by simp only; omega, hI3, hor3⟩, by simp only; omega, ⟨rfl, rfl, rfl, rfl, rfl, rfl, rfl, rfl, trivial⟩, ent.refl _⟩
      · refine WP.exit ?_; refine thn_exit ?_; refine thn_exit ?_; refine blk_hit ?_; refine blk_norm ?_
        have ej : j + 1 = L.length := by omega
        rw [ej] at hI2
        have hI1 := hI2.again hpls
        rcases hor with ⟨h1, h2, h3⟩ | ⟨h1, h2⟩
        · subst h1; subst h2
          refine thn_next ⟨(s, false), ⟨hI1, fun _ => ⟨fun x hx => hI2.first x hx (hpls.lt x hx), fun x hx hx0 => h3 x hx hx0 (by have := hpls.lt x hx; omega)⟩⟩, by simp, ⟨rfl, rfl, rfl, rfl, rfl, trivial⟩, ent.refl _⟩
        · subst h1
          refine thn_next ⟨(s, true), ⟨hI1, fun h => by cases h⟩, by simp only [if_true]; omega, ⟨rfl, rfl, rfl, rfl, rfl, trivial⟩, ent.refl _⟩
    · refine WP.exit ?_; refine thn_exit ?_; refine thn_exit ?_; refine blk_hit ?_
      obtain ⟨h1, h2⟩ := hfin hag
      refine thn_next ⟨t, ⟨hI, h1, h2⟩, ⟨rfl, trivial⟩, pick_only [0] _⟩
  rintro t ⟨hI, hk, hf⟩
  have htl := hI.len
  obtain ⟨q0, gq0⟩ : ∃ x, t[0]? = some x := ⟨_, List.getElem?_eq_getElem (by omega)⟩
  refine WP.seq ?_
  refine WP.plain cf0 rfl ?_
  refine Run.mv rfl rfl rfl rfl ?_
  refine Run.idxO 0 rfl rfl rfl sl_31 rfl rfl rfl rfl (by omega) (by omega) ?_
  refine Run.storeO 0 0 0 (y' := none) rfl rfl rfl rfl ag_3 rfl rfl rfl rfl gq0 rfl rfl ?_
  refine Run.nil ?_
  refine thn_next ?_
  refine WP.seq ?_
  refine WP.plain cf0 rfl ?_
  refine Run.mv rfl rfl rfl rfl ?_
  refine Run.mv rfl rfl rfl rfl ?_
  refine Run.nil ?_
  refine thn_next ?_
  refine WP.via (Γ' := [slA 3 (Enc.int .i64) tv.val ((t.set 0 none).map optI)]) (ent.cons (slA_turn rfl (by rw [List.map_map]; rfl)) (ent.refl _)) ?_
  refine WP.ret ?_
  exact retT [2] _ rfl rfl ⟨tv, _, rfl, .inr ⟨tn, rfl, hgn, hI.done hLm hLlt hpls hk hf⟩, rfl⟩
end Go.Proofs.Ytifpejpeophlbaa
