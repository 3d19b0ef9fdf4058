/- The document's tree, walked. -/
import Derived.Test.YtifpejpeophlbaaRefTree
namespace Go.Proofs.Ytifpejpeophlbaa
open Go.Sep
set_option linter.unusedSimpArgs false
set_option linter.unusedVariables false
attribute [local irreducible] blk slA mp mpF rows rowsBut

theorem getD_get {mn : List Nat} {x : Nat} (h : x < mn.length) : mn[x]? = some (mn.getD x 0) := by simp [List.getD_eq_getElem?_getD, h]

set_option maxHeartbeats 1000000 in
set_option maxRecDepth 100000 in
theorem refTree_ok (hR : Heap) (v : Value) (to : List (List Int)) (hl : SlR (Enc.int .i64).rd.slice hR v to) (hlen : to.length ≤ 1000000000) (hrow : ∀ l ∈ to, l.length ≤ 1000000000000) :
    Tri Try.prog hR 19 #[v] [] fun u Γ' => ∃ (sv : SV) (ts : List Int), u = sv.val ∧ TreeAns to ts ∧ Γ' = [slA 3 (Enc.int .i64) sv.val ts] := by
  refine Tri.of (args := [v]) Try.func19 rfl Try.ntmps19 (by simp) ?_
  refine WP.seq ?_
  refine WP.plain cf0 rfl ?_
  refine Run.mv rfl rfl rfl rfl ?_
  refine Run.nil ?_
  refine thn_next ?_
  refine WP.seq ?_
  refine WP.seq ?_
  refine WP.plain cf0 rfl ?_
  refine Run.mv rfl rfl rfl rfl ?_
  refine Run.call (Δ := []) (Θ := []) rfl rfl rfl rfl ok_27 rfl rfl (ent.refl _) (refGood_ok hR v to hl (by omega) hrow) ?_; rintro _ _ ⟨rfl, rfl⟩
  refine Run.bnot rfl rfl rfl rfl ?_
  refine Run.nil ?_
  refine thn_next ?_
  refine WP.ite rfl (fun hb => ?_) (fun hg => ?_)
  · refine WP.seq ?_
    refine WP.plain cf0 rfl ?_
    refine Run.mv rfl rfl rfl rfl ?_
    refine Run.nil ?_
    refine thn_next ?_
    refine WP.via (slA_nil 3 (Enc.int .i64) _) ?_
    refine WP.ret ?_; refine thn_ret ?_
    exact retT [2] _ rfl rfl ⟨⟨none, 0, 0⟩, [], rfl, .inl ⟨hb, rfl⟩, rfl⟩
  refine WP.skip ?_; refine thn_next ?_
  obtain ⟨tn, rfl, hgn⟩ := (Classical.not_not.1 hg).nat
  have hln : SlR Enc.nat.rd.slice hR v tn := hl.nats
  have hml : (tn.map toI).length = tn.length := by simp
  rw [hml] at hlen
  have hrn : ∀ l ∈ tn, l.length ≤ 1000000000000 := fun l h => by have := hrow (toI l) (List.mem_map.2 ⟨l, h, rfl⟩); rwa [toI_len] at this
  clear hl hrow
  refine WP.seq ?_
  refine WP.plain cf0 rfl ?_
  refine Run.mv rfl rfl rfl rfl ?_
  refine Run.lenR rfl rfl sl_22 rfl rfl (by assumption) ?_
  refine Run.mv rfl rfl rfl rfl ?_
  refine Run.nil ?_
  refine thn_next ?_
  refine WP.seq ?_
  refine WP.plain cf0 rfl ?_
  refine Run.mv rfl rfl rfl rfl ?_
  refine Run.call (Δ := []) (Θ := []) rfl rfl rfl rfl ok_28 rfl rfl (ent.refl _) (without_ok hR v tn (-1) hgn hln hlen hrn) ?_; rintro _ _ ⟨rv, bs0, rfl, hbs0, rfl⟩
  refine Run.mv rfl rfl rfl rfl ?_
  refine Run.nil ?_
  refine thn_next ?_
  refine WP.seq ?_
  refine WP.plain cf0 rfl ?_
  refine Run.mv rfl rfl rfl rfl ?_
  refine Run.makeSlice (E := Enc.slice) ((⟨none, 0, 0⟩ : SV)) rfl rfl rfl sl_41 zr_26 rfl rfl rfl (by first | omega | (simp <;> omega)) (by first | omega | (simp <;> omega)) (by first | omega | (simp <;> omega)) (by first | omega | (simp <;> omega)) ?_
  intro b21
  refine Run.mv rfl rfl rfl rfl ?_
  refine Run.nil ?_
  refine thn_next ?_
  refine WP.seq ?_
  refine WP.plain cf0 rfl ?_
  refine Run.mv rfl rfl rfl rfl ?_
  refine Run.makeSlice (E := Enc.nat) (0) rfl rfl rfl sl_31 zr_3 rfl rfl rfl (by first | omega | (simp <;> omega)) (by first | omega | (simp <;> omega)) (by first | omega | (simp <;> omega)) (by first | omega | (simp <;> omega)) ?_
  intro b23
  refine Run.mv rfl rfl rfl rfl ?_
  refine Run.nil ?_
  refine thn_next ?_
  obtain ⟨ov, hov⟩ : ∃ x : SV, x = ⟨some ⟨b21, 0, none⟩, tn.length, tn.length⟩ := ⟨_, rfl⟩
  obtain ⟨mv, hmv⟩ : ∃ x : SV, x = ⟨some ⟨b23, 0, none⟩, tn.length, tn.length⟩ := ⟨_, rfl⟩
  refine WP.weaken (ρ' := [(0, v), (3, .int .i64 (tn.length : Int)), (4, rv.val), (5, ov.val), (6, mv.val)])
    (Γ' := [slA 4 Enc.bool rv.val bs0, slA 26 Enc.slice ov.val ((List.replicate tn.length ((⟨none, 0, 0⟩ : SV), ([] : List Bool))).map Prod.fst), rows 4 Enc.bool (List.replicate tn.length ((⟨none, 0, 0⟩ : SV), ([] : List Bool))), slA 3 Enc.nat mv.val (List.replicate tn.length 0)])
    ⟨rfl, rfl, rfl, by rw [hov]; rfl, by rw [hmv]; rfl, trivial⟩ ?_ ?_
  · have e : (List.replicate tn.length ((⟨none, 0, 0⟩ : SV), ([] : List Bool))).map Prod.fst = List.replicate tn.length ⟨none, 0, 0⟩ := by simp
    rw [e, hov, hmv]
    exact (rows_nils (T := 4) (E := Enc.bool) _ tn.length).trans (pick_only [1, 1, 0, 0] _)
  clear hov hmv
  have hbl := hbs0.len
  refine WP.seqMeet (α := List (SV × List Bool) × List Nat) (fun z => AllI tn tn.length z.1 z.2) (fun _ => [(0, v), (3, .int .i64 (tn.length : Int)), (5, ov.val), (6, mv.val)])
    (fun z => [slA 4 Enc.bool rv.val bs0, slA 26 Enc.slice ov.val (z.1.map Prod.fst), rows 4 Enc.bool z.1, slA 3 Enc.nat mv.val z.2]) ?_ ?_
  · refine WP.seq ?_
    refine WP.plain cf0 rfl ?_
    refine Run.mv rfl rfl rfl rfl ?_
    refine Run.nil ?_
    refine thn_next ?_
    refine WP.block ?_
    refine WP.loop (α := Nat × List (SV × List Bool) × List Nat) (fun z => z.1 ≤ tn.length ∧ AllI tn z.1 z.2.1 z.2.2) (fun z => [(0, v), (3, .int .i64 (tn.length : Int)), (4, rv.val), (5, ov.val), (6, mv.val), (7, .int .i64 (z.1 : Int))])
      (fun z => [slA 4 Enc.bool rv.val bs0, slA 26 Enc.slice ov.val (z.2.1.map Prod.fst), rows 4 Enc.bool z.2.1, slA 3 Enc.nat mv.val z.2.2]) (fun z => tn.length - z.1)
      (0, _, _) ⟨Nat.zero_le _, by simp, fun x sv r hx => by omega, by simp, fun x hx => by simp [List.getD_eq_getElem?_getD, hx]; exact .zero⟩ ⟨rfl, rfl, rfl, rfl, rfl, rfl, trivial⟩ (ent.refl _) ?_
    rintro ⟨a, p, mn⟩ ⟨ha, hA⟩
    simp only at ha hA ⊢
    have hpl := hA.len
    have hmnl := hA.ml
    refine WP.seq ?_
    refine WP.seq ?_
    refine WP.plain cf0 rfl ?_
    refine Run.mv rfl rfl rfl rfl ?_
    refine Run.mv rfl rfl rfl rfl ?_
    refine Run.int2 rfl rfl rfl rfl rfl rfl ?_
    refine Run.nil ?_
    refine thn_next ?_
    refine WP.ite rfl (fun hlt => ?_) (fun hge => ?_)
    · refine WP.skip ?_; refine thn_next ?_
      have han : a < tn.length := by omega
      obtain ⟨⟨sv0, r0⟩, gp⟩ : ∃ x, p[a]? = some x := ⟨_, List.getElem?_eq_getElem (by omega)⟩
      have gp1 : (p.map Prod.fst)[a]? = some sv0 := by simp [gp]
      have hpm : (p.map Prod.fst).length = tn.length := by simp [hpl]
      obtain ⟨y0, gy0⟩ : ∃ x, bs0[a]? = some x := ⟨_, List.getElem?_eq_getElem (by omega)⟩
      refine WP.seqMeet (α := SV × List Bool × List Nat) (fun z => z.2.1.length = tn.length ∧ (∀ y : Nat, z.2.1[y]? = some true ↔ OverB tn a y) ∧ z.2.2.length = tn.length ∧ ∀ x, x < tn.length → Cnt tn x (a + 1) (z.2.2.getD x 0))
        (fun _ => [(0, v), (3, .int .i64 (tn.length : Int)), (4, rv.val), (5, ov.val), (6, mv.val), (7, .int .i64 (a : Int))])
        (fun z => [slA 4 Enc.bool rv.val bs0, slA 26 Enc.slice ov.val ((p.map Prod.fst).set a z.1), slA 3 Enc.nat mv.val z.2.2, slA 4 Enc.bool z.1.val z.2.1, rowsBut 4 Enc.bool a p]) ?_ ?_
      · refine WP.block ?_
        refine WP.seq ?_
        refine WP.plain cf0 rfl ?_
        refine Run.mv rfl rfl rfl rfl ?_
        refine Run.mv rfl rfl rfl rfl ?_
        refine Run.mv rfl rfl rfl rfl ?_
        refine Run.makeSlice (E := Enc.bool) (false) rfl rfl rfl sl_26 zr_4 rfl rfl rfl (by first | omega | (simp <;> omega)) (by first | omega | (simp <;> omega)) (by first | omega | (simp <;> omega)) (by first | omega | (simp <;> omega)) ?_
        intro b32
        refine Run.idxO 1 rfl rfl rfl sl_41 rfl rfl rfl rfl (by omega) (by omega) ?_
        refine Run.storeO 1 a 0 (y' := (⟨some ⟨b32, 0, none⟩, tn.length, tn.length⟩ : SV)) rfl rfl rfl rfl ag_26 rfl rfl rfl rfl gp1 rfl rfl ?_
        refine Run.nil ?_
        refine thn_next ?_
        obtain ⟨nv, hnv⟩ : ∃ x : SV, x = ⟨some ⟨b32, 0, none⟩, tn.length, tn.length⟩ := ⟨_, rfl⟩
        have hsn : ((p.map Prod.fst).set a nv)[a]? = some nv := List.getElem?_set_self (by omega)
        have hsnl : ((p.map Prod.fst).set a nv).length = tn.length := by simp [hpl]
        refine WP.weaken (ρ' := [(0, v), (3, .int .i64 (tn.length : Int)), (4, rv.val), (5, ov.val), (6, mv.val), (7, .int .i64 (a : Int))])
          (Γ' := [slA 4 Enc.bool rv.val bs0, slA 26 Enc.slice ov.val ((p.map Prod.fst).set a nv), slA 3 Enc.nat mv.val mn, slA 4 Enc.bool nv.val (List.replicate tn.length false), rowsBut 4 Enc.bool a p]) ⟨rfl, rfl, rfl, rfl, rfl, rfl, trivial⟩ ?_ ?_
        · rw [hnv]
          exact (pick_only [2, 0, 0, 0, 0] _).trans ((rows_out gp _).trans (pick_only [2, 2, 2, 2, 1] _))
        clear hnv
        refine WP.seq ?_
        refine WP.seq ?_
        refine WP.plain cf0 rfl ?_
        refine Run.mv rfl rfl rfl rfl ?_
        refine Run.mv rfl rfl rfl rfl ?_
        refine Run.idxO 0 rfl rfl rfl sl_26 rfl rfl rfl rfl (by omega) (by omega) ?_
        refine Run.loadO 0 a 0 rfl rfl ag_4 rfl rfl rfl rfl gy0 rfl ?_
        refine Run.bnotB rfl rfl rfl rfl ?_
        refine Run.nil ?_
        refine thn_next ?_
        refine WP.cond (t := !y0) rfl (fun hu => ?_) (fun hu => ?_)
        · have hna : ¬ RA tn (-1) a := fun h => by have := (hbs0.iff a).2 h; rw [gy0] at this; cases this; simp at hu
          refine WP.exit ?_; refine thn_exit ?_; refine blk_hit ?_
          refine thn_next ⟨(nv, List.replicate tn.length false, mn), ⟨by simp, fun y => ⟨fun h => (by rw [List.getElem?_replicate] at h; split at h <;> cases h), fun h => absurd h.1 hna⟩, hmnl, fun x hx => .no (hA.mn x hx) fun h => hna h.1⟩, ⟨rfl, rfl, rfl, rfl, rfl, rfl, trivial⟩, ent.refl _⟩
        · have hra : RA tn (-1) a := (hbs0.iff a).1 (by rw [gy0]; cases y0 <;> simp at hu ⊢)
          refine WP.skip ?_; refine thn_next ?_
          refine WP.seq ?_
          refine WP.plain cf0 rfl ?_
          refine Run.mv rfl rfl rfl rfl ?_
          refine Run.mv rfl rfl rfl rfl ?_
          refine Run.call (Δ := []) (Θ := [slA 4 Enc.bool rv.val bs0, slA 26 Enc.slice ov.val ((p.map Prod.fst).set a nv), slA 3 Enc.nat mv.val mn, slA 4 Enc.bool nv.val (List.replicate tn.length false), rowsBut 4 Enc.bool a p]) rfl rfl rfl rfl ok_28 rfl rfl (ent.refl _) (without_ok hR v tn (a : Int) hgn hln hlen hrn) ?_; rintro _ _ ⟨cv, met, rfl, hmet, rfl⟩
          refine Run.mv rfl rfl rfl rfl ?_
          refine Run.nil ?_
          refine thn_next ?_
          have hmtl := hmet.len
          refine WP.seq ?_
          refine WP.plain cf0 rfl ?_
          refine Run.mv rfl rfl rfl rfl ?_
          refine Run.nil ?_
          refine thn_next ?_
          refine WP.block ?_
          refine WP.loop (α := Nat × List Bool × List Nat) (fun z => z.1 ≤ tn.length ∧ RowI tn a z.1 z.2.1 z.2.2) (fun z => [(0, v), (3, .int .i64 (tn.length : Int)), (4, rv.val), (5, ov.val), (6, mv.val), (7, .int .i64 (a : Int)), (8, cv.val), (9, .int .i64 (z.1 : Int))])
            (fun z => [slA 4 Enc.bool cv.val met, slA 4 Enc.bool rv.val bs0, slA 26 Enc.slice ov.val ((p.map Prod.fst).set a nv), slA 3 Enc.nat mv.val z.2.2, slA 4 Enc.bool nv.val z.2.1, rowsBut 4 Enc.bool a p]) (fun z => tn.length - z.1)
            (0, List.replicate tn.length false, mn) ⟨Nat.zero_le _, by simp, fun x => ⟨fun h => (by rw [List.getElem?_replicate] at h; split at h <;> cases h), fun h => (by omega)⟩, hmnl, fun x hx => by rw [if_neg (by omega)]; exact hA.mn x hx⟩ ⟨rfl, rfl, rfl, rfl, rfl, rfl, rfl, rfl, trivial⟩ (ent.refl _) ?_
          rintro ⟨b, row, mn2⟩ ⟨hb, hRI⟩
          simp only at hb hRI ⊢
          have hrl := hRI.len
          have hml2 := hRI.ml
          refine WP.seq ?_
          refine WP.seq ?_
          refine WP.plain cf0 rfl ?_
          refine Run.mv rfl rfl rfl rfl ?_
          refine Run.mv rfl rfl rfl rfl ?_
          refine Run.int2 rfl rfl rfl rfl rfl rfl ?_
          refine Run.nil ?_
          refine thn_next ?_
          refine WP.ite rfl (fun hlt2 => ?_) (fun hge2 => ?_)
          · refine WP.skip ?_; refine thn_next ?_
            have hbn : b < tn.length := by omega
            obtain ⟨y1, gy1⟩ : ∃ x, bs0[b]? = some x := ⟨_, List.getElem?_eq_getElem (by omega)⟩
            obtain ⟨y2, gy2⟩ : ∃ x, met[b]? = some x := ⟨_, List.getElem?_eq_getElem (by omega)⟩
            have hov : OverB tn a b ↔ y1 = true ∧ y2 = false := by
              have h1 := hbs0.iff b
              have h2 := hmet.iff b
              rw [gy1] at h1; rw [gy2] at h2
              unfold OverB
              rw [← h1, ← h2]
              cases y1 <;> cases y2 <;> simp [hra]
            refine WP.seqMeet (α := List Bool × List Nat) (fun z => RowI tn a (b + 1) z.1 z.2) (fun _ => [(0, v), (3, .int .i64 (tn.length : Int)), (4, rv.val), (5, ov.val), (6, mv.val), (7, .int .i64 (a : Int)), (8, cv.val), (9, .int .i64 (b : Int))])
              (fun z => [slA 4 Enc.bool cv.val met, slA 4 Enc.bool rv.val bs0, slA 26 Enc.slice ov.val ((p.map Prod.fst).set a nv), slA 3 Enc.nat mv.val z.2, slA 4 Enc.bool nv.val z.1, rowsBut 4 Enc.bool a p]) ?_ ?_
            · refine WP.block ?_
              refine WP.seqCut [(0, v), (3, .int .i64 (tn.length : Int)), (4, rv.val), (5, ov.val), (6, mv.val), (7, .int .i64 (a : Int)), (8, cv.val), (9, .int .i64 (b : Int)), (57, .bool (decide (y1 = true ∧ y2 = false)))]
                [slA 4 Enc.bool cv.val met, slA 4 Enc.bool rv.val bs0, slA 26 Enc.slice ov.val ((p.map Prod.fst).set a nv), slA 3 Enc.nat mv.val mn2, slA 4 Enc.bool nv.val row, rowsBut 4 Enc.bool a p] ?_ ?_
              · refine WP.plain cf0 rfl ?_
                all_goals (first | refine Run.mv rfl rfl rfl rfl ?_)
                all_goals (first | refine Run.mv rfl rfl rfl rfl ?_)
                all_goals (first | refine Run.idxO 1 rfl rfl rfl sl_26 rfl rfl rfl rfl (by omega) (by omega) ?_)
                all_goals (first | refine Run.loadO 1 b 0 rfl rfl ag_4 rfl rfl rfl rfl gy1 rfl ?_)
                all_goals (first | refine Run.tt (by first | assumption | omega) ?_ | refine Run.ff (by first | assumption | omega) ?_ | refine Run.split (fun hc50 => ?_) (fun hc50 => ?_) | refine Run.splitB (fun hc50 => ?_) (fun hc50 => ?_) | skip)
                all_goals (first | refine Run.mv rfl rfl rfl rfl ?_)
                all_goals (first | refine Run.not rfl rfl ?_ | refine Run.mv rfl rfl rfl rfl ?_)
                all_goals (first | refine Run.not rfl rfl ?_ | refine Run.mv rfl rfl rfl rfl ?_)
                all_goals (first | refine Run.not rfl rfl ?_ | refine Run.idxO 0 rfl rfl rfl sl_26 rfl rfl rfl rfl (by omega) (by omega) ?_)
                all_goals (first | refine Run.not rfl rfl ?_ | refine Run.loadO 0 b 0 rfl rfl ag_4 rfl rfl rfl rfl gy2 rfl ?_)
                all_goals (first | refine Run.not rfl rfl ?_ | refine Run.bnotB rfl rfl rfl rfl ?_)
                all_goals (first | refine Run.pick rfl rfl rfl rfl rfl ?_)
                all_goals (refine Run.nil ?_)
                all_goals refine thn_next ⟨⟨rfl, rfl, rfl, rfl, rfl, rfl, rfl, rfl, ?_, trivial⟩, ent.refl _⟩
                all_goals simp [Env.get, *]
              refine WP.ite rfl (fun hc => ?_) (fun hc => ?_)
              · have gr : row[b]? = some (row.getD b false) := by simp [List.getD_eq_getElem?_getD, hrl, hbn]
                have gm : mn2[b]? = some (mn2.getD b 0) := getD_get (by omega)
                have hcb := (hRI.mn b hbn).bd
                rw [if_neg (by omega)] at hcb
                refine WP.seq ?_
                refine WP.plain cf0 rfl ?_
                refine Run.mv rfl rfl rfl rfl ?_
                refine Run.mv rfl rfl rfl rfl ?_
                refine Run.idxO 2 rfl rfl rfl sl_41 rfl rfl rfl rfl (by omega) (by omega) ?_
                refine Run.loadO 2 a 0 rfl rfl ag_26 rfl rfl rfl rfl hsn rfl ?_
                refine Run.mv rfl rfl rfl rfl ?_
                refine Run.idxO 4 rfl rfl rfl sl_26 rfl rfl rfl rfl (by omega) (by omega) ?_
                refine Run.storeO 4 b 0 (y' := true) rfl rfl rfl rfl ag_4 rfl rfl rfl rfl gr rfl rfl ?_
                refine Run.nil ?_
                refine thn_next ?_
                refine WP.plain cf0 rfl ?_
                refine Run.mv rfl rfl rfl rfl ?_
                refine Run.mv rfl rfl rfl rfl ?_
                refine Run.idxO 3 rfl rfl rfl sl_31 rfl rfl rfl rfl (by omega) (by omega) ?_
                refine Run.loadO 3 b 0 rfl rfl ag_3 rfl rfl rfl rfl gm rfl ?_
                refine Run.add64 rfl rfl rfl rfl rfl (by first | omega | (simp <;> omega)) (by first | omega | (simp <;> omega)) ?_
                refine Run.idxO 3 rfl rfl rfl sl_31 rfl rfl rfl rfl (by omega) (by omega) ?_
                refine Run.storeO 3 b 0 (y' := mn2.getD b 0 + 1) rfl rfl rfl rfl ag_3 rfl rfl rfl rfl gm rfl rfl ?_
                refine Run.nil ?_
                refine blk_norm ?_
                refine thn_next ⟨(row.set b true, mn2.set b (mn2.getD b 0 + 1)), hRI.yes hbn (hov.2 hc), ⟨rfl, rfl, rfl, rfl, rfl, rfl, rfl, rfl, trivial⟩, ent.refl _⟩
              · refine WP.skip ?_; refine blk_norm ?_
                refine thn_next ⟨(row, mn2), hRI.no hbn fun h => hc (hov.1 h), ⟨rfl, rfl, rfl, rfl, rfl, rfl, rfl, rfl, trivial⟩, ent.refl _⟩
            rintro ⟨row3, mn3⟩ hRI3
            refine WP.plain cf0 rfl ?_
            refine Run.mv rfl rfl rfl rfl ?_
            refine Run.add64 rfl rfl rfl rfl rfl (by first | omega | (simp <;> omega)) (by first | omega | (simp <;> omega)) ?_
            refine Run.mv rfl rfl rfl rfl ?_
            refine Run.nil ?_
            refine thn_next ⟨(b + 1, row3, mn3), ⟨hbn, hRI3⟩, by simp only; omega, ⟨rfl, rfl, rfl, rfl, rfl, rfl, rfl, rfl, trivial⟩, ent.refl _⟩
          · refine WP.exit ?_; refine thn_exit ?_; refine thn_exit ?_; refine blk_hit ?_; refine blk_norm ?_
            have hbe : b = tn.length := by omega
            subst hbe
            refine thn_next ⟨(nv, row, mn2), ⟨hrl, fun y => ?_, hml2, fun x hx => ?_⟩, ⟨rfl, rfl, rfl, rfl, rfl, rfl, trivial⟩, pick_only [1, 1, 1, 1, 1] _⟩
            · rw [hRI.row]; exact ⟨fun h => h.2, fun h => ⟨h.2.1.lt hgn, h⟩⟩
            · have := hRI.mn x hx; rw [if_pos hx] at this; exact this
      rintro ⟨nv, row, mn2⟩ ⟨h1, h2, h3, h4⟩
      refine WP.plain cf0 rfl ?_
      refine Run.mv rfl rfl rfl rfl ?_
      refine Run.add64 rfl rfl rfl rfl rfl (by first | omega | (simp <;> omega)) (by first | omega | (simp <;> omega)) ?_
      refine Run.mv rfl rfl rfl rfl ?_
      refine Run.nil ?_
      refine thn_next ⟨(a + 1, p.set a (nv, row), mn2), ⟨han, hA.put h1 h2 h3 h4 han⟩, by simp only; omega, ⟨rfl, rfl, rfl, rfl, rfl, rfl, trivial⟩, ?_⟩
      simp only [List.map_set]
      exact (pick_only [3, 3, 0, 0, 0] _).trans ((rows_in (by omega) _).trans (pick_only [1, 1, 0, 0] _))
    · refine WP.exit ?_; refine thn_exit ?_; refine thn_exit ?_; refine blk_hit ?_
      have hae : a = tn.length := by omega
      subst hae
      refine thn_next ⟨(p, mn), hA, ⟨rfl, rfl, rfl, rfl, trivial⟩, ent.refl _⟩
  rintro ⟨p, mn⟩ hA
  simp only at hA ⊢
  have hpl := hA.len
  have hmnl := hA.ml
  refine WP.seq ?_
  refine WP.plain cf0 rfl ?_
  refine Run.mv rfl rfl rfl rfl ?_
  refine Run.makeSlice (E := encO) (some 0) rfl rfl rfl sl_31 zr_3 rfl rfl rfl (by first | omega | (simp <;> omega)) (by first | omega | (simp <;> omega)) (by first | omega | (simp <;> omega)) (by first | omega | (simp <;> omega)) ?_
  intro b71
  refine Run.mv rfl rfl rfl rfl ?_
  refine Run.nil ?_
  refine thn_next ?_
  obtain ⟨tv, htv⟩ : ∃ x : SV, x = ⟨some ⟨b71, 0, none⟩, tn.length, tn.length⟩ := ⟨_, rfl⟩
  refine WP.seqMeet (α := Tr) (fun t => t.length = tn.length ∧ ∀ b, b < tn.length → ∃ o, t[b]? = some o ∧ Best tn mn b tn.length o) (fun _ => [(10, tv.val)]) (fun t => [slA 3 encO tv.val t]) ?_ ?_
  · refine WP.weaken (ρ' := [(3, .int .i64 (tn.length : Int)), (5, ov.val), (6, mv.val), (10, tv.val)]) (Γ' := [slA 3 encO tv.val (List.replicate tn.length (some 0))] ++ [slA 26 Enc.slice ov.val (p.map Prod.fst), rows 4 Enc.bool p, slA 3 Enc.nat mv.val mn]) ⟨rfl, rfl, rfl, by rw [htv]; rfl, trivial⟩ ?_ ?_
    · rw [htv]; exact pick_only [4, 1, 1, 1] _
    clear htv
    refine WP.freeze (Γ := [slA 3 encO tv.val (List.replicate tn.length (some 0))]) [slA 26 Enc.slice ov.val (p.map Prod.fst), rows 4 Enc.bool p, slA 3 Enc.nat mv.val mn] fun g hg2 hd => ?_
    have rO : SlR Enc.bool.rd.slice (un hR g) ov.val (p.map Prod.snd) := lent_rows 0 1 rfl rfl hg2 hd
    have rM : SlR Enc.nat.rd (un hR g) mv.val mn := lent_at 2 rfl hg2 hd
    generalize un hR g = hS at rO rM
    have hpm2 : (p.map Prod.snd).length = tn.length := by simp [hpl]
    refine WP.seq ?_
    refine WP.plain cf0 rfl ?_
    refine Run.mv rfl rfl rfl rfl ?_
    refine Run.nil ?_
    refine thn_next ?_
    refine WP.block ?_
    refine WP.loop (α := Nat × Tr) (fun z => z.1 ≤ tn.length ∧ z.2.length = tn.length ∧ ∀ b, b < z.1 → ∃ o, z.2[b]? = some o ∧ Best tn mn b tn.length o) (fun z => [(3, .int .i64 (tn.length : Int)), (5, ov.val), (6, mv.val), (10, tv.val), (11, .int .i64 (z.1 : Int))])
      (fun z => [slA 3 encO tv.val z.2]) (fun z => tn.length - z.1) (0, List.replicate tn.length (some 0)) ⟨Nat.zero_le _, by simp, fun b hb => (by simp at hb)⟩ ⟨rfl, rfl, rfl, rfl, rfl, trivial⟩ (ent.refl _) ?_
    rintro ⟨b, t⟩ ⟨hb, htl, hB⟩
    simp only at hb htl hB ⊢
    refine WP.seq ?_
    refine WP.seq ?_
    refine WP.plain cf0 rfl ?_
    refine Run.mv rfl rfl rfl rfl ?_
    refine Run.mv rfl rfl rfl rfl ?_
    refine Run.int2 rfl rfl rfl rfl rfl rfl ?_
    refine Run.nil ?_
    refine thn_next ?_
    refine WP.ite rfl (fun hlt => ?_) (fun hge => ?_)
    · refine WP.skip ?_; refine thn_next ?_
      have hbn : b < tn.length := by omega
      obtain ⟨q, gq⟩ : ∃ x, t[b]? = some x := ⟨_, List.getElem?_eq_getElem (by omega)⟩
      refine WP.seqMeet (α := Tr) (fun t => t.length = tn.length ∧ ∀ x, x < b + 1 → ∃ o, t[x]? = some o ∧ Best tn mn x tn.length o) (fun _ => [(3, .int .i64 (tn.length : Int)), (5, ov.val), (6, mv.val), (10, tv.val), (11, .int .i64 (b : Int))]) (fun t => [slA 3 encO tv.val t]) ?_ ?_
      · refine WP.block ?_
        refine WP.seq ?_
        refine WP.plain cf0 rfl ?_
        refine Run.mv rfl rfl rfl rfl ?_
        refine Run.mv rfl rfl rfl rfl ?_
        refine Run.idxO 0 rfl rfl rfl sl_31 rfl rfl rfl rfl (by omega) (by omega) ?_
        refine Run.storeO 0 b 0 (y' := none) rfl rfl rfl rfl ag_3 rfl rfl rfl rfl gq rfl rfl ?_
        refine Run.nil ?_
        refine thn_next ?_
        refine WP.seq ?_
        refine WP.plain cf0 rfl ?_
        refine Run.mv rfl rfl rfl rfl ?_
        refine Run.nil ?_
        refine thn_next ?_
        refine WP.block ?_
        refine WP.loop (α := Nat × Tr) (fun z => z.1 ≤ tn.length ∧ z.2.length = tn.length ∧ (∀ x, x < b → ∃ o, z.2[x]? = some o ∧ Best tn mn x tn.length o) ∧ ∃ o, z.2[b]? = some o ∧ Best tn mn b z.1 o) (fun z => [(3, .int .i64 (tn.length : Int)), (5, ov.val), (6, mv.val), (10, tv.val), (11, .int .i64 (b : Int)), (12, .int .i64 (z.1 : Int))])
          (fun z => [slA 3 encO tv.val z.2]) (fun z => tn.length - z.1) (0, t.set b none) ⟨Nat.zero_le _, by simp [htl], fun x hx => (by rw [List.getElem?_set_ne (by omega)]; exact hB x hx), none, List.getElem?_set_self (by omega), fun x hx => (by simp at hx)⟩ ⟨rfl, rfl, rfl, rfl, rfl, rfl, trivial⟩ (ent.refl _) ?_
        rintro ⟨a, t2⟩ ⟨ha, htl2, hB2, o, go, hbo⟩
        simp only at ha htl2 hB2 go hbo ⊢
        refine WP.seq ?_
        refine WP.seq ?_
        refine WP.plain cf0 rfl ?_
        refine Run.mv rfl rfl rfl rfl ?_
        refine Run.mv rfl rfl rfl rfl ?_
        refine Run.int2 rfl rfl rfl rfl rfl rfl ?_
        refine Run.nil ?_
        refine thn_next ?_
        refine WP.ite rfl (fun hlt2 => ?_) (fun hge2 => ?_)
        · refine WP.skip ?_; refine thn_next ?_
          have han : a < tn.length := by omega
          obtain ⟨⟨sv, r⟩, gp⟩ : ∃ x, p[a]? = some x := ⟨_, List.getElem?_eq_getElem (by omega)⟩
          have gp2 : (p.map Prod.snd)[a]? = some r := by simp [gp]
          obtain ⟨hrl, hrow⟩ := hA.row a sv r han gp
          obtain ⟨u, gu, hu⟩ := rO.rowV gp2
          have gu' : cellH hS (elemAddr ov.val ((a : Int).toNat * 1)) u := gu
          obtain ⟨y, gy⟩ : ∃ x, r[b]? = some x := ⟨_, List.getElem?_eq_getElem (by omega)⟩
          have gy' : r[(b : Int).toNat]? = some y := gy
          have hyo : y = true ↔ OverB tn a b := by rw [← hrow b, gy]; simp
          have gma : mn[(a : Int).toNat]? = some (mn.getD a 0) := getD_get (by omega)
          refine WP.seqMeet (α := Tr) (fun t => t.length = tn.length ∧ (∀ x, x < b → ∃ o, t[x]? = some o ∧ Best tn mn x tn.length o) ∧ ∃ o, t[b]? = some o ∧ Best tn mn b (a + 1) o) (fun _ => [(3, .int .i64 (tn.length : Int)), (5, ov.val), (6, mv.val), (10, tv.val), (11, .int .i64 (b : Int)), (12, .int .i64 (a : Int))]) (fun t => [slA 3 encO tv.val t]) ?_ ?_
          · refine WP.block ?_
            refine WP.seqMeet (α := Bool) (fun c => (c = true → a ≠ b ∧ OverB tn a b ∧ ∀ m, o = some m → mn.getD m 0 < mn.getD a 0) ∧ (c = false → a = b ∨ ¬ OverB tn a b ∨ ∃ m, o = some m ∧ mn.getD a 0 ≤ mn.getD m 0)) (fun c => [(3, .int .i64 (tn.length : Int)), (5, ov.val), (6, mv.val), (10, tv.val), (11, .int .i64 (b : Int)), (12, .int .i64 (a : Int)), (117, .bool c)]) (fun _ => [slA 3 encO tv.val t2]) ?_ ?_
            · cases o with
              | none =>
                have hneg : optI none < 0 := by decide
                refine WP.drawn0 cf0 mixed rfl (by kernel_rfl) ?_
                all_goals (first | refine Run.mv rfl rfl rfl rfl ?_)
                all_goals (first | refine Run.mv rfl rfl rfl rfl ?_)
                all_goals (first | refine Run.int2 rfl rfl rfl rfl rfl rfl ?_)
                all_goals (first | refine Run.tt (by first | assumption | omega) ?_ | refine Run.ff (by first | assumption | omega) ?_ | refine Run.split (fun hc87 => ?_) (fun hc87 => ?_) | refine Run.splitB (fun hc87 => ?_) (fun hc87 => ?_) | skip)
                all_goals (first | refine Run.mv rfl rfl rfl rfl ?_)
                all_goals (first | refine Run.not rfl rfl ?_ | refine Run.mv rfl rfl rfl rfl ?_)
                all_goals (first | refine Run.not rfl rfl ?_ | refine Run.mv rfl rfl rfl rfl ?_)
                all_goals (first | refine Run.not rfl rfl ?_ | refine Run.idxR rfl rfl rfl sl_41 rfl rfl rO (by rfl) (by omega) (by omega) ?_)
                all_goals (first | refine Run.not rfl rfl ?_ | refine Run.loadR rfl rfl ag_26 rfl rfl gu' ?_)
                all_goals (first | refine Run.not rfl rfl ?_ | refine Run.mv rfl rfl rfl rfl ?_)
                all_goals (first | refine Run.not rfl rfl ?_ | refine Run.idxR rfl rfl rfl sl_26 rfl rfl hu (by rfl) (by omega) (by omega) ?_)
                all_goals (first | refine Run.not rfl rfl ?_ | refine Run.loadR rfl rfl ag_4 rfl rfl (SlR.cell0 hu gy' rfl) ?_)
                all_goals (first | refine Run.tt (by first | assumption | omega) ?_ | refine Run.ff (by first | assumption | omega) ?_ | refine Run.split (fun hc95 => ?_) (fun hc95 => ?_) | refine Run.splitB (fun hc95 => ?_) (fun hc95 => ?_) | skip)
                all_goals (first | refine Run.pick rfl rfl rfl rfl rfl ?_)
                all_goals (first | refine Run.mv rfl rfl rfl rfl ?_)
                all_goals (first | refine Run.not rfl rfl ?_ | refine Run.mv rfl rfl rfl rfl ?_)
                all_goals (first | refine Run.not rfl rfl ?_ | refine Run.mv rfl rfl rfl rfl ?_)
                all_goals (first | refine Run.not rfl rfl ?_ | refine Run.idxO 0 rfl rfl rfl sl_31 rfl rfl rfl rfl (by omega) (by omega) ?_)
                all_goals (first | refine Run.not rfl rfl ?_ | refine Run.loadO 0 b 0 rfl rfl ag_3 rfl rfl rfl rfl go rfl ?_)
                all_goals (first | refine Run.not rfl rfl ?_ | refine Run.int2 rfl rfl rfl rfl rfl rfl ?_)
                all_goals (first | refine Run.tt (by first | assumption | omega) ?_ | refine Run.ff (by first | assumption | omega) ?_ | refine Run.split (fun hc102 => ?_) (fun hc102 => ?_) | refine Run.splitB (fun hc102 => ?_) (fun hc102 => ?_) | skip)
                all_goals (first | refine Run.not rfl rfl ?_ | refine Run.mv rfl rfl rfl rfl ?_)
                all_goals (first | refine Run.not rfl rfl ?_ | refine Run.mv rfl rfl rfl rfl ?_)
                all_goals (first | refine Run.not rfl rfl ?_ | refine Run.mv rfl rfl rfl rfl ?_)
                all_goals (first | refine Run.not rfl rfl ?_ | refine Run.idxO 0 rfl rfl rfl sl_31 rfl rfl rfl rfl (by first | omega | (simp <;> omega)) (by first | omega | (simp <;> omega)) ?_ | refine Run.idxO 1 rfl rfl rfl sl_31 rfl rfl rfl rfl (by first | omega | (simp <;> omega)) (by first | omega | (simp <;> omega)) ?_ | refine Run.idxO 2 rfl rfl rfl sl_31 rfl rfl rfl rfl (by first | omega | (simp <;> omega)) (by first | omega | (simp <;> omega)) ?_ | refine Run.idxO 3 rfl rfl rfl sl_31 rfl rfl rfl rfl (by first | omega | (simp <;> omega)) (by first | omega | (simp <;> omega)) ?_ | refine Run.idxO 4 rfl rfl rfl sl_31 rfl rfl rfl rfl (by first | omega | (simp <;> omega)) (by first | omega | (simp <;> omega)) ?_ | refine Run.idxO 5 rfl rfl rfl sl_31 rfl rfl rfl rfl (by first | omega | (simp <;> omega)) (by first | omega | (simp <;> omega)) ?_ | refine Run.idxR rfl rfl rfl sl_31 rfl rfl (by assumption) (by rfl) (by first | omega | (simp <;> omega)) (by first | omega | (simp <;> omega)) ?_)
                all_goals (first | refine Run.not rfl rfl ?_ | refine Run.loadB 0 rfl rfl ag_3 rfl rfl rfl rfl rfl ?_ | refine Run.loadO 0 _ 0 rfl rfl ag_3 rfl rfl rfl rfl (by assumption) rfl ?_ | refine Run.loadO 0 _ _ rfl rfl ag_3 rfl rfl rfl rfl (by assumption) rfl ?_ | refine Run.loadB 1 rfl rfl ag_3 rfl rfl rfl rfl rfl ?_ | refine Run.loadO 1 _ 0 rfl rfl ag_3 rfl rfl rfl rfl (by assumption) rfl ?_ | refine Run.loadO 1 _ _ rfl rfl ag_3 rfl rfl rfl rfl (by assumption) rfl ?_ | refine Run.loadB 2 rfl rfl ag_3 rfl rfl rfl rfl rfl ?_ | refine Run.loadO 2 _ 0 rfl rfl ag_3 rfl rfl rfl rfl (by assumption) rfl ?_ | refine Run.loadO 2 _ _ rfl rfl ag_3 rfl rfl rfl rfl (by assumption) rfl ?_ | refine Run.loadB 3 rfl rfl ag_3 rfl rfl rfl rfl rfl ?_ | refine Run.loadO 3 _ 0 rfl rfl ag_3 rfl rfl rfl rfl (by assumption) rfl ?_ | refine Run.loadO 3 _ _ rfl rfl ag_3 rfl rfl rfl rfl (by assumption) rfl ?_ | refine Run.loadB 4 rfl rfl ag_3 rfl rfl rfl rfl rfl ?_ | refine Run.loadO 4 _ 0 rfl rfl ag_3 rfl rfl rfl rfl (by assumption) rfl ?_ | refine Run.loadO 4 _ _ rfl rfl ag_3 rfl rfl rfl rfl (by assumption) rfl ?_ | refine Run.loadB 5 rfl rfl ag_3 rfl rfl rfl rfl rfl ?_ | refine Run.loadO 5 _ 0 rfl rfl ag_3 rfl rfl rfl rfl (by assumption) rfl ?_ | refine Run.loadO 5 _ _ rfl rfl ag_3 rfl rfl rfl rfl (by assumption) rfl ?_ | refine Run.loadR rfl rfl ag_3 rfl rfl (by first | assumption | exact SlR.cell0 (by assumption) (by assumption) rfl | exact SlR.cell (by assumption) (by assumption) rfl) ?_)
                all_goals (first | refine Run.not rfl rfl ?_ | refine Run.mv rfl rfl rfl rfl ?_)
                all_goals (first | refine Run.not rfl rfl ?_ | refine Run.mv rfl rfl rfl rfl ?_)
                all_goals (first | refine Run.not rfl rfl ?_ | refine Run.mv rfl rfl rfl rfl ?_)
                all_goals (first | refine Run.not rfl rfl ?_ | refine Run.idxO 0 rfl rfl rfl sl_31 rfl rfl rfl rfl (by first | omega | (simp <;> omega)) (by first | omega | (simp <;> omega)) ?_ | refine Run.idxO 1 rfl rfl rfl sl_31 rfl rfl rfl rfl (by first | omega | (simp <;> omega)) (by first | omega | (simp <;> omega)) ?_ | refine Run.idxO 2 rfl rfl rfl sl_31 rfl rfl rfl rfl (by first | omega | (simp <;> omega)) (by first | omega | (simp <;> omega)) ?_ | refine Run.idxO 3 rfl rfl rfl sl_31 rfl rfl rfl rfl (by first | omega | (simp <;> omega)) (by first | omega | (simp <;> omega)) ?_ | refine Run.idxO 4 rfl rfl rfl sl_31 rfl rfl rfl rfl (by first | omega | (simp <;> omega)) (by first | omega | (simp <;> omega)) ?_ | refine Run.idxO 5 rfl rfl rfl sl_31 rfl rfl rfl rfl (by first | omega | (simp <;> omega)) (by first | omega | (simp <;> omega)) ?_ | refine Run.idxR rfl rfl rfl sl_31 rfl rfl (by assumption) (by rfl) (by first | omega | (simp <;> omega)) (by first | omega | (simp <;> omega)) ?_)
                all_goals (first | refine Run.not rfl rfl ?_ | refine Run.loadB 0 rfl rfl ag_3 rfl rfl rfl rfl rfl ?_ | refine Run.loadO 0 _ 0 rfl rfl ag_3 rfl rfl rfl rfl (by assumption) rfl ?_ | refine Run.loadO 0 _ _ rfl rfl ag_3 rfl rfl rfl rfl (by assumption) rfl ?_ | refine Run.loadB 1 rfl rfl ag_3 rfl rfl rfl rfl rfl ?_ | refine Run.loadO 1 _ 0 rfl rfl ag_3 rfl rfl rfl rfl (by assumption) rfl ?_ | refine Run.loadO 1 _ _ rfl rfl ag_3 rfl rfl rfl rfl (by assumption) rfl ?_ | refine Run.loadB 2 rfl rfl ag_3 rfl rfl rfl rfl rfl ?_ | refine Run.loadO 2 _ 0 rfl rfl ag_3 rfl rfl rfl rfl (by assumption) rfl ?_ | refine Run.loadO 2 _ _ rfl rfl ag_3 rfl rfl rfl rfl (by assumption) rfl ?_ | refine Run.loadB 3 rfl rfl ag_3 rfl rfl rfl rfl rfl ?_ | refine Run.loadO 3 _ 0 rfl rfl ag_3 rfl rfl rfl rfl (by assumption) rfl ?_ | refine Run.loadO 3 _ _ rfl rfl ag_3 rfl rfl rfl rfl (by assumption) rfl ?_ | refine Run.loadB 4 rfl rfl ag_3 rfl rfl rfl rfl rfl ?_ | refine Run.loadO 4 _ 0 rfl rfl ag_3 rfl rfl rfl rfl (by assumption) rfl ?_ | refine Run.loadO 4 _ _ rfl rfl ag_3 rfl rfl rfl rfl (by assumption) rfl ?_ | refine Run.loadB 5 rfl rfl ag_3 rfl rfl rfl rfl rfl ?_ | refine Run.loadO 5 _ 0 rfl rfl ag_3 rfl rfl rfl rfl (by assumption) rfl ?_ | refine Run.loadO 5 _ _ rfl rfl ag_3 rfl rfl rfl rfl (by assumption) rfl ?_ | refine Run.loadR rfl rfl ag_3 rfl rfl (by first | assumption | exact SlR.cell0 (by assumption) (by assumption) rfl | exact SlR.cell (by assumption) (by assumption) rfl) ?_)
                all_goals (first | refine Run.not rfl rfl ?_ | refine Run.idxO 0 rfl rfl rfl sl_31 rfl rfl rfl rfl (by first | omega | (simp <;> omega)) (by first | omega | (simp <;> omega)) ?_ | refine Run.idxO 1 rfl rfl rfl sl_31 rfl rfl rfl rfl (by first | omega | (simp <;> omega)) (by first | omega | (simp <;> omega)) ?_ | refine Run.idxO 2 rfl rfl rfl sl_31 rfl rfl rfl rfl (by first | omega | (simp <;> omega)) (by first | omega | (simp <;> omega)) ?_ | refine Run.idxO 3 rfl rfl rfl sl_31 rfl rfl rfl rfl (by first | omega | (simp <;> omega)) (by first | omega | (simp <;> omega)) ?_ | refine Run.idxO 4 rfl rfl rfl sl_31 rfl rfl rfl rfl (by first | omega | (simp <;> omega)) (by first | omega | (simp <;> omega)) ?_ | refine Run.idxO 5 rfl rfl rfl sl_31 rfl rfl rfl rfl (by first | omega | (simp <;> omega)) (by first | omega | (simp <;> omega)) ?_ | refine Run.idxR rfl rfl rfl sl_31 rfl rfl (by assumption) (by rfl) (by first | omega | (simp <;> omega)) (by first | omega | (simp <;> omega)) ?_)
                all_goals (first | refine Run.not rfl rfl ?_ | refine Run.loadB 0 rfl rfl ag_3 rfl rfl rfl rfl rfl ?_ | refine Run.loadO 0 _ 0 rfl rfl ag_3 rfl rfl rfl rfl (by assumption) rfl ?_ | refine Run.loadO 0 _ _ rfl rfl ag_3 rfl rfl rfl rfl (by assumption) rfl ?_ | refine Run.loadB 1 rfl rfl ag_3 rfl rfl rfl rfl rfl ?_ | refine Run.loadO 1 _ 0 rfl rfl ag_3 rfl rfl rfl rfl (by assumption) rfl ?_ | refine Run.loadO 1 _ _ rfl rfl ag_3 rfl rfl rfl rfl (by assumption) rfl ?_ | refine Run.loadB 2 rfl rfl ag_3 rfl rfl rfl rfl rfl ?_ | refine Run.loadO 2 _ 0 rfl rfl ag_3 rfl rfl rfl rfl (by assumption) rfl ?_ | refine Run.loadO 2 _ _ rfl rfl ag_3 rfl rfl rfl rfl (by assumption) rfl ?_ | refine Run.loadB 3 rfl rfl ag_3 rfl rfl rfl rfl rfl ?_ | refine Run.loadO 3 _ 0 rfl rfl ag_3 rfl rfl rfl rfl (by assumption) rfl ?_ | refine Run.loadO 3 _ _ rfl rfl ag_3 rfl rfl rfl rfl (by assumption) rfl ?_ | refine Run.loadB 4 rfl rfl ag_3 rfl rfl rfl rfl rfl ?_ | refine Run.loadO 4 _ 0 rfl rfl ag_3 rfl rfl rfl rfl (by assumption) rfl ?_ | refine Run.loadO 4 _ _ rfl rfl ag_3 rfl rfl rfl rfl (by assumption) rfl ?_ | refine Run.loadB 5 rfl rfl ag_3 rfl rfl rfl rfl rfl ?_ | refine Run.loadO 5 _ 0 rfl rfl ag_3 rfl rfl rfl rfl (by assumption) rfl ?_ | refine Run.loadO 5 _ _ rfl rfl ag_3 rfl rfl rfl rfl (by assumption) rfl ?_ | refine Run.loadR rfl rfl ag_3 rfl rfl (by first | assumption | exact SlR.cell0 (by assumption) (by assumption) rfl | exact SlR.cell (by assumption) (by assumption) rfl) ?_)
                all_goals (first | refine Run.not rfl rfl ?_ | refine Run.int2 rfl rfl rfl rfl rfl rfl ?_)
                all_goals (first | refine Run.not rfl rfl ?_ | refine Run.pick rfl rfl rfl rfl rfl ?_)
                all_goals (first | refine Run.pick rfl rfl rfl rfl rfl ?_)
                all_goals (refine Run.nil ?_)
                all_goals refine thn_next ⟨_, ?_, ⟨rfl, rfl, rfl, rfl, rfl, rfl, rfl, trivial⟩, ent.refl _⟩
                all_goals (clear hA hbs0 hB hB2 hrow rO rM hu gu gu' hln hrn hgn hg2 hd hg hbl go gq gp gp2 gma gy gy'; simp_all <;> omega)
              | some m =>
                obtain ⟨q1, q2, q3, q4⟩ := hbo
                have hnn : ¬ optI (some m) < 0 := by simp only [optI]; omega
                have hi1 : optI (some m) = (m : Int) := rfl
                have gmm : mn[(optI (some m)).toNat]? = some (mn.getD m 0) := getD_get (by omega)
                refine WP.drawn0 cf0 mixed rfl (by kernel_rfl) ?_
                all_goals (first | refine Run.mv rfl rfl rfl rfl ?_)
                all_goals (first | refine Run.mv rfl rfl rfl rfl ?_)
                all_goals (first | refine Run.int2 rfl rfl rfl rfl rfl rfl ?_)
                all_goals (first | refine Run.tt (by first | assumption | omega) ?_ | refine Run.ff (by first | assumption | omega) ?_ | refine Run.split (fun hc87 => ?_) (fun hc87 => ?_) | refine Run.splitB (fun hc87 => ?_) (fun hc87 => ?_) | skip)
                all_goals (first | refine Run.mv rfl rfl rfl rfl ?_)
                all_goals (first | refine Run.not rfl rfl ?_ | refine Run.mv rfl rfl rfl rfl ?_)
                all_goals (first | refine Run.not rfl rfl ?_ | refine Run.mv rfl rfl rfl rfl ?_)
                all_goals (first | refine Run.not rfl rfl ?_ | refine Run.idxR rfl rfl rfl sl_41 rfl rfl rO (by rfl) (by omega) (by omega) ?_)
                all_goals (first | refine Run.not rfl rfl ?_ | refine Run.loadR rfl rfl ag_26 rfl rfl gu' ?_)
                all_goals (first | refine Run.not rfl rfl ?_ | refine Run.mv rfl rfl rfl rfl ?_)
                all_goals (first | refine Run.not rfl rfl ?_ | refine Run.idxR rfl rfl rfl sl_26 rfl rfl hu (by rfl) (by omega) (by omega) ?_)
                all_goals (first | refine Run.not rfl rfl ?_ | refine Run.loadR rfl rfl ag_4 rfl rfl (SlR.cell0 hu gy' rfl) ?_)
                all_goals (first | refine Run.tt (by first | assumption | omega) ?_ | refine Run.ff (by first | assumption | omega) ?_ | refine Run.split (fun hc95 => ?_) (fun hc95 => ?_) | refine Run.splitB (fun hc95 => ?_) (fun hc95 => ?_) | skip)
                all_goals (first | refine Run.pick rfl rfl rfl rfl rfl ?_)
                all_goals (first | refine Run.mv rfl rfl rfl rfl ?_)
                all_goals (first | refine Run.not rfl rfl ?_ | refine Run.mv rfl rfl rfl rfl ?_)
                all_goals (first | refine Run.not rfl rfl ?_ | refine Run.mv rfl rfl rfl rfl ?_)
                all_goals (first | refine Run.not rfl rfl ?_ | refine Run.idxO 0 rfl rfl rfl sl_31 rfl rfl rfl rfl (by omega) (by omega) ?_)
                all_goals (first | refine Run.not rfl rfl ?_ | refine Run.loadO 0 b 0 rfl rfl ag_3 rfl rfl rfl rfl go rfl ?_)
                all_goals (first | refine Run.not rfl rfl ?_ | refine Run.int2 rfl rfl rfl rfl rfl rfl ?_)
                all_goals (first | refine Run.tt (by first | assumption | omega) ?_ | refine Run.ff (by first | assumption | omega) ?_ | refine Run.split (fun hc102 => ?_) (fun hc102 => ?_) | refine Run.splitB (fun hc102 => ?_) (fun hc102 => ?_) | skip)
                all_goals (first | refine Run.not rfl rfl ?_ | refine Run.mv rfl rfl rfl rfl ?_)
                all_goals (first | refine Run.not rfl rfl ?_ | refine Run.mv rfl rfl rfl rfl ?_)
                all_goals (first | refine Run.not rfl rfl ?_ | refine Run.mv rfl rfl rfl rfl ?_)
                all_goals (first | refine Run.not rfl rfl ?_ | refine Run.idxR rfl rfl rfl sl_31 rfl rfl rM (by rfl) (by omega) (by omega) ?_)
                all_goals (first | refine Run.not rfl rfl ?_ | refine Run.loadR rfl rfl ag_3 rfl rfl (SlR.cell0 rM gma rfl) ?_)
                all_goals (first | refine Run.not rfl rfl ?_ | refine Run.mv rfl rfl rfl rfl ?_)
                all_goals (first | refine Run.not rfl rfl ?_ | refine Run.mv rfl rfl rfl rfl ?_)
                all_goals (first | refine Run.not rfl rfl ?_ | refine Run.mv rfl rfl rfl rfl ?_)
                all_goals (first | refine Run.not rfl rfl ?_ | refine Run.idxO 0 rfl rfl rfl sl_31 rfl rfl rfl rfl (by omega) (by omega) ?_)
                all_goals (first | refine Run.not rfl rfl ?_ | refine Run.loadO 0 b 0 rfl rfl ag_3 rfl rfl rfl rfl go rfl ?_)
                all_goals (first | refine Run.not rfl rfl ?_ | refine Run.idxR rfl rfl rfl sl_31 rfl rfl rM (by rfl) (by omega) (by omega) ?_)
                all_goals (first | refine Run.not rfl rfl ?_ | refine Run.loadR rfl rfl ag_3 rfl rfl (SlR.cell0 rM gmm rfl) ?_)
                all_goals (first | refine Run.not rfl rfl ?_ | refine Run.int2 rfl rfl rfl rfl rfl rfl ?_)
                all_goals (first | refine Run.not rfl rfl ?_ | refine Run.pick rfl rfl rfl rfl rfl ?_)
                all_goals (first | refine Run.pick rfl rfl rfl rfl rfl ?_)
                all_goals (refine Run.nil ?_)
                all_goals refine thn_next ⟨_, ?_, ⟨rfl, rfl, rfl, rfl, rfl, rfl, rfl, trivial⟩, ent.refl _⟩
                all_goals refine ⟨fun h => ?_, fun h => ?_⟩
                all_goals first
                  | exact absurd h (by decide)
                  | exact ⟨by omega, hyo.1 (by assumption), fun m' hm => by cases hm; simp only [decide_eq_true_eq] at h; omega⟩
                  | exact .inl (by omega)
                  | exact .inr (.inl fun ho => absurd (hyo.2 ho) (by rw [hc95]; decide))
                  | exact .inr (.inr ⟨m, rfl, by simp only [decide_eq_false_iff_not] at h; omega⟩)
            rintro c ⟨hc1, hc2⟩
            refine WP.cond (t := c) rfl (fun hc => ?_) (fun hc => ?_)
            · obtain ⟨k1, k2, k3⟩ := hc1 hc
              refine WP.plain cf0 rfl ?_
              refine Run.mv rfl rfl rfl rfl ?_
              refine Run.mv rfl rfl rfl rfl ?_
              refine Run.mv rfl rfl rfl rfl ?_
              refine Run.idxO 0 rfl rfl rfl sl_31 rfl rfl rfl rfl (by omega) (by omega) ?_
              refine Run.storeO 0 b 0 (y' := some a) rfl rfl rfl rfl ag_3 rfl rfl rfl rfl go rfl rfl ?_
              refine Run.nil ?_
              refine blk_norm ?_
              refine thn_next ⟨t2.set b (some a), ⟨by simp [htl2], fun x hx => (by rw [List.getElem?_set_ne (by omega)]; exact hB2 x hx), some a, List.getElem?_set_self (by omega), ⟨by omega, k1, k2, fun x hx hxb hxo => ?_⟩⟩, ⟨rfl, rfl, rfl, rfl, rfl, rfl, trivial⟩, ent.refl _⟩
              by_cases e : x = a
              · subst e; exact Nat.le_refl _
              · cases o with
                | none => exact absurd hxo (hbo x (by omega) hxb)
                | some m => have h1 := hbo.2.2.2 x (by omega) hxb hxo; have h2 := k3 m rfl; omega
            · refine WP.skip ?_; refine blk_norm ?_
              refine thn_next ⟨t2, ⟨htl2, hB2, o, go, ?_⟩, ⟨rfl, rfl, rfl, rfl, rfl, rfl, trivial⟩, ent.refl _⟩
              have hc3 := hc2 hc
              cases o with
              | none =>
                intro x hx hxb hxo
                by_cases e : x = a
                · subst e; rcases hc3 with h | h | ⟨m, h, _⟩
                  · exact hxb h
                  · exact h hxo
                  · cases h
                · exact hbo x (by omega) hxb hxo
              | some m =>
                obtain ⟨q1, q2, q3, q4⟩ := hbo
                refine ⟨by omega, q2, q3, fun x hx hxb hxo => ?_⟩
                by_cases e : x = a
                · subst e; rcases hc3 with h | h | ⟨m', h, h5⟩
                  · exact absurd h hxb
                  · exact absurd hxo h
                  · cases h; exact h5
                · exact q4 x (by omega) hxb hxo
          rintro t3 ⟨w1, w2, o3, w3, w4⟩
          refine WP.plain cf0 rfl ?_
          refine Run.mv rfl rfl rfl rfl ?_
          refine Run.add64 rfl rfl rfl rfl rfl (by first | omega | (simp <;> omega)) (by first | omega | (simp <;> omega)) ?_
          refine Run.mv rfl rfl rfl rfl ?_
          refine Run.nil ?_
          refine thn_next ⟨(a + 1, t3), ⟨han, w1, w2, o3, w3, w4⟩, by simp only; omega, ⟨rfl, rfl, rfl, rfl, rfl, rfl, trivial⟩, ent.refl _⟩
        · refine WP.exit ?_; refine thn_exit ?_; refine thn_exit ?_; refine blk_hit ?_; refine blk_norm ?_
          have hae : a = tn.length := by omega
          subst hae
          refine thn_next ⟨t2, ⟨htl2, fun x hx => ?_⟩, ⟨rfl, rfl, rfl, rfl, rfl, trivial⟩, ent.refl _⟩
          by_cases e : x = b
          · subst e; exact ⟨o, go, hbo⟩
          · exact hB2 x (by omega)
      rintro t3 ⟨w1, w2⟩
      refine WP.plain cf0 rfl ?_
      refine Run.mv rfl rfl rfl rfl ?_
      refine Run.add64 rfl rfl rfl rfl rfl (by first | omega | (simp <;> omega)) (by first | omega | (simp <;> omega)) ?_
      refine Run.mv rfl rfl rfl rfl ?_
      refine Run.nil ?_
      refine thn_next ⟨(b + 1, t3), ⟨hbn, w1, w2⟩, by simp only; omega, ⟨rfl, rfl, rfl, rfl, rfl, trivial⟩, ent.refl _⟩
    · refine WP.exit ?_; refine thn_exit ?_; refine thn_exit ?_; refine blk_hit ?_
      refine thn_next ⟨t, ⟨htl, fun x hx => hB x (by omega)⟩, ⟨rfl, trivial⟩, pick_only [0] _⟩
  rintro t ⟨htl, hB⟩
  refine WP.seq ?_
  refine WP.plain cf0 rfl ?_
  refine Run.mv rfl rfl rfl rfl ?_
  refine Run.mv rfl rfl rfl rfl ?_
  refine Run.nil ?_
  refine thn_next ?_
  refine WP.via (Γ' := [slA 3 (Enc.int .i64) tv.val (t.map optI)]) (ent.cons (slA_turn rfl (by rw [List.map_map]; rfl)) (ent.refl _)) ?_
  refine WP.ret ?_
  exact retT [2] _ rfl rfl ⟨tv, _, rfl, .inr ⟨tn, rfl, hgn, Best.tree hgn hA.mn htl hB⟩, rfl⟩
end Go.Proofs.Ytifpejpeophlbaa
