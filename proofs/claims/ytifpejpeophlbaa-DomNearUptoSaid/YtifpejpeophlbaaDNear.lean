/- DomNear, walked. -/
import Derived.Test.YtifpejpeophlbaaDWays
namespace Go.Proofs.Ytifpejpeophlbaa
open Go.Sep
set_option linter.unusedSimpArgs false
set_option linter.unusedVariables false
attribute [local irreducible] blk slA mp mpF rows rowsBut memL

theorem MetOf.get {tn : Gr} {out : Int} {bs : List Bool} (h : MetOf tn out bs) {b : Nat} (hb : b < tn.length) : ∃ y, bs[b]? = some y ∧ (y = true ↔ RA tn out b) := by
  have hl := h.len
  refine ⟨bs[b]'(by omega), List.getElem?_eq_getElem _, ?_⟩
  rw [← h.iff b, List.getElem?_eq_getElem (by omega)]; simp

set_option maxHeartbeats 1000000 in
set_option maxRecDepth 100000 in
theorem domNear_ok (hR : Heap) (v : Value) (to : List (List Int)) (hl : SlR (Enc.int .i64).rd.slice hR v to) (hb : to.length + edgesL to ≤ 1048576) :
    Tri Try.prog hR 7 #[v] [] fun u Γ' => u = .bool true ∧ Γ' = [] := by
  have hrow : ∀ l ∈ to, l.length ≤ 1000000000 := fun l h => by have := row_le h; omega
  refine Tri.of (args := [v]) Try.func7 rfl Try.ntmps7 (by simp) ?_
  refine WP.seq ?_
  refine WP.plain cf0 rfl ?_
  refine Run.mv rfl rfl rfl rfl ?_
  refine Run.nil ?_
  refine thn_next ?_
  refine WP.seq ?_
  refine WP.plain cf0 rfl ?_
  refine Run.call (Δ := []) (Θ := []) rfl rfl rfl rfl ok_11 rfl rfl (ent.refl _) (alive_ok hR) ?_; rintro _ _ ⟨rfl, rfl⟩
  refine Run.mv rfl rfl rfl rfl ?_
  refine Run.nil ?_
  refine thn_next ?_
  refine WP.seq ?_
  refine WP.seqCut [(0, v), (3, .bool true), (21, .bool (decide (60 < to.length ∨ 2000 < edgesL to)))] [] ?_ ?_
  · refine WP.plain cf0 rfl ?_
    all_goals (first | refine Run.mv rfl rfl rfl rfl ?_)
    all_goals (first | refine Run.bnotB rfl rfl rfl rfl ?_)
    all_goals (first | refine Run.mv rfl rfl rfl rfl ?_)
    all_goals (first | refine Run.not rfl rfl ?_ | refine Run.mv rfl rfl rfl rfl ?_)
    all_goals (first | refine Run.not rfl rfl ?_ | refine Run.lenR rfl rfl sl_22 rfl rfl hl ?_)
    all_goals (first | refine Run.not rfl rfl ?_ | refine Run.int2 rfl rfl rfl rfl rfl rfl ?_)
    all_goals (first | refine Run.tt (by first | assumption | omega) ?_ | refine Run.ff (by first | assumption | omega) ?_ | refine Run.split (fun hc15 => ?_) (fun hc15 => ?_) | refine Run.splitB (fun hc15 => ?_) (fun hc15 => ?_) | skip)
    all_goals (first | refine Run.pick rfl rfl rfl rfl rfl ?_)
    all_goals (first | refine Run.mv rfl rfl rfl rfl ?_)
    all_goals (first | refine Run.not rfl rfl ?_ | refine Run.mv rfl rfl rfl rfl ?_)
    all_goals (first | refine Run.not rfl rfl ?_ | refine Run.call (Δ := []) (Θ := []) rfl rfl rfl rfl ok_10 rfl rfl (ent.refl _) (edges_ok hR v to hl (by omega) (by omega)) ?_; rintro _ _ ⟨rfl, rfl⟩)
    all_goals (first | refine Run.not rfl rfl ?_ | refine Run.int2 rfl rfl rfl rfl rfl rfl ?_)
    all_goals (first | refine Run.pick rfl rfl rfl rfl rfl ?_)
    all_goals (refine Run.nil ?_)
    all_goals refine thn_next ⟨⟨rfl, rfl, ?_, trivial⟩, ent.refl _⟩
    · simp [Env.get]; omega
    · simp [Env.get]
      have h1 : ¬ 60 < to.length := by omega
      have h2 : (2000 < (edgesL to : Int)) ↔ 2000 < edgesL to := by omega
      simp [h1, h2]
  refine WP.ite rfl (fun hbig => ?_) (fun hsm => ?_)
  · refine WP.seq ?_
    refine WP.plain cf0 rfl ?_
    refine Run.mv rfl rfl rfl rfl ?_
    refine Run.mv rfl rfl rfl rfl ?_
    refine Run.nil ?_
    refine thn_next ?_
    refine WP.ret ?_; refine thn_ret ?_
    exact retT [2] _ rfl rfl ⟨rfl, rfl⟩
  refine WP.skip ?_; refine thn_next ?_
  refine WP.seq ?_
  refine WP.seq ?_
  refine WP.plain cf0 rfl ?_
  refine Run.mv rfl rfl rfl rfl ?_
  refine Run.call (Δ := []) (Θ := []) rfl rfl rfl rfl ok_22 rfl rfl (ent.refl _) (lawGood_ok hR v to hl (by omega) (fun l h => by have := hrow l h; omega)) ?_; rintro _ _ ⟨rfl, rfl⟩
  refine Run.bnot rfl rfl rfl rfl ?_
  refine Run.nil ?_
  refine thn_next ?_
  refine WP.ite rfl (fun hbad => ?_) (fun hg0 => ?_)
  · refine WP.seq ?_
    refine WP.plain cf0 rfl ?_
    refine Run.mv rfl rfl rfl rfl ?_
    refine Run.mv rfl rfl rfl rfl ?_
    refine Run.nil ?_
    refine thn_next ?_
    refine WP.ret ?_; refine thn_ret ?_
    exact retT [2] _ rfl rfl ⟨rfl, rfl⟩
  refine WP.skip ?_; refine thn_next ?_
  have hg : GoodI to := Classical.not_not.1 hg0
  obtain ⟨tn, rfl, hgn⟩ := hg.nat
  have hln : SlR Enc.nat.rd.slice hR v tn := hl.nats
  have hml : (tn.map toI).length = tn.length := by simp
  have hrn : ∀ l ∈ tn, l.length ≤ 1000000000 := fun l h => by have := hrow (toI l) (List.mem_map.2 ⟨l, h, rfl⟩); rwa [toI_len] at this
  have hpos := hgn.pos
  refine WP.seq ?_
  refine WP.plain cf0 rfl ?_
  refine Run.mv rfl rfl rfl rfl ?_
  refine Run.call (Δ := []) (Θ := []) rfl rfl rfl rfl ok_12 rfl rfl (ent.refl _) (lent_ok hR v (tn.map toI) hl (by omega) hrow) ?_; rintro _ _ ⟨lv, s1, s2, p, rfl, hp, rfl⟩
  rw [List.append_nil]
  refine Run.know memL_know fun hkn => ?_
  have hol : (p.map cutq ++ [s1, s2]).length = tn.length + 2 := by have := congrArg List.length hp; simp at this; simp; omega
  have hnD : (tn.map toI).length * 20000 ≤ 1000000000000 := by omega
  refine Run.mv rfl rfl rfl rfl ?_
  refine Run.lenR rfl rfl sl_22 rfl rfl hl ?_
  refine Run.sliceV (sv := lv) rfl rfl sl_22 (il := 0) (ih := ((tn.map toI).length : Int)) rfl rfl rfl rfl (by omega) (by omega) (by omega) ?_
  refine Run.callLend (Δ := []) (Θ := memL lv s1 s2 (p.map cutq ++ [s1, s2]) p) (Ξ := []) rfl rfl rfl rfl ok_17 rfl rfl (by rw [List.append_nil]; exact ent.refl _) (fun g hg hd => tree_ok (un hR g) _ (tn.map toI) 20000 (lent_lend hp hg hd) (by omega) (fun l h => by have := row_le h; omega) (by omega) hnD) ?_; rintro _ _ ⟨tv, ts, rfl, hans, rfl⟩
  rw [List.append_nil]
  refine Run.via (ent.left _ _) ?_
  refine Run.mv rfl rfl rfl rfl ?_
  refine Run.nil ?_
  refine thn_next ?_
  obtain ⟨_, rfl⟩ | ⟨tn', e, _, ht⟩ := hans
  · rename_i h; exact absurd hgn.good h
  have := mapI_inj e; subst this
  clear e
  have htl := ht.len
  have gt0 : ts[0]? = some (-1) := ht.no 0 hpos (.inl rfl)
  refine WP.seq ?_
  refine WP.plain cf0 rfl ?_
  refine Run.mv rfl rfl rfl rfl ?_
  refine Run.call (Δ := []) (Θ := [slA 3 (Enc.int .i64) tv.val ts]) rfl rfl rfl rfl ok_23 rfl rfl (ent.refl _) (cut_ok hR v tn (-1) hgn hln (by omega) (fun l h => by have := hrn l h; omega)) ?_; rintro _ _ ⟨av, all, rfl, hall, rfl⟩
  refine Run.mv rfl rfl rfl rfl ?_
  refine Run.nil ?_
  refine thn_next ?_
  have hal := hall.len
  refine WP.seq ?_
  refine WP.seqCut [(0, v), (4, tv.val), (5, av.val), (45, .bool false)] [slA 4 Enc.bool av.val all, slA 3 (Enc.int .i64) tv.val ts] ?_ ?_
  · refine WP.plain cf0 rfl ?_
    all_goals (first | refine Run.mv rfl rfl rfl rfl ?_)
    all_goals (first | refine Run.lenO 1 rfl rfl sl_31 rfl rfl rfl ?_)
    all_goals (first | refine Run.mv rfl rfl rfl rfl ?_)
    all_goals (first | refine Run.lenR rfl rfl sl_22 rfl rfl hln ?_)
    all_goals (first | refine Run.int2 rfl rfl rfl rfl rfl rfl ?_)
    all_goals (first | refine Run.tt (by first | assumption | omega) ?_ | refine Run.ff (by first | assumption | omega) ?_ | refine Run.split (fun hc39 => ?_) (fun hc39 => ?_) | refine Run.splitB (fun hc39 => ?_) (fun hc39 => ?_) | skip)
    all_goals (first | refine Run.mv rfl rfl rfl rfl ?_)
    all_goals (first | refine Run.not rfl rfl ?_ | refine Run.mv rfl rfl rfl rfl ?_)
    all_goals (first | refine Run.not rfl rfl ?_ | refine Run.idxO 1 rfl rfl rfl sl_31 rfl rfl rfl rfl (by omega) (by omega) ?_)
    all_goals (first | refine Run.not rfl rfl ?_ | refine Run.loadO 1 0 0 rfl rfl ag_3 rfl rfl rfl rfl gt0 rfl ?_)
    all_goals (first | refine Run.not rfl rfl ?_ | refine Run.int2 rfl rfl rfl rfl rfl rfl ?_)
    all_goals (first | refine Run.pick rfl rfl rfl rfl rfl ?_)
    all_goals (refine Run.nil ?_)
    all_goals refine thn_next ⟨⟨rfl, rfl, rfl, rfl, trivial⟩, ent.refl _⟩
  refine WP.cond (t := false) rfl (fun h => by cases h) (fun _ => ?_)
  refine WP.skip ?_; refine thn_next ?_
  refine WP.seqMeet (α := Unit) (fun _ => True) (fun _ => []) (fun _ => []) ?_ ?_
  · refine WP.via (Γ' := [] ++ [slA 4 Enc.bool av.val all, slA 3 (Enc.int .i64) tv.val ts]) (ent.refl _) ?_
    refine WP.freeze (Γ := []) [slA 4 Enc.bool av.val all, slA 3 (Enc.int .i64) tv.val ts] fun g hg2 hd => ?_
    have rA : SlR Enc.bool.rd (un hR g) av.val all := lent_at 0 rfl hg2 hd
    have rT : SlR (Enc.int .i64).rd (un hR g) tv.val ts := lent_at 1 rfl hg2 hd
    have hln' : SlR Enc.nat.rd.slice (un hR g) v tn := hln.mono (sub_un_left _ _)
    generalize un hR g = hS at rA rT hln'
    refine WP.seq ?_
    refine WP.plain cf0 rfl ?_
    refine Run.mv rfl rfl rfl rfl ?_
    refine Run.nil ?_
    refine thn_next ?_
    refine WP.block ?_
    refine WP.loop (α := Nat) (fun b => 1 ≤ b ∧ b ≤ tn.length) (fun b => [(0, v), (4, tv.val), (5, av.val), (6, .int .i64 (b : Int))]) (fun _ => []) (fun b => tn.length - b) 1 ⟨Nat.le_refl _, hpos⟩ ⟨rfl, rfl, rfl, rfl, trivial⟩ (ent.refl _) ?_
    rintro b ⟨hb1, hb2⟩
    refine WP.seq ?_
    refine WP.seq ?_
    refine WP.plain cf0 rfl ?_
    refine Run.mv rfl rfl rfl rfl ?_
    refine Run.mv rfl rfl rfl rfl ?_
    refine Run.lenR rfl rfl sl_22 rfl rfl hln' ?_
    refine Run.int2 rfl rfl rfl rfl rfl rfl ?_
    refine Run.nil ?_
    refine thn_next ?_
    refine WP.ite rfl (fun hlt => ?_) (fun hge => ?_)
    · refine WP.skip ?_; refine thn_next ?_
      have hbn : b < tn.length := by omega
      have hb0 : b ≠ 0 := by omega
      obtain ⟨y1, g1, i1⟩ := hall.get hbn
      have g1' : all[(b : Int).toNat]? = some y1 := g1
      refine WP.seqMeet (α := Unit) (fun _ => True) (fun _ => [(0, v), (4, tv.val), (5, av.val), (6, .int .i64 (b : Int))]) (fun _ => []) ?_ ?_
      · refine WP.block ?_
        refine WP.seq ?_
        refine WP.seq ?_
        refine WP.plain cf0 rfl ?_
        refine Run.mv rfl rfl rfl rfl ?_
        refine Run.mv rfl rfl rfl rfl ?_
        refine Run.idxR rfl rfl rfl sl_26 rfl rfl rA (by rfl) (by omega) (by omega) ?_
        refine Run.loadR rfl rfl ag_4 rfl rfl (SlR.cell0 rA g1' rfl) ?_
        refine Run.bnotB rfl rfl rfl rfl ?_
        refine Run.nil ?_
        refine thn_next ?_
        refine WP.cond (t := !y1) rfl (fun hu => ?_) (fun hu => ?_)
        · refine WP.exit ?_; refine thn_exit ?_; refine blk_hit ?_
          refine thn_next ⟨(), trivial, ⟨rfl, rfl, rfl, rfl, trivial⟩, ent.refl _⟩
        refine WP.skip ?_; refine thn_next ?_
        have hrb : RA tn (-1) b := i1.1 (by simpa using hu)
        obtain ⟨d, gd, hdb, hrd, hnd, hlow⟩ := ht.yes b hb0 hrb
        have gd' : ts[(b : Int).toNat]? = some (d : Int) := gd
        have hdn := hrd.lt hgn
        refine WP.seq ?_
        refine WP.plain cf0 rfl ?_
        refine Run.mv rfl rfl rfl rfl ?_
        refine Run.mv rfl rfl rfl rfl ?_
        refine Run.idxR rfl rfl rfl sl_31 rfl rfl rT (by rfl) (by omega) (by omega) ?_
        refine Run.loadR rfl rfl ag_3 rfl rfl (SlR.cell0 rT gd' rfl) ?_
        refine Run.mv rfl rfl rfl rfl ?_
        refine Run.nil ?_
        refine thn_next ?_
        refine WP.seq ?_
        refine WP.seqCut [(0, v), (4, tv.val), (5, av.val), (6, .int .i64 (b : Int)), (7, .int .i64 (d : Int)), (81, .bool false)] [] ?_ ?_
        · refine WP.plain cf0 rfl ?_
          all_goals (first | refine Run.mv rfl rfl rfl rfl ?_)
          all_goals (first | refine Run.int2 rfl rfl rfl rfl rfl rfl ?_)
          all_goals (first | refine Run.tt (by first | assumption | omega) ?_ | refine Run.ff (by first | assumption | omega) ?_ | refine Run.split (fun hc62 => ?_) (fun hc62 => ?_) | refine Run.splitB (fun hc62 => ?_) (fun hc62 => ?_) | skip)
          all_goals (first | refine Run.mv rfl rfl rfl rfl ?_)
          all_goals (first | refine Run.not rfl rfl ?_ | refine Run.mv rfl rfl rfl rfl ?_)
          all_goals (first | refine Run.not rfl rfl ?_ | refine Run.mv rfl rfl rfl rfl ?_)
          all_goals (first | refine Run.not rfl rfl ?_ | refine Run.lenR rfl rfl sl_22 rfl rfl hln' ?_)
          all_goals (first | refine Run.not rfl rfl ?_ | refine Run.int2 rfl rfl rfl rfl rfl rfl ?_)
          all_goals (first | refine Run.tt (by first | assumption | omega) ?_ | refine Run.ff (by first | assumption | omega) ?_ | refine Run.split (fun hc67 => ?_) (fun hc67 => ?_) | refine Run.splitB (fun hc67 => ?_) (fun hc67 => ?_) | skip)
          all_goals (first | refine Run.pick rfl rfl rfl rfl rfl ?_)
          all_goals (first | refine Run.mv rfl rfl rfl rfl ?_)
          all_goals (first | refine Run.not rfl rfl ?_ | refine Run.mv rfl rfl rfl rfl ?_)
          all_goals (first | refine Run.not rfl rfl ?_ | refine Run.mv rfl rfl rfl rfl ?_)
          all_goals (first | refine Run.not rfl rfl ?_ | refine Run.int2 rfl rfl rfl rfl rfl rfl ?_)
          all_goals (first | refine Run.tt (by first | assumption | omega) ?_ | refine Run.ff (by first | assumption | omega) ?_ | refine Run.split (fun hc72 => ?_) (fun hc72 => ?_) | refine Run.splitB (fun hc72 => ?_) (fun hc72 => ?_) | skip)
          all_goals (first | refine Run.pick rfl rfl rfl rfl rfl ?_)
          all_goals (first | refine Run.mv rfl rfl rfl rfl ?_)
          all_goals (first | refine Run.not rfl rfl ?_ | refine Run.mv rfl rfl rfl rfl ?_)
          all_goals (first | refine Run.not rfl rfl ?_ | refine Run.mv rfl rfl rfl rfl ?_)
          all_goals (first | refine Run.not rfl rfl ?_ | refine Run.call (Δ := []) (Θ := []) rfl rfl rfl rfl ok_23 rfl rfl (ent.refl _) (cut_ok hS v tn (d : Int) hgn hln' (by omega) (fun l h => by have := hrn l h; omega)) ?_; rintro _ _ ⟨mv1, met1, rfl, hm1, rfl⟩; have hm1l := hm1.len; obtain ⟨y4, g4, i4⟩ := hm1.get hbn)
          all_goals (first | refine Run.not rfl rfl ?_ | refine Run.mv rfl rfl rfl rfl ?_)
          all_goals (first | refine Run.not rfl rfl ?_ | refine Run.idxO 0 rfl rfl rfl sl_26 rfl rfl rfl rfl (by omega) (by omega) ?_)
          all_goals (first | refine Run.not rfl rfl ?_ | refine Run.loadO 0 b 0 rfl rfl ag_4 rfl rfl rfl rfl g4 rfl ?_; refine Run.eqv (v' := .bool false) (by cases y4; rfl; exact absurd (i4.1 rfl) hnd) ?_)
          all_goals (first | refine Run.pick rfl rfl rfl rfl rfl ?_)
          all_goals (refine Run.nil ?_)
          all_goals refine thn_next ⟨⟨rfl, rfl, rfl, rfl, rfl, rfl, trivial⟩, pick_only [] _⟩
        refine WP.cond (t := false) rfl (fun h => by cases h) (fun _ => ?_)
        refine WP.skip ?_; refine thn_next ?_
        refine WP.seq ?_
        refine WP.plain cf0 rfl ?_
        refine Run.mv rfl rfl rfl rfl ?_
        refine Run.nil ?_
        refine thn_next ?_
        refine WP.block ?_
        refine WP.loop (α := Nat) (fun a => a ≤ tn.length) (fun a => [(0, v), (4, tv.val), (5, av.val), (6, .int .i64 (b : Int)), (7, .int .i64 (d : Int)), (8, .int .i64 (a : Int))]) (fun _ => []) (fun a => tn.length - a) 0 (Nat.zero_le _) ⟨rfl, rfl, rfl, rfl, rfl, rfl, trivial⟩ (ent.refl _) ?_
        intro a ha
        refine WP.seq ?_
        refine WP.seq ?_
        refine WP.plain cf0 rfl ?_
        refine Run.mv rfl rfl rfl rfl ?_
        refine Run.mv rfl rfl rfl rfl ?_
        refine Run.lenR rfl rfl sl_22 rfl rfl hln' ?_
        refine Run.int2 rfl rfl rfl rfl rfl rfl ?_
        refine Run.nil ?_
        refine thn_next ?_
        refine WP.ite rfl (fun hlt2 => ?_) (fun hge2 => ?_)
        · refine WP.skip ?_; refine thn_next ?_
          have han : a < tn.length := by omega
          obtain ⟨y2, g2, i2⟩ := hall.get han
          have g2' : all[(a : Int).toNat]? = some y2 := g2
          refine WP.seq ?_
          refine WP.block ?_
          refine WP.seqCut [(0, v), (4, tv.val), (5, av.val), (6, .int .i64 (b : Int)), (7, .int .i64 (d : Int)), (8, .int .i64 (a : Int)), (118, .bool false)] [] ?_ ?_
          · refine WP.plain cf0 rfl ?_
            all_goals (first | refine Run.mv rfl rfl rfl rfl ?_)
            all_goals (first | refine Run.mv rfl rfl rfl rfl ?_)
            all_goals (first | refine Run.int2 rfl rfl rfl rfl rfl rfl ?_)
            all_goals (first | refine Run.tt (by first | assumption | omega) ?_ | refine Run.ff (by first | assumption | omega) ?_ | refine Run.split (fun hc90 => ?_) (fun hc90 => ?_) | refine Run.splitB (fun hc90 => ?_) (fun hc90 => ?_) | skip)
            all_goals (first | refine Run.mv rfl rfl rfl rfl ?_)
            all_goals (first | refine Run.not rfl rfl ?_ | refine Run.mv rfl rfl rfl rfl ?_)
            all_goals (first | refine Run.not rfl rfl ?_ | refine Run.mv rfl rfl rfl rfl ?_)
            all_goals (first | refine Run.not rfl rfl ?_ | refine Run.int2 rfl rfl rfl rfl rfl rfl ?_)
            all_goals (first | refine Run.tt (by first | assumption | omega) ?_ | refine Run.ff (by first | assumption | omega) ?_ | refine Run.split (fun hc94 => ?_) (fun hc94 => ?_) | refine Run.splitB (fun hc94 => ?_) (fun hc94 => ?_) | skip)
            all_goals (first | refine Run.pick rfl rfl rfl rfl rfl ?_)
            all_goals (first | refine Run.mv rfl rfl rfl rfl ?_)
            all_goals (first | refine Run.not rfl rfl ?_ | refine Run.mv rfl rfl rfl rfl ?_)
            all_goals (first | refine Run.not rfl rfl ?_ | refine Run.mv rfl rfl rfl rfl ?_)
            all_goals (first | refine Run.not rfl rfl ?_ | refine Run.idxR rfl rfl rfl sl_26 rfl rfl rA (by rfl) (by omega) (by omega) ?_)
            all_goals (first | refine Run.not rfl rfl ?_ | refine Run.loadR rfl rfl ag_4 rfl rfl (SlR.cell0 rA g2' rfl) ?_)
            all_goals (first | refine Run.tt (by first | assumption | omega) ?_ | refine Run.ff (by first | assumption | omega) ?_ | refine Run.split (fun hc100 => ?_) (fun hc100 => ?_) | refine Run.splitB (fun hc100 => ?_) (fun hc100 => ?_) | skip)
            all_goals (first | refine Run.pick rfl rfl rfl rfl rfl ?_)
            all_goals (first | refine Run.mv rfl rfl rfl rfl ?_)
            all_goals (first | refine Run.not rfl rfl ?_ | refine Run.mv rfl rfl rfl rfl ?_)
            all_goals (first | refine Run.not rfl rfl ?_ | refine Run.mv rfl rfl rfl rfl ?_)
            all_goals (first | refine Run.not rfl rfl ?_ | refine Run.call (Δ := []) (Θ := []) rfl rfl rfl rfl ok_23 rfl rfl (ent.refl _) (cut_ok hS v tn (a : Int) hgn hln' (by omega) (fun l h => by have := hrn l h; omega)) ?_; rintro _ _ ⟨mv1, met1, rfl, hm1, rfl⟩; have hm1l := hm1.len; obtain ⟨y4, g4, i4⟩ := hm1.get hbn)
            all_goals (first | refine Run.not rfl rfl ?_ | refine Run.mv rfl rfl rfl rfl ?_)
            all_goals (first | refine Run.not rfl rfl ?_ | refine Run.idxO 0 rfl rfl rfl sl_26 rfl rfl rfl rfl (by omega) (by omega) ?_)
            all_goals (first | refine Run.not rfl rfl ?_ | refine Run.loadO 0 b 0 rfl rfl ag_4 rfl rfl rfl rfl g4 rfl ?_)
            all_goals (first | refine Run.tt (by first | assumption | omega) ?_ | refine Run.ff (by first | assumption | omega) ?_ | refine Run.split (fun hc108 => ?_) (fun hc108 => ?_) | refine Run.splitB (fun hc108 => ?_) (fun hc108 => ?_) | skip)
            all_goals (first | refine Run.not rfl rfl ?_ | refine Run.bnotB rfl rfl rfl rfl ?_)
            all_goals (first | refine Run.pick rfl rfl rfl rfl rfl ?_)
            all_goals (first | refine Run.mv rfl rfl rfl rfl ?_)
            all_goals (first | refine Run.not rfl rfl ?_ | refine Run.mv rfl rfl rfl rfl ?_)
            all_goals (first | refine Run.not rfl rfl ?_ | refine Run.mv rfl rfl rfl rfl ?_)
            all_goals (first | refine Run.not rfl rfl ?_ | refine Run.call (Δ := []) (Θ := [slA 4 Enc.bool mv1.val met1]) rfl rfl rfl rfl ok_23 rfl rfl (ent.refl _) (cut_ok hS v tn (a : Int) hgn hln' (by omega) (fun l h => by have := hrn l h; omega)) ?_; rintro _ _ ⟨mv2, met2, rfl, hm2, rfl⟩; have hm2l := hm2.len; obtain ⟨y5, g5, i5⟩ := hm2.get hdn)
            all_goals (first | refine Run.not rfl rfl ?_ | refine Run.mv rfl rfl rfl rfl ?_)
            all_goals (first | refine Run.not rfl rfl ?_ | refine Run.idxO 0 rfl rfl rfl sl_26 rfl rfl rfl rfl (by omega) (by omega) ?_)
            all_goals (first | refine Run.not rfl rfl ?_ | refine Run.loadO 0 d 0 rfl rfl ag_4 rfl rfl rfl rfl g5 rfl ?_; refine Run.eqv (v' := .bool false) (by cases y5; rfl; exact absurd (i5.1 rfl) (hlow a (i2.1 (by assumption)) (by omega) (fun h => by have := i4.2 h; simp_all))) ?_)
            all_goals (first | refine Run.pick rfl rfl rfl rfl rfl ?_)
            all_goals (refine Run.nil ?_)
            all_goals refine thn_next ⟨⟨rfl, rfl, rfl, rfl, rfl, rfl, rfl, trivial⟩, pick_only [] _⟩
          refine WP.cond (t := false) rfl (fun h => by cases h) (fun _ => ?_)
          refine WP.skip ?_; refine blk_norm ?_; refine thn_next ?_
          refine WP.plain cf0 rfl ?_
          refine Run.mv rfl rfl rfl rfl ?_
          refine Run.add64 rfl rfl rfl rfl rfl (by first | omega | (simp <;> omega)) (by first | omega | (simp <;> omega)) ?_
          refine Run.mv rfl rfl rfl rfl ?_
          refine Run.nil ?_
          refine thn_next ⟨a + 1, han, by omega, ⟨rfl, rfl, rfl, rfl, rfl, rfl, trivial⟩, ent.refl _⟩
        · refine WP.exit ?_; refine thn_exit ?_; refine thn_exit ?_; refine blk_hit ?_; refine blk_norm ?_
          refine thn_next ⟨(), trivial, ⟨rfl, rfl, rfl, rfl, trivial⟩, ent.refl _⟩
      rintro _ _
      refine WP.plain cf0 rfl ?_
      refine Run.mv rfl rfl rfl rfl ?_
      refine Run.add64 rfl rfl rfl rfl rfl (by first | omega | (simp <;> omega)) (by first | omega | (simp <;> omega)) ?_
      refine Run.mv rfl rfl rfl rfl ?_
      refine Run.nil ?_
      refine thn_next ⟨b + 1, ⟨by omega, hbn⟩, by omega, ⟨rfl, rfl, rfl, rfl, trivial⟩, ent.refl _⟩
    · refine WP.exit ?_; refine thn_exit ?_; refine thn_exit ?_; refine blk_hit ?_
      refine thn_next ⟨(), trivial, trivial, pick_only [] _⟩
  rintro _ _
  refine WP.seq ?_
  refine WP.plain cf0 rfl ?_
  refine Run.mv rfl rfl rfl rfl ?_
  refine Run.nil ?_
  refine thn_next ?_
  refine WP.ret ?_
  exact retT [2] _ rfl rfl ⟨rfl, rfl⟩
end Go.Proofs.Ytifpejpeophlbaa
