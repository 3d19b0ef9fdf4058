/- Over on the tree of dominators; DomWays, walked. -/
import Derived.Test.YtifpejpeophlbaaDReach
namespace Go.Proofs.Ytifpejpeophlbaa
open Go.Sep
set_option linter.unusedSimpArgs false
set_option linter.unusedVariables false
attribute [local irreducible] blk slA mp mpF rows rowsBut memL

theorem Cnt.ex (tn : Gr) (b : Nat) : ∀ k, ∃ m, Cnt tn b k m
  | 0 => ⟨0, .zero⟩
  | k + 1 => by
    obtain ⟨m, h⟩ := Cnt.ex tn b k
    by_cases ho : OverB tn k b
    · exact ⟨m + 1, .yes h ho⟩
    · exact ⟨m, .no h ho⟩

theorem overGo_tree {tn : Gr} (hg : GoodN tn) {ts : List Int} (ht : IsTree tn ts) {A : Nat} (hA : RA tn (-1) A) : ∀ (k b : Nat) (m : Nat) (f : Bool), RA tn (-1) b → Cnt tn b tn.length m → m ≤ k + 1 →
    (overGo ts (A : Int) k (b : Int) f = true ↔ f = true ∨ ¬ RA tn A b) := by
  intro k
  induction k with
  | zero =>
    intro b m f hb hm hle
    by_cases h0 : b = 0
    · subst h0
      have e : nextB ts ((0 : Nat) : Int) = -1 := by simp [nextB, List.getD_eq_getElem?_getD, ht.no 0 hg.pos (.inl rfl)]
      rw [overGo, e, if_pos (by unfold offB; omega)]
      have : (¬ RA tn A 0) ↔ A = 0 := ⟨RA.zero, fun e => by subst e; exact RA.self⟩
      rw [this]; simp
    · exfalso
      obtain ⟨d, _, h2, h3, h4, h5⟩ := ht.yes b h0 hb
      have hd := Cnt.ex tn d tn.length
      obtain ⟨md, hmd⟩ := hd
      have h6 := (Cnt.le (x := d) (y := b) (fun x ⟨k1, k2, k3⟩ => ⟨k1, hb, fun h => by rcases RA.trans (d := d) h with h | h <;> contradiction⟩) hmd hm).2 ⟨b, hb.lt hg, ⟨hb, hb, RA.self⟩, fun h => ?_⟩
      · obtain ⟨m0, hm0⟩ := Cnt.ex tn d tn.length
        have h7 : 0 < md := by
          -- d itself is among those
          have : ∀ (k md : Nat), Cnt tn d k md → d < k → 0 < md := fun k => by
            induction k with
            | zero => intro _ _ h; omega
            | succ k ih =>
              intro md h hlt
              cases h with
              | yes h ho => omega
              | no h ho =>
                by_cases e : d = k
                · subst e; exact absurd ⟨h3, h3, RA.self⟩ ho
                · exact ih _ h (by omega)
          exact this _ _ hmd (h3.lt hg)
        omega
      · -- b over d and d over b
        exact h2 (Classical.byContradiction fun hne => by
          have := RA.cut_line (a := d) (d := b) (b := b) hb h4 RA.self (fun e => hne e) (fun hx => by
            exact absurd hx (fun hx => h4 hx))
          exact h.2.2 this)
  | succ k ih =>
    intro b m f hb hm hle
    by_cases h0 : b = 0
    · subst h0
      have e : nextB ts ((0 : Nat) : Int) = -1 := by simp [nextB, List.getD_eq_getElem?_getD, ht.no 0 hg.pos (.inl rfl)]
      rw [overGo, e, if_pos (by unfold offB; omega)]
      have : (¬ RA tn A 0) ↔ A = 0 := ⟨RA.zero, fun e => by subst e; exact RA.self⟩
      rw [this]; simp
    · obtain ⟨d, h1, h2, h3, h4, h5⟩ := ht.yes b h0 hb
      have e : nextB ts (b : Int) = (d : Int) := by simp [nextB, List.getD_eq_getElem?_getD, h1]
      have hdn := h3.lt hg
      rw [overGo, e, if_neg (by unfold offB; rw [ht.len]; omega)]
      obtain ⟨md, hmd⟩ := Cnt.ex tn d tn.length
      have h6 := (Cnt.le (x := d) (y := b) (fun x ⟨k1, k2, k3⟩ => ⟨k1, hb, fun h => by rcases RA.trans (d := d) h with h | h <;> contradiction⟩) hmd hm).2 ⟨b, hb.lt hg, ⟨hb, hb, RA.self⟩, fun h => ?_⟩
      · rw [ih d md (f || decide ((A : Int) = b)) h3 hmd (by omega)]
        have h7 : (¬ RA tn A b) ↔ A = b ∨ ¬ RA tn A d := by
          constructor
          · intro hn
            by_cases e : A = b
            · exact .inl e
            · exact .inr (h5 A hA e hn)
          · rintro (rfl | hn)
            · exact RA.self
            · intro h; rcases RA.trans (d := d) h with h | h <;> contradiction
        rw [h7]
        simp only [Bool.or_eq_true, decide_eq_true_eq]
        constructor
        · rintro ((h | h) | h)
          · exact .inl h
          · exact .inr (.inl (by omega))
          · exact .inr (.inr h)
        · rintro (h | h | h)
          · exact .inl (.inl h)
          · exact .inl (.inr (by omega))
          · exact .inr h
      · have := RA.cut_line (a := d) (d := b) (b := b) hb h4 RA.self h2 h4
        exact h.2.2 this

theorem overL_tree {tn : Gr} (hg : GoodN tn) {ts : List Int} (ht : IsTree tn ts) {A b : Nat} (hA : RA tn (-1) A) (hb : RA tn (-1) b) : overL ts (A : Int) (b : Int) = true ↔ ¬ RA tn A b := by
  have h1 := hA.lt hg
  have h2 := hb.lt hg
  unfold overL
  rw [if_neg (by unfold offB; rw [ht.len]; omega)]
  obtain ⟨m, hm⟩ := Cnt.ex tn b tn.length
  have := hm.bd
  rw [overGo_tree hg ht hA ts.length b m false hb hm (by rw [ht.len]; omega)]
  simp

set_option maxHeartbeats 1000000 in
set_option maxRecDepth 100000 in
theorem domWays_ok (hR : Heap) (v : Value) (to : List (List Int)) (at0 : Int) (hl : SlR (Enc.int .i64).rd.slice hR v to) (hb : to.length + edgesL to ≤ 1048576) :
    Tri Try.prog hR 6 #[v, .int .i64 at0] [] fun u Γ' => u = .bool true ∧ Γ' = [] := by
  have hrow : ∀ l ∈ to, l.length ≤ 1000000000 := fun l h => by have := row_le h; omega
  refine Tri.of (args := [v, .int .i64 at0]) Try.func6 rfl Try.ntmps6 (by simp) ?_
  refine WP.seq ?_
  refine WP.plain cf0 rfl ?_
  refine Run.mv rfl rfl rfl rfl ?_
  refine Run.nil ?_
  refine thn_next ?_
  refine WP.seq ?_
  refine WP.plain cf0 rfl ?_
  refine Run.call (Δ := []) (Θ := []) rfl rfl rfl rfl ok_11 rfl rfl (ent.refl _) (alive_ok hR) ?_; rintro _ _ ⟨rfl, rfl⟩
  refine Run.mv rfl rfl rfl rfl ?_
  refine Run.nil ?_
  refine thn_next ?_
  refine WP.seq ?_
  refine WP.seq ?_
  refine WP.plain cf0 rfl ?_
  refine Run.mv rfl rfl rfl rfl ?_
  refine Run.call (Δ := []) (Θ := []) rfl rfl rfl rfl ok_10 rfl rfl (ent.refl _) (edges_ok hR v to hl (by omega) (by omega)) ?_; rintro _ _ ⟨rfl, rfl⟩
  refine Run.int2 rfl rfl rfl rfl rfl rfl ?_
  refine Run.nil ?_
  refine thn_next ?_
  refine WP.ite rfl (fun hbig => ?_) (fun hsm => ?_)
  · refine WP.seq ?_
    refine WP.plain cf0 rfl ?_
    refine Run.mv rfl rfl rfl rfl ?_
    refine Run.mv rfl rfl rfl rfl ?_
    refine Run.nil ?_
    refine thn_next ?_
    refine WP.ret ?_; refine thn_ret ?_
    exact retT [4] _ rfl rfl ⟨rfl, rfl⟩
  refine WP.skip ?_; refine thn_next ?_
  refine WP.seq ?_
  refine WP.plain cf0 rfl ?_
  refine Run.mv rfl rfl rfl rfl ?_
  refine Run.call (Δ := []) (Θ := []) rfl rfl rfl rfl ok_22 rfl rfl (ent.refl _) (lawGood_ok hR v to hl (by omega) (fun l h => by have := hrow l h; omega)) ?_; rintro _ _ ⟨rfl, rfl⟩
  refine Run.mv rfl rfl rfl rfl ?_
  refine Run.nil ?_
  refine thn_next ?_
  refine WP.seq ?_
  by_cases hg0 : ¬ GoodI to
  · have hg := hg0
    refine WP.weaken (ρ' := [(0, v), (5, .bool true), (6, .bool false)]) (Γ' := []) ⟨rfl, rfl, by rw [decide_eq_false hg]; rfl, trivial⟩ (ent.refl _) ?_
    refine WP.seq ?_
    refine WP.plain cf0 rfl ?_
    refine Run.mv rfl rfl rfl rfl ?_
    refine Run.bnotB rfl rfl rfl rfl ?_
    refine Run.mv rfl rfl rfl rfl ?_
    refine Run.mv rfl rfl rfl rfl ?_
    refine Run.bnotB rfl rfl rfl rfl ?_
    refine Run.pick rfl rfl rfl rfl rfl ?_
    refine Run.mv rfl rfl rfl rfl ?_
    refine Run.not rfl rfl ?_
    refine Run.not rfl rfl ?_
    refine Run.not rfl rfl ?_
    refine Run.pick rfl rfl rfl rfl rfl ?_
    refine Run.nil ?_
    refine thn_next ?_
    refine WP.cond (t := true) rfl (fun _ => ?_) (fun h => by cases h)
    refine WP.seq ?_
    refine WP.plain cf0 rfl ?_
    refine Run.mv rfl rfl rfl rfl ?_
    refine Run.mv rfl rfl rfl rfl ?_
    refine Run.mv rfl rfl rfl rfl ?_
    refine Run.mv rfl rfl rfl rfl ?_
    refine Run.mv rfl rfl rfl rfl ?_
    refine Run.call (Δ := []) (Θ := []) rfl rfl rfl rfl ok_12 rfl rfl (ent.refl _) (lent_ok hR v to hl (by omega) hrow) ?_; rintro _ _ ⟨lv, s1, s2, p, rfl, hp, rfl⟩
    rw [List.append_nil]
    refine Run.know memL_know fun hkn => ?_
    have hol : (p.map cutq ++ [s1, s2]).length = to.length + 2 := by have := congrArg List.length hp; simp at this; simp; omega
    have hnD : to.length * 20000 ≤ 1000000000000 := by omega
    refine Run.mv rfl rfl rfl rfl ?_
    refine Run.lenR rfl rfl sl_22 rfl rfl hl ?_
    refine Run.sliceV (sv := lv) rfl rfl sl_22 (il := 0) (ih := (to.length : Int)) rfl rfl rfl rfl (by omega) (by omega) (by omega) ?_
    refine Run.callLend (Δ := []) (Θ := memL lv s1 s2 (p.map cutq ++ [s1, s2]) p) (Ξ := []) rfl rfl rfl rfl ok_17 rfl rfl (by rw [List.append_nil]; exact ent.refl _) (fun g hg hd => tree_ok (un hR g) _ to 20000 (lent_lend hp hg hd) (by omega) (fun l h => by have := row_le h; omega) (by omega) hnD) ?_; rintro _ _ ⟨sv, ts, rfl, hans, rfl⟩
    rw [List.append_nil]
    refine Run.via (ent.left _ _) ?_
    have hts : ts = [] := hans.unique (.inl ⟨hg, rfl⟩)
    subst hts
    refine Run.lenO 0 rfl rfl sl_31 rfl rfl rfl ?_
    refine Run.int2 rfl rfl rfl rfl rfl rfl ?_
    refine Run.pick rfl rfl rfl rfl rfl ?_
    refine Run.pick rfl rfl rfl rfl rfl ?_
    refine Run.mv rfl rfl rfl rfl ?_
    refine Run.nil ?_
    refine thn_next ?_
    refine WP.via (pick_only [] _) ?_
    refine WP.ret ?_; refine thn_ret ?_
    exact retT [4] _ rfl rfl ⟨rfl, rfl⟩
  have hg : GoodI to := Classical.not_not.1 hg0
  refine WP.weaken (ρ' := [(0, v), (1, .int .i64 at0), (5, .bool true), (6, .bool true)]) (Γ' := []) ⟨rfl, rfl, rfl, by rw [decide_eq_true hg]; rfl, trivial⟩ (ent.refl _) ?_
  refine WP.seq ?_
  refine WP.plain cf0 rfl ?_
  refine Run.mv rfl rfl rfl rfl ?_
  refine Run.bnotB rfl rfl rfl rfl ?_
  refine Run.mv rfl rfl rfl rfl ?_
  refine Run.mv rfl rfl rfl rfl ?_
  refine Run.bnotB rfl rfl rfl rfl ?_
  refine Run.pick rfl rfl rfl rfl rfl ?_
  refine Run.mv rfl rfl rfl rfl ?_
  refine Run.mv rfl rfl rfl rfl ?_
  refine Run.lenR rfl rfl sl_22 rfl rfl hl ?_
  refine Run.int2 rfl rfl rfl rfl rfl rfl ?_
  refine Run.pick rfl rfl rfl rfl rfl ?_
  refine Run.nil ?_
  refine thn_next ?_
  refine WP.ite rfl (fun hbad => ?_) (fun hok => ?_)
  · refine WP.seq ?_
    refine WP.plain cf0 rfl ?_
    refine Run.mv rfl rfl rfl rfl ?_
    refine Run.mv rfl rfl rfl rfl ?_
    refine Run.mv rfl rfl rfl rfl ?_
    refine Run.mv rfl rfl rfl rfl ?_
    refine Run.not rfl rfl ?_
    refine Run.not rfl rfl ?_
    refine Run.not rfl rfl ?_
    refine Run.not rfl rfl ?_
    refine Run.not rfl rfl ?_
    refine Run.not rfl rfl ?_
    refine Run.not rfl rfl ?_
    refine Run.not rfl rfl ?_
    refine Run.pick rfl rfl rfl rfl rfl ?_
    refine Run.pick rfl rfl rfl rfl rfl ?_
    refine Run.mv rfl rfl rfl rfl ?_
    refine Run.nil ?_
    refine thn_next ?_
    refine WP.ret ?_; refine thn_ret ?_
    exact retT [4] _ rfl rfl ⟨rfl, rfl⟩
  refine WP.skip ?_; refine thn_next ?_
  obtain ⟨tn, rfl, hgn⟩ := hg.nat
  have hln : SlR Enc.nat.rd.slice hR v tn := hl.nats
  have hml : (tn.map toI).length = tn.length := by simp
  have hrn : ∀ l ∈ tn, l.length ≤ 1000000000 := fun l h => by have := hrow (toI l) (List.mem_map.2 ⟨l, h, rfl⟩); rwa [toI_len] at this
  have hpos := hgn.pos
  have hbnd : -(tn.length : Int) < at0.tmod tn.length ∧ at0.tmod tn.length < tn.length := by
    have h1 : (at0.tmod (tn.length : Int)).natAbs = at0.natAbs % (tn.length : Int).natAbs := Int.natAbs_tmod _ _
    have h2 := Nat.mod_lt at0.natAbs (show (tn.length : Int).natAbs > 0 by omega)
    omega
  refine WP.seq ?_
  refine WP.plain cf0 rfl ?_
  refine Run.mv rfl rfl rfl rfl ?_
  refine Run.mv rfl rfl rfl rfl ?_
  refine Run.lenR rfl rfl sl_22 rfl rfl hln ?_
  refine Run.int2 (v := .int .i64 (at0.tmod tn.length)) rfl rfl rfl (by simp only [intOpR]; rw [if_neg (by omega)]) rfl rfl ?_
  refine Run.mv rfl rfl rfl rfl ?_
  refine Run.nil ?_
  refine thn_next ?_
  refine WP.seqMeet (α := Nat) (fun A => A < tn.length) (fun A => [(0, v), (7, .int .i64 (A : Int))]) (fun _ => []) ?_ ?_
  · refine WP.seq ?_
    refine WP.plain cf0 rfl ?_
    refine Run.mv rfl rfl rfl rfl ?_
    refine Run.int2 rfl rfl rfl rfl rfl rfl ?_
    refine Run.nil ?_
    refine thn_next ?_
    refine WP.ite rfl (fun hneg => ?_) (fun hneg => ?_)
    · refine WP.plain cf0 rfl ?_
      refine Run.mv rfl rfl rfl rfl ?_
      refine Run.neg rfl rfl rfl rfl ?_; refine Run.eqv (v' := .int .i64 (((-(at0.tmod tn.length)).toNat : Nat) : Int)) (by rw [wrapI (by omega) (by omega)]; congr 1; omega) ?_
      refine Run.mv rfl rfl rfl rfl ?_
      refine Run.nil ?_
      refine thn_next ⟨_, by omega, ⟨rfl, rfl, trivial⟩, ent.refl _⟩
    · refine WP.skip ?_
      refine thn_next ⟨(at0.tmod tn.length).toNat, by omega, ⟨rfl, ?_, trivial⟩, ent.refl _⟩
      have : (((at0.tmod tn.length).toNat : Nat) : Int) = at0.tmod tn.length := by omega
      rw [this]; rfl
  intro A hA
  refine WP.seq ?_
  refine WP.plain cf0 rfl ?_
  refine Run.mv rfl rfl rfl rfl ?_
  refine Run.call (Δ := []) (Θ := []) rfl rfl rfl rfl ok_12 rfl rfl (ent.refl _) (lent_ok hR v (tn.map toI) hl (by omega) hrow) ?_; rintro _ _ ⟨lv, s1, s2, p, rfl, hp, rfl⟩
  rw [List.append_nil]
  refine Run.know memL_know fun hkn => ?_
  have hol : (p.map cutq ++ [s1, s2]).length = tn.length + 2 := by have := congrArg List.length hp; simp at this; simp; omega
  have hnD : (tn.map toI).length * 20000 ≤ 1000000000000 := by omega
  refine Run.mv rfl rfl rfl rfl ?_
  refine Run.lenR rfl rfl sl_22 rfl rfl hl ?_
  refine Run.sliceV (sv := lv) rfl rfl sl_22 (il := 0) (ih := ((tn.map toI).length : Int)) rfl rfl rfl rfl (by omega) (by omega) (by omega) ?_
  refine Run.callLend (Δ := []) (Θ := memL lv s1 s2 (p.map cutq ++ [s1, s2]) p) (Ξ := []) rfl rfl rfl rfl ok_17 rfl rfl (by rw [List.append_nil]; exact ent.refl _) (fun g hg hd => tree_ok (un hR g) _ (tn.map toI) 20000 (lent_lend hp hg hd) (by omega) (fun l h => by have := row_le h; omega) (by omega) hnD) ?_; rintro _ _ ⟨tv, ts, rfl, hans, rfl⟩
  rw [List.append_nil]
  refine Run.via (ent.left _ _) ?_
  refine Run.mv rfl rfl rfl rfl ?_
  refine Run.nil ?_
  refine thn_next ?_
  obtain ⟨_, rfl⟩ | ⟨tn', e, _, ht⟩ := hans
  · rename_i h; exact absurd hgn.good h
  have := mapI_inj e; subst this
  clear e
  have htl := ht.len
  refine WP.seq ?_
  refine WP.seq ?_
  refine WP.plain cf0 rfl ?_
  refine Run.mv rfl rfl rfl rfl ?_
  refine Run.lenO 0 rfl rfl sl_31 rfl rfl rfl ?_
  refine Run.mv rfl rfl rfl rfl ?_
  refine Run.lenR rfl rfl sl_22 rfl rfl hln ?_
  refine Run.int2 rfl rfl rfl rfl rfl rfl ?_
  refine Run.nil ?_
  refine thn_next ?_
  refine WP.ite rfl (fun hne => absurd (by omega) hne) (fun _ => ?_)
  refine WP.skip ?_; refine thn_next ?_
  refine WP.seq ?_
  refine WP.plain cf0 rfl ?_
  refine Run.mv rfl rfl rfl rfl ?_
  refine Run.call (Δ := []) (Θ := [slA 3 (Enc.int .i64) tv.val ts]) rfl rfl rfl rfl ok_23 rfl rfl (ent.refl _) (cut_ok hR v tn (-1) hgn hln (by omega) (fun l h => by have := hrn l h; omega)) ?_; rintro _ _ ⟨av, all, rfl, hall, rfl⟩
  refine Run.mv rfl rfl rfl rfl ?_
  refine Run.nil ?_
  refine thn_next ?_
  refine WP.seq ?_
  refine WP.plain cf0 rfl ?_
  refine Run.mv rfl rfl rfl rfl ?_
  refine Run.mv rfl rfl rfl rfl ?_
  refine Run.call (Δ := []) (Θ := [slA 4 Enc.bool av.val all, slA 3 (Enc.int .i64) tv.val ts]) rfl rfl rfl rfl ok_23 rfl rfl (ent.refl _) (cut_ok hR v tn (A : Int) hgn hln (by omega) (fun l h => by have := hrn l h; omega)) ?_; rintro _ _ ⟨fv, left, rfl, hleft, rfl⟩
  refine Run.mv rfl rfl rfl rfl ?_
  refine Run.nil ?_
  refine thn_next ?_
  have hal := hall.len
  have hfl := hleft.len
  refine WP.seqMeet (α := Unit) (fun _ => True) (fun _ => []) (fun _ => []) ?_ ?_
  · refine WP.via (Γ' := [] ++ [slA 4 Enc.bool fv.val left, slA 4 Enc.bool av.val all, slA 3 (Enc.int .i64) tv.val ts]) (ent.refl _) ?_
    refine WP.freeze (Γ := []) [slA 4 Enc.bool fv.val left, slA 4 Enc.bool av.val all, slA 3 (Enc.int .i64) tv.val ts] fun g hg2 hd => ?_
    have rF : SlR Enc.bool.rd (un hR g) fv.val left := lent_at 0 rfl hg2 hd
    have rA : SlR Enc.bool.rd (un hR g) av.val all := lent_at 1 rfl hg2 hd
    have rT : SlR (Enc.int .i64).rd (un hR g) tv.val ts := lent_at 2 rfl hg2 hd
    have hln' : SlR Enc.nat.rd.slice (un hR g) v tn := hln.mono (sub_un_left _ _)
    generalize un hR g = hS at rF rA rT hln'
    refine WP.seq ?_
    refine WP.plain cf0 rfl ?_
    refine Run.mv rfl rfl rfl rfl ?_
    refine Run.nil ?_
    refine thn_next ?_
    refine WP.block ?_
    refine WP.loop (α := Nat) (fun b => b ≤ tn.length) (fun b => [(0, v), (7, .int .i64 (A : Int)), (8, tv.val), (9, av.val), (10, fv.val), (11, .int .i64 (b : Int))]) (fun _ => []) (fun b => tn.length - b) 0 (Nat.zero_le _) ⟨rfl, rfl, rfl, rfl, rfl, rfl, trivial⟩ (ent.refl _) ?_
    intro b hb2
    refine WP.seq ?_
    refine WP.seq ?_
    refine WP.plain cf0 rfl ?_
    refine Run.mv rfl rfl rfl rfl ?_
    refine Run.mv rfl rfl rfl rfl ?_
    refine Run.lenR rfl rfl sl_22 rfl rfl hln' ?_
    refine Run.int2 rfl rfl rfl rfl rfl rfl ?_
    refine Run.nil ?_
    refine thn_next ?_
    refine WP.ite rfl (fun hlt => ?_) (fun hge => ?_)
    · refine WP.skip ?_; refine thn_next ?_
      have hbn : b < tn.length := by omega
      obtain ⟨y1, g1⟩ : ∃ x, all[(b : Int).toNat]? = some x := ⟨_, List.getElem?_eq_getElem (by omega)⟩
      obtain ⟨y2, g2⟩ : ∃ x, all[(A : Int).toNat]? = some x := ⟨_, List.getElem?_eq_getElem (by omega)⟩
      obtain ⟨y3, g3⟩ : ∃ x, left[(b : Int).toNat]? = some x := ⟨_, List.getElem?_eq_getElem (by omega)⟩
      obtain ⟨y4, g4⟩ : ∃ x, ts[(b : Int).toNat]? = some x := ⟨_, List.getElem?_eq_getElem (by omega)⟩
      have i1 : y1 = true ↔ RA tn (-1) b := by have := hall.iff b; rw [← this]; show _ ↔ all[(b : Int).toNat]? = _; rw [g1]; simp
      have i2 : y2 = true ↔ RA tn (-1) A := by have := hall.iff A; rw [← this]; show _ ↔ all[(A : Int).toNat]? = _; rw [g2]; simp
      have i3 : y3 = true ↔ RA tn A b := by have := hleft.iff b; rw [← this]; show _ ↔ left[(b : Int).toNat]? = _; rw [g3]; simp
      have i4 : y1 = false → y4 = -1 := fun h => by
        have := ht.no b hbn (.inr fun hr => by rw [i1.2 hr] at h; cases h)
        have h5 : ts[(b : Int).toNat]? = some (-1) := this
        rw [g4] at h5; cases h5; rfl
      have i5 : y1 = true → y2 = true → (!(overL ts (A : Int) (b : Int) == !y3)) = false := fun h1 h2 => by
        have h3 := overL_tree hgn ht (i2.1 h2) (i1.1 h1)
        rw [← i3] at h3
        cases y3 <;> cases hq : overL ts (A : Int) (b : Int) <;> simp [hq] at h3 ⊢
      refine WP.seq ?_
      refine WP.block ?_
      refine WP.seq ?_
      refine WP.seqCut [(0, v), (7, .int .i64 (A : Int)), (8, tv.val), (9, av.val), (10, fv.val), (11, .int .i64 (b : Int)), (95, .bool false)] [] ?_ ?_
      · refine WP.drawn0 cfF mixed rfl (by kernel_rfl) ?_
        all_goals (first | refine Run.mv rfl rfl rfl rfl ?_)
        all_goals (first | refine Run.mv rfl rfl rfl rfl ?_)
        all_goals (first | refine Run.idxR rfl rfl rfl sl_26 rfl rfl rA (by rfl) (by omega) (by omega) ?_)
        all_goals (first | refine Run.loadF rfl rfl ag_4 rfl rfl (SlR.cell0 rA g1 rfl) ?_)
        all_goals (first | refine Run.tt (by first | assumption | omega) ?_ | refine Run.ff (by first | assumption | omega) ?_ | refine Run.split (fun hc77 => ?_) (fun hc77 => ?_) | refine Run.splitB (fun hc77 => ?_) (fun hc77 => ?_) | skip)
        all_goals (first | refine Run.mv rfl rfl rfl rfl ?_)
        all_goals (first | refine Run.not rfl rfl ?_ | refine Run.mv rfl rfl rfl rfl ?_)
        all_goals (first | refine Run.not rfl rfl ?_ | refine Run.mv rfl rfl rfl rfl ?_)
        all_goals (first | refine Run.not rfl rfl ?_ | refine Run.idxR rfl rfl rfl sl_26 rfl rfl rA (by rfl) (by omega) (by omega) ?_)
        all_goals (first | refine Run.not rfl rfl ?_ | refine Run.loadF rfl rfl ag_4 rfl rfl (SlR.cell0 rA g2 rfl) ?_)
        all_goals (first | refine Run.tt (by first | assumption | omega) ?_ | refine Run.ff (by first | assumption | omega) ?_ | refine Run.split (fun hc82 => ?_) (fun hc82 => ?_) | refine Run.splitB (fun hc82 => ?_) (fun hc82 => ?_) | skip)
        all_goals (first | refine Run.pick rfl rfl rfl rfl rfl ?_)
        all_goals (first | refine Run.mv rfl rfl rfl rfl ?_)
        all_goals (first | refine Run.not rfl rfl ?_ | refine Run.mv rfl rfl rfl rfl ?_)
        all_goals (first | refine Run.not rfl rfl ?_ | refine Run.mv rfl rfl rfl rfl ?_)
        all_goals (first | refine Run.not rfl rfl ?_ | refine Run.mv rfl rfl rfl rfl ?_)
        all_goals (first | refine Run.not rfl rfl ?_ | refine Run.call (Δ := []) (Θ := []) rfl rfl rfl rfl ok_20 rfl rfl (ent.refl _) (over_ok hS tv.val ts (A : Int) (b : Int) rT (by omega)) ?_; rintro _ _ ⟨rfl, rfl⟩)
        all_goals (first | refine Run.not rfl rfl ?_ | refine Run.mv rfl rfl rfl rfl ?_)
        all_goals (first | refine Run.not rfl rfl ?_ | refine Run.mv rfl rfl rfl rfl ?_)
        all_goals (first | refine Run.not rfl rfl ?_ | refine Run.idxR rfl rfl rfl sl_26 rfl rfl rF (by rfl) (by omega) (by omega) ?_)
        all_goals (first | refine Run.not rfl rfl ?_ | refine Run.loadF rfl rfl ag_4 rfl rfl (SlR.cell0 rF g3 rfl) ?_)
        all_goals (first | refine Run.not rfl rfl ?_ | refine Run.bnotB rfl rfl rfl rfl ?_)
        all_goals (first | refine Run.not rfl rfl ?_ | refine Run.neB rfl rfl rfl Try.underlying4 rfl rfl ?_; refine Run.eqv (v' := .bool false) (by rw [i5 (by assumption) (by assumption)]) ?_)
        all_goals (first | refine Run.pick rfl rfl rfl rfl rfl ?_)
        all_goals (refine Run.nil ?_)
        all_goals refine thn_next ⟨⟨rfl, rfl, rfl, rfl, rfl, rfl, rfl, trivial⟩, ent.refl _⟩
      refine WP.cond (t := false) rfl (fun h => by cases h) (fun _ => ?_)
      refine WP.skip ?_; refine thn_next ?_
      refine WP.seqCut [(0, v), (7, .int .i64 (A : Int)), (8, tv.val), (9, av.val), (10, fv.val), (11, .int .i64 (b : Int)), (107, .bool false)] [] ?_ ?_
      · refine WP.plain cf0 rfl ?_
        all_goals (first | refine Run.mv rfl rfl rfl rfl ?_)
        all_goals (first | refine Run.mv rfl rfl rfl rfl ?_)
        all_goals (first | refine Run.idxR rfl rfl rfl sl_26 rfl rfl rA (by rfl) (by omega) (by omega) ?_)
        all_goals (first | refine Run.loadR rfl rfl ag_4 rfl rfl (SlR.cell0 rA g1 rfl) ?_)
        all_goals (first | refine Run.tt (by first | assumption | omega) ?_ | refine Run.ff (by first | assumption | omega) ?_ | refine Run.split (fun hc99 => ?_) (fun hc99 => ?_) | refine Run.splitB (fun hc99 => ?_) (fun hc99 => ?_) | skip)
        all_goals (first | refine Run.bnotB rfl rfl rfl rfl ?_)
        all_goals (first | refine Run.mv rfl rfl rfl rfl ?_)
        all_goals (first | refine Run.not rfl rfl ?_ | refine Run.mv rfl rfl rfl rfl ?_)
        all_goals (first | refine Run.not rfl rfl ?_ | refine Run.mv rfl rfl rfl rfl ?_)
        all_goals (first | refine Run.not rfl rfl ?_ | refine Run.idxR rfl rfl rfl sl_31 rfl rfl rT (by rfl) (by omega) (by omega) ?_)
        all_goals (first | refine Run.not rfl rfl ?_ | refine Run.loadR rfl rfl ag_3 rfl rfl (SlR.cell0 rT g4 rfl) ?_)
        all_goals (first | refine Run.not rfl rfl ?_ | refine Run.int2 rfl rfl rfl rfl rfl rfl ?_; refine Run.eqv (v' := .bool false) (by rw [i4 (by assumption)]; rfl) ?_)
        all_goals (first | refine Run.pick rfl rfl rfl rfl rfl ?_)
        all_goals (refine Run.nil ?_)
        all_goals refine thn_next ⟨⟨rfl, rfl, rfl, rfl, rfl, rfl, rfl, trivial⟩, ent.refl _⟩
      refine WP.cond (t := false) rfl (fun h => by cases h) (fun _ => ?_)
      refine WP.skip ?_; refine blk_norm ?_; refine thn_next ?_
      refine WP.plain cf0 rfl ?_
      refine Run.mv rfl rfl rfl rfl ?_
      refine Run.add64 rfl rfl rfl rfl rfl (by first | omega | (simp <;> omega)) (by first | omega | (simp <;> omega)) ?_
      refine Run.mv rfl rfl rfl rfl ?_
      refine Run.nil ?_
      refine thn_next ⟨b + 1, hbn, by omega, ⟨rfl, rfl, rfl, rfl, rfl, rfl, trivial⟩, ent.refl _⟩
    · refine WP.exit ?_; refine thn_exit ?_; refine thn_exit ?_; refine blk_hit ?_
      refine thn_next ⟨(), trivial, trivial, pick_only [] _⟩
  rintro _ _
  refine WP.seq ?_
  refine WP.plain cf0 rfl ?_
  refine Run.mv rfl rfl rfl rfl ?_
  refine Run.nil ?_
  refine thn_next ?_
  refine WP.ret ?_
  exact retT [4] _ rfl rfl ⟨rfl, rfl⟩
end Go.Proofs.Ytifpejpeophlbaa
