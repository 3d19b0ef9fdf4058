/- Where ways up meet, walked; which blocks are reached, walked. -/
import Derived.Test.YtifpejpeophlbaaLinedW
namespace Go.Proofs.Ytifpejpeophlbaa
open Go.Sep
set_option linter.unusedSimpArgs false
set_option linter.unusedVariables false
attribute [local irreducible] blk slA mp mpF

def encO : Enc (Option Nat) := ⟨1, fun o => [.int .i64 (optI o)], fun _ => rfl, fun _ => rfl⟩
theorem pa_get {t : Tr} {x y : Nat} (h : pa t x = some y) : t[x]? = some (some y) := by
  unfold pa at h
  cases ht : t[x]? with
  | none => rw [ht] at h; cases h
  | some o => rw [ht] at h; simp at h; rw [h]
theorem pa_of {t : Tr} {x : Nat} {o : Option Nat} (h : t[x]? = some o) : pa t x = o := by unfold pa; rw [h]; rfl
def plOf (pls : List Nat) (x : Nat) : Nat := pls.getD x 0
theorem plOf_get {pls : List Nat} {x : Nat} (h : x < pls.length) : pls[x]? = some (plOf pls x) := by simp [plOf, List.getD_eq_getElem?_getD, h]
def MeetO (t : Tr) (ps : List Nat) (o : Option Nat) : Prop := (o = none ∧ ∀ p ∈ ps, ¬ known t p) ∨ ∃ m, o = some m ∧ known t m ∧ Meet t ps m

theorem MeetO.skip {t : Tr} {ps : List Nat} {o : Option Nat} {p : Nat} (h : MeetO t ps o) (hk : ¬ known t p) : MeetO t (ps ++ [p]) o := by
  rcases h with ⟨h1, h2⟩ | ⟨m, h1, h2, h3⟩
  · refine .inl ⟨h1, fun x hx => ?_⟩
    rcases List.mem_append.1 hx with hx | hx
    · exact h2 x hx
    · simp at hx; subst hx; exact hk
  · exact .inr ⟨m, h1, h2, h3.skip hk⟩
theorem take_snoc {A : Type} {l : List A} {i : Nat} {x : A} (h : l[i]? = some x) : l.take (i + 1) = l.take i ++ [x] := by rw [List.take_add_one, h]; rfl

set_option maxRecDepth 100000 in
theorem met_ok (hR : Heap) (tv pv sv : Value) (t : Tr) (pls ps : List Nat) (ht : SlR encO.rd hR tv t) (hp : SlR Enc.nat.rd hR pv pls) (hs : SlR Enc.nat.rd hR sv ps) (hn : pls.length = t.length) (hps : ∀ p ∈ ps, p < t.length)
    (hpar : Par t (plOf pls)) (hroot : plOf pls 0 = 0) (hinj : ∀ a b, known t a → known t b → plOf pls a = plOf pls b → a = b) (hlen : ps.length ≤ 1000000000000) :
    Tri Try.prog hR 29 #[tv, pv, sv] [] fun u Γ' => ∃ o, u = .int .i64 (optI o) ∧ MeetO t ps o ∧ Γ' = [] := by
  have klt : ∀ x, known t x → x < t.length := fun x ⟨y, hy⟩ => (List.getElem?_eq_some_iff.1 (pa_get hy)).1
  refine Tri.of (args := [tv, pv, sv]) Try.func29 rfl Try.ntmps29 (by simp) ?_
  refine WP.seq ?_
  refine WP.plain cf0 rfl ?_
  refine Run.mv rfl rfl rfl rfl ?_
  refine Run.nil ?_
  refine thn_next ?_
  refine WP.seq ?_
  refine WP.plain cf0 rfl ?_
  refine Run.mv rfl rfl rfl rfl ?_
  refine Run.nil ?_
  refine thn_next ?_
  refine WP.seqMeet (α := Option Nat) (fun o => MeetO t ps o) (fun o => [(7, .int .i64 (optI o))]) (fun _ => []) ?_ ?_
  · refine WP.seq ?_
    refine WP.plain cf0 rfl ?_
    refine Run.mv rfl rfl rfl rfl ?_
    refine Run.lenR rfl rfl sl_31 rfl rfl hs ?_
    refine Run.mv rfl rfl rfl rfl ?_
    refine Run.nil ?_
    refine thn_next ?_
    refine WP.block ?_
    refine WP.loop (α := Nat × Option Nat) (fun z => z.1 ≤ ps.length ∧ MeetO t (ps.take z.1) z.2) (fun z => [(0, tv), (1, pv), (7, .int .i64 (optI z.2)), (10, sv), (11, .int .i64 (ps.length : Int)), (12, .int .i64 (z.1 : Int))]) (fun _ => []) (fun z => ps.length - z.1)
      (0, none) ⟨Nat.zero_le _, .inl ⟨rfl, by simp⟩⟩ ⟨rfl, rfl, rfl, rfl, rfl, rfl, trivial⟩ (ent.refl _) ?_
    rintro ⟨i, o⟩ ⟨hi, hO⟩
    simp only at hi hO ⊢
    refine WP.seq ?_
    refine WP.plain cf0 rfl ?_
    refine Run.int2 rfl rfl rfl rfl rfl rfl ?_
    refine Run.nil ?_
    refine thn_next ?_
    refine WP.seq ?_
    refine WP.ite rfl (fun hlt => ?_) (fun hge => ?_)
    · refine WP.skip ?_; refine thn_next ?_
      have hlt' : i < ps.length := by omega
      obtain ⟨p, gp⟩ : ∃ x, ps[i]? = some x := ⟨_, List.getElem?_eq_getElem hlt'⟩
      have gp' : ps[(i : Int).toNat]? = some p := gp
      have hpn := hps p (List.mem_of_getElem? gp)
      obtain ⟨q, gq⟩ : ∃ x, t[p]? = some x := ⟨_, List.getElem?_eq_getElem hpn⟩
      have gq' : t[(p : Int).toNat]? = some q := gq
      refine WP.seqMeet (α := Option Nat) (fun o => MeetO t (ps.take (i + 1)) o) (fun o => [(0, tv), (1, pv), (7, .int .i64 (optI o)), (10, sv), (11, .int .i64 (ps.length : Int)), (12, .int .i64 (i : Int))]) (fun _ => []) ?_ ?_
      · refine WP.block ?_
        refine WP.seq ?_
        refine WP.plain cf0 rfl ?_
        refine Run.idxR rfl rfl rfl sl_31 rfl rfl hs (by rfl) (by omega) (by omega) ?_
        refine Run.loadR rfl rfl ag_3 rfl rfl (SlR.cell0 hs gp' rfl) ?_
        refine Run.mv rfl rfl rfl rfl ?_
        refine Run.nil ?_
        refine thn_next ?_
        refine WP.seq ?_
        refine WP.seq ?_
        refine WP.plain cf0 rfl ?_
        refine Run.mv rfl rfl rfl rfl ?_
        refine Run.mv rfl rfl rfl rfl ?_
        refine Run.idxR rfl rfl rfl sl_31 rfl rfl ht (by rfl) (by omega) (by omega) ?_
        refine Run.loadR rfl rfl ag_3 rfl rfl (SlR.cell0 ht gq' rfl) ?_
        refine Run.int2 rfl rfl rfl rfl rfl rfl ?_
        refine Run.nil ?_
        refine thn_next ?_
        refine WP.ite rfl (fun hneg => ?_) (fun hpos => ?_)
        · refine WP.exit ?_; refine thn_exit ?_; refine blk_hit ?_
          refine thn_next ⟨o, ?_, ⟨rfl, rfl, rfl, rfl, rfl, rfl, trivial⟩, ent.refl _⟩
          rw [take_snoc gp]
          refine hO.skip fun ⟨y, hy⟩ => ?_
          rw [pa_of gq] at hy; subst hy; simp [optI] at hneg; omega
        · refine WP.skip ?_; refine thn_next ?_
          have hkp : known t p := by
            cases q with
            | none => simp [optI] at hpos
            | some y => exact ⟨y, pa_of gq⟩
          refine WP.seqMeet (α := Nat) (fun m0 => known t m0 ∧ ∀ m1, MeetInv t p m0 m1 m1 → Meet t (ps.take i ++ [p]) m1) (fun m0 => [(0, tv), (1, pv), (7, .int .i64 (m0 : Int)), (9, .int .i64 (p : Int)), (10, sv), (11, .int .i64 (ps.length : Int)), (12, .int .i64 (i : Int))]) (fun _ => []) ?_ ?_
          · refine WP.seq ?_
            refine WP.plain cf0 rfl ?_
            refine Run.mv rfl rfl rfl rfl ?_
            refine Run.int2 rfl rfl rfl rfl rfl rfl ?_
            refine Run.nil ?_
            refine thn_next ?_
            refine WP.ite rfl (fun hm => ?_) (fun hm => ?_)
            · refine WP.plain cf0 rfl ?_
              refine Run.mv rfl rfl rfl rfl ?_
              refine Run.mv rfl rfl rfl rfl ?_
              refine Run.nil ?_
              refine thn_next ⟨p, ⟨hkp, fun m1 h1 => ?_⟩, ⟨rfl, rfl, rfl, rfl, rfl, rfl, rfl, trivial⟩, ent.refl _⟩
              have hnone : ∀ x ∈ ps.take i, ¬ known t x := by
                rcases hO with ⟨_, h2⟩ | ⟨m, h2, _⟩
                · exact h2
                · subst h2; simp [optI] at hm; omega
              refine ⟨fun x hx hk => ?_, fun e he => (h1.low e (he p (by simp) hkp) (he p (by simp) hkp)).1⟩
              rcases List.mem_append.1 hx with hx | hx
              · exact absurd hk (hnone x hx)
              · simp at hx; subst hx; exact h1.hp
            · refine WP.skip ?_
              rcases hO with ⟨h1, _⟩ | ⟨m, h1, h2, h3⟩
              · subst h1; simp [optI] at hm
              · subst h1
                refine thn_next ⟨m, ⟨h2, fun m1 h4 => h3.snoc hkp h4⟩, ⟨rfl, rfl, rfl, rfl, rfl, rfl, rfl, trivial⟩, ent.refl _⟩
          rintro m0 ⟨hk0, hfin⟩
          refine WP.block ?_
          refine WP.loop (α := Nat × Nat) (fun z => known t z.1 ∧ known t z.2 ∧ MeetInv t p m0 z.1 z.2) (fun z => [(0, tv), (1, pv), (7, .int .i64 (z.2 : Int)), (9, .int .i64 (z.1 : Int)), (10, sv), (11, .int .i64 (ps.length : Int)), (12, .int .i64 (i : Int))]) (fun _ => []) (fun z => plOf pls z.1 + plOf pls z.2)
            (p, m0) ⟨hkp, hk0, MeetInv.start t p m0⟩ ⟨rfl, rfl, rfl, rfl, rfl, rfl, rfl, trivial⟩ (ent.refl _) ?_
          rintro ⟨pc, mc⟩ ⟨hkc, hkm, hmi⟩
          simp only at hkc hkm hmi ⊢
          have hpcn := klt pc hkc
          have hmcn := klt mc hkm
          refine WP.seq ?_
          refine WP.seq ?_
          refine WP.plain cf0 rfl ?_
          refine Run.mv rfl rfl rfl rfl ?_
          refine Run.mv rfl rfl rfl rfl ?_
          refine Run.int2 rfl rfl rfl rfl rfl rfl ?_
          refine Run.nil ?_
          refine thn_next ?_
          refine WP.ite rfl (fun hne => ?_) (fun heq => ?_)
          · refine WP.skip ?_; refine thn_next ?_
            have g1 : pls[(pc : Int).toNat]? = some (plOf pls pc) := plOf_get (by omega)
            have g2 : pls[(mc : Int).toNat]? = some (plOf pls mc) := plOf_get (by omega)
            obtain ⟨pq, hpq⟩ := hkc
            obtain ⟨mq, hmq⟩ := hkm
            have g3 : t[(pc : Int).toNat]? = some (some pq) := pa_get hpq
            have g4 : t[(mc : Int).toNat]? = some (some mq) := pa_get hmq
            refine WP.block ?_
            refine WP.seq ?_
            refine WP.drawn0 cf0 mixed rfl (by kernel_rfl) ?_
            refine Run.mv rfl rfl rfl rfl ?_
            refine Run.mv rfl rfl rfl rfl ?_
            refine Run.idxR rfl rfl rfl sl_31 rfl rfl hp (by rfl) (by omega) (by omega) ?_
            refine Run.loadR rfl rfl ag_3 rfl rfl (SlR.cell0 hp g1 rfl) ?_
            refine Run.mv rfl rfl rfl rfl ?_
            refine Run.mv rfl rfl rfl rfl ?_
            refine Run.idxR rfl rfl rfl sl_31 rfl rfl hp (by rfl) (by omega) (by omega) ?_
            refine Run.loadR rfl rfl ag_3 rfl rfl (SlR.cell0 hp g2 rfl) ?_
            refine Run.int2 rfl rfl rfl rfl rfl rfl ?_
            refine Run.nil ?_
            refine thn_next ?_
            refine WP.ite rfl (fun hgt => ?_) (fun hle => ?_)
            · have h0 : pc ≠ 0 := fun e => by subst e; omega
              have h1 := hpar pc pq h0 hpq
              refine WP.plain cf0 rfl ?_
              refine Run.mv rfl rfl rfl rfl ?_
              refine Run.mv rfl rfl rfl rfl ?_
              refine Run.idxR rfl rfl rfl sl_31 rfl rfl ht (by rfl) (by omega) (by omega) ?_
              refine Run.loadR rfl rfl ag_3 rfl rfl (SlR.cell0 ht g3 rfl) ?_
              refine Run.mv rfl rfl rfl rfl ?_
              refine Run.nil ?_
              refine blk_norm ?_
              refine thn_next ⟨(pq, mc), ⟨h1.1, ⟨mq, hmq⟩, hmi.stepP hpar h0 hpq (by omega)⟩, by simp only; omega, ⟨rfl, rfl, rfl, rfl, rfl, rfl, rfl, trivial⟩, ent.refl _⟩
            · have hlt2 : plOf pls pc < plOf pls mc := by
                have h3 : plOf pls pc ≠ plOf pls mc := fun e => hne (by rw [hinj pc mc ⟨pq, hpq⟩ ⟨mq, hmq⟩ e])
                omega
              have h0 : mc ≠ 0 := fun e => by subst e; omega
              have h1 := hpar mc mq h0 hmq
              refine WP.plain cf0 rfl ?_
              refine Run.mv rfl rfl rfl rfl ?_
              refine Run.mv rfl rfl rfl rfl ?_
              refine Run.idxR rfl rfl rfl sl_31 rfl rfl ht (by rfl) (by omega) (by omega) ?_
              refine Run.loadR rfl rfl ag_3 rfl rfl (SlR.cell0 ht g4 rfl) ?_
              refine Run.mv rfl rfl rfl rfl ?_
              refine Run.nil ?_
              refine blk_norm ?_
              refine thn_next ⟨(pc, mq), ⟨⟨pq, hpq⟩, h1.1, hmi.stepM hpar h0 hmq (by omega)⟩, by simp only; omega, ⟨rfl, rfl, rfl, rfl, rfl, rfl, rfl, trivial⟩, ent.refl _⟩
          · have he : pc = mc := by omega
            subst he
            refine WP.exit ?_; refine thn_exit ?_; refine thn_exit ?_; refine blk_hit ?_; refine blk_norm ?_
            refine thn_next ⟨some pc, .inr ⟨pc, rfl, hkm, by rw [take_snoc gp]; exact hfin pc hmi⟩, ⟨rfl, rfl, rfl, rfl, rfl, rfl, trivial⟩, ent.refl _⟩
      rintro o' hO'
      refine WP.plain cf0 rfl ?_
      refine Run.add64 rfl rfl rfl rfl rfl (by first | omega | (simp <;> omega)) (by first | omega | (simp <;> omega)) ?_
      refine Run.mv rfl rfl rfl rfl ?_
      refine Run.nil ?_
      refine thn_next ⟨(i + 1, o'), ⟨hlt', hO'⟩, by simp only; omega, ⟨rfl, rfl, rfl, rfl, rfl, rfl, trivial⟩, ent.refl _⟩
    · refine WP.exit ?_; refine thn_exit ?_; refine thn_exit ?_; refine blk_hit ?_
      refine thn_next ⟨o, ?_, ⟨rfl, trivial⟩, ent.refl _⟩
      rw [List.take_of_length_le (by omega)] at hO; exact hO
  rintro o hO
  refine WP.seq ?_
  refine WP.plain cf0 rfl ?_
  refine Run.mv rfl rfl rfl rfl ?_
  refine Run.mv rfl rfl rfl rfl ?_
  refine Run.nil ?_
  refine thn_next ?_
  refine WP.ret ?_
  exact retT [6] _ rfl rfl ⟨o, rfl, hO, rfl⟩

/-! ### Reach -/
structure MetOf (tn : Gr) (out : Int) (bs : List Bool) : Prop where
  len : bs.length = tn.length
  iff : ∀ b, bs[b]? = some true ↔ RA tn out b
theorem MetOf.unique {tn : Gr} {out : Int} {bs bs' : List Bool} (h : MetOf tn out bs) (h' : MetOf tn out bs') : bs = bs' := by
  refine List.ext_getElem? fun b => ?_
  have h1 := h.iff b
  have h2 := h'.iff b
  have h3 := h.len
  have h4 := h'.len
  by_cases hb : b < tn.length
  · obtain ⟨x, hx⟩ : ∃ x, bs[b]? = some x := ⟨_, List.getElem?_eq_getElem (by omega)⟩
    obtain ⟨y, hy⟩ : ∃ x, bs'[b]? = some x := ⟨_, List.getElem?_eq_getElem (by omega)⟩
    rw [hx] at h1 ⊢; rw [hy] at h2 ⊢
    cases x <;> cases y <;> simp_all
  · rw [List.getElem?_eq_none (by omega), List.getElem?_eq_none (by omega)]

/-- what Reach answers -/
def ReachAns (to : List (List Int)) (sv : SV) (bs : List Bool) : Prop := (¬ GoodI to ∧ bs = []) ∨ ∃ tn, to = tn.map toI ∧ GoodN tn ∧ MetOf tn (-1) bs

theorem toI_inj : ∀ {a b : List Nat}, toI a = toI b → a = b
  | [], [], _ => rfl
  | x :: a, y :: b, h => by
    simp only [toI, List.map_cons, List.cons.injEq] at h
    have := toI_inj (a := a) (b := b) h.2
    rw [this]; congr 1; omega
  | [], _ :: _, h => by simp [toI] at h
  | _ :: _, [], h => by simp [toI] at h
theorem mapI_inj : ∀ {a b : Gr}, a.map toI = b.map toI → a = b
  | [], [], _ => rfl
  | x :: a, y :: b, h => by
    simp only [List.map_cons, List.cons.injEq] at h
    rw [toI_inj h.1, mapI_inj h.2]
  | [], _ :: _, h => by simp at h
  | _ :: _, [], h => by simp at h
theorem GoodN.good {tn : Gr} (h : GoodN tn) : GoodI (tn.map toI) := by
  refine ⟨by simpa using h.pos, fun l hl c hc => ?_⟩
  obtain ⟨m, hm, rfl⟩ := List.mem_map.1 hl
  obtain ⟨x, hx, rfl⟩ := List.mem_map.1 hc
  have := h.lt m hm x hx
  simp [okB]; exact this
theorem ReachAns.unique {to : List (List Int)} {sv sv' : SV} {bs bs' : List Bool} (h : ReachAns to sv bs) (h' : ReachAns to sv' bs') : bs = bs' := by
  rcases h with ⟨h1, h2⟩ | ⟨tn, rfl, h2, h3⟩ <;> rcases h' with ⟨k1, k2⟩ | ⟨tn', e, k2, k3⟩
  · rw [h2, k2]
  · subst e; exact absurd k2.good h1
  · exact absurd h2.good k1
  · have := mapI_inj e; subst this; exact h3.unique k3

set_option maxRecDepth 100000 in
theorem reach_ok (hR : Heap) (v : Value) (to : List (List Int)) (hl : SlR (Enc.int .i64).rd.slice hR v to) (hlen : to.length ≤ 1000000000) (hrow : ∀ l ∈ to, l.length ≤ 1000000000000) :
    Tri Try.prog hR 13 #[v] [] fun u Γ' => ∃ (sv : SV) (bs : List Bool), u = sv.val ∧ ReachAns to sv bs ∧ Γ' = [slA 4 Enc.bool sv.val bs] := by
  refine Tri.of (args := [v]) Try.func13 rfl Try.ntmps13 (by simp) ?_
  refine WP.seq ?_
  refine WP.plain cf0 rfl ?_
  refine Run.mv rfl rfl rfl rfl ?_
  refine Run.nil ?_
  refine thn_next ?_
  refine WP.seq ?_
  refine WP.seq ?_
  refine WP.plain cf0 rfl ?_
  refine Run.mv rfl rfl rfl rfl ?_
  refine Run.call (Δ := []) (Θ := []) rfl rfl rfl rfl ok_25 rfl rfl (ent.refl _) (good_ok hR v to hl (by omega) hrow) ?_; rintro _ _ ⟨rfl, rfl⟩
  refine Run.bnot rfl rfl rfl rfl ?_
  refine Run.nil ?_
  refine thn_next ?_
  refine WP.ite rfl (fun hb => ?_) (fun hg => ?_)
  · refine WP.seq ?_
    refine WP.plain cf0 rfl ?_
    refine Run.mv rfl rfl rfl rfl ?_
    refine Run.nil ?_
    refine thn_next ?_
    refine WP.via (slA_nil 4 Enc.bool _) ?_
    refine WP.ret ?_; refine thn_ret ?_
    exact retT [2] _ rfl rfl ⟨⟨none, 0, 0⟩, [], rfl, .inl ⟨hb, rfl⟩, rfl⟩
  refine WP.skip ?_; refine thn_next ?_
  obtain ⟨tn, rfl, hgn⟩ := (Classical.not_not.1 hg).nat
  have hln : SlR Enc.nat.rd.slice hR v tn := hl.nats
  have htl : tn.length ≤ 1000000000 := by simpa using hlen
  have hrn : ∀ l ∈ tn, l.length ≤ 1000000000000 := fun l h => by have := hrow (toI l) (List.mem_map.2 ⟨l, h, rfl⟩); rwa [toI_len] at this
  have hml : (tn.map toI).length = tn.length := by simp
  refine WP.seq ?_
  refine WP.plain cf0 rfl ?_
  refine Run.mv rfl rfl rfl rfl ?_
  refine Run.lenR rfl rfl sl_22 rfl rfl (by assumption) ?_
  refine Run.makeSlice (E := Enc.bool) (false) rfl rfl rfl sl_26 zr_4 rfl rfl rfl (by first | omega | (simp <;> omega)) (by first | omega | (simp <;> omega)) (by first | omega | (simp <;> omega)) (by first | omega | (simp <;> omega)) ?_
  intro b11
  refine Run.mv rfl rfl rfl rfl ?_
  refine Run.nil ?_
  refine thn_next ?_
  refine WP.seqMeet (α := List Bool) (fun bs => MetOf tn (-1) bs) (fun bs => [(3, SV.val ⟨some ⟨b11, 0, none⟩, tn.length, tn.length⟩)]) (fun bs => [slA 4 Enc.bool (SV.val ⟨some ⟨b11, 0, none⟩, tn.length, tn.length⟩) bs]) ?_ ?_
  · refine WP.seq ?_
    refine WP.plain cf0 rfl ?_
    refine Run.mv rfl rfl rfl rfl ?_
    refine Run.call (Δ := []) (Θ := [slA 4 Enc.bool (SV.val ⟨some ⟨b11, 0, none⟩, tn.length, tn.length⟩) (List.replicate tn.length false)]) rfl rfl rfl rfl ok_26 rfl rfl (ent.refl _) (lined_ok hR v tn hgn hln (by omega) hrn) ?_; rintro _ _ ⟨lv, L, rfl, hL, rfl⟩
    have hLl : L.length ≤ tn.length := nodup_le _ _ hL.nodup fun x hx => ((hL.mem x).1 hx).lt hgn
    refine Run.lenO 0 rfl rfl sl_31 rfl rfl rfl ?_
    refine Run.mv rfl rfl rfl rfl ?_
    refine Run.nil ?_
    refine thn_next ?_
    refine WP.block ?_
    refine WP.loop (α := Nat × List Bool) (fun z => z.1 ≤ L.length ∧ z.2.length = tn.length ∧ ∀ b, z.2[b]? = some true ↔ b ∈ L.take z.1) (fun z => [(3, SV.val ⟨some ⟨b11, 0, none⟩, tn.length, tn.length⟩), (13, lv.val), (14, .int .i64 (L.length : Int)), (15, .int .i64 (z.1 : Int))])
      (fun z => [slA 3 Enc.nat lv.val L, slA 4 Enc.bool (SV.val ⟨some ⟨b11, 0, none⟩, tn.length, tn.length⟩) z.2]) (fun z => L.length - z.1)
      (0, List.replicate tn.length false) ⟨Nat.zero_le _, by simp, by simp [List.getElem?_replicate]⟩ ⟨rfl, rfl, rfl, rfl, trivial⟩ (ent.refl _) ?_
    rintro ⟨i, bs⟩ ⟨hi, hbl, hbs⟩
    simp only at hi hbl hbs ⊢
    refine WP.seq ?_
    refine WP.plain cf0 rfl ?_
    refine Run.int2 rfl rfl rfl rfl rfl rfl ?_
    refine Run.nil ?_
    refine thn_next ?_
    refine WP.seq ?_
    refine WP.ite rfl (fun hlt => ?_) (fun hge => ?_)
    · refine WP.skip ?_; refine thn_next ?_
      have hlt' : i < L.length := by omega
      obtain ⟨b, gb⟩ : ∃ x, L[i]? = some x := ⟨_, List.getElem?_eq_getElem hlt'⟩
      have hbn : b < tn.length := ((hL.mem b).1 (List.mem_of_getElem? gb)).lt hgn
      obtain ⟨y, gy⟩ : ∃ x, bs[b]? = some x := ⟨_, List.getElem?_eq_getElem (by omega)⟩
      refine WP.seq ?_
      refine WP.block ?_
      refine WP.seq ?_
      refine WP.plain cf0 rfl ?_
      refine Run.idxO 0 rfl rfl rfl sl_31 rfl rfl rfl rfl (by first | omega | (simp <;> omega)) (by first | omega | (simp <;> omega)) ?_
      refine Run.loadO 0 i 0 rfl rfl ag_3 rfl rfl rfl rfl gb rfl ?_
      refine Run.mv rfl rfl rfl rfl ?_
      refine Run.nil ?_
      refine thn_next ?_
      refine WP.plain cf0 rfl ?_
      refine Run.mv rfl rfl rfl rfl ?_
      refine Run.mv rfl rfl rfl rfl ?_
      refine Run.idxO 1 rfl rfl rfl sl_26 rfl rfl rfl rfl (by first | omega | (simp <;> omega)) (by first | omega | (simp <;> omega)) ?_
      refine Run.storeO 1 b 0 (y' := true) rfl rfl rfl rfl ag_4 rfl rfl rfl rfl gy rfl rfl ?_
      refine Run.nil ?_
      refine blk_norm ?_; refine thn_next ?_
      refine WP.plain cf0 rfl ?_
      refine Run.add64 rfl rfl rfl rfl rfl (by first | omega | (simp <;> omega)) (by first | omega | (simp <;> omega)) ?_
      refine Run.mv rfl rfl rfl rfl ?_
      refine Run.nil ?_
      refine thn_next ⟨(i + 1, bs.set b true), ⟨hlt', by simp [hbl], fun x => ?_⟩, by simp only; omega, ⟨rfl, rfl, rfl, rfl, trivial⟩, ent.refl _⟩
      rw [take_snoc gb]
      by_cases e : x = b
      · subst e; simp [hbl, hbn]
      · rw [List.getElem?_set_ne (Ne.symm e), hbs]; simp [e]
    · refine WP.exit ?_; refine thn_exit ?_; refine thn_exit ?_; refine blk_hit ?_
      refine thn_next ⟨bs, ⟨hbl, fun b => ?_⟩, ⟨rfl, trivial⟩, pick_only [1] _⟩
      rw [hbs, List.take_of_length_le (by omega)]; exact hL.mem b
  rintro bs hbs
  refine WP.seq ?_
  refine WP.plain cf0 rfl ?_
  refine Run.mv rfl rfl rfl rfl ?_
  refine Run.mv rfl rfl rfl rfl ?_
  refine Run.nil ?_
  refine thn_next ?_
  refine WP.ret ?_
  exact retT [2] _ rfl rfl ⟨_, bs, rfl, .inr ⟨tn, rfl, hgn, hbs⟩, rfl⟩
end Go.Proofs.Ytifpejpeophlbaa
