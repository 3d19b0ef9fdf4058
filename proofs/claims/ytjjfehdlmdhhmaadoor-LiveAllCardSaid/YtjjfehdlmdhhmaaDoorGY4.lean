/- A list of lists is put away, all of it; walked. -/
import Derived.Test.YtjjfehdlmdhhmaaDoorGL7
import Derived.Test.YtjjfehdlmdhhmaaDoorGY3
section
/- A list of lists is put away, all of it; walked. -/
namespace Go.Proofs.YtjjfehdlmdhhmaaDoor
open Go.Sep
set_option linter.unusedSimpArgs false
set_option linter.unusedVariables false
attribute [local irreducible] blk slA mp mpF rows rowsBut many
theorem LOk.mono {e : KE} {b c : Nat} (h : LOk e b) (hb : b ≤ c) : LOk e c := ⟨h.s, h.l, h.i, h.has, h.s1, h.l1, h.i1, by have := h.cs; omega, by have := h.cl; omega, by have := h.ci; omega⟩
theorem LOk.addS {e : KE} {b : Nat} {l c : SV} {xs : List Iv} {l' w' : SV} (h : LOk e b) (hx : xs.length ≤ 1000000) : LOk { e with p1 := e.p1 ++ [(l, xs)], q1 := e.q1 ++ [(c, xs)], l1 := l', w1 := w' } (b + 1) :=
  ⟨by simp [h.s], h.l, h.i, h.has, fun q hq => by rcases List.mem_append.1 hq with hq | hq; exact h.s1 q hq; rw [List.mem_singleton.1 hq]; exact hx, h.l1, h.i1, by have := h.cs; simp; omega, by have := h.cl; simp only; omega, by have := h.ci; simp only; omega⟩
theorem LOk.addI {e : KE} {b : Nat} {l c : SV} {xs : List Int} {l' w' : SV} (h : LOk e b) (hx : xs.length ≤ 1000000) : LOk { e with p3 := e.p3 ++ [(l, xs)], q3 := e.q3 ++ [(c, xs)], l3 := l', w3 := w' } (b + 1) :=
  ⟨h.s, h.l, by simp [h.i], fun q hq u hu => (h.has q hq u hu).imp fun ys hy => List.mem_append_left _ hy, h.s1, h.l1, fun q hq => by rcases List.mem_append.1 hq with hq | hq; exact h.i1 q hq; rw [List.mem_singleton.1 hq]; exact hx, by have := h.cs; simp only; omega, by have := h.cl; simp only; omega, by have := h.ci; simp; omega⟩
theorem LOk.addL {e : KE} {b : Nat} {l c : SV} {xs : List SV} {l' w' : SV} (h : LOk e b) (hx : xs.length ≤ 1000000) (hu : ∀ u ∈ xs, ∃ ys, (u, ys) ∈ e.p3) : LOk { e with p2 := e.p2 ++ [(l, xs)], q2 := e.q2 ++ [(c, xs)], l2 := l', w2 := w' } (b + 1) :=
  ⟨h.s, by simp [h.l], h.i, fun q hq u hu' => by rcases List.mem_append.1 hq with hq | hq; exact h.has q hq u hu'; rw [List.mem_singleton.1 hq] at hu'; exact hu u hu', h.s1, fun q hq => by rcases List.mem_append.1 hq with hq | hq; exact h.l1 q hq; rw [List.mem_singleton.1 hq]; exact hx, h.i1, by have := h.cs; simp only; omega, by have := h.cl; simp; omega, by have := h.ci; simp only; omega⟩
set_option maxHeartbeats 1000000 in
set_option maxRecDepth 100000 in
theorem setsNow_ok (hR : Heap) (kb : Nat) (c2 c5 c8 : Value) (k : KD) (a : SV) (P : List (SV × List Int)) (b : Nat) (hK : KOk k) (hF : KFew k b) (hb : b + 41 * (P.length + 1) ≤ 500000) (hn : ∀ q ∈ P, q.2.length ≤ 1000000) :
    Tri Tryd.prog hR 27 #[.pointer (some ⟨kb, 0, none⟩), a.val] (KN kb c2 c5 c8 k ++ [slA 22 Enc.slice a.val (P.map Prod.fst), rows 3 Ei P]) fun u Γ' => ∃ k' : KD, Γ' = KN kb c2 c5 c8 k' ∧ KOk k' ∧ KFew k' (b + 41 * (P.length + 1)) := by
  refine Tri.ent (Tri.of (args := [.pointer (some ⟨kb, 0, none⟩), a.val]) Tryd.func27 rfl Tryd.ntmps27 (by simp) ?_)
  have hpm : (P.map Prod.fst).length = P.length := List.length_map _
  refine WP.sup (ρ' := [(0, .pointer (some ⟨kb, 0, none⟩)), (1, a.val)]) (Γ' := KN kb c2 c5 c8 k ++ [slA 22 Enc.slice a.val (P.map Prod.fst), rows 3 Ei (P.drop 0)]) (covers_get ⟨rfl, rfl, trivial⟩) (ent.refl _) ?_
  refine WP.seqMeet (α := KD) (fun z => KOk z ∧ KFew z (b + 41 * P.length)) (fun _ => [(0, .pointer (some ⟨kb, 0, none⟩)), (1, a.val)]) (fun z => KN kb c2 c5 c8 z ++ [slA 22 Enc.slice a.val (P.map Prod.fst)]) ?_ ?_
  · refine Zp ?_
    refine Zm ?_
    refine Ze ?_
    refine WP.block ?_
    refine WP.loop (α := Nat × KD) (fun z => z.1 ≤ P.length ∧ KOk z.2 ∧ KFew z.2 (b + 41 * z.1)) (fun z => [(4, .int .i64 (z.1 : Int)), (0, .pointer (some ⟨kb, 0, none⟩)), (1, a.val)]) (fun z => KN kb c2 c5 c8 z.2 ++ [slA 22 Enc.slice a.val (P.map Prod.fst), rows 3 Ei (P.drop z.1)]) (fun z => P.length - z.1) (0, k) ⟨Nat.zero_le _, hK, hF.mono (by omega)⟩ ⟨rfl, rfl, rfl, trivial⟩ (ent.refl _) ?_
    rintro ⟨i, k⟩ ⟨hi, hK, hF⟩
    simp only at hi hK hF
    unfold KN
    refine WP.trim [4, 0, 1] [0, 1, 2, 3, 4, 5, 6, 7, 8, 9, 10, 11, 12] ?_
    refine WP.seq ?_
    refine Zp ?_
    refine Zm ?_
    refine Zm ?_
    refine Run.lenO 11 rfl rfl sl_30 rfl rfl rfl ?_
    refine Zi ?_
    refine Ze ?_
    refine WP.ite rfl (fun hlt => ?_) (fun hge => ?_)
    · refine Zb ?_
      have hlt' : i < P.length := by omega
      obtain ⟨⟨u, ys⟩, gp⟩ : ∃ y, P[i]? = some y := ⟨_, List.getElem?_eq_getElem hlt'⟩
      have gu : (P.map Prod.fst)[i]? = some u := by rw [List.getElem?_map, gp]; rfl
      have hyl := hn _ (List.mem_of_getElem? gp)
      have hdr : P.drop i = (u, ys) :: P.drop (i + 1) := by
        obtain ⟨h1, h2⟩ := List.getElem?_eq_some_iff.1 gp
        rw [List.drop_eq_getElem_cons h1, h2]
      rw [hdr]
      refine WP.trim [4, 0, 1] [12, 0, 1, 2, 3, 4, 5, 6, 7, 8, 9, 10, 11] ?_
      refine WP.via (rows_first _ _) ?_
      refine WP.trim [4, 0, 1] [2, 3, 4, 5, 6, 7, 8, 9, 10, 11, 12, 13, 0, 1] ?_
      refine WP.seq ?_
      refine WP.block ?_
      refine Zc ?_
      iterate 3 refine Zm ?_
      refine Run.idxO 11 rfl rfl rfl sl_30 rfl rfl rfl rfl (by omega) (by omega) ?_
      refine Run.loadO 11 i 0 rfl rfl ag_22 rfl rfl rfl rfl gu rfl ?_
      refine Run.callP [0, 1, 2, 3, 4, 5, 6, 7, 8, 9, 10, 12] ok_54 (putInow_ok hR kb c2 c5 c8 k u ys (b + 41 * i) hK hF (by omega) hyl) ?_; rintro _ _ ⟨k', rfl, hK', hF'⟩
      refine Run.nil ?_
      refine blk_norm ?_; refine thn_next ?_
      refine Zc ?_
      refine Zm ?_
      refine Za ?_
      refine Zm ?_
      refine Run.nil ?_
      exact thn_next ⟨(i + 1, k'), ⟨hlt', hK', hF'.mono (by omega)⟩, by simp only; omega, ⟨rfl, rfl, rfl, trivial⟩, by (try unfold KN); exact ent.gn⟩
    · refine Zj ?_
      have e : i = P.length := by omega
      subst e
      exact thn_next ⟨k, ⟨hK, hF⟩, ⟨rfl, rfl, trivial⟩, by (try unfold KN); exact ent.gn⟩
  rintro k ⟨hK, hF⟩
  unfold KN
  refine WP.trim [0, 1] [0, 1, 2, 3, 4, 5, 6, 7, 8, 9, 10, 11] ?_
  refine Zc ?_
  refine Zm ?_
  refine Zm ?_
  refine Run.callP [0, 1, 2, 3, 4, 5, 6, 7, 8, 9, 10, 11] ok_55 (putLnow_ok hR kb c2 c5 c8 k a (P.map Prod.fst) (b + 41 * P.length) hK hF (by omega) (by omega)) ?_; rintro _ _ ⟨k', rfl, hK', hF'⟩
  refine Run.nil ?_
  exact retN [] [] rfl rfl ⟨KN kb c2 c5 c8 k', by (try unfold KN); exact ent.gn, k', rfl, hK', hF'.mono (by omega)⟩
set_option maxHeartbeats 1000000 in
set_option maxRecDepth 100000 in
theorem setsLate_ok (hR : Heap) (kb : Nat) (c3 c6 c9 : Value) (e : KE) (a : SV) (P : List (SV × List Int)) (b : Nat) (hK : LOk e b) (hb : b + (P.length + 1) ≤ 500000) (hn : ∀ q ∈ P, q.2.length ≤ 1000000) :
    Tri Tryd.prog hR 27 #[.pointer (some ⟨kb, 0, none⟩), a.val] (KL kb c3 c6 c9 e ++ [slA 22 Enc.slice a.val (P.map Prod.fst), rows 3 Ei P]) fun u Γ' => ∃ e' : KE, Γ' = KL kb c3 c6 c9 e' ∧ LOk e' (b + (P.length + 1)) := by
  refine Tri.ent (Tri.of (args := [.pointer (some ⟨kb, 0, none⟩), a.val]) Tryd.func27 rfl Tryd.ntmps27 (by simp) ?_)
  have hpm : (P.map Prod.fst).length = P.length := List.length_map _
  refine WP.sup (ρ' := [(0, .pointer (some ⟨kb, 0, none⟩)), (1, a.val)]) (Γ' := KL kb c3 c6 c9 e ++ [slA 22 Enc.slice a.val (P.map Prod.fst), rows 3 Ei (P.drop 0)]) (covers_get ⟨rfl, rfl, trivial⟩) (ent.refl _) ?_
  refine WP.seqMeet (α := KE) (fun z => LOk z (b + P.length) ∧ ∀ q ∈ P, q ∈ z.p3) (fun _ => [(0, .pointer (some ⟨kb, 0, none⟩)), (1, a.val)]) (fun z => KL kb c3 c6 c9 z ++ [slA 22 Enc.slice a.val (P.map Prod.fst)]) ?_ ?_
  · refine Zp ?_
    refine Zm ?_
    refine Ze ?_
    refine WP.block ?_
    refine WP.loop (α := Nat × KE) (fun z => z.1 ≤ P.length ∧ LOk z.2 (b + z.1) ∧ ∀ q ∈ P.take z.1, q ∈ z.2.p3) (fun z => [(4, .int .i64 (z.1 : Int)), (0, .pointer (some ⟨kb, 0, none⟩)), (1, a.val)]) (fun z => KL kb c3 c6 c9 z.2 ++ [slA 22 Enc.slice a.val (P.map Prod.fst), rows 3 Ei (P.drop z.1)]) (fun z => P.length - z.1) (0, e) ⟨Nat.zero_le _, hK, fun q hq => by simp at hq⟩ ⟨rfl, rfl, rfl, trivial⟩ (ent.refl _) ?_
    rintro ⟨i, e⟩ ⟨hi, hK, hin⟩
    simp only at hi hK hin
    have hci := hK.ci
    have hqi : e.q3.length = e.p3.length := by have := congrArg List.length hK.i; simpa using this.symm
    unfold KL
    refine WP.trim [4, 0, 1] [0, 1, 2, 3, 4, 5, 6, 7, 8, 9, 10, 11, 12, 13, 14] ?_
    refine WP.seq ?_
    refine Zp ?_
    refine Zm ?_
    refine Zm ?_
    refine Run.lenO 13 rfl rfl sl_30 rfl rfl rfl ?_
    refine Zi ?_
    refine Ze ?_
    refine WP.ite rfl (fun hlt => ?_) (fun hge => ?_)
    · refine Zb ?_
      have hlt' : i < P.length := by omega
      obtain ⟨⟨u, ys⟩, gp⟩ : ∃ y, P[i]? = some y := ⟨_, List.getElem?_eq_getElem hlt'⟩
      have gu : (P.map Prod.fst)[i]? = some u := by rw [List.getElem?_map, gp]; rfl
      have hyl := hn _ (List.mem_of_getElem? gp)
      have hdr : P.drop i = (u, ys) :: P.drop (i + 1) := by
        obtain ⟨h1, h2⟩ := List.getElem?_eq_some_iff.1 gp
        rw [List.drop_eq_getElem_cons h1, h2]
      rw [hdr]
      refine WP.trim [4, 0, 1] [14, 0, 1, 2, 3, 4, 5, 6, 7, 8, 9, 10, 11, 12, 13] ?_
      refine WP.via (rows_first _ _) ?_
      refine WP.trim [4, 0, 1] [2, 3, 4, 5, 6, 7, 8, 9, 10, 11, 12, 13, 14, 15, 0, 1] ?_
      refine WP.seq ?_
      refine WP.block ?_
      refine Zc ?_
      iterate 3 refine Zm ?_
      refine Run.idxO 13 rfl rfl rfl sl_30 rfl rfl rfl rfl (by omega) (by omega) ?_
      refine Run.loadO 13 i 0 rfl rfl ag_22 rfl rfl rfl rfl gu rfl ?_
      refine Run.callP [0, 1, 2, 3, 4, 5, 6, 7, 8, 9, 10, 11, 12, 14] ok_54 (putIlate_ok hR kb c3 c6 c9 e u ys hyl (by omega) (by omega)) ?_; rintro _ _ ⟨c, l', w', rfl⟩
      refine Run.nil ?_
      refine blk_norm ?_; refine thn_next ?_
      refine Zc ?_
      refine Zm ?_
      refine Za ?_
      refine Zm ?_
      refine Run.nil ?_
      refine thn_next ⟨(i + 1, { e with p3 := e.p3 ++ [(u, ys)], q3 := e.q3 ++ [(c, ys)], l3 := l', w3 := w' }), ⟨hlt', (hK.addI hyl).mono (by omega), fun q hq => ?_⟩, by simp only; omega, ⟨rfl, rfl, rfl, trivial⟩, by (try unfold KL); exact ent.gn⟩
      simp only [List.take_add_one, gp, Option.toList_some] at hq
      rcases List.mem_append.1 hq with hq | hq
      · exact List.mem_append_left _ (hin q hq)
      · rw [List.mem_singleton.1 hq]; exact List.mem_append_right _ (by simp)
    · refine Zj ?_
      have e' : i = P.length := by omega
      subst e'
      rw [List.take_length] at hin
      exact thn_next ⟨e, ⟨hK, hin⟩, ⟨rfl, rfl, trivial⟩, by (try unfold KL); exact ent.gn⟩
  rintro e ⟨hK, hin⟩
  have hcl := hK.cl
  have hql : e.q2.length = e.p2.length := by have := congrArg List.length hK.l; simpa using this.symm
  unfold KL
  refine WP.trim [0, 1] [0, 1, 2, 3, 4, 5, 6, 7, 8, 9, 10, 11, 12, 13] ?_
  refine Zc ?_
  refine Zm ?_
  refine Zm ?_
  refine Run.callP [0, 1, 2, 3, 4, 5, 6, 7, 8, 9, 10, 11, 12, 13] ok_55 (putLlate_ok hR kb c3 c6 c9 e a (P.map Prod.fst) (by omega) (by omega) (by omega)) ?_; rintro _ _ ⟨c, l', w', rfl⟩
  refine Run.nil ?_
  refine retN [] [] rfl rfl ⟨KL kb c3 c6 c9 { e with p2 := e.p2 ++ [(a, P.map Prod.fst)], q2 := e.q2 ++ [(c, P.map Prod.fst)], l2 := l', w2 := w' }, by (try unfold KL); exact ent.gn, _, rfl, (hK.addL (by omega) fun u hu => ?_).mono (by omega)⟩
  obtain ⟨⟨u', ys⟩, hq, rfl⟩ := List.mem_map.1 hu
  exact ⟨ys, hin _ hq⟩
end Go.Proofs.YtjjfehdlmdhhmaaDoor
end
section
/- What was left is what it was; walked. -/
namespace Go.Proofs.YtjjfehdlmdhhmaaDoor
open Go.Sep
set_option linter.unusedSimpArgs false
set_option linter.unusedVariables false
attribute [local irreducible] blk slA mp mpF rows rowsBut many
theorem pick_all {A B : Type} {R : A → B → Prop} : ∀ {us : List A}, (∀ u ∈ us, ∃ y, R u y) → ∃ ys : List B, ys.length = us.length ∧ ∀ (i : Nat) (u : A) (y : B), us[i]? = some u → ys[i]? = some y → R u y
  | [], _ => ⟨[], rfl, fun i u y h => by simp at h⟩
  | u :: us, h => by
    obtain ⟨y, hy⟩ := h u (by simp)
    obtain ⟨ys, hl, hr⟩ := pick_all (us := us) fun v hv => h v (by simp [hv])
    refine ⟨y :: ys, by simp [hl], fun i v z hv hz => ?_⟩
    cases i with
    | zero => simp at hv hz; subst hv hz; exact hy
    | succ i => exact hr i v z (by simpa using hv) (by simpa using hz)
theorem snd_at {A : Type} {p q : List (SV × List A)} (h : p.map Prod.snd = q.map Prod.snd) {i : Nat} {u : SV} {xs : List A} (hp : p[i]? = some (u, xs)) : ∃ w, q[i]? = some (w, xs) := by
  have h1 : (q.map Prod.snd)[i]? = some xs := by rw [← h, List.getElem?_map, hp]; rfl
  rw [List.getElem?_map] at h1
  cases hq : q[i]? with
  | none => rw [hq] at h1; cases h1
  | some y => obtain ⟨w, ys⟩ := y; rw [hq] at h1; cases h1; exact ⟨w, rfl⟩
set_option maxHeartbeats 4000000 in
set_option maxRecDepth 100000 in
theorem asWas_ok (hR : Heap) (kb : Nat) (c3 c6 c9 : Value) (e : KE) (b : Nat) (hK : LOk e b) (hb : b ≤ 500000) :
    Tri Tryd.prog hR 77 #[.pointer (some ⟨kb, 0, none⟩)] (KL kb c3 c6 c9 e) fun u Γ' => u = .bool true ∧ Γ' = KL kb c3 c6 c9 e := by
  refine Tri.ent (Tri.of (args := [.pointer (some ⟨kb, 0, none⟩)]) Tryd.func77 rfl Tryd.ntmps77 (by simp) ?_)
  have n1 := hK.cs
  have n2 := hK.cl
  have n3 := hK.ci
  refine WP.sup (ρ' := [(0, .pointer (some ⟨kb, 0, none⟩))]) (covers_get ⟨rfl, trivial⟩) (ent.refl _) ?_
  refine WP.freeze (Γ := []) (KL kb c3 c6 c9 e) fun g hg hd => ?_
  have hg2 : sat [blk kb [.bool true, e.l1.val, e.w1.val, c3, e.l2.val, e.w2.val, c6, e.l3.val, e.w3.val, c9] 73, slA 44 Enc.slice e.l1.val (e.p1.map Prod.fst), rows 62 encIv e.p1, slA 44 Enc.slice e.w1.val (e.q1.map Prod.fst), rows 62 encIv e.q1, slA 30 Enc.slice e.l2.val (e.p2.map Prod.fst), rows 22 Enc.slice e.p2, slA 30 Enc.slice e.w2.val (e.q2.map Prod.fst), rows 22 Enc.slice e.q2, slA 22 Enc.slice e.l3.val (e.p3.map Prod.fst), rows 3 Ei e.p3, slA 22 Enc.slice e.w3.val (e.q3.map Prod.fst), rows 3 Ei e.q3] g := hg
  have d1 := lent_blk (v := e.l1.val) 0 1 rfl rfl hg2 hd
  have d2 := lent_blk (v := e.w1.val) 0 2 rfl rfl hg2 hd
  have d4 := lent_blk (v := e.l2.val) 0 4 rfl rfl hg2 hd
  have d5 := lent_blk (v := e.w2.val) 0 5 rfl rfl hg2 hd
  have d7 := lent_blk (v := e.l3.val) 0 7 rfl rfl hg2 hd
  have d8 := lent_blk (v := e.w3.val) 0 8 rfl rfl hg2 hd
  have rp1 : SlR Enc.slice.rd (un hR g) e.l1.val (e.p1.map Prod.fst) := lent_at 1 rfl hg2 hd
  have tp1 : ∀ (i : Nat) (u : SV) (xs : List Iv), e.p1[i]? = some (u, xs) → SlR encIv.rd (un hR g) u.val xs := fun i u xs hi => by
    obtain ⟨h1, q1, q2⟩ := lent_sub 2 rfl hg2 hd
    exact (sat_rows q1 hi).mono q2
  have rq1 : SlR Enc.slice.rd (un hR g) e.w1.val (e.q1.map Prod.fst) := lent_at 3 rfl hg2 hd
  have tq1 : ∀ (i : Nat) (u : SV) (xs : List Iv), e.q1[i]? = some (u, xs) → SlR encIv.rd (un hR g) u.val xs := fun i u xs hi => by
    obtain ⟨h1, q1, q2⟩ := lent_sub 4 rfl hg2 hd
    exact (sat_rows q1 hi).mono q2
  have rp2 : SlR Enc.slice.rd (un hR g) e.l2.val (e.p2.map Prod.fst) := lent_at 5 rfl hg2 hd
  have tp2 : ∀ (i : Nat) (u : SV) (xs : List SV), e.p2[i]? = some (u, xs) → SlR Enc.slice.rd (un hR g) u.val xs := fun i u xs hi => by
    obtain ⟨h1, q1, q2⟩ := lent_sub 6 rfl hg2 hd
    exact (sat_rows q1 hi).mono q2
  have rq2 : SlR Enc.slice.rd (un hR g) e.w2.val (e.q2.map Prod.fst) := lent_at 7 rfl hg2 hd
  have tq2 : ∀ (i : Nat) (u : SV) (xs : List SV), e.q2[i]? = some (u, xs) → SlR Enc.slice.rd (un hR g) u.val xs := fun i u xs hi => by
    obtain ⟨h1, q1, q2⟩ := lent_sub 8 rfl hg2 hd
    exact (sat_rows q1 hi).mono q2
  have rp3 : SlR Enc.slice.rd (un hR g) e.l3.val (e.p3.map Prod.fst) := lent_at 9 rfl hg2 hd
  have tp3 : ∀ (i : Nat) (u : SV) (xs : List Int), e.p3[i]? = some (u, xs) → SlR Ei.rd (un hR g) u.val xs := fun i u xs hi => by
    obtain ⟨h1, q1, q2⟩ := lent_sub 10 rfl hg2 hd
    exact (sat_rows q1 hi).mono q2
  have rq3 : SlR Enc.slice.rd (un hR g) e.w3.val (e.q3.map Prod.fst) := lent_at 11 rfl hg2 hd
  have tq3 : ∀ (i : Nat) (u : SV) (xs : List Int), e.q3[i]? = some (u, xs) → SlR Ei.rd (un hR g) u.val xs := fun i u xs hi => by
    obtain ⟨h1, q1, q2⟩ := lent_sub 12 rfl hg2 hd
    exact (sat_rows q1 hi).mono q2
  generalize un hR g = hX at d1 d2 d4 d5 d7 d8 rp1 tp1 rq1 tq1 rp2 tp2 rq2 tq2 rp3 tp3 rq3 tq3
  clear hg hd hg2
  refine Zp ?_
  refine Zm ?_
  refine Ze ?_
  refine WP.trim [0] [] ?_

  refine WP.meetC (α := Unit) (fun _ => True) (fun _ => []) (fun _ => []) ?_ ?_
  · refine Zp ?_
    refine Zm ?_
    refine Ze ?_
    refine WP.block ?_
    refine WP.trim [3, 0] [] ?_
    refine WP.loopC (α := Nat) (fun i => i ≤ e.p1.length) (fun i => [(3, .int .i64 (i : Int))]) (fun _ => []) (fun i => e.p1.length - i) 0 (Nat.zero_le _) ?_
    intro i hi
    have hml : (e.p1.map Prod.fst).length = e.p1.length := List.length_map _
    refine WP.trim [3, 0] [] ?_
    refine WP.seq ?_
    refine Zp ?_
    refine Zm ?_
    refine Zm ?_
    refine Zn ?_
    refine Zf fo_73_1 ?_
    refine Zr ag_70 d1 ?_
    refine Zh sl_70 rp1 ?_
    refine Zi ?_
    refine Ze ?_
    refine WP.ite rfl (fun hlt => ?_) (fun hge => ?_)
    · refine Zb ?_
      have hlt' : i < e.p1.length := by omega
      obtain ⟨⟨u, xs⟩, gp⟩ : ∃ y, e.p1[i]? = some y := ⟨_, List.getElem?_eq_getElem hlt'⟩
      obtain ⟨w, gq⟩ := snd_at hK.s gp
      have gu : (e.p1.map Prod.fst)[(i : Int).toNat]? = some u := by rw [Int.toNat_natCast, List.getElem?_map, gp]; rfl
      have gw : (e.q1.map Prod.fst)[(i : Int).toNat]? = some w := by rw [Int.toNat_natCast, List.getElem?_map, gq]; rfl
      have hqi := (List.getElem?_eq_some_iff.1 gw).1
      have hxl := hK.s1 _ (List.mem_of_getElem? gp)
      have rx := tp1 i u xs gp
      have ry := tq1 i w xs gq
      refine WP.seq ?_
      refine WP.block ?_
      refine WP.seq ?_
      refine WP.drawn0 cf0 mixed rfl (by kernel_rfl) ?_
      refine Zm ?_
      refine Zn ?_
      refine Zf fo_73_1 ?_
      refine Zr ag_70 d1 ?_
      refine Zm ?_
      refine Zx sl_70 rp1 ?_
      refine Zr ag_44 (SlR.cell0 rp1 gu rfl) ?_
      refine Zm ?_
      refine Zn ?_
      refine Zf fo_73_2 ?_
      refine Zr ag_70 d2 ?_
      refine Zm ?_
      refine Zx sl_70 rq1 ?_
      refine Zr ag_44 (SlR.cell0 rq1 gw rfl) ?_
      refine Run.callP [] ok_19 (sameSpans_ok hX u.val w.val xs xs rx ry (by simp only at hxl; omega)) ?_; rintro _ _ ⟨rfl, rfl⟩
      refine Run.bnot rfl rfl rfl rfl ?_
      refine Run.eqv (v' := .bool false) (by simp) ?_
      refine Ze ?_
      refine Zno ?_
      refine WP.skip ?_; refine blk_norm ?_; refine thn_next ?_
      refine Zc ?_
      refine Zm ?_
      refine Za ?_
      refine Zm ?_
      refine Run.nil ?_
      exact thn_next ⟨i + 1, hlt', by omega, Ko.go, ent.gc⟩
    · refine Zj ?_
      exact thn_next ⟨(), trivial, Ko.go, ent.gc⟩
  rintro _ _
  refine WP.trim [0] [] ?_

  refine WP.meetC (α := Unit) (fun _ => True) (fun _ => []) (fun _ => []) ?_ ?_
  · refine Zp ?_
    refine Zm ?_
    refine Ze ?_
    refine WP.block ?_
    refine WP.trim [4, 0] [] ?_
    refine WP.loopC (α := Nat) (fun i => i ≤ e.p2.length) (fun i => [(4, .int .i64 (i : Int))]) (fun _ => []) (fun i => e.p2.length - i) 0 (Nat.zero_le _) ?_
    intro i hi
    have hml : (e.p2.map Prod.fst).length = e.p2.length := List.length_map _
    refine WP.trim [4, 0] [] ?_
    refine WP.seq ?_
    refine Zp ?_
    refine Zm ?_
    refine Zm ?_
    refine Zn ?_
    refine Zf fo_73_4 ?_
    refine Zr ag_71 d4 ?_
    refine Zh sl_71 rp2 ?_
    refine Zi ?_
    refine Ze ?_
    refine WP.ite rfl (fun hlt => ?_) (fun hge => ?_)
    · refine Zb ?_
      have hlt' : i < e.p2.length := by omega
      obtain ⟨⟨u, xs⟩, gp⟩ : ∃ y, e.p2[i]? = some y := ⟨_, List.getElem?_eq_getElem hlt'⟩
      obtain ⟨w, gq⟩ := snd_at hK.l gp
      have gu : (e.p2.map Prod.fst)[(i : Int).toNat]? = some u := by rw [Int.toNat_natCast, List.getElem?_map, gp]; rfl
      have gw : (e.q2.map Prod.fst)[(i : Int).toNat]? = some w := by rw [Int.toNat_natCast, List.getElem?_map, gq]; rfl
      have hqi := (List.getElem?_eq_some_iff.1 gw).1
      have hxl := hK.l1 _ (List.mem_of_getElem? gp)
      obtain ⟨yss, hyl, hy⟩ := pick_all (us := xs) (hK.has _ (List.mem_of_getElem? gp))
      have hyb : ∀ y ∈ yss, y.length ≤ 10000000000000 := fun y hy' => by
        obtain ⟨j, hj⟩ := List.getElem?_of_mem hy'
        have hj1 := (List.getElem?_eq_some_iff.1 hj).1
        have := hK.i1 _ (hy j _ y (List.getElem?_eq_getElem (by omega)) hj)
        simp only at this; omega
      have hrd : ∀ (j : Nat) (u : SV) (y : List Int), xs[j]? = some u → yss[j]? = some y → SlR rdI hX u.val y := fun j u y h1 h2 => by
        obtain ⟨k, hk⟩ := List.getElem?_of_mem (hy j u y h1 h2)
        exact tp3 k u y hk
      have rx : SlR rdI.slice hX u.val yss := SlR.turn (E := Enc.slice.rd) (F := rdI.slice) (H := tp2 i u xs gp) hyl rfl fun j u x hu hx cs hc => ⟨u.val, hc, hrd j u x hu hx⟩
      have ry : SlR rdI.slice hX w.val yss := SlR.turn (E := Enc.slice.rd) (F := rdI.slice) (H := tq2 i w xs gq) hyl rfl fun j u x hu hx cs hc => ⟨u.val, hc, hrd j u x hu hx⟩
      refine WP.seq ?_
      refine WP.block ?_
      refine WP.seq ?_
      refine WP.drawn0 cf0 mixed rfl (by kernel_rfl) ?_
      refine Zm ?_
      refine Zn ?_
      refine Zf fo_73_4 ?_
      refine Zr ag_71 d4 ?_
      refine Zm ?_
      refine Zx sl_71 rp2 ?_
      refine Zr ag_30 (SlR.cell0 rp2 gu rfl) ?_
      refine Zm ?_
      refine Zn ?_
      refine Zf fo_73_5 ?_
      refine Zr ag_71 d5 ?_
      refine Zm ?_
      refine Zx sl_71 rq2 ?_
      refine Zr ag_30 (SlR.cell0 rq2 gw rfl) ?_
      refine Run.callP [] ok_14 (sameLists_ok hX u.val w.val yss yss rx ry (by simp only at hxl; omega) hyb) ?_; rintro _ _ ⟨rfl, rfl⟩
      refine Run.bnot rfl rfl rfl rfl ?_
      refine Run.eqv (v' := .bool false) (by simp) ?_
      refine Ze ?_
      refine Zno ?_
      refine WP.skip ?_; refine blk_norm ?_; refine thn_next ?_
      refine Zc ?_
      refine Zm ?_
      refine Za ?_
      refine Zm ?_
      refine Run.nil ?_
      exact thn_next ⟨i + 1, hlt', by omega, Ko.go, ent.gc⟩
    · refine Zj ?_
      exact thn_next ⟨(), trivial, Ko.go, ent.gc⟩
  rintro _ _
  refine WP.trim [0] [] ?_

  refine WP.meetC (α := Unit) (fun _ => True) (fun _ => []) (fun _ => []) ?_ ?_
  · refine Zp ?_
    refine Zm ?_
    refine Ze ?_
    refine WP.block ?_
    refine WP.trim [5, 0] [] ?_
    refine WP.loopC (α := Nat) (fun i => i ≤ e.p3.length) (fun i => [(5, .int .i64 (i : Int))]) (fun _ => []) (fun i => e.p3.length - i) 0 (Nat.zero_le _) ?_
    intro i hi
    have hml : (e.p3.map Prod.fst).length = e.p3.length := List.length_map _
    refine WP.trim [5, 0] [] ?_
    refine WP.seq ?_
    refine Zp ?_
    refine Zm ?_
    refine Zm ?_
    refine Zn ?_
    refine Zf fo_73_7 ?_
    refine Zr ag_30 d7 ?_
    refine Zh sl_30 rp3 ?_
    refine Zi ?_
    refine Ze ?_
    refine WP.ite rfl (fun hlt => ?_) (fun hge => ?_)
    · refine Zb ?_
      have hlt' : i < e.p3.length := by omega
      obtain ⟨⟨u, xs⟩, gp⟩ : ∃ y, e.p3[i]? = some y := ⟨_, List.getElem?_eq_getElem hlt'⟩
      obtain ⟨w, gq⟩ := snd_at hK.i gp
      have gu : (e.p3.map Prod.fst)[(i : Int).toNat]? = some u := by rw [Int.toNat_natCast, List.getElem?_map, gp]; rfl
      have gw : (e.q3.map Prod.fst)[(i : Int).toNat]? = some w := by rw [Int.toNat_natCast, List.getElem?_map, gq]; rfl
      have hqi := (List.getElem?_eq_some_iff.1 gw).1
      have hxl := hK.i1 _ (List.mem_of_getElem? gp)
      have rx := tp3 i u xs gp
      have ry := tq3 i w xs gq
      refine WP.seq ?_
      refine WP.block ?_
      refine WP.seq ?_
      refine WP.drawn0 cf0 mixed rfl (by kernel_rfl) ?_
      refine Zm ?_
      refine Zn ?_
      refine Zf fo_73_7 ?_
      refine Zr ag_30 d7 ?_
      refine Zm ?_
      refine Zx sl_30 rp3 ?_
      refine Zr ag_22 (SlR.cell0 rp3 gu rfl) ?_
      refine Zm ?_
      refine Zn ?_
      refine Zf fo_73_8 ?_
      refine Zr ag_30 d8 ?_
      refine Zm ?_
      refine Zx sl_30 rq3 ?_
      refine Zr ag_22 (SlR.cell0 rq3 gw rfl) ?_
      refine Run.callP [] ok_36 (sameInts_ok hX u.val w.val xs xs rx ry (by simp only at hxl; omega)) ?_; rintro _ _ ⟨rfl, rfl⟩
      refine Run.bnot rfl rfl rfl rfl ?_
      refine Run.eqv (v' := .bool false) (by simp) ?_
      refine Ze ?_
      refine Zno ?_
      refine WP.skip ?_; refine blk_norm ?_; refine thn_next ?_
      refine Zc ?_
      refine Zm ?_
      refine Za ?_
      refine Zm ?_
      refine Run.nil ?_
      exact thn_next ⟨i + 1, hlt', by omega, Ko.go, ent.gc⟩
    · refine Zj ?_
      exact thn_next ⟨(), trivial, Ko.go, ent.gc⟩
  rintro _ _
  refine WP.trim [0] [] ?_

  refine Zp ?_
  refine Zm ?_
  refine Ze ?_
  refine WP.ret ?_
  exact retT [2] _ rfl rfl ⟨_, ent.refl _, rfl, rfl⟩
end Go.Proofs.YtjjfehdlmdhhmaaDoor
end
section
/- What was left is written full, and grown; walked. -/
namespace Go.Proofs.YtjjfehdlmdhhmaaDoor
open Go.Sep
set_option linter.unusedSimpArgs false
set_option linter.unusedVariables false
attribute [local irreducible] blk slA mp mpF rows rowsBut many
/-- the first i of them are full of their marks -/
structure FillI {A : Type} (φ : Nat → A → Prop) (p0 p : List (SV × List A)) (i : Nat) : Prop where
  fst : p.map Prod.fst = p0.map Prod.fst
  len : ∀ q ∈ p, q.2.length ≤ 1000000
  full : ∀ (j : Nat) (u : SV) (xs : List A), j < i → p[j]? = some (u, xs) → ∀ x ∈ xs, φ j x
theorem FillI.new {A : Type} {φ : Nat → A → Prop} {p : List (SV × List A)} (h : ∀ q ∈ p, q.2.length ≤ 1000000) : FillI φ p p 0 := ⟨rfl, h, fun j u xs hj => by omega⟩
theorem FillI.plen {A : Type} {φ : Nat → A → Prop} {p0 p : List (SV × List A)} {i : Nat} (h : FillI φ p0 p i) : p.length = p0.length := by have := congrArg List.length h.fst; simpa using this
theorem FillI.step {A : Type} {φ ψ : Nat → A → Prop} {p0 p : List (SV × List A)} {i : Nat} (h : FillI φ p0 p i) (hm : ∀ j x, φ j x → ψ j x) {u : SV} {xs ys : List A} (hp : p[i]? = some (u, xs)) (hl : ys.length = xs.length) (hy : ∀ x ∈ ys, ψ i x) : FillI ψ p0 (p.set i (u, ys)) (i + 1) := by
  have hlt := (List.getElem?_eq_some_iff.1 hp).1
  refine ⟨?_, fun q hq => ?_, fun j v zs hj hz => ?_⟩
  · rw [List.map_set, ← h.fst]
    refine List.ext_getElem? fun j => ?_
    by_cases e : i = j
    · subst e; rw [List.getElem?_set_self (by simpa using hlt), List.getElem?_map, hp]; rfl
    · rw [List.getElem?_set_ne e]
  · obtain ⟨j, hj⟩ := List.getElem?_of_mem hq
    by_cases e : i = j
    · subst e; rw [List.getElem?_set_self hlt] at hj; cases hj
      have := h.len _ (List.mem_of_getElem? hp)
      simp only at this ⊢; omega
    · rw [List.getElem?_set_ne e] at hj; exact h.len q (List.mem_of_getElem? hj)
  · by_cases e : i = j
    · subst e; rw [List.getElem?_set_self hlt] at hz; cases hz; exact hy
    · rw [List.getElem?_set_ne e] at hz; exact fun x hx => hm _ _ (h.full j v zs (by omega) hz x hx)
theorem FillI.mono {A : Type} {φ ψ : Nat → A → Prop} {p0 p : List (SV × List A)} {i : Nat} (h : FillI φ p0 p i) (hm : ∀ j x, φ j x → ψ j x) : FillI ψ p0 p i := ⟨h.fst, h.len, fun j u xs hj hp x hx => hm _ _ (h.full j u xs hj hp x hx)⟩
def kd0 (H : List (SV × List Int)) : KD := ⟨[], [], [], [], [], [], H, [], [], [], nilS, nilS, nilS, nilS, nilS, nilS⟩
theorem kd0_ok (H : List (SV × List Int)) : KOk (kd0 H) ∧ KFew (kd0 H) 0 := ⟨⟨Views.nil _, Views.nil _, Views.nil _⟩, ⟨Nat.le_refl _, Nat.le_refl _, Nat.le_refl _⟩⟩
set_option maxHeartbeats 4000000 in
set_option maxRecDepth 100000 in
theorem lately_ok (hR : Heap) (kb : Nat) (c3 c6 c9 : Value) (e : KE) (b : Nat) (hK : LOk e b) (hb : b ≤ 4000) :
    Tri Tryd.prog hR 58 #[.pointer (some ⟨kb, 0, none⟩)] (KL kb c3 c6 c9 e) fun u Γ' => u = .bool true ∧ Γ' = [] := by
  refine Tri.ent (Tri.of (args := [.pointer (some ⟨kb, 0, none⟩)]) Tryd.func58 rfl Tryd.ntmps58 (by simp) ?_)
  have n1 := hK.cs
  have n2 := hK.cl
  have n3 := hK.ci
  have w1 : (e.q1.map Prod.fst).length = e.p1.length := by have := congrArg List.length hK.s; simpa using this.symm
  have w2 : (e.q2.map Prod.fst).length = e.p2.length := by have := congrArg List.length hK.l; simpa using this.symm
  have w3 : (e.q3.map Prod.fst).length = e.p3.length := by have := congrArg List.length hK.i; simpa using this.symm
  have m1 : (e.p1.map Prod.fst).length = e.p1.length := List.length_map _
  have m2 : (e.p2.map Prod.fst).length = e.p2.length := List.length_map _
  have m3 : (e.p3.map Prod.fst).length = e.p3.length := List.length_map _
  refine Zp ?_
  refine Zm ?_
  refine Ze ?_
  refine WP.seq ?_
  refine Zp ?_
  refine Zm ?_
  refine Run.call (Δ := KL kb c3 c6 c9 e) (Θ := []) rfl rfl rfl rfl ok_77 rfl rfl (by rw [List.append_nil]; exact ent.refl _) (asWas_ok hR kb c3 c6 c9 e b hK (by omega)) ?_; rintro _ _ ⟨rfl, rfl⟩
  refine Run.bnotB rfl rfl rfl rfl ?_
  refine Run.eqv (v' := .bool false) (by simp) ?_
  refine Ze ?_
  refine Zno ?_
  refine Zb ?_
  unfold KL
  refine WP.trim [0] [0, 1, 2, 3, 5, 6, 7, 9, 10, 11] ?_
  refine Zp ?_
  refine Run.build rfl bd_73 rfl rfl rfl rfl ?_
  refine Run.box rfl rfl rfl rfl rfl ?_
  intro b14
  refine Zm ?_
  refine Ze ?_
  generalize b14 = tb
  refine WP.via (rows_new (T := 3) (E := Ei) _) ?_
  refine WP.trim [3, 0] [1, 2, 3, 4, 5, 6, 7, 8, 9, 10, 11, 0] ?_

  refine WP.meetC (α := Nat × List (SV × List Iv) × List SV) (fun z => FillI (fun j x => φS (j : Int) x) e.p1 z.2.1 e.p1.length) (fun _ => []) (fun z => [(2, rows 62 encIv z.2.1), (3, slA 44 Enc.slice e.w1.val z.2.2)]) ?_ ?_
  · refine Zp ?_
    refine Zm ?_
    refine Ze ?_
    refine WP.block ?_
    refine WP.trim [4, 3, 0] [0, 1, 2, 3, 4, 5, 6, 7, 8, 9, 10, 11] ?_
    refine WP.loopC (α := Nat × List (SV × List Iv) × List SV) (fun z => z.1 ≤ e.p1.length ∧ z.2.2.length = e.p1.length ∧ FillI (fun j x => φS (j : Int) x) e.p1 z.2.1 z.1) (fun z => [(4, .int .i64 (z.1 : Int))]) (fun z => [(2, rows 62 encIv z.2.1), (3, slA 44 Enc.slice e.w1.val z.2.2)]) (fun z => e.p1.length - z.1) (0, e.p1, e.q1.map Prod.fst) ⟨Nat.zero_le _, w1, FillI.new hK.s1⟩ ?_
    rintro ⟨i, p, W⟩ ⟨hi, hW, hF⟩
    simp only at hi hW hF
    have hpl := hF.plen
    refine WP.trim [4, 3, 0] [0, 1, 2, 3, 4, 5, 6, 7, 8, 9, 10, 11] ?_
    try simp only
    refine WP.seq ?_
    refine Zp ?_
    refine Zm ?_
    refine Zm ?_
    refine Zn ?_
    refine Zf fo_73_1 ?_
    refine Zl 0 ag_70 ?_
    refine Run.lenO 1 rfl rfl sl_70 rfl rfl rfl ?_
    refine Zi ?_
    refine Ze ?_
    refine WP.ite rfl (fun hlt => ?_) (fun hge => ?_)
    · refine Zb ?_
      have hlt' : i < e.p1.length := by omega
      obtain ⟨⟨u, xs⟩, gp⟩ : ∃ y, p[i]? = some y := ⟨_, List.getElem?_eq_getElem (by omega)⟩
      have gu : (e.p1.map Prod.fst)[i]? = some u := by rw [← hF.fst, List.getElem?_map, gp]; rfl
      have gu' : (e.p1.map Prod.fst)[(i : Int).toNat]? = some u := gu
      have hxl := hF.len _ (List.mem_of_getElem? gp)
      obtain ⟨w, gw⟩ : ∃ y, W[i]? = some y := ⟨_, List.getElem?_eq_getElem (by omega)⟩
      refine WP.trim [4, 3, 0] [2, 0, 1, 3, 4, 5, 6, 7, 8, 9, 10, 11] ?_
      refine WP.via (rows_out gp _) ?_
      refine WP.trim [4, 3, 0] [0, 1, 2, 3, 4, 5, 6, 7, 8, 9, 10, 11, 12] ?_
      refine WP.seq ?_
      refine WP.block ?_
      refine Zp ?_
      refine Zm ?_
      refine Zn ?_
      refine Zf fo_73_1 ?_
      refine Zl 2 ag_70 ?_
      refine Zm ?_
      refine Run.idxO 3 rfl rfl rfl sl_70 rfl rfl rfl rfl (by omega) (by omega) ?_
      refine Run.loadO 3 i 0 rfl rfl ag_44 rfl rfl rfl rfl gu rfl ?_
      refine Zm ?_
      refine Run.callP [0] ok_56 (fillS_ok hR u (i : Int) xs (by omega) (by omega) (by simp only at hxl; omega)) ?_; rintro _ _ ⟨ys, hyl, hys, rfl⟩
      refine Ze ?_
      have hyl2 : ys.length ≤ 1000000 := by simp only at hxl; omega
      refine WP.trim [4, 3, 0] [0, 1, 5, 6, 7, 8, 9, 10, 11, 12, 2, 3, 4] ?_
      refine WP.sup (Γ' := [slA 62 encIv u.val ys, rowsBut 62 encIv i p, slA 30 Enc.slice e.l2.val (e.p2.map Prod.fst), rows 22 Enc.slice e.p2, slA 30 Enc.slice e.w2.val (e.q2.map Prod.fst), slA 22 Enc.slice e.l3.val (e.p3.map Prod.fst), rows 3 Ei e.p3, slA 22 Enc.slice e.w3.val (e.q3.map Prod.fst), blk tb [.bool false, .slice none 0 0, .slice none 0 0, .slice none 0 0, .slice none 0 0, .slice none 0 0, .slice none 0 0, .slice none 0 0, .slice none 0 0, .slice none 0 0] 73, rows 3 Ei [], slA 62 encIv (.slice none 0 0) []] ++ [blk kb [.bool true, e.l1.val, e.w1.val, c3, e.l2.val, e.w2.val, c6, e.l3.val, e.w3.val, c9] 73, slA 44 Enc.slice e.l1.val (e.p1.map Prod.fst), slA 44 Enc.slice e.w1.val W]) (sup.refl _) ((slA_nil 62 encIv _).trans ent.gn) ?_
      have k1 := fun (gF : Heap) (hgF : sat [blk kb [.bool true, e.l1.val, e.w1.val, c3, e.l2.val, e.w2.val, c6, e.l3.val, e.w3.val, c9] 73, slA 44 Enc.slice e.l1.val (e.p1.map Prod.fst), slA 44 Enc.slice e.w1.val W] gF) (hdF : Disj hR gF) => lent_blk (v := e.l1.val) 0 1 rfl rfl hgF hdF
      have k2 := fun (gF : Heap) (hgF : sat [blk kb [.bool true, e.l1.val, e.w1.val, c3, e.l2.val, e.w2.val, c6, e.l3.val, e.w3.val, c9] 73, slA 44 Enc.slice e.l1.val (e.p1.map Prod.fst), slA 44 Enc.slice e.w1.val W] gF) (hdF : Disj hR gF) => lent_blk (v := e.w1.val) 0 2 rfl rfl hgF hdF
      have k3 := fun (gF : Heap) (hgF : sat [blk kb [.bool true, e.l1.val, e.w1.val, c3, e.l2.val, e.w2.val, c6, e.l3.val, e.w3.val, c9] 73, slA 44 Enc.slice e.l1.val (e.p1.map Prod.fst), slA 44 Enc.slice e.w1.val W] gF) (hdF : Disj hR gF) => (lent_at (A := SV) 1 rfl hgF hdF : SlR Enc.slice.rd (un hR gF) e.l1.val (e.p1.map Prod.fst))
      have k4 := fun (gF : Heap) (hgF : sat [blk kb [.bool true, e.l1.val, e.w1.val, c3, e.l2.val, e.w2.val, c6, e.l3.val, e.w3.val, c9] 73, slA 44 Enc.slice e.l1.val (e.p1.map Prod.fst), slA 44 Enc.slice e.w1.val W] gF) (hdF : Disj hR gF) => (lent_at (A := SV) 2 rfl hgF hdF : SlR Enc.slice.rd (un hR gF) e.w1.val W)
      refine WP.drawnF cfF [0, 1, 2, 3, 4, 5, 6, 7, 8, 9, 10, 11, 12, 13] [14] ([blk kb [.bool true, e.l1.val, e.w1.val, c3, e.l2.val, e.w2.val, c6, e.l3.val, e.w3.val, c9] 73, slA 44 Enc.slice e.l1.val (e.p1.map Prod.fst), slA 44 Enc.slice e.w1.val W]) mixed rfl rfl (by kernel_rfl) (fun gF hgF hdF => ?_)
      refine Zm ?_
      refine Zn ?_
      refine Zf fo_73_2 ?_
      refine Run.loadF rfl rfl ag_70 rfl rfl (k2 gF hgF hdF) ?_
      refine Zm ?_
      refine Zm ?_
      refine Zn ?_
      refine Zf fo_73_1 ?_
      refine Run.loadF rfl rfl ag_70 rfl rfl (k1 gF hgF hdF) ?_
      refine Zm ?_
      refine Zx sl_70 (k3 gF hgF hdF) ?_
      refine Run.loadF rfl rfl ag_44 rfl rfl (SlR.cell0 (k3 gF hgF hdF) gu' rfl) ?_
      refine Run.append 10 rfl rfl rfl rfl rfl rfl sl_44 zr_62 rfl (src_own 0 rfl) (by first | omega | (simp <;> omega)) (by first | omega | (simp <;> omega)) ?_
      intro sv45 hv45
      refine Zx sl_70 (k4 gF hgF hdF) ?_
      refine Run.nil ?_
      refine Run.storeO 13 i 0 (y' := sv45) rfl rfl rfl rfl ag_44 rfl rfl rfl rfl gw rfl rfl ?_
      refine Run.nil ?_
      refine blk_norm ?_; refine thn_next ?_
      refine WP.trim [4, 3, 0] [0, 1, 11, 12, 13, 2, 3, 4, 5, 6, 7, 8, 9] ?_
      refine WP.via (rows_in (p := p) (i := i) (by omega) _) ?_
      refine WP.trim [4, 3, 0] [1, 2, 0, 3, 4, 5, 6, 7, 8, 9, 10, 11] ?_
      refine Zc ?_
      refine Zm ?_
      refine Za ?_
      refine Zm ?_
      refine Run.nil ?_
      exact thn_next ⟨(i + 1, p.set i (u, ys), W.set i sv45), ⟨hlt', by rw [List.length_set]; exact hW, hF.step (fun j x h => h) gp hyl hys⟩, by simp only; omega, Ko.go, ent.gc⟩
    · refine Zj ?_
      have ei : i = e.p1.length := by omega
      subst ei
      exact thn_next ⟨(e.p1.length, p, W), hF, Ko.go, ent.gc⟩
  rintro ⟨_, p1, W1⟩ hF1
  simp only at hF1
  refine WP.trim [3, 0] [0, 1, 2, 3, 4, 5, 6, 7, 8, 9, 10, 11] ?_
  try simp only

  refine WP.meetC (α := Nat × List (SV × List SV) × List SV × List (SV × List Int)) (fun z => FillI (fun j x => φL z.2.2.2 (j : Int) x) e.p2 z.2.1 e.p2.length) (fun _ => []) (fun z => [(5, rows 22 Enc.slice z.2.1), (6, slA 30 Enc.slice e.w2.val z.2.2.1), (11, rows 3 Ei z.2.2.2)]) ?_ ?_
  · refine Zp ?_
    refine Zm ?_
    refine Ze ?_
    refine WP.block ?_
    refine WP.trim [5, 3, 0] [0, 1, 2, 3, 4, 5, 6, 7, 8, 9, 10, 11] ?_
    refine WP.loopC (α := Nat × List (SV × List SV) × List SV × List (SV × List Int)) (fun z => z.1 ≤ e.p2.length ∧ z.2.2.1.length = e.p2.length ∧ FillI (fun j x => φL z.2.2.2 (j : Int) x) e.p2 z.2.1 z.1) (fun z => [(5, .int .i64 (z.1 : Int))]) (fun z => [(5, rows 22 Enc.slice z.2.1), (6, slA 30 Enc.slice e.w2.val z.2.2.1), (11, rows 3 Ei z.2.2.2)]) (fun z => e.p2.length - z.1) (0, e.p2, e.q2.map Prod.fst, []) ⟨Nat.zero_le _, w2, FillI.new hK.l1⟩ ?_
    rintro ⟨i, p, W, H⟩ ⟨hi, hW, hF⟩
    simp only at hi hW hF
    have hpl := hF.plen
    refine WP.trim [5, 3, 0] [0, 1, 2, 3, 4, 5, 6, 7, 8, 9, 10, 11] ?_
    try simp only
    refine WP.seq ?_
    refine Zp ?_
    refine Zm ?_
    refine Zm ?_
    refine Zn ?_
    refine Zf fo_73_4 ?_
    refine Zl 0 ag_71 ?_
    refine Run.lenO 4 rfl rfl sl_71 rfl rfl rfl ?_
    refine Zi ?_
    refine Ze ?_
    refine WP.ite rfl (fun hlt => ?_) (fun hge => ?_)
    · refine Zb ?_
      have hlt' : i < e.p2.length := by omega
      obtain ⟨⟨u, xs⟩, gp⟩ : ∃ y, p[i]? = some y := ⟨_, List.getElem?_eq_getElem (by omega)⟩
      have gu : (e.p2.map Prod.fst)[i]? = some u := by rw [← hF.fst, List.getElem?_map, gp]; rfl
      have gu' : (e.p2.map Prod.fst)[(i : Int).toNat]? = some u := gu
      have hxl := hF.len _ (List.mem_of_getElem? gp)
      obtain ⟨w, gw⟩ : ∃ y, W[i]? = some y := ⟨_, List.getElem?_eq_getElem (by omega)⟩
      refine WP.trim [5, 3, 0] [5, 0, 1, 2, 3, 4, 6, 7, 8, 9, 10, 11] ?_
      refine WP.via (rows_out gp _) ?_
      refine WP.trim [5, 3, 0] [0, 1, 2, 3, 4, 5, 6, 7, 8, 9, 10, 11, 12] ?_
      refine WP.seq ?_
      refine WP.block ?_
      refine Zp ?_
      refine Zm ?_
      refine Zn ?_
      refine Zf fo_73_4 ?_
      refine Zl 2 ag_71 ?_
      refine Zm ?_
      refine Run.idxO 6 rfl rfl rfl sl_71 rfl rfl rfl rfl (by omega) (by omega) ?_
      refine Run.loadO 6 i 0 rfl rfl ag_30 rfl rfl rfl rfl gu rfl ?_
      refine Zm ?_
      refine Run.callP [0, 12] ok_75 (fillL_ok hR u (i : Int) xs H (by omega) (by omega) (by simp only at hxl; omega)) ?_; rintro _ _ ⟨ys, H1, hsH, hyl, hys, rfl⟩
      refine Ze ?_
      have hyl2 : ys.length ≤ 1000000 := by simp only at hxl; omega
      refine WP.trim [5, 3, 0] [0, 2, 4, 5, 6, 9, 10, 11, 12, 1, 3, 7, 8] ?_
      refine WP.sup (Γ' := [slA 22 Enc.slice u.val ys, rowsBut 22 Enc.slice i p, slA 44 Enc.slice e.l1.val (e.p1.map Prod.fst), rows 62 encIv p1, slA 44 Enc.slice e.w1.val W1, slA 22 Enc.slice e.l3.val (e.p3.map Prod.fst), rows 3 Ei e.p3, slA 22 Enc.slice e.w3.val (e.q3.map Prod.fst), blk tb [.bool false, .slice none 0 0, .slice none 0 0, .slice none 0 0, .slice none 0 0, .slice none 0 0, .slice none 0 0, .slice none 0 0, .slice none 0 0, .slice none 0 0] 73, rows 3 Ei H1, slA 22 Enc.slice (.slice none 0 0) []] ++ [blk kb [.bool true, e.l1.val, e.w1.val, c3, e.l2.val, e.w2.val, c6, e.l3.val, e.w3.val, c9] 73, slA 30 Enc.slice e.l2.val (e.p2.map Prod.fst), slA 30 Enc.slice e.w2.val W]) (sup.refl _) ((slA_nil 22 Enc.slice _).trans ent.gn) ?_
      have k1 := fun (gF : Heap) (hgF : sat [blk kb [.bool true, e.l1.val, e.w1.val, c3, e.l2.val, e.w2.val, c6, e.l3.val, e.w3.val, c9] 73, slA 30 Enc.slice e.l2.val (e.p2.map Prod.fst), slA 30 Enc.slice e.w2.val W] gF) (hdF : Disj hR gF) => lent_blk (v := e.l2.val) 0 4 rfl rfl hgF hdF
      have k2 := fun (gF : Heap) (hgF : sat [blk kb [.bool true, e.l1.val, e.w1.val, c3, e.l2.val, e.w2.val, c6, e.l3.val, e.w3.val, c9] 73, slA 30 Enc.slice e.l2.val (e.p2.map Prod.fst), slA 30 Enc.slice e.w2.val W] gF) (hdF : Disj hR gF) => lent_blk (v := e.w2.val) 0 5 rfl rfl hgF hdF
      have k3 := fun (gF : Heap) (hgF : sat [blk kb [.bool true, e.l1.val, e.w1.val, c3, e.l2.val, e.w2.val, c6, e.l3.val, e.w3.val, c9] 73, slA 30 Enc.slice e.l2.val (e.p2.map Prod.fst), slA 30 Enc.slice e.w2.val W] gF) (hdF : Disj hR gF) => (lent_at (A := SV) 1 rfl hgF hdF : SlR Enc.slice.rd (un hR gF) e.l2.val (e.p2.map Prod.fst))
      have k4 := fun (gF : Heap) (hgF : sat [blk kb [.bool true, e.l1.val, e.w1.val, c3, e.l2.val, e.w2.val, c6, e.l3.val, e.w3.val, c9] 73, slA 30 Enc.slice e.l2.val (e.p2.map Prod.fst), slA 30 Enc.slice e.w2.val W] gF) (hdF : Disj hR gF) => (lent_at (A := SV) 2 rfl hgF hdF : SlR Enc.slice.rd (un hR gF) e.w2.val W)
      refine WP.drawnF cfF [0, 1, 2, 3, 4, 5, 6, 7, 8, 9, 10, 11, 12, 13] [14] ([blk kb [.bool true, e.l1.val, e.w1.val, c3, e.l2.val, e.w2.val, c6, e.l3.val, e.w3.val, c9] 73, slA 30 Enc.slice e.l2.val (e.p2.map Prod.fst), slA 30 Enc.slice e.w2.val W]) mixed rfl rfl (by kernel_rfl) (fun gF hgF hdF => ?_)
      refine Zm ?_
      refine Zn ?_
      refine Zf fo_73_5 ?_
      refine Run.loadF rfl rfl ag_71 rfl rfl (k2 gF hgF hdF) ?_
      refine Zm ?_
      refine Zm ?_
      refine Zn ?_
      refine Zf fo_73_4 ?_
      refine Run.loadF rfl rfl ag_71 rfl rfl (k1 gF hgF hdF) ?_
      refine Zm ?_
      refine Zx sl_71 (k3 gF hgF hdF) ?_
      refine Run.loadF rfl rfl ag_30 rfl rfl (SlR.cell0 (k3 gF hgF hdF) gu' rfl) ?_
      refine Run.append 10 rfl rfl rfl rfl rfl rfl sl_30 zr_22 rfl (src_own 0 rfl) (by first | omega | (simp <;> omega)) (by first | omega | (simp <;> omega)) ?_
      intro sv77 hv77
      refine Zx sl_71 (k4 gF hgF hdF) ?_
      refine Run.nil ?_
      refine Run.storeO 13 i 0 (y' := sv77) rfl rfl rfl rfl ag_30 rfl rfl rfl rfl gw rfl rfl ?_
      refine Run.nil ?_
      refine blk_norm ?_; refine thn_next ?_
      refine WP.trim [5, 3, 0] [0, 1, 11, 2, 3, 4, 12, 13, 5, 6, 7, 8, 9] ?_
      refine WP.via (rows_in (p := p) (i := i) (by omega) _) ?_
      refine WP.trim [5, 3, 0] [1, 2, 3, 4, 5, 0, 6, 7, 8, 9, 10, 11] ?_
      refine Zc ?_
      refine Zm ?_
      refine Za ?_
      refine Zm ?_
      refine Run.nil ?_
      exact thn_next ⟨(i + 1, p.set i (u, ys), W.set i sv77, H1), ⟨hlt', by rw [List.length_set]; exact hW, hF.step (fun j x h => φL.mono hsH h) gp hyl hys⟩, by simp only; omega, Ko.go, ent.gc⟩
    · refine Zj ?_
      have ei : i = e.p2.length := by omega
      subst ei
      exact thn_next ⟨(e.p2.length, p, W, H), hF, Ko.go, ent.gc⟩
  rintro ⟨_, p2, W2, H⟩ hF2
  simp only at hF2
  refine WP.trim [3, 0] [0, 1, 2, 3, 4, 5, 6, 7, 8, 9, 10, 11] ?_
  try simp only

  refine WP.meetC (α := Nat × List (SV × List Int) × List SV) (fun z => FillI (fun j x => φI (j : Int) x) e.p3 z.2.1 e.p3.length) (fun _ => []) (fun z => [(8, rows 3 Ei z.2.1), (9, slA 22 Enc.slice e.w3.val z.2.2)]) ?_ ?_
  · refine Zp ?_
    refine Zm ?_
    refine Ze ?_
    refine WP.block ?_
    refine WP.trim [6, 3, 0] [0, 1, 2, 3, 4, 5, 6, 7, 8, 9, 10, 11] ?_
    refine WP.loopC (α := Nat × List (SV × List Int) × List SV) (fun z => z.1 ≤ e.p3.length ∧ z.2.2.length = e.p3.length ∧ FillI (fun j x => φI (j : Int) x) e.p3 z.2.1 z.1) (fun z => [(6, .int .i64 (z.1 : Int))]) (fun z => [(8, rows 3 Ei z.2.1), (9, slA 22 Enc.slice e.w3.val z.2.2)]) (fun z => e.p3.length - z.1) (0, e.p3, e.q3.map Prod.fst) ⟨Nat.zero_le _, w3, FillI.new hK.i1⟩ ?_
    rintro ⟨i, p, W⟩ ⟨hi, hW, hF⟩
    simp only at hi hW hF
    have hpl := hF.plen
    refine WP.trim [6, 3, 0] [0, 1, 2, 3, 4, 5, 6, 7, 8, 9, 10, 11] ?_
    try simp only
    refine WP.seq ?_
    refine Zp ?_
    refine Zm ?_
    refine Zm ?_
    refine Zn ?_
    refine Zf fo_73_7 ?_
    refine Zl 0 ag_30 ?_
    refine Run.lenO 7 rfl rfl sl_30 rfl rfl rfl ?_
    refine Zi ?_
    refine Ze ?_
    refine WP.ite rfl (fun hlt => ?_) (fun hge => ?_)
    · refine Zb ?_
      have hlt' : i < e.p3.length := by omega
      obtain ⟨⟨u, xs⟩, gp⟩ : ∃ y, p[i]? = some y := ⟨_, List.getElem?_eq_getElem (by omega)⟩
      have gu : (e.p3.map Prod.fst)[i]? = some u := by rw [← hF.fst, List.getElem?_map, gp]; rfl
      have gu' : (e.p3.map Prod.fst)[(i : Int).toNat]? = some u := gu
      have hxl := hF.len _ (List.mem_of_getElem? gp)
      obtain ⟨w, gw⟩ : ∃ y, W[i]? = some y := ⟨_, List.getElem?_eq_getElem (by omega)⟩
      refine WP.trim [6, 3, 0] [8, 0, 1, 2, 3, 4, 5, 6, 7, 9, 10, 11] ?_
      refine WP.via (rows_out gp _) ?_
      refine WP.trim [6, 3, 0] [0, 1, 2, 3, 4, 5, 6, 7, 8, 9, 10, 11, 12] ?_
      refine WP.seq ?_
      refine WP.block ?_
      refine Zp ?_
      refine Zm ?_
      refine Zn ?_
      refine Zf fo_73_7 ?_
      refine Zl 2 ag_30 ?_
      refine Zm ?_
      refine Run.idxO 9 rfl rfl rfl sl_30 rfl rfl rfl rfl (by omega) (by omega) ?_
      refine Run.loadO 9 i 0 rfl rfl ag_22 rfl rfl rfl rfl gu rfl ?_
      refine Zm ?_
      refine Run.callP [0] ok_73 (fillI_ok hR u (i : Int) xs (by omega) (by omega) (by simp only at hxl; omega)) ?_; rintro _ _ ⟨ys, hyl, hys, rfl⟩
      refine Ze ?_
      have hyl2 : ys.length ≤ 1000000 := by simp only at hxl; omega
      refine WP.trim [6, 3, 0] [0, 1, 3, 4, 5, 6, 7, 8, 11, 12, 2, 9, 10] ?_
      refine WP.sup (Γ' := [slA 3 Ei u.val ys, rowsBut 3 Ei i p, slA 44 Enc.slice e.l1.val (e.p1.map Prod.fst), rows 62 encIv p1, slA 44 Enc.slice e.w1.val W1, slA 30 Enc.slice e.l2.val (e.p2.map Prod.fst), rows 22 Enc.slice p2, slA 30 Enc.slice e.w2.val W2, blk tb [.bool false, .slice none 0 0, .slice none 0 0, .slice none 0 0, .slice none 0 0, .slice none 0 0, .slice none 0 0, .slice none 0 0, .slice none 0 0, .slice none 0 0] 73, rows 3 Ei H, slA 3 Ei (.slice none 0 0) []] ++ [blk kb [.bool true, e.l1.val, e.w1.val, c3, e.l2.val, e.w2.val, c6, e.l3.val, e.w3.val, c9] 73, slA 22 Enc.slice e.l3.val (e.p3.map Prod.fst), slA 22 Enc.slice e.w3.val W]) (sup.refl _) ((slA_nil 3 Ei _).trans ent.gn) ?_
      have k1 := fun (gF : Heap) (hgF : sat [blk kb [.bool true, e.l1.val, e.w1.val, c3, e.l2.val, e.w2.val, c6, e.l3.val, e.w3.val, c9] 73, slA 22 Enc.slice e.l3.val (e.p3.map Prod.fst), slA 22 Enc.slice e.w3.val W] gF) (hdF : Disj hR gF) => lent_blk (v := e.l3.val) 0 7 rfl rfl hgF hdF
      have k2 := fun (gF : Heap) (hgF : sat [blk kb [.bool true, e.l1.val, e.w1.val, c3, e.l2.val, e.w2.val, c6, e.l3.val, e.w3.val, c9] 73, slA 22 Enc.slice e.l3.val (e.p3.map Prod.fst), slA 22 Enc.slice e.w3.val W] gF) (hdF : Disj hR gF) => lent_blk (v := e.w3.val) 0 8 rfl rfl hgF hdF
      have k3 := fun (gF : Heap) (hgF : sat [blk kb [.bool true, e.l1.val, e.w1.val, c3, e.l2.val, e.w2.val, c6, e.l3.val, e.w3.val, c9] 73, slA 22 Enc.slice e.l3.val (e.p3.map Prod.fst), slA 22 Enc.slice e.w3.val W] gF) (hdF : Disj hR gF) => (lent_at (A := SV) 1 rfl hgF hdF : SlR Enc.slice.rd (un hR gF) e.l3.val (e.p3.map Prod.fst))
      have k4 := fun (gF : Heap) (hgF : sat [blk kb [.bool true, e.l1.val, e.w1.val, c3, e.l2.val, e.w2.val, c6, e.l3.val, e.w3.val, c9] 73, slA 22 Enc.slice e.l3.val (e.p3.map Prod.fst), slA 22 Enc.slice e.w3.val W] gF) (hdF : Disj hR gF) => (lent_at (A := SV) 2 rfl hgF hdF : SlR Enc.slice.rd (un hR gF) e.w3.val W)
      refine WP.drawnF cfF [0, 1, 2, 3, 4, 5, 6, 7, 8, 9, 10, 11, 12, 13] [14] ([blk kb [.bool true, e.l1.val, e.w1.val, c3, e.l2.val, e.w2.val, c6, e.l3.val, e.w3.val, c9] 73, slA 22 Enc.slice e.l3.val (e.p3.map Prod.fst), slA 22 Enc.slice e.w3.val W]) mixed rfl rfl (by kernel_rfl) (fun gF hgF hdF => ?_)
      refine Zm ?_
      refine Zn ?_
      refine Zf fo_73_8 ?_
      refine Run.loadF rfl rfl ag_30 rfl rfl (k2 gF hgF hdF) ?_
      refine Zm ?_
      refine Zm ?_
      refine Zn ?_
      refine Zf fo_73_7 ?_
      refine Run.loadF rfl rfl ag_30 rfl rfl (k1 gF hgF hdF) ?_
      refine Zm ?_
      refine Zx sl_30 (k3 gF hgF hdF) ?_
      refine Run.loadF rfl rfl ag_22 rfl rfl (SlR.cell0 (k3 gF hgF hdF) gu' rfl) ?_
      refine Run.append 10 rfl rfl rfl rfl rfl rfl sl_22 zr_3 rfl (src_own 0 rfl) (by first | omega | (simp <;> omega)) (by first | omega | (simp <;> omega)) ?_
      intro sv109 hv109
      refine Zx sl_30 (k4 gF hgF hdF) ?_
      refine Run.nil ?_
      refine Run.storeO 13 i 0 (y' := sv109) rfl rfl rfl rfl ag_22 rfl rfl rfl rfl gw rfl rfl ?_
      refine Run.nil ?_
      refine blk_norm ?_; refine thn_next ?_
      refine WP.trim [6, 3, 0] [0, 1, 11, 2, 3, 4, 5, 6, 7, 12, 13, 8, 9] ?_
      refine WP.via (rows_in (p := p) (i := i) (by omega) _) ?_
      refine WP.trim [6, 3, 0] [1, 2, 3, 4, 5, 6, 7, 8, 0, 9, 10, 11] ?_
      refine Zc ?_
      refine Zm ?_
      refine Za ?_
      refine Zm ?_
      refine Run.nil ?_
      exact thn_next ⟨(i + 1, p.set i (u, ys), W.set i sv109), ⟨hlt', by rw [List.length_set]; exact hW, hF.step (fun j x h => h) gp hyl hys⟩, by simp only; omega, Ko.go, ent.gc⟩
    · refine Zj ?_
      have ei : i = e.p3.length := by omega
      subst ei
      exact thn_next ⟨(e.p3.length, p, W), hF, Ko.go, ent.gc⟩
  rintro ⟨_, p3, W3⟩ hF3
  simp only at hF3
  refine WP.trim [3, 0] [0, 1, 2, 3, 4, 5, 6, 7, 8, 9, 10, 11] ?_
  try simp only

  have hpl1 := hF1.plen
  have hpl2 := hF2.plen
  have hpl3 := hF3.plen
  refine WP.trim [3, 0] [0, 1, 2, 4, 5, 7, 8, 10, 11] ?_
  refine WP.sup (ρ' := [(3, .pointer (some ⟨tb, 0, none⟩)), (0, .pointer (some ⟨kb, 0, none⟩))]) (Γ' := KN tb (.slice none 0 0) (.slice none 0 0) (.slice none 0 0) (kd0 H) ++ [blk kb [.bool true, e.l1.val, e.w1.val, c3, e.l2.val, e.w2.val, c6, e.l3.val, e.w3.val, c9] 73, slA 44 Enc.slice e.l1.val (e.p1.map Prod.fst), rows 62 encIv (p1.drop 0), slA 30 Enc.slice e.l2.val (e.p2.map Prod.fst), rows 22 Enc.slice p2, slA 22 Enc.slice e.l3.val (e.p3.map Prod.fst), rows 3 Ei p3]) (sup.refl _) ?_ ?_
  · refine ((slA_nil 44 Enc.slice _).trans ((slA_nil 3 Ei _).trans ((slA_nil 30 Enc.slice _).trans ((slA_nil 3 Ei _).trans ((slA_nil 22 Enc.slice _).trans ((slA_nil 3 Ei _).trans ((rows_new (T := 62) (E := encIv) _).trans ((rows_new (T := 22) (E := Enc.slice) _).trans ((rows_new (T := 3) (E := Ei) _).trans ?_)))))))))
    unfold KN kd0
    simp only [List.drop_zero]
    exact ent.gn
  obtain ⟨hK0, hF0⟩ := kd0_ok H
  have hH0 : subH H (kd0 H).H := subH.refl H
  generalize kd0 H = kd at hK0 hF0 hH0

  refine WP.seqMeet (α := KD) (fun z => KOk z ∧ KFew z (0 + 41 * e.p1.length) ∧ subH H z.H) (fun _ => [(3, .pointer (some ⟨tb, 0, none⟩)), (0, .pointer (some ⟨kb, 0, none⟩))]) (fun z => KN tb (.slice none 0 0) (.slice none 0 0) (.slice none 0 0) z ++ [blk kb [.bool true, e.l1.val, e.w1.val, c3, e.l2.val, e.w2.val, c6, e.l3.val, e.w3.val, c9] 73, slA 44 Enc.slice e.l1.val (e.p1.map Prod.fst), rows 62 encIv [], slA 30 Enc.slice e.l2.val (e.p2.map Prod.fst), rows 22 Enc.slice (p2.drop 0), slA 22 Enc.slice e.l3.val (e.p3.map Prod.fst), rows 3 Ei p3]) ?_ ?_
  · refine Zp ?_
    refine Zm ?_
    refine Ze ?_
    refine WP.block ?_
    refine WP.loop (α := Nat × KD) (fun z => z.1 ≤ e.p1.length ∧ KOk z.2 ∧ KFew z.2 (0 + 41 * z.1) ∧ subH H z.2.H) (fun z => [(7, .int .i64 (z.1 : Int)), (3, .pointer (some ⟨tb, 0, none⟩)), (0, .pointer (some ⟨kb, 0, none⟩))]) (fun z => KN tb (.slice none 0 0) (.slice none 0 0) (.slice none 0 0) z.2 ++ [blk kb [.bool true, e.l1.val, e.w1.val, c3, e.l2.val, e.w2.val, c6, e.l3.val, e.w3.val, c9] 73, slA 44 Enc.slice e.l1.val (e.p1.map Prod.fst), rows 62 encIv (p1.drop z.1), slA 30 Enc.slice e.l2.val (e.p2.map Prod.fst), rows 22 Enc.slice p2, slA 22 Enc.slice e.l3.val (e.p3.map Prod.fst), rows 3 Ei p3]) (fun z => e.p1.length - z.1) (0, kd) ⟨Nat.zero_le _, hK0, hF0.mono (by omega), hH0⟩ ⟨rfl, rfl, rfl, trivial⟩ (ent.refl _) ?_
    rintro ⟨i, k⟩ ⟨hi, hK1, hF1', hH1⟩
    simp only at hi hK1 hF1' hH1
    have fs := hF1'.s
    have fl := hF1'.l
    have fi := hF1'.i
    unfold KN
    refine WP.trim [7, 3, 0] [0, 1, 2, 3, 4, 5, 6, 7, 8, 9, 10, 11, 12, 13, 14, 15, 16, 17] ?_
    refine WP.seq ?_
    refine Zp ?_
    refine Zm ?_
    refine Zm ?_
    refine Zn ?_
    refine Zf fo_73_1 ?_
    refine Zl 11 ag_70 ?_
    refine Run.lenO 12 rfl rfl sl_70 rfl rfl rfl ?_
    refine Zi ?_
    refine Ze ?_
    refine WP.ite rfl (fun hlt => ?_) (fun hge => ?_)
    · refine Zb ?_
      have hlt' : i < e.p1.length := by omega
      obtain ⟨⟨u, xs⟩, gp⟩ : ∃ y, p1[i]? = some y := ⟨_, List.getElem?_eq_getElem (by omega)⟩
      have gu : (e.p1.map Prod.fst)[i]? = some u := by rw [← hF1.fst, List.getElem?_map, gp]; rfl
      have hxl := hF1.len _ (List.mem_of_getElem? gp)
      have hdr : p1.drop i = (u, xs) :: p1.drop (i + 1) := by
        obtain ⟨h1, h2⟩ := List.getElem?_eq_some_iff.1 gp
        rw [List.drop_eq_getElem_cons h1, h2]
      rw [hdr]
      refine WP.trim [7, 3, 0] [13, 0, 1, 2, 3, 4, 5, 6, 7, 8, 9, 10, 11, 12, 14, 15, 16, 17] ?_
      refine WP.via (rows_first _ _) ?_
      refine WP.trim [7, 3, 0] [2, 3, 4, 5, 6, 7, 8, 9, 10, 11, 12, 13, 14, 1, 15, 16, 17, 18, 0] ?_
      refine WP.seq ?_
      refine WP.block ?_
      refine Zc ?_
      refine Zm ?_
      refine Zm ?_
      refine Zn ?_
      refine Zf fo_73_1 ?_
      refine Zl 11 ag_70 ?_
      refine Zm ?_
      refine Run.idxO 12 rfl rfl rfl sl_70 rfl rfl rfl rfl (by omega) (by omega) ?_
      refine Run.loadO 12 i 0 rfl rfl ag_44 rfl rfl rfl rfl gu rfl ?_
      refine Zm ?_
      refine Run.callP [0, 1, 2, 3, 18] ok_57 (holdS_ok hR tb k.l1 k.m1 u (.bool false) (.slice none 0 0) k.l2.val (.slice none 0 0) k.m2.val k.l3.val (.slice none 0 0) k.m3.val k.V1 k.M1 k.G1 (i : Int) xs hK1.s (by omega) (by omega) (by simp only at hxl; omega) (by omega) (hF1.full i u xs hlt' gp)) ?_; rintro _ _ ⟨V', M', G', ls', ms', rfl, hV', hVl'⟩
      refine Run.nil ?_
      refine blk_norm ?_; refine thn_next ?_
      refine WP.trim [7, 3, 0] [0, 1, 2, 3, 4, 5, 6, 7, 8, 9, 10, 11, 12, 13, 14, 15, 16, 17] ?_
      refine Zc ?_
      refine Zm ?_
      refine Za ?_
      refine Zm ?_
      refine Run.nil ?_
      exact thn_next ⟨(i + 1, { k with V1 := V', M1 := M', G1 := G', l1 := ls', m1 := ms' }), ⟨hlt', ⟨hV', hK1.l, hK1.i⟩, ⟨by simp only; omega, by simp only; omega, by simp only; omega⟩, hH1⟩, by simp only; omega, ⟨rfl, rfl, rfl, trivial⟩, ent.refl _⟩
    · refine Zj ?_
      have ei : i = e.p1.length := by omega
      subst ei
      refine thn_next ⟨k, ⟨hK1, hF1', hH1⟩, ⟨rfl, rfl, trivial⟩, ?_⟩
      rw [show p1.drop e.p1.length = [] from List.drop_of_length_le (by omega)]
      exact ent.refl _
  clear hK0 hF0 hH0
  rintro kd ⟨hK0, hF0, hH0⟩

  refine WP.seqMeet (α := KD) (fun z => KOk z ∧ KFew z ((0 + 41 * e.p1.length) + 41 * e.p2.length) ∧ subH H z.H) (fun _ => [(3, .pointer (some ⟨tb, 0, none⟩)), (0, .pointer (some ⟨kb, 0, none⟩))]) (fun z => KN tb (.slice none 0 0) (.slice none 0 0) (.slice none 0 0) z ++ [blk kb [.bool true, e.l1.val, e.w1.val, c3, e.l2.val, e.w2.val, c6, e.l3.val, e.w3.val, c9] 73, slA 44 Enc.slice e.l1.val (e.p1.map Prod.fst), rows 62 encIv [], slA 30 Enc.slice e.l2.val (e.p2.map Prod.fst), rows 22 Enc.slice [], slA 22 Enc.slice e.l3.val (e.p3.map Prod.fst), rows 3 Ei (p3.drop 0)]) ?_ ?_
  · refine Zp ?_
    refine Zm ?_
    refine Ze ?_
    refine WP.block ?_
    refine WP.loop (α := Nat × KD) (fun z => z.1 ≤ e.p2.length ∧ KOk z.2 ∧ KFew z.2 ((0 + 41 * e.p1.length) + 41 * z.1) ∧ subH H z.2.H) (fun z => [(8, .int .i64 (z.1 : Int)), (3, .pointer (some ⟨tb, 0, none⟩)), (0, .pointer (some ⟨kb, 0, none⟩))]) (fun z => KN tb (.slice none 0 0) (.slice none 0 0) (.slice none 0 0) z.2 ++ [blk kb [.bool true, e.l1.val, e.w1.val, c3, e.l2.val, e.w2.val, c6, e.l3.val, e.w3.val, c9] 73, slA 44 Enc.slice e.l1.val (e.p1.map Prod.fst), rows 62 encIv [], slA 30 Enc.slice e.l2.val (e.p2.map Prod.fst), rows 22 Enc.slice (p2.drop z.1), slA 22 Enc.slice e.l3.val (e.p3.map Prod.fst), rows 3 Ei p3]) (fun z => e.p2.length - z.1) (0, kd) ⟨Nat.zero_le _, hK0, hF0.mono (by omega), hH0⟩ ⟨rfl, rfl, rfl, trivial⟩ (ent.refl _) ?_
    rintro ⟨i, k⟩ ⟨hi, hK1, hF1', hH1⟩
    simp only at hi hK1 hF1' hH1
    have fs := hF1'.s
    have fl := hF1'.l
    have fi := hF1'.i
    unfold KN
    refine WP.trim [8, 3, 0] [0, 1, 2, 3, 4, 5, 6, 7, 8, 9, 10, 11, 12, 13, 14, 15, 16, 17] ?_
    refine WP.seq ?_
    refine Zp ?_
    refine Zm ?_
    refine Zm ?_
    refine Zn ?_
    refine Zf fo_73_4 ?_
    refine Zl 11 ag_71 ?_
    refine Run.lenO 14 rfl rfl sl_71 rfl rfl rfl ?_
    refine Zi ?_
    refine Ze ?_
    refine WP.ite rfl (fun hlt => ?_) (fun hge => ?_)
    · refine Zb ?_
      have hlt' : i < e.p2.length := by omega
      obtain ⟨⟨u, xs⟩, gp⟩ : ∃ y, p2[i]? = some y := ⟨_, List.getElem?_eq_getElem (by omega)⟩
      have gu : (e.p2.map Prod.fst)[i]? = some u := by rw [← hF2.fst, List.getElem?_map, gp]; rfl
      have hxl := hF2.len _ (List.mem_of_getElem? gp)
      have hdr : p2.drop i = (u, xs) :: p2.drop (i + 1) := by
        obtain ⟨h1, h2⟩ := List.getElem?_eq_some_iff.1 gp
        rw [List.drop_eq_getElem_cons h1, h2]
      rw [hdr]
      refine WP.trim [8, 3, 0] [15, 0, 1, 2, 3, 4, 5, 6, 7, 8, 9, 10, 11, 12, 13, 14, 16, 17] ?_
      refine WP.via (rows_first _ _) ?_
      refine WP.trim [8, 3, 0] [2, 3, 4, 5, 6, 7, 8, 9, 10, 11, 12, 13, 14, 15, 16, 1, 17, 18, 0] ?_
      refine WP.seq ?_
      refine WP.block ?_
      refine Zc ?_
      refine Zm ?_
      refine Zm ?_
      refine Zn ?_
      refine Zf fo_73_4 ?_
      refine Zl 11 ag_71 ?_
      refine Zm ?_
      refine Run.idxO 14 rfl rfl rfl sl_71 rfl rfl rfl rfl (by omega) (by omega) ?_
      refine Run.loadO 14 i 0 rfl rfl ag_30 rfl rfl rfl rfl gu rfl ?_
      refine Zm ?_
      refine Run.callP [0, 4, 5, 6, 7, 18] ok_76 (holdL_ok hR tb k.l2 k.m2 u (.bool false) k.l1.val (.slice none 0 0) k.m1.val (.slice none 0 0) k.l3.val (.slice none 0 0) k.m3.val k.V2 k.M2 k.G2 k.H (i : Int) xs hK1.l (by omega) (by omega) (by simp only at hxl; omega) (by omega) (fun x hx => φL.mono hH1 (hF2.full i u xs hlt' gp x hx))) ?_; rintro _ _ ⟨V', M', G', H', ls', ms', rfl, hV', hVl', hsH'⟩
      refine Run.nil ?_
      refine blk_norm ?_; refine thn_next ?_
      refine WP.trim [8, 3, 0] [0, 5, 6, 7, 1, 2, 3, 4, 8, 9, 10, 11, 12, 13, 14, 15, 16, 17] ?_
      refine Zc ?_
      refine Zm ?_
      refine Za ?_
      refine Zm ?_
      refine Run.nil ?_
      exact thn_next ⟨(i + 1, { k with V2 := V', M2 := M', G2 := G', H := H', l2 := ls', m2 := ms' }), ⟨hlt', ⟨hK1.s, hV', hK1.i⟩, ⟨by simp only; omega, by simp only; omega, by simp only; omega⟩, hH1.trans hsH'⟩, by simp only; omega, ⟨rfl, rfl, rfl, trivial⟩, ent.refl _⟩
    · refine Zj ?_
      have ei : i = e.p2.length := by omega
      subst ei
      refine thn_next ⟨k, ⟨hK1, hF1', hH1⟩, ⟨rfl, rfl, trivial⟩, ?_⟩
      rw [show p2.drop e.p2.length = [] from List.drop_of_length_le (by omega)]
      exact ent.refl _
  clear hK0 hF0 hH0
  rintro kd ⟨hK0, hF0, hH0⟩

  refine WP.seqMeet (α := KD) (fun z => KOk z ∧ KFew z (((0 + 41 * e.p1.length) + 41 * e.p2.length) + 41 * e.p3.length) ∧ subH H z.H) (fun _ => [(3, .pointer (some ⟨tb, 0, none⟩)), (0, .pointer (some ⟨kb, 0, none⟩))]) (fun z => KN tb (.slice none 0 0) (.slice none 0 0) (.slice none 0 0) z ++ [blk kb [.bool true, e.l1.val, e.w1.val, c3, e.l2.val, e.w2.val, c6, e.l3.val, e.w3.val, c9] 73, slA 44 Enc.slice e.l1.val (e.p1.map Prod.fst), rows 62 encIv [], slA 30 Enc.slice e.l2.val (e.p2.map Prod.fst), rows 22 Enc.slice [], slA 22 Enc.slice e.l3.val (e.p3.map Prod.fst), rows 3 Ei []]) ?_ ?_
  · refine Zp ?_
    refine Zm ?_
    refine Ze ?_
    refine WP.block ?_
    refine WP.loop (α := Nat × KD) (fun z => z.1 ≤ e.p3.length ∧ KOk z.2 ∧ KFew z.2 (((0 + 41 * e.p1.length) + 41 * e.p2.length) + 41 * z.1) ∧ subH H z.2.H) (fun z => [(9, .int .i64 (z.1 : Int)), (3, .pointer (some ⟨tb, 0, none⟩)), (0, .pointer (some ⟨kb, 0, none⟩))]) (fun z => KN tb (.slice none 0 0) (.slice none 0 0) (.slice none 0 0) z.2 ++ [blk kb [.bool true, e.l1.val, e.w1.val, c3, e.l2.val, e.w2.val, c6, e.l3.val, e.w3.val, c9] 73, slA 44 Enc.slice e.l1.val (e.p1.map Prod.fst), rows 62 encIv [], slA 30 Enc.slice e.l2.val (e.p2.map Prod.fst), rows 22 Enc.slice [], slA 22 Enc.slice e.l3.val (e.p3.map Prod.fst), rows 3 Ei (p3.drop z.1)]) (fun z => e.p3.length - z.1) (0, kd) ⟨Nat.zero_le _, hK0, hF0.mono (by omega), hH0⟩ ⟨rfl, rfl, rfl, trivial⟩ (ent.refl _) ?_
    rintro ⟨i, k⟩ ⟨hi, hK1, hF1', hH1⟩
    simp only at hi hK1 hF1' hH1
    have fs := hF1'.s
    have fl := hF1'.l
    have fi := hF1'.i
    unfold KN
    refine WP.trim [9, 3, 0] [0, 1, 2, 3, 4, 5, 6, 7, 8, 9, 10, 11, 12, 13, 14, 15, 16, 17] ?_
    refine WP.seq ?_
    refine Zp ?_
    refine Zm ?_
    refine Zm ?_
    refine Zn ?_
    refine Zf fo_73_7 ?_
    refine Zl 11 ag_30 ?_
    refine Run.lenO 16 rfl rfl sl_30 rfl rfl rfl ?_
    refine Zi ?_
    refine Ze ?_
    refine WP.ite rfl (fun hlt => ?_) (fun hge => ?_)
    · refine Zb ?_
      have hlt' : i < e.p3.length := by omega
      obtain ⟨⟨u, xs⟩, gp⟩ : ∃ y, p3[i]? = some y := ⟨_, List.getElem?_eq_getElem (by omega)⟩
      have gu : (e.p3.map Prod.fst)[i]? = some u := by rw [← hF3.fst, List.getElem?_map, gp]; rfl
      have hxl := hF3.len _ (List.mem_of_getElem? gp)
      have hdr : p3.drop i = (u, xs) :: p3.drop (i + 1) := by
        obtain ⟨h1, h2⟩ := List.getElem?_eq_some_iff.1 gp
        rw [List.drop_eq_getElem_cons h1, h2]
      rw [hdr]
      refine WP.trim [9, 3, 0] [17, 0, 1, 2, 3, 4, 5, 6, 7, 8, 9, 10, 11, 12, 13, 14, 15, 16] ?_
      refine WP.via (rows_first _ _) ?_
      refine WP.trim [9, 3, 0] [2, 3, 4, 5, 6, 7, 8, 9, 10, 11, 12, 13, 14, 15, 16, 17, 18, 1, 0] ?_
      refine WP.seq ?_
      refine WP.block ?_
      refine Zc ?_
      refine Zm ?_
      refine Zm ?_
      refine Zn ?_
      refine Zf fo_73_7 ?_
      refine Zl 11 ag_30 ?_
      refine Zm ?_
      refine Run.idxO 16 rfl rfl rfl sl_30 rfl rfl rfl rfl (by omega) (by omega) ?_
      refine Run.loadO 16 i 0 rfl rfl ag_22 rfl rfl rfl rfl gu rfl ?_
      refine Zm ?_
      refine Run.callP [0, 8, 9, 10, 18] ok_74 (holdI_ok hR tb k.l3 k.m3 u (.bool false) k.l1.val (.slice none 0 0) k.m1.val k.l2.val (.slice none 0 0) k.m2.val (.slice none 0 0) k.V3 k.M3 k.G3 (i : Int) xs hK1.i (by omega) (by omega) (by simp only at hxl; omega) (by omega) (hF3.full i u xs hlt' gp)) ?_; rintro _ _ ⟨V', M', G', ls', ms', rfl, hV', hVl'⟩
      refine Run.nil ?_
      refine blk_norm ?_; refine thn_next ?_
      refine WP.trim [9, 3, 0] [0, 4, 5, 6, 7, 8, 9, 10, 1, 2, 3, 11, 12, 13, 14, 15, 16, 17] ?_
      refine Zc ?_
      refine Zm ?_
      refine Za ?_
      refine Zm ?_
      refine Run.nil ?_
      exact thn_next ⟨(i + 1, { k with V3 := V', M3 := M', G3 := G', l3 := ls', m3 := ms' }), ⟨hlt', ⟨hK1.s, hK1.l, hV'⟩, ⟨by simp only; omega, by simp only; omega, by simp only; omega⟩, hH1⟩, by simp only; omega, ⟨rfl, rfl, rfl, trivial⟩, ent.refl _⟩
    · refine Zj ?_
      have ei : i = e.p3.length := by omega
      subst ei
      refine thn_next ⟨k, ⟨hK1, hF1', hH1⟩, ⟨rfl, rfl, trivial⟩, ?_⟩
      rw [show p3.drop e.p3.length = [] from List.drop_of_length_le (by omega)]
      exact ent.refl _
  clear hK0 hF0 hH0
  rintro kd ⟨hK0, hF0, hH0⟩

  refine Zp ?_
  refine Zm ?_
  refine Run.call (Δ := KN tb (.slice none 0 0) (.slice none 0 0) (.slice none 0 0) kd) (Θ := [blk kb [.bool true, e.l1.val, e.w1.val, c3, e.l2.val, e.w2.val, c6, e.l3.val, e.w3.val, c9] 73, slA 44 Enc.slice e.l1.val (e.p1.map Prod.fst), rows 62 encIv [], slA 30 Enc.slice e.l2.val (e.p2.map Prod.fst), rows 22 Enc.slice [], slA 22 Enc.slice e.l3.val (e.p3.map Prod.fst), rows 3 Ei []]) rfl rfl rfl rfl ok_29 rfl rfl (ent.refl _) (wholeNow_ok hR tb (.slice none 0 0) (.slice none 0 0) (.slice none 0 0) kd hK0 (hF0.mono (by omega))) ?_; rintro _ _ ⟨rfl, rfl⟩
  refine Zm ?_
  refine Ze ?_
  refine WP.ret ?_
  exact retT [2] _ rfl rfl ⟨_, ent.none _, rfl, rfl⟩
set_option maxHeartbeats 1000000 in
set_option maxRecDepth 100000 in
theorem wholeLate_ok (hR : Heap) (kb : Nat) (c3 c6 c9 : Value) (e : KE) (b : Nat) (hK : LOk e b) (hb : b ≤ 4000) :
    Tri Tryd.prog hR 29 #[.pointer (some ⟨kb, 0, none⟩)] (KL kb c3 c6 c9 e) fun u Γ' => u = .bool true ∧ Γ' = [] := by
  refine Tri.ent (Tri.of (args := [.pointer (some ⟨kb, 0, none⟩)]) Tryd.func29 rfl Tryd.ntmps29 (by simp) ?_)
  have hKL : ∃ Γ, Γ = KL kb c3 c6 c9 e := ⟨_, rfl⟩
  unfold KL
  refine Zp ?_
  refine Zm ?_
  refine Ze ?_
  refine WP.seq ?_
  refine Zp ?_
  refine Zm ?_
  refine Zn ?_
  refine Zf fo_73_0 ?_
  refine Zl 0 ag_4 ?_
  refine Ze ?_
  refine Zyes ?_
  refine Zp ?_
  refine Zm ?_
  refine Run.callP [0, 1, 2, 3, 4, 5, 6, 7, 8, 9, 10, 11, 12] ok_58 (lately_ok hR kb c3 c6 c9 e b hK hb) ?_; rintro _ _ ⟨rfl, rfl⟩
  refine Zm ?_
  refine Ze ?_
  refine WP.ret ?_; refine thn_ret ?_
  exact retT [2] _ rfl rfl ⟨_, ent.none _, rfl, rfl⟩
end Go.Proofs.YtjjfehdlmdhhmaaDoor
end
section
/- Both keeps as one piece each. -/
namespace Go.Proofs.YtjjfehdlmdhhmaaDoor
open Go.Sep
set_option linter.unusedSimpArgs false
set_option linter.unusedVariables false
attribute [local irreducible] blk slA mp mpF rows rowsBut many
def KK (late : Bool) (kb b : Nat) : HProp := fun h => match late with
  | false => ∃ (c2 c5 c8 : Value) (k : KD), KOk k ∧ KFew k (41 * b) ∧ sat (KN kb c2 c5 c8 k) h
  | true => ∃ (c3 c6 c9 : Value) (e : KE), LOk e b ∧ sat (KL kb c3 c6 c9 e) h
theorem KK.mono {late : Bool} {kb b c : Nat} (hb : b ≤ c) : ∀ h, KK late kb b h → KK late kb c h := by
  intro h H
  cases late with
  | false => obtain ⟨c2, c5, c8, k, h1, h2, h3⟩ := H; exact ⟨c2, c5, c8, k, h1, h2.mono (by omega), h3⟩
  | true => obtain ⟨c2, c5, c8, k, h1, h3⟩ := H; exact ⟨c2, c5, c8, k, h1.mono hb, h3⟩
theorem KK.openN {kb b : Nat} {Γ : List HProp} : ∀ h, sat (KK false kb b :: Γ) h → ∃ z : {z : Value × Value × Value × KD // KOk z.2.2.2 ∧ KFew z.2.2.2 (41 * b)}, sat (KN kb z.1.1 z.1.2.1 z.1.2.2.1 z.1.2.2.2 ++ Γ) h := by
  rintro h ⟨h1, h2, ⟨c2, c5, c8, k, q1, q2, q3⟩, g2, hd, e⟩
  exact ⟨⟨(c2, c5, c8, k), q1, q2⟩, sat_append.2 ⟨h1, h2, q3, g2, hd, e⟩⟩
theorem KK.openL {kb b : Nat} {Γ : List HProp} : ∀ h, sat (KK true kb b :: Γ) h → ∃ z : {z : Value × Value × Value × KE // LOk z.2.2.2 b}, sat (KL kb z.1.1 z.1.2.1 z.1.2.2.1 z.1.2.2.2 ++ Γ) h := by
  rintro h ⟨h1, h2, ⟨c2, c5, c8, k, q1, q3⟩, g2, hd, e⟩
  exact ⟨⟨(c2, c5, c8, k), q1⟩, sat_append.2 ⟨h1, h2, q3, g2, hd, e⟩⟩
theorem ent.of1 {Γ : List HProp} {A : HProp} (H : ∀ h, sat Γ h → A h) : ent Γ [A] := fun h hs => ⟨h, emp, H h hs, trivial, fun b => .inr rfl, (un_emp h fun _ => rfl).symm⟩
theorem LOk.same {e : KE} {b : Nat} (h : LOk e b) : e.q1.length = e.p1.length := by have := congrArg List.length h.s; simpa using this.symm
theorem keepSets_ok (hR : Heap) (late : Bool) (kb b : Nat) (a : SV) (P : List (SV × List Int)) (hb : b + (P.length + 1) ≤ 4000) (hn : ∀ q ∈ P, q.2.length ≤ 1000000) :
    Tri Tryd.prog hR 27 #[.pointer (some ⟨kb, 0, none⟩), a.val] [KK late kb b, slA 22 Enc.slice a.val (P.map Prod.fst), rows 3 Ei P] fun u Γ' => Γ' = [KK late kb (b + (P.length + 1))] := by
  refine Tri.ent ?_
  cases late with
  | false =>
    refine Tri.opens KK.openN ?_
    rintro ⟨⟨c2, c5, c8, k⟩, hK, hF⟩
    refine (setsNow_ok hR kb c2 c5 c8 k a P (41 * b) hK hF (by omega) hn).mono ?_
    rintro v _ ⟨k', rfl, hK', hF'⟩
    exact ⟨_, ent.of1 (fun h hs => ⟨c2, c5, c8, k', hK', hF'.mono (by omega), hs⟩), rfl⟩
  | true =>
    refine Tri.opens KK.openL ?_
    rintro ⟨⟨c2, c5, c8, k⟩, hK⟩
    refine (setsLate_ok hR kb c2 c5 c8 k a P b hK (by omega) hn).mono ?_
    rintro v _ ⟨k', rfl, hK'⟩
    exact ⟨_, ent.of1 (fun h hs => ⟨c2, c5, c8, k', hK', hs⟩), rfl⟩
theorem keepRow_ok (hR : Heap) (late : Bool) (kb b : Nat) (l : SV) (xs : List Iv) (hb : b ≤ 4000) (hn : xs.length ≤ 1000000) :
    Tri Tryd.prog hR 28 #[.pointer (some ⟨kb, 0, none⟩), l.val] [KK late kb b, slA 62 encIv l.val xs] fun u Γ' => Γ' = [KK late kb (b + 1)] := by
  refine Tri.ent ?_
  cases late with
  | false =>
    refine Tri.opens KK.openN ?_
    rintro ⟨⟨c2, c5, c8, k⟩, hK, hF⟩
    refine (putSnow_ok hR kb c2 c5 c8 k l xs (41 * b) hK hF (by omega) hn).mono ?_
    rintro v _ ⟨k', rfl, hK', hF'⟩
    exact ⟨_, ent.of1 (fun h hs => ⟨c2, c5, c8, k', hK', hF'.mono (by omega), hs⟩), rfl⟩
  | true =>
    refine Tri.opens KK.openL ?_
    rintro ⟨⟨c2, c5, c8, k⟩, hK⟩
    have q1 := hK.cs
    have q2 := hK.same
    simp only at q1 q2 hK
    refine (putSlate_ok hR kb c2 c5 c8 k l xs hn (by omega) (by omega)).mono ?_
    rintro v _ ⟨c, l', w', rfl⟩
    exact ⟨_, ent.of1 (fun h hs => ⟨c2, c5, c8, _, hK.addS hn, hs⟩), rfl⟩
theorem keepWhole_ok (hR : Heap) (late : Bool) (kb b : Nat) (hb : b ≤ 4000) :
    Tri Tryd.prog hR 29 #[.pointer (some ⟨kb, 0, none⟩)] [KK late kb b] fun u Γ' => u = .bool true ∧ Γ' = [] := by
  cases late with
  | false =>
    refine Tri.opens KK.openN ?_
    rintro ⟨⟨c2, c5, c8, k⟩, hK, hF⟩
    refine Tri.weaken ?_ (wholeNow_ok hR kb c2 c5 c8 k hK (hF.mono (by omega)))
    simp only [List.append_nil]; exact ent.refl _
  | true =>
    refine Tri.opens KK.openL ?_
    rintro ⟨⟨c2, c5, c8, k⟩, hK⟩
    refine Tri.weaken ?_ (wholeLate_ok hR kb c2 c5 c8 k b hK hb)
    simp only [List.append_nil]; exact ent.refl _
def kdZ : KD := ⟨[], [], [], [], [], [], [], [], [], [], nilS, nilS, nilS, nilS, nilS, nilS⟩
def keZ : KE := ⟨[], [], [], [], [], [], nilS, nilS, nilS, nilS, nilS, nilS⟩
theorem nilA {A : Type} (T : TypeId) (E : Enc A) (Γ : List HProp) : ent Γ (slA T E nilS.val [] :: Γ) := (slA_nil T E Γ).trans (ent.perm List.perm_append_comm)
theorem KK.new0 (kb : Nat) (Γ : List HProp) : ent (blk kb [.bool false, nilS.val, nilS.val, nilS.val, nilS.val, nilS.val, nilS.val, nilS.val, nilS.val, nilS.val] 73 :: Γ) (KK false kb 0 :: Γ) := by
  have h1 : ent [blk kb [.bool false, nilS.val, nilS.val, nilS.val, nilS.val, nilS.val, nilS.val, nilS.val, nilS.val, nilS.val] 73] (KN kb nilS.val nilS.val nilS.val kdZ) := by
    refine (rows_new (T := 3) (E := Ei) _).trans ((nilA 3 Ei _).trans ((nilA 22 Enc.slice _).trans ((rows_new (T := 3) (E := Ei) _).trans ((rows_new (T := 22) (E := Enc.slice) _).trans ((nilA 3 Ei _).trans ((nilA 30 Enc.slice _).trans ((rows_new (T := 62) (E := encIv) _).trans ((nilA 3 Ei _).trans ((nilA 44 Enc.slice _).trans ?_)))))))))
    exact ent.perm (by unfold KN kdZ; exact List.perm_append_comm (l₁ := [slA 44 Enc.slice nilS.val [], slA 3 Ei nilS.val [], rows 62 encIv [], slA 30 Enc.slice nilS.val [], slA 3 Ei nilS.val [], rows 22 Enc.slice [], rows 3 Ei [], slA 22 Enc.slice nilS.val [], slA 3 Ei nilS.val [], rows 3 Ei []]) (l₂ := [_]))
  have h2 : ent (KN kb nilS.val nilS.val nilS.val kdZ) [KK false kb 0] := ent.of1 fun h hs => ⟨_, _, _, kdZ, ⟨Views.nil _, Views.nil _, Views.nil _⟩, ⟨Nat.zero_le _, Nat.zero_le _, Nat.zero_le _⟩, hs⟩
  exact (h1.trans h2).at0 (Θ := Γ)
theorem KK.new1 (kb : Nat) (Γ : List HProp) : ent (blk kb [.bool true, nilS.val, nilS.val, nilS.val, nilS.val, nilS.val, nilS.val, nilS.val, nilS.val, nilS.val] 73 :: Γ) (KK true kb 0 :: Γ) := by
  have h1 : ent [blk kb [.bool true, nilS.val, nilS.val, nilS.val, nilS.val, nilS.val, nilS.val, nilS.val, nilS.val, nilS.val] 73] (KL kb nilS.val nilS.val nilS.val keZ) := by
    refine (rows_new (T := 3) (E := Ei) _).trans ((nilA 22 Enc.slice _).trans ((rows_new (T := 3) (E := Ei) _).trans ((nilA 22 Enc.slice _).trans ((rows_new (T := 22) (E := Enc.slice) _).trans ((nilA 30 Enc.slice _).trans ((rows_new (T := 22) (E := Enc.slice) _).trans ((nilA 30 Enc.slice _).trans ((rows_new (T := 62) (E := encIv) _).trans ((nilA 44 Enc.slice _).trans ((rows_new (T := 62) (E := encIv) _).trans ((nilA 44 Enc.slice _).trans ?_)))))))))))
    exact ent.perm (by unfold KL keZ; exact List.perm_append_comm (l₁ := [slA 44 Enc.slice nilS.val [], rows 62 encIv [], slA 44 Enc.slice nilS.val [], rows 62 encIv [], slA 30 Enc.slice nilS.val [], rows 22 Enc.slice [], slA 30 Enc.slice nilS.val [], rows 22 Enc.slice [], slA 22 Enc.slice nilS.val [], rows 3 Ei [], slA 22 Enc.slice nilS.val [], rows 3 Ei []]) (l₂ := [_]))
  have h2 : ent (KL kb nilS.val nilS.val nilS.val keZ) [KK true kb 0] := ent.of1 fun h hs => ⟨_, _, _, keZ, ⟨rfl, rfl, rfl, fun q hq => (by cases hq), fun q hq => (by cases hq), fun q hq => (by cases hq), fun q hq => (by cases hq), Nat.le_refl _, Nat.le_refl _, Nat.le_refl _⟩, hs⟩
  exact (h1.trans h2).at0 (Θ := Γ)
end Go.Proofs.YtjjfehdlmdhhmaaDoor
end
