/- Lists that are lent with marks behind them, and whether they stay what they were; walked. -/
import Derived.Test.YtifpejpeophlbaaArgs
namespace Go.Proofs.Ytifpejpeophlbaa
open Go.Sep
set_option linter.unusedSimpArgs false
set_option linter.unusedVariables false
attribute [local irreducible] blk slA mp mpF rows rowsBut

def cutq (q : SV × List Int) : SV := q.1.cut 1 0 (q.2.length - 2)
def mark (l : List Int) : List Int := l ++ [-71, -72]
theorem mark_len (l : List Int) : (mark l).length = l.length + 2 := by simp [mark]
def memL (lv s1 s2 : SV) (o : List SV) (p : List (SV × List Int)) : List HProp :=
  [slA 31 Enc.slice lv.val o, rows 3 (Enc.int .i64) p, slA 3 (Enc.int .i64) s1.val [-73], slA 3 (Enc.int .i64) s2.val [-74, -75]]

set_option maxRecDepth 100000 in
theorem lent_ok (hR : Heap) (v : Value) (to : List (List Int)) (hl : SlR (Enc.int .i64).rd.slice hR v to) (hlen : to.length ≤ 1000000000) (hrow : ∀ l ∈ to, l.length ≤ 1000000000) :
    Tri Try.prog hR 12 #[v] [] fun u Γ' => ∃ (lv s1 s2 : SV) (p : List (SV × List Int)), u = lv.val ∧ p.map Prod.snd = to.map mark ∧ Γ' = memL lv s1 s2 (p.map cutq ++ [s1, s2]) p := by
  refine Tri.of (args := [v]) Try.func12 rfl Try.ntmps12 (by simp) ?_
  refine WP.seq ?_
  refine WP.plain cf0 rfl ?_
  refine Run.mv rfl rfl rfl rfl ?_
  refine Run.nil ?_
  refine thn_next ?_
  refine WP.seq ?_
  refine WP.plain cf0 rfl ?_
  refine Run.mv rfl rfl rfl rfl ?_
  refine Run.nil ?_
  refine thn_next ?_
  refine WP.seqMeet (α := SV × List (SV × List Int)) (fun z => z.2.map Prod.snd = to.map mark) (fun z => [(3, z.1.val)]) (fun z => [slA 31 Enc.slice z.1.val (z.2.map cutq), rows 3 (Enc.int .i64) z.2]) ?_ ?_
  · refine WP.seq ?_
    refine WP.plain cf0 rfl ?_
    refine Run.mv rfl rfl rfl rfl ?_
    refine Run.nil ?_
    refine thn_next ?_
    refine WP.block ?_
    refine WP.loop (α := Nat × SV × List (SV × List Int)) (fun z => z.1 ≤ to.length ∧ z.2.2.map Prod.snd = (to.take z.1).map mark) (fun z => [(0, v), (3, z.2.1.val), (4, .int .i64 (z.1 : Int))]) (fun z => [slA 31 Enc.slice z.2.1.val (z.2.2.map cutq), rows 3 (Enc.int .i64) z.2.2])
      (fun z => to.length - z.1) (0, ⟨none, 0, 0⟩, []) ⟨Nat.zero_le _, rfl⟩ ⟨rfl, rfl, rfl, trivial⟩ ((slA_nil 31 Enc.slice _).trans ((rows_new _).trans (pick_only [1, 0] _))) ?_
    rintro ⟨i, lv, p⟩ ⟨hi, hp⟩
    simp only at hi hp ⊢
    have hpl : p.length = i := by have := congrArg List.length hp; simp at this; omega
    have hcl : (p.map cutq).length = i := by simp [hpl]
    refine WP.seq ?_
    refine WP.seq ?_
    refine WP.plain cf0 rfl ?_
    refine Run.mv rfl rfl rfl rfl ?_
    refine Run.mv rfl rfl rfl rfl ?_
    refine Run.lenR rfl rfl sl_22 rfl rfl (by assumption) ?_
    refine Run.int2 rfl rfl rfl rfl rfl rfl ?_
    refine Run.nil ?_
    refine thn_next ?_
    refine WP.ite rfl (fun hlt => ?_) (fun hge => ?_)
    · refine WP.skip ?_; refine thn_next ?_
      have hlt' : i < to.length := by omega
      obtain ⟨l, gl⟩ : ∃ x, to[i]? = some x := ⟨_, List.getElem?_eq_getElem hlt'⟩
      obtain ⟨u, gu, hu⟩ := hl.rowV gl
      have gu' : cellH hR (elemAddr v ((i : Int).toNat * 1)) u := gu
      have hll := hrow l (List.mem_of_getElem? gl)
      refine WP.seq ?_
      refine WP.block ?_
      refine WP.seq ?_
      refine WP.via (slA_nil 3 (Enc.int .i64) _) ?_
      refine WP.plain cf0 rfl ?_
      refine Run.mv rfl rfl rfl rfl ?_
      refine Run.mv rfl rfl rfl rfl ?_
      refine Run.idxR rfl rfl rfl sl_22 rfl rfl hl (by rfl) (by omega) (by omega) ?_
      refine Run.loadR rfl rfl ag_31 rfl rfl gu' ?_
      refine Run.append 2 rfl rfl rfl rfl rfl rfl sl_31 zr_3 rfl (src_ro hu) (by first | omega | (simp <;> omega)) (by first | omega | (simp <;> omega)) ?_
      intro sv16 hv16
      refine Run.buildSlice (E := (Enc.int .i64)) rfl sl_31 zr_3 ([-71, -72]) rfl rfl rfl (by decide) rfl rfl ?_
      intro b17
      refine Run.append 2 rfl rfl rfl rfl rfl rfl sl_31 zr_3 rfl (src_own 3 rfl) (by first | omega | (simp <;> omega)) (by first | omega | (simp <;> omega)) ?_
      intro sv18 hv18
      refine Run.mv rfl rfl rfl rfl ?_
      refine Run.nil ?_
      refine thn_next ?_
      refine WP.via (Γ' := [slA 31 Enc.slice lv.val (p.map cutq), rows 3 (Enc.int .i64) p, slA 3 (Enc.int .i64) sv18.val (mark l)]) (pick_only [0, 0, 0] _) ?_
      refine WP.know (slA_know 2 rfl) fun hk => ?_
      have hml := mark_len l
      refine WP.plain cf0 rfl ?_
      refine Run.mv rfl rfl rfl rfl ?_
      refine Run.mv rfl rfl rfl rfl ?_
      refine Run.mv rfl rfl rfl rfl ?_
      refine Run.mv rfl rfl rfl rfl ?_
      refine Run.idxR rfl rfl rfl sl_22 rfl rfl hl (by rfl) (by omega) (by omega) ?_
      refine Run.loadR rfl rfl ag_31 rfl rfl gu' ?_
      refine Run.lenR rfl rfl sl_31 rfl rfl hu ?_
      refine Run.sliceV (sv := sv18) rfl rfl sl_31 (il := 0) (ih := (l.length : Int)) rfl rfl rfl rfl (by omega) (by omega) (by omega) ?_
      refine Run.buildSlice (E := Enc.slice) rfl sl_22 zr_31 ([sv18.cut 1 0 l.length]) rfl rfl rfl (by decide) rfl rfl ?_
      intro b27
      refine Run.append 0 rfl rfl rfl rfl rfl rfl sl_22 zr_31 rfl (src_own 3 rfl) (by first | omega | (simp <;> omega)) (by first | omega | (simp <;> omega)) ?_
      intro sv28 hv28
      refine Run.mv rfl rfl rfl rfl ?_
      refine Run.nil ?_
      refine blk_norm ?_; refine thn_next ?_
      refine WP.plain cf0 rfl ?_
      refine Run.mv rfl rfl rfl rfl ?_
      refine Run.add64 rfl rfl rfl rfl rfl (by first | omega | (simp <;> omega)) (by first | omega | (simp <;> omega)) ?_
      refine Run.mv rfl rfl rfl rfl ?_
      refine Run.nil ?_
      refine thn_next ⟨(i + 1, sv28, p ++ [(sv18, mark l)]), ⟨hlt', ?_⟩, by simp only; omega, ⟨rfl, rfl, rfl, trivial⟩, ?_⟩
      · simp only [take_snoc gl, List.map_append, hp]; rfl
      · have e : (p ++ [(sv18, mark l)]).map cutq = p.map cutq ++ [sv18.cut 1 0 l.length] := by simp [cutq, hml]
        simp only [e]
        exact (pick_only [1, 1, 0] _).trans ((rows_snoc _).trans (pick_only [1, 0] _))
    · refine WP.exit ?_; refine thn_exit ?_; refine thn_exit ?_; refine blk_hit ?_
      rw [List.take_of_length_le (by omega)] at hp
      refine thn_next ⟨(lv, p), hp, ⟨rfl, trivial⟩, ent.refl _⟩
  rintro ⟨lv, p⟩ hp
  simp only at hp ⊢
  have hpl : p.length = to.length := by have := congrArg List.length hp; simpa using this
  have hcl : (p.map cutq).length = to.length := by simp [hpl]
  refine WP.seq ?_
  refine WP.plain cf0 rfl ?_
  refine Run.mv rfl rfl rfl rfl ?_
  refine Run.buildSlice (E := (Enc.int .i64)) rfl sl_31 zr_3 ([-73]) rfl rfl rfl (by decide) rfl rfl ?_
  intro b30
  refine Run.buildSlice (E := (Enc.int .i64)) rfl sl_31 zr_3 ([-74, -75]) rfl rfl rfl (by decide) rfl rfl ?_
  intro b31
  refine Run.buildSlice (E := Enc.slice) rfl sl_22 zr_31 ([⟨some ⟨b30, 0, none⟩, 1, 1⟩, (⟨some ⟨b31, 0, none⟩, 2, 2⟩ : SV)]) rfl rfl rfl (by decide) rfl rfl ?_
  intro b32
  refine Run.append 0 rfl rfl rfl rfl rfl rfl sl_22 zr_31 rfl (src_own 4 rfl) (by first | omega | (simp <;> omega)) (by first | omega | (simp <;> omega)) ?_
  intro sv33 hv33
  refine Run.mv rfl rfl rfl rfl ?_
  refine Run.nil ?_
  refine thn_next ?_
  refine WP.via (pick_only [0, 0, 0, 0] _) ?_
  refine WP.ret ?_
  exact retT [2] _ rfl rfl ⟨sv33, ⟨some ⟨b30, 0, none⟩, 1, 1⟩, ⟨some ⟨b31, 0, none⟩, 2, 2⟩, p, rfl, hp, rfl⟩

/-- what is lent, read -/
theorem lent_lend {hR g : Heap} {to : List (List Int)} {lv s1 s2 : SV} {p : List (SV × List Int)} (hp : p.map Prod.snd = to.map mark) (hg : sat (memL lv s1 s2 (p.map cutq ++ [s1, s2]) p) g) (hd : Disj hR g) :
    SlR (Enc.int .i64).rd.slice (un hR g) (lv.cut 1 0 to.length).val to := by
  have hpl : p.length = to.length := by have := congrArg List.length hp; simpa using this
  have h1 : SlR Enc.slice.rd (un hR g) lv.val (p.map cutq ++ [s1, s2]) := lent_at 0 rfl hg hd
  have h2 := SlR_cut h1 (lo := 0) (hi := to.length) (by omega) (by simp; omega)
  have e : ((p.map cutq ++ [s1, s2]).take to.length).drop 0 = p.map cutq := by simp [← hpl]
  rw [e] at h2
  refine SlR.turn (E := Enc.slice.rd) (F := (Enc.int .i64).rd.slice) (H := h2) (by simp [hpl]) rfl fun i x y hx hy cs hc => ?_
  simp only [List.getElem?_map] at hx
  cases hpi : p[i]? with
  | none => rw [hpi] at hx; cases hx
  | some q =>
    rw [hpi] at hx; cases hx
    have hq2 : q.2 = mark y := by
      have := congrArg (fun l => l[i]?) hp
      simp only [List.getElem?_map, hpi, hy] at this
      simpa using this
    obtain ⟨c1, c2, d1, _, e2, _⟩ := sat_get (k := 1) hg rfl
    have s2 : Sub c1 (un hR g) := by rw [e2] at hd ⊢; exact (sub_un_left c1 c2).trans (sub_un_right hd)
    have h3 : SlR (Enc.int .i64).rd (un hR g) q.1.val q.2 := (sat_rows d1 (sv := q.1) (xs := q.2) hpi).mono s2
    have hml := mark_len y
    have h4 := SlR_cut h3 (lo := 0) (hi := y.length) (by omega) (by rw [hq2]; omega)
    have e3 : (q.2.take y.length).drop 0 = y := by rw [hq2]; simp [mark]
    rw [e3] at h4
    refine ⟨(cutq q).val, hc, ?_⟩
    have e4 : cutq q = q.1.cut 1 0 y.length := by unfold cutq; rw [hq2, hml]; rfl
    rw [e4]; exact h4

set_option maxRecDepth 100000 in
theorem stays_ok (hR : Heap) (v : Value) (to : List (List Int)) (lv s1 s2 : SV) (p0 : List (SV × List Int)) (hl : SlR (Enc.int .i64).rd.slice hR v to) (hlen : to.length ≤ 1000000000) (hrow : ∀ l ∈ to, l.length ≤ 1000000000) (hp0 : p0.map Prod.snd = to.map mark) :
    Tri Try.prog hR 14 #[v, lv.val] (memL lv s1 s2 (p0.map cutq ++ [s1, s2]) p0) fun u Γ' => u = .bool true := by
  have hpl0 : p0.length = to.length := by have := congrArg List.length hp0; simpa using this
  refine Tri.of (args := [v, lv.val]) Try.func14 rfl Try.ntmps14 (by simp) ?_
  unfold memL
  have hol : (p0.map cutq ++ [s1, s2]).length = to.length + 2 := by simp [hpl0]
  have go1 : (p0.map cutq ++ [s1, s2])[to.length]? = some s1 := by rw [List.getElem?_append_right (by simp [hpl0])]; simp [hpl0]
  have go2 : (p0.map cutq ++ [s1, s2])[to.length + 1]? = some s2 := by rw [List.getElem?_append_right (by simp [hpl0])]; simp [hpl0]
  refine WP.seq ?_
  refine WP.plain cf0 rfl ?_
  refine Run.mv rfl rfl rfl rfl ?_
  refine Run.nil ?_
  refine thn_next ?_
  refine WP.seq ?_
  refine WP.plain cf0 rfl ?_
  refine Run.mv rfl rfl rfl rfl ?_
  refine Run.lenR rfl rfl sl_22 rfl rfl hl ?_
  refine Run.mv rfl rfl rfl rfl ?_
  refine Run.nil ?_
  refine thn_next ?_
  refine WP.seq ?_
  refine WP.plain cf0 rfl ?_
  refine Run.mv rfl rfl rfl rfl ?_
  refine Run.lenO 0 rfl rfl sl_22 rfl rfl rfl ?_
  refine Run.mv rfl rfl rfl rfl ?_
  refine Run.add64 rfl rfl rfl rfl rfl (by omega) (by omega) ?_
  refine Run.int2 rfl rfl rfl rfl rfl rfl ?_; refine Run.tt (by omega) ?_
  refine Run.mv rfl rfl rfl rfl ?_
  refine Run.mv rfl rfl rfl rfl ?_
  refine Run.mv rfl rfl rfl rfl ?_
  refine Run.idxO 0 rfl rfl rfl sl_22 rfl rfl rfl rfl (by omega) (by omega) ?_
  refine Run.loadO 0 to.length 0 rfl rfl ag_31 rfl rfl rfl rfl go1 rfl ?_
  refine Run.buildSlice (E := (Enc.int .i64)) rfl sl_31 zr_3 ([-73]) rfl rfl rfl (by decide) rfl rfl ?_
  intro b22
  refine Run.callLend (Δ := []) (Θ := [slA 3 (Enc.int .i64) s1.val [-73], slA 3 (Enc.int .i64) (.slice (some ⟨b22, 0, none⟩) 1 1) [-73]]) (Ξ := [slA 31 Enc.slice lv.val (p0.map cutq ++ [s1, s2]), rows 3 (Enc.int .i64) p0, slA 3 (Enc.int .i64) s2.val [-74, -75]]) rfl rfl rfl rfl ok_18 rfl rfl (pick_only [2, 3, 0, 0, 0] _) (fun g hg hd => same_ok (un hR g) _ _ _ _ (lent_at 0 rfl hg hd) (lent_at 1 rfl hg hd) (by decide) (by decide)) ?_; rintro _ _ ⟨rfl, rfl⟩; refine Run.tt rfl ?_; refine Run.via (Γ' := [slA 31 Enc.slice lv.val (p0.map cutq ++ [s1, s2]), rows 3 (Enc.int .i64) p0, slA 3 (Enc.int .i64) s1.val [-73], slA 3 (Enc.int .i64) s2.val [-74, -75]]) (pick_only [2, 2, 0, 1] _) ?_
  refine Run.pick rfl rfl rfl rfl rfl ?_
  refine Run.mv rfl rfl rfl rfl ?_
  refine Run.mv rfl rfl rfl rfl ?_
  refine Run.mv rfl rfl rfl rfl ?_
  refine Run.add64 rfl rfl rfl rfl rfl (by omega) (by omega) ?_
  refine Run.idxO 0 rfl rfl rfl sl_22 rfl rfl rfl rfl (by omega) (by omega) ?_
  refine Run.loadO 0 (to.length + 1) 0 rfl rfl ag_31 rfl rfl rfl rfl go2 rfl ?_
  refine Run.buildSlice (E := (Enc.int .i64)) rfl sl_31 zr_3 ([-74, -75]) rfl rfl rfl (by decide) rfl rfl ?_
  intro b31
  refine Run.callLend (Δ := []) (Θ := [slA 3 (Enc.int .i64) s2.val [-74, -75], slA 3 (Enc.int .i64) (.slice (some ⟨b31, 0, none⟩) 2 2) [-74, -75]]) (Ξ := [slA 31 Enc.slice lv.val (p0.map cutq ++ [s1, s2]), rows 3 (Enc.int .i64) p0]) rfl rfl rfl rfl ok_18 rfl rfl (pick_only [3, 3, 0, 0] _) (fun g hg hd => same_ok (un hR g) _ _ _ _ (lent_at 0 rfl hg hd) (lent_at 1 rfl hg hd) (by decide) (by decide)) ?_; rintro _ _ ⟨rfl, rfl⟩; refine Run.tt rfl ?_
  refine Run.pick rfl rfl rfl rfl rfl ?_
  refine Run.mv rfl rfl rfl rfl ?_
  refine Run.nil ?_
  refine thn_next ?_
  refine WP.via (Γ' := [slA 31 Enc.slice lv.val (p0.map cutq ++ [s1, s2]), rows 3 (Enc.int .i64) p0]) (pick_only [2, 2] _) ?_
  refine WP.seqMeet (α := Unit) (fun _ => True) (fun _ => [(6, .bool true)]) (fun _ => []) ?_ ?_
  · refine WP.seq ?_
    refine WP.plain cf0 rfl ?_
    refine Run.mv rfl rfl rfl rfl ?_
    refine Run.nil ?_
    refine thn_next ?_
    refine WP.block ?_
    refine WP.loop (α := Nat × List SV × List (SV × List Int)) (fun z => z.1 ≤ to.length ∧ z.2.1.length = to.length + 2 ∧ z.2.2.length = to.length ∧ (∀ k, z.1 ≤ k → z.2.1[k]? = (p0.map cutq ++ [s1, s2])[k]?) ∧ ∀ k, z.1 ≤ k → z.2.2[k]? = p0[k]?)
      (fun z => [(0, v), (1, lv.val), (5, .int .i64 (to.length : Int)), (6, .bool true), (7, .int .i64 (z.1 : Int))]) (fun z => [slA 31 Enc.slice lv.val z.2.1, rows 3 (Enc.int .i64) z.2.2])
      (fun z => to.length - z.1) (0, p0.map cutq ++ [s1, s2], p0) ⟨Nat.zero_le _, hol, hpl0, fun _ _ => rfl, fun _ _ => rfl⟩ ⟨rfl, rfl, rfl, rfl, rfl, trivial⟩ (ent.refl _) ?_
    rintro ⟨i, o, p⟩ ⟨hi, ho, hpl, hok, hpk⟩
    simp only at hi ho hpl hok hpk ⊢
    refine WP.seq ?_
    refine WP.seq ?_
    refine WP.plain cf0 rfl ?_
    refine Run.mv rfl rfl rfl rfl ?_
    refine Run.mv rfl rfl rfl rfl ?_
    refine Run.int2 rfl rfl rfl rfl rfl rfl ?_
    refine Run.nil ?_
    refine thn_next ?_
    refine WP.ite rfl (fun hlt => ?_) (fun hge => ?_)
    · refine WP.skip ?_; refine thn_next ?_
      have hlt' : i < to.length := by omega
      obtain ⟨l, gl⟩ : ∃ x, to[i]? = some x := ⟨_, List.getElem?_eq_getElem hlt'⟩
      obtain ⟨u, gu, hu⟩ := hl.rowV gl
      have gu' : cellH hR (elemAddr v ((i : Int).toNat * 1)) u := gu
      have hll := hrow l (List.mem_of_getElem? gl)
      have hml := mark_len l
      obtain ⟨⟨xv, xs⟩, gp0⟩ : ∃ x, p0[i]? = some x := ⟨_, List.getElem?_eq_getElem (by omega)⟩
      have hxs : xs = mark l := by
        have := congrArg (fun l => l[i]?) hp0
        simp only [List.getElem?_map, gp0, gl] at this
        simpa using this
      subst hxs
      have gp : p[i]? = some (xv, mark l) := by rw [hpk i (Nat.le_refl _), gp0]
      have go : o[i]? = some (xv.cut 1 0 l.length) := by
        rw [hok i (Nat.le_refl _), List.getElem?_append_left (by simp [hpl0, hlt'])]
        simp [gp0, cutq, hml]
      refine WP.seq ?_
      refine WP.block ?_
      refine WP.via (ent.app (ent.refl [slA 31 Enc.slice lv.val o]) (rows_out gp [])) ?_
      refine WP.via (Γ' := [slA 31 Enc.slice lv.val o, slA 3 (Enc.int .i64) xv.val (mark l), rowsBut 3 (Enc.int .i64) i p]) (ent.refl _) ?_
      refine WP.know (slA_know 1 rfl) fun hk => ?_
      have hcc : (xv.cut 1 0 l.length).c = xv.c := rfl
      refine WP.seq ?_
      refine WP.drawn0 cf0 mixed rfl (by kernel_rfl) ?_
      refine Run.mv rfl rfl rfl rfl ?_
      refine Run.mv rfl rfl rfl rfl ?_
      refine Run.idxO 0 rfl rfl rfl sl_22 rfl rfl rfl rfl (by omega) (by omega) ?_
      refine Run.loadO 0 i 0 rfl rfl ag_31 rfl rfl rfl rfl go rfl ?_
      refine Run.mv rfl rfl rfl rfl ?_
      refine Run.mv rfl rfl rfl rfl ?_
      refine Run.idxR rfl rfl rfl sl_22 rfl rfl hl (by rfl) (by omega) (by omega) ?_
      refine Run.loadR rfl rfl ag_31 rfl rfl gu' ?_
      refine Run.lenR rfl rfl sl_31 rfl rfl hu ?_
      refine Run.add64 rfl rfl rfl rfl rfl (by first | omega | (simp <;> omega)) (by first | omega | (simp <;> omega)) ?_
      refine Run.sliceV (sv := xv.cut 1 0 l.length) rfl rfl sl_31 (il := 0) (ih := (l.length : Int) + 2) rfl rfl rfl rfl (by omega) (by omega) (by omega) ?_; refine Run.eqv (v' := xv.val) (by rw [show ((l.length : Int) + 2).toNat = l.length + 2 by omega]; exact congrArg SV.val (SV.cut_back (by omega))) ?_
      refine Run.mv rfl rfl rfl rfl ?_
      refine Run.nil ?_
      refine thn_next ?_
      refine WP.seq ?_
      refine WP.via (slA_nil 3 (Enc.int .i64) _) ?_
      refine WP.plain cf0 rfl ?_
      refine Run.mv rfl rfl rfl rfl ?_
      refine Run.mv rfl rfl rfl rfl ?_
      refine Run.mv rfl rfl rfl rfl ?_
      refine Run.mv rfl rfl rfl rfl ?_
      refine Run.mv rfl rfl rfl rfl ?_
      refine Run.idxR rfl rfl rfl sl_22 rfl rfl hl (by rfl) (by omega) (by omega) ?_
      refine Run.loadR rfl rfl ag_31 rfl rfl gu' ?_
      refine Run.append 3 rfl rfl rfl rfl rfl rfl sl_31 zr_3 rfl (src_ro hu) (by first | omega | (simp <;> omega)) (by first | omega | (simp <;> omega)) ?_
      intro sv57 hv57
      refine Run.buildSlice (E := (Enc.int .i64)) rfl sl_31 zr_3 ([-71, -72]) rfl rfl rfl (by decide) rfl rfl ?_
      intro b58
      refine Run.append 3 rfl rfl rfl rfl rfl rfl sl_31 zr_3 rfl (src_own 4 rfl) (by first | omega | (simp <;> omega)) (by first | omega | (simp <;> omega)) ?_
      intro sv59 hv59
      refine Run.callLend (Δ := []) (Θ := [slA 3 (Enc.int .i64) xv.val (mark l), slA 3 (Enc.int .i64) sv59.val (mark l)]) (Ξ := [slA 31 Enc.slice lv.val o, rowsBut 3 (Enc.int .i64) i p]) rfl rfl rfl rfl ok_18 rfl rfl (pick_only [1, 2, 0, 0] _) (fun g hg hd => same_ok (un hR g) _ _ _ _ (lent_at 0 rfl hg hd) (lent_at 1 rfl hg hd) (by omega) (by omega)) ?_; rintro _ _ ⟨rfl, rfl⟩; refine Run.tt rfl ?_
      refine Run.pick rfl rfl rfl rfl rfl ?_
      refine Run.mv rfl rfl rfl rfl ?_
      refine Run.nil ?_
      refine thn_next ?_
      refine WP.via (Γ' := [slA 31 Enc.slice lv.val o, slA 3 (Enc.int .i64) xv.val (mark l), rowsBut 3 (Enc.int .i64) i p]) (pick_only [2, 0, 1] _) ?_
      refine WP.seqMeet (α := List Int) (fun _ => True) (fun _ => [(0, v), (1, lv.val), (5, .int .i64 (to.length : Int)), (6, .bool true), (7, .int .i64 (i : Int))]) (fun ys => [slA 31 Enc.slice lv.val o, slA 3 (Enc.int .i64) xv.val ys, rowsBut 3 (Enc.int .i64) i p]) ?_ ?_
      · refine WP.seq ?_
        refine WP.plain cf0 rfl ?_
        refine Run.mv rfl rfl rfl rfl ?_
        refine Run.nil ?_
        refine thn_next ?_
        refine WP.block ?_
        refine WP.loop (α := Nat × List Int) (fun z => z.1 ≤ l.length + 2 ∧ z.2.length = l.length + 2) (fun z => [(0, v), (1, lv.val), (5, .int .i64 (to.length : Int)), (6, .bool true), (7, .int .i64 (i : Int)), (8, xv.val), (9, .int .i64 (z.1 : Int))])
          (fun z => [slA 31 Enc.slice lv.val o, slA 3 (Enc.int .i64) xv.val z.2, rowsBut 3 (Enc.int .i64) i p]) (fun z => l.length + 2 - z.1) (0, mark l) ⟨Nat.zero_le _, hml⟩ ⟨rfl, rfl, rfl, rfl, rfl, rfl, rfl, trivial⟩ (ent.refl _) ?_
        rintro ⟨k, ys⟩ ⟨hk1, hy⟩
        simp only at hk1 hy ⊢
        refine WP.seq ?_
        refine WP.seq ?_
        refine WP.plain cf0 rfl ?_
        refine Run.mv rfl rfl rfl rfl ?_
        refine Run.mv rfl rfl rfl rfl ?_
        refine Run.lenO 1 rfl rfl sl_31 rfl rfl rfl ?_
        refine Run.int2 rfl rfl rfl rfl rfl rfl ?_
        refine Run.nil ?_
        refine thn_next ?_
        refine WP.ite rfl (fun hlt2 => ?_) (fun hge2 => ?_)
        · refine WP.skip ?_; refine thn_next ?_
          have hkl : k < ys.length := by omega
          obtain ⟨y, gy⟩ : ∃ x, ys[k]? = some x := ⟨_, List.getElem?_eq_getElem hkl⟩
          refine WP.seq ?_
          refine WP.block ?_
          refine WP.plain cf0 rfl ?_
          refine Run.mv rfl rfl rfl rfl ?_
          refine Run.mv rfl rfl rfl rfl ?_
          refine Run.idxO 1 rfl rfl rfl sl_31 rfl rfl rfl rfl (by omega) (by omega) ?_
          refine Run.storeO 1 k 0 (y' := -76) rfl rfl rfl rfl ag_3 rfl rfl rfl rfl gy rfl rfl ?_
          refine Run.nil ?_
          refine blk_norm ?_; refine thn_next ?_
          refine WP.plain cf0 rfl ?_
          refine Run.mv rfl rfl rfl rfl ?_
          refine Run.add64 rfl rfl rfl rfl rfl (by first | omega | (simp <;> omega)) (by first | omega | (simp <;> omega)) ?_
          refine Run.mv rfl rfl rfl rfl ?_
          refine Run.nil ?_
          refine thn_next ⟨(k + 1, ys.set k (-76)), ⟨by simp only; omega, by simp [hy]⟩, by simp only; omega, ⟨rfl, rfl, rfl, rfl, rfl, rfl, rfl, trivial⟩, ent.refl _⟩
        · refine WP.exit ?_; refine thn_exit ?_; refine thn_exit ?_; refine blk_hit ?_
          refine thn_next ⟨ys, trivial, ⟨rfl, rfl, rfl, rfl, rfl, trivial⟩, ent.refl _⟩
      rintro ys _
      refine WP.plain cf0 rfl ?_
      refine Run.mv rfl rfl rfl rfl ?_
      refine Run.mv rfl rfl rfl rfl ?_
      refine Run.idxO 0 rfl rfl rfl sl_22 rfl rfl rfl rfl (by omega) (by omega) ?_
      refine Run.storeO 0 i 0 (y' := (⟨none, 0, 0⟩ : SV)) rfl rfl rfl rfl ag_31 rfl rfl rfl rfl go rfl rfl ?_
      refine Run.nil ?_
      refine blk_norm ?_; refine thn_next ?_
      refine WP.plain cf0 rfl ?_
      refine Run.mv rfl rfl rfl rfl ?_
      refine Run.add64 rfl rfl rfl rfl rfl (by first | omega | (simp <;> omega)) (by first | omega | (simp <;> omega)) ?_
      refine Run.mv rfl rfl rfl rfl ?_
      refine Run.nil ?_
      refine thn_next ⟨(i + 1, o.set i ⟨none, 0, 0⟩, p.set i (xv, ys)), ⟨hlt', by simp [ho], by simp [hpl], fun k hk1 => ?_, fun k hk1 => ?_⟩, by simp only; omega, ⟨rfl, rfl, rfl, rfl, rfl, trivial⟩, ?_⟩
      · rw [List.getElem?_set_ne (by simp only at hk1; omega)]; exact hok k (by simp only at hk1; omega)
      · rw [List.getElem?_set_ne (by simp only at hk1; omega)]; exact hpk k (by simp only at hk1; omega)
      · exact ent.app (ent.refl [slA 31 Enc.slice lv.val (o.set i ⟨none, 0, 0⟩)]) (rows_in (by omega) [])
    · refine WP.exit ?_; refine thn_exit ?_; refine thn_exit ?_; refine blk_hit ?_
      refine thn_next ⟨(), trivial, ⟨rfl, trivial⟩, pick_only [] _⟩
  rintro _ _
  refine WP.seq ?_
  refine WP.plain cf0 rfl ?_
  refine Run.mv rfl rfl rfl rfl ?_
  refine Run.mv rfl rfl rfl rfl ?_
  refine Run.nil ?_
  refine thn_next ?_
  refine WP.ret ?_
  exact retT [4] _ rfl rfl rfl
end Go.Proofs.Ytifpejpeophlbaa
