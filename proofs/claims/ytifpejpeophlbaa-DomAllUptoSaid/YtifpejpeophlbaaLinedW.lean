/- The line of the blocks that can be reached, walked. -/
import Derived.Test.YtifpejpeophlbaaGood
namespace Go.Proofs.Ytifpejpeophlbaa
open Go.Sep
set_option linter.unusedSimpArgs false
set_option linter.unusedVariables false
attribute [local irreducible] blk slA mp mpF

def encV : Enc (Nat × Nat) := ⟨2, fun p => [.int .i64 (p.1 : Int), .int .i64 (p.2 : Int)], fun _ => rfl, fun _ => rfl⟩
def seenF (S : List Nat) : Int → Option Value := fun k => if ∃ b ∈ S, (b : Int) = k then some (.int .i64 1) else none
theorem seenF_none : (fun _ => none) = seenF [] := by funext k; simp [seenF]
theorem seenF_cons (S : List Nat) (c : Nat) : upd (seenF S) (c : Int) (.int .i64 1) = seenF (c :: S) := by
  funext k
  unfold upd seenF
  by_cases h : k = (c : Int)
  · subst h; simp
  · rw [if_neg h]
    have : (∃ b ∈ c :: S, (b : Int) = k) ↔ ∃ b ∈ S, (b : Int) = k := by
      constructor
      · rintro ⟨b, hb, e⟩
        rcases List.mem_cons.1 hb with rfl | hb
        · exact absurd e.symm h
        · exact ⟨b, hb, e⟩
      · rintro ⟨b, hb, e⟩; exact ⟨b, by simp [hb], e⟩
    simp only [this]
theorem seenF_get (S : List Nat) (c : Nat) : (seenF S (c : Int)).getD (.int .i64 0) = .int .i64 (if c ∈ S then 1 else 0) := by
  unfold seenF
  have : (∃ b ∈ S, (b : Int) = (c : Int)) ↔ c ∈ S := by
    constructor
    · rintro ⟨b, hb, e⟩
      have : b = c := by omega
      exact this ▸ hb
    · exact fun h => ⟨c, h, rfl⟩
  simp only [this]
  split <;> rfl
theorem nodup_le : ∀ (n : Nat) (l : List Nat), l.Nodup → (∀ x ∈ l, x < n) → l.length ≤ n
  | 0, l, _, h => by
    cases l with
    | nil => simp
    | cons x l => have := h x (by simp); omega
  | n + 1, l, hn, h => by
    have ih := nodup_le n (l.erase n) (hn.erase n) fun x hx => by
      have h1 := (hn.mem_erase_iff).1 hx
      have := h x h1.2; omega
    by_cases hm : n ∈ l
    · rw [List.length_erase_of_mem hm] at ih; omega
    · rw [List.erase_of_not_mem hm] at ih; omega
theorem DInv.len {tn : Gr} (hg : GoodN tn) {S : List Nat} {way : List (Nat × Nat)} {done : List Nat} (h : DInv tn S way done) : way.length + done.length ≤ tn.length := by
  have := nodup_le tn.length _ h.nodup fun x hx => by
    rcases List.mem_append.1 hx with hx | hx
    · obtain ⟨p, hp, rfl⟩ := List.mem_map.1 hx; exact (h.reach _ (h.way_seen p hp)).lt hg
    · exact (h.reach _ (h.done_seen x hx)).lt hg
  simpa using this

/-- half turned round -/
def RevI (done : List Nat) (i : Nat) (ys : List Nat) : Prop := ys.length = done.length ∧ ∀ k, k < done.length → ys[k]? = if k < i ∨ done.length ≤ k + i then done[done.length - 1 - k]? else done[k]?
theorem RevI.start (done : List Nat) : RevI done 0 done := ⟨rfl, fun k hk => by rw [if_neg (by omega)]⟩
theorem RevI.step {done ys : List Nat} {i : Nat} (h : RevI done i ys) (hi : 2 * i + 1 < done.length) {a b : Nat} (ha : ys[i]? = some a) (hb : ys[done.length - 1 - i]? = some b) :
    RevI done (i + 1) ((ys.set i b).set (done.length - 1 - i) a) := by
  obtain ⟨h1, h2⟩ := h
  refine ⟨by simp [h1], fun k hk => ?_⟩
  have ga := h2 i (by omega)
  have gb := h2 (done.length - 1 - i) (by omega)
  rw [if_neg (by omega)] at ga gb
  by_cases e1 : k = done.length - 1 - i
  · subst e1
    rw [List.getElem?_set_self (by simp; omega), if_pos (by omega), ← ha, ga]; congr 1; omega
  · rw [List.getElem?_set_ne (Ne.symm e1)]
    by_cases e2 : k = i
    · subst e2
      rw [List.getElem?_set_self (by omega), if_pos (by omega), ← hb, gb]
    · rw [List.getElem?_set_ne (Ne.symm e2), h2 k hk]
      by_cases e3 : k < i ∨ done.length ≤ k + i
      · rw [if_pos e3, if_pos (by omega)]
      · rw [if_neg e3, if_neg (by omega)]
theorem RevI.end {done ys : List Nat} {i : Nat} (h : RevI done i ys) (hi : ¬ 2 * i + 1 < done.length) : ys = done.reverse := by
  obtain ⟨h1, h2⟩ := h
  refine List.ext_getElem? fun k => ?_
  by_cases hk : k < done.length
  · rw [h2 k hk, List.getElem?_reverse hk]
    split
    · rfl
    · congr 1; omega
  · rw [List.getElem?_eq_none (by omega), List.getElem?_eq_none (by simp; omega)]

theorem set_top {A : Type} (w : List A) (x y : A) : (w ++ [x]).set w.length y = w ++ [y] := by simp
theorem get_top {A : Type} (w : List A) (x : A) : (w ++ [x])[w.length]? = some x := by simp

set_option maxRecDepth 100000 in
theorem lined_ok (hR : Heap) (v : Value) (tn : Gr) (hg : GoodN tn) (hl : SlR Enc.nat.rd.slice hR v tn) (hlen : tn.length ≤ 1000000000000) (hrow : ∀ l ∈ tn, l.length ≤ 1000000000000) :
    Tri Try.prog hR 26 #[v] [] fun u Γ' => ∃ (sv : SV) (L : List Nat), u = sv.val ∧ Lined tn L ∧ Γ' = [slA 3 Enc.nat sv.val L] := by
  refine Tri.of (args := [v]) Try.func26 rfl Try.ntmps26 (by simp) ?_
  refine WP.seq ?_
  refine WP.plain cf0 rfl ?_
  refine Run.mv rfl rfl rfl rfl ?_
  refine Run.nil ?_
  refine thn_next ?_
  refine WP.scope ?_
  refine WP.seq ?_
  refine WP.plain cf0 rfl ?_
  refine Run.makeMapF rfl rfl rfl ?_
  intro b10
  refine Run.mapInsert 0 rfl rfl rfl rfl mt_48 ui_3 rfl rfl ?_
  refine Run.mv rfl rfl rfl rfl ?_
  refine Run.mv rfl rfl rfl rfl ?_
  refine Run.nil ?_
  refine thn_next ?_
  refine WP.seq ?_
  refine WP.plain cf0 rfl ?_
  refine Run.build rfl bd_50 rfl rfl rfl rfl ?_
  refine Run.buildSlice (E := encV) rfl sl_51 zr_50 ([(0, 0)]) rfl rfl rfl (by decide) rfl rfl ?_
  intro b13
  refine Run.mv rfl rfl rfl rfl ?_
  refine Run.nil ?_
  refine thn_next ?_
  refine WP.seq ?_
  refine WP.plain cf0 rfl ?_
  refine Run.mv rfl rfl rfl rfl ?_
  refine Run.nil ?_
  refine thn_next ?_
  refine WP.via (Γ' := [mpF b10 (seenF [0]), slA 50 encV (SV.val ⟨some ⟨b13, 0, none⟩, 1, 1⟩) [(0, 0)], slA 3 Enc.nat (SV.val ⟨none, 0, 0⟩) []]) ?_ ?_
  · rw [show mpF b10 (seenF [0]) = mpF b10 (upd (fun _ => none) ((0 : Nat) : Int) (.int .i64 1)) by rw [seenF_none, seenF_cons]]
    exact slA_nil 3 Enc.nat _
  refine WP.seq ?_
  refine WP.label ?_; refine thn_next ?_
  refine WP.seqMeet (α := List Nat × List Nat × SV) (fun z => DInv tn z.1 [] z.2.1) (fun z => [(0, v), (5, z.2.2.val)]) (fun z => [slA 3 Enc.nat z.2.2.val z.2.1]) ?_ ?_
  · refine WP.block ?_
    refine WP.loop (α := List Nat × List (Nat × Nat) × List Nat × SV × SV) (fun z => DInv tn z.1 z.2.1 z.2.2.1) (fun z => [(0, v), (3, .map (some b10)), (4, z.2.2.2.1.val), (5, z.2.2.2.2.val)])
      (fun z => [mpF b10 (seenF z.1), slA 50 encV z.2.2.2.1.val z.2.1, slA 3 Enc.nat z.2.2.2.2.val z.2.2.1]) (fun z => meas tn z.1 z.2.1)
      ([0], [(0, 0)], [], ⟨some ⟨b13, 0, none⟩, 1, 1⟩, ⟨none, 0, 0⟩) DInv.start ⟨rfl, rfl, rfl, rfl, trivial⟩ (ent.refl _) ?_
    rintro ⟨S, way, done, wv, dv⟩ hinv
    simp only at hinv ⊢
    have hlens := hinv.len hg
    refine WP.seq ?_
    refine WP.seq ?_
    refine WP.plain cf0 rfl ?_
    refine Run.mv rfl rfl rfl rfl ?_
    refine Run.lenO 1 rfl rfl sl_51 rfl rfl rfl ?_
    refine Run.int2 rfl rfl rfl rfl rfl rfl ?_
    refine Run.nil ?_
    refine thn_next ?_
    refine WP.ite rfl (fun hlt => ?_) (fun hge => ?_)
    · refine WP.skip ?_; refine thn_next ?_
      rcases List.eq_nil_or_concat way with rfl | ⟨w, ⟨b, k0⟩, hw⟩
      · simp at hlt
      rw [List.concat_eq_append] at hw; subst hw
      have htop : (((w ++ [(b, k0)]).length : Int) - 1).toNat = w.length := by simp
      have hbS : b ∈ S := hinv.top
      have hbn : b < tn.length := (hinv.reach b hbS).lt hg
      obtain ⟨l, gl⟩ : ∃ x, tn[b]? = some x := ⟨_, List.getElem?_eq_getElem hbn⟩
      obtain ⟨u, gu, hu⟩ := hl.rowV gl
      have gu' : cellH hR (elemAddr v ((b : Int).toNat * 1)) u := gu
      have hll := hrow l (List.mem_of_getElem? gl)
      have hdl := deg_at gl
      refine WP.block ?_
      refine WP.seq ?_
      refine WP.plain cf0 rfl ?_
      refine Run.mv rfl rfl rfl rfl ?_
      refine Run.mv rfl rfl rfl rfl ?_
      refine Run.lenO 1 rfl rfl sl_51 rfl rfl rfl ?_
      refine Run.sub64 rfl rfl rfl rfl rfl (by first | omega | (simp <;> omega)) (by first | omega | (simp <;> omega)) ?_
      refine Run.idxO 1 rfl rfl rfl sl_51 rfl rfl rfl rfl (by first | omega | (simp <;> omega)) (by first | omega | (simp <;> omega)) ?_
      refine Run.eqv (v' := .pointer (some (elemAddr wv.val (w.length * 2)))) (by rw [htop]; rfl) ?_
      refine Run.mv rfl rfl rfl rfl ?_
      refine Run.nil ?_
      refine thn_next ?_
      refine WP.seqMeet (α := Nat) (fun k => DInv tn S (w ++ [(b, k)]) done ∧ l.length ≤ k ∧ meas tn S (w ++ [(b, k)]) ≤ meas tn S (w ++ [(b, k0)])) (fun k => [(0, v), (3, .map (some b10)), (4, wv.val), (5, dv.val), (6, .pointer (some (elemAddr wv.val (w.length * 2))))])
        (fun k => [mpF b10 (seenF S), slA 50 encV wv.val (w ++ [(b, k)]), slA 3 Enc.nat dv.val done]) ?_ ?_
      · refine WP.block ?_
        refine WP.loop (α := Nat) (fun k => DInv tn S (w ++ [(b, k)]) done ∧ meas tn S (w ++ [(b, k)]) ≤ meas tn S (w ++ [(b, k0)])) (fun k => [(0, v), (3, .map (some b10)), (4, wv.val), (5, dv.val), (6, .pointer (some (elemAddr wv.val (w.length * 2))))])
          (fun k => [mpF b10 (seenF S), slA 50 encV wv.val (w ++ [(b, k)]), slA 3 Enc.nat dv.val done]) (fun k => meas tn S (w ++ [(b, k)]))
          k0 ⟨hinv, Nat.le_refl _⟩ ⟨rfl, rfl, rfl, rfl, rfl, trivial⟩ (ent.refl _) ?_
        rintro k ⟨hk, hmle⟩
        have gtop := get_top w (b, k)
        refine WP.seq ?_
        refine WP.seq ?_
        refine WP.drawn0 cf0 mixed rfl (by kernel_rfl) ?_
        refine Run.mv rfl rfl rfl rfl ?_
        refine Run.nilCheck rfl rfl rfl rfl ?_
        refine Run.fieldAddr rfl rfl fo_50_1 rfl rfl ?_
        refine Run.loadO 1 w.length 1 rfl rfl ag_3 rfl rfl rfl rfl gtop rfl ?_
        refine Run.mv rfl rfl rfl rfl ?_
        refine Run.mv rfl rfl rfl rfl ?_
        refine Run.nilCheck rfl rfl rfl rfl ?_
        refine Run.fieldAddr rfl rfl fo_50_0 rfl rfl ?_
        refine Run.loadO 1 w.length 0 rfl rfl ag_3 rfl rfl rfl rfl gtop rfl ?_
        refine Run.idxR rfl rfl rfl sl_22 rfl rfl hl (by rfl) (by omega) (by omega) ?_
        refine Run.loadR rfl rfl ag_31 rfl rfl gu' ?_
        refine Run.lenR rfl rfl sl_31 rfl rfl hu ?_
        refine Run.int2 rfl rfl rfl rfl rfl rfl ?_
        refine Run.nil ?_
        refine thn_next ?_
        refine WP.ite rfl (fun hlt2 => ?_) (fun hge2 => ?_)
        · refine WP.skip ?_; refine thn_next ?_
          have hkl : k < l.length := by omega
          obtain ⟨c, gc⟩ : ∃ x, l[k]? = some x := ⟨_, List.getElem?_eq_getElem hkl⟩
          have gc' : l[(k : Int).toNat]? = some c := gc
          refine WP.block ?_
          refine WP.seq ?_
          refine WP.drawn0 cf0 mixed rfl (by kernel_rfl) ?_
          refine Run.mv rfl rfl rfl rfl ?_
          refine Run.mv rfl rfl rfl rfl ?_
          refine Run.nilCheck rfl rfl rfl rfl ?_
          refine Run.fieldAddr rfl rfl fo_50_0 rfl rfl ?_
          refine Run.loadO 1 w.length 0 rfl rfl ag_3 rfl rfl rfl rfl gtop rfl ?_
          refine Run.idxR rfl rfl rfl sl_22 rfl rfl hl (by rfl) (by omega) (by omega) ?_
          refine Run.loadR rfl rfl ag_31 rfl rfl gu' ?_
          refine Run.mv rfl rfl rfl rfl ?_
          refine Run.nilCheck rfl rfl rfl rfl ?_
          refine Run.fieldAddr rfl rfl fo_50_1 rfl rfl ?_
          refine Run.loadO 1 w.length 1 rfl rfl ag_3 rfl rfl rfl rfl gtop rfl ?_
          refine Run.idxR rfl rfl rfl sl_31 rfl rfl hu (by rfl) (by omega) (by omega) ?_
          refine Run.loadR rfl rfl ag_3 rfl rfl (SlR.cell0 hu gc' rfl) ?_
          refine Run.mv rfl rfl rfl rfl ?_
          refine Run.nil ?_
          refine thn_next ?_
          refine WP.seq ?_
          refine WP.plain cf0 rfl ?_
          refine Run.mv rfl rfl rfl rfl ?_
          refine Run.nilCheck rfl rfl rfl rfl ?_
          refine Run.fieldAddr rfl rfl fo_50_1 rfl rfl ?_
          refine Run.loadO 1 w.length 1 rfl rfl ag_3 rfl rfl rfl rfl gtop rfl ?_
          refine Run.add64 rfl rfl rfl rfl rfl (by first | omega | (simp <;> omega)) (by first | omega | (simp <;> omega)) ?_
          refine Run.nilCheck rfl rfl rfl rfl ?_
          refine Run.fieldAddr rfl rfl fo_50_1 rfl rfl ?_
          refine Run.storeO 1 w.length 1 (y' := (b, k + 1)) rfl rfl rfl rfl ag_3 rfl rfl rfl rfl gtop rfl rfl ?_
          refine Run.nil ?_
          refine thn_next ?_
          refine WP.via (Γ' := [mpF b10 (seenF S), slA 50 encV wv.val (w ++ [(b, k + 1)]), slA 3 Enc.nat dv.val done]) (by rw [set_top]; exact ent.refl _) ?_
          refine WP.seq ?_
          refine WP.plain cf0 rfl ?_
          refine Run.mv rfl rfl rfl rfl ?_
          refine Run.mv rfl rfl rfl rfl ?_
          refine Run.lookup 0 rfl rfl rfl mt_48 ui_3 zr_3 rfl rfl rfl ?_
          refine Run.eqv (v' := .int .i64 (if c ∈ S then 1 else 0)) (seenF_get S c) ?_
          refine Run.int2 rfl rfl rfl rfl rfl rfl ?_
          refine Run.nil ?_
          refine thn_next ?_
          refine WP.ite rfl (fun hs => ?_) (fun hs => ?_)
          · have hcS : c ∉ S := fun hc => by rw [if_pos hc] at hs; omega
            have hinv' := hk.push gl gc hcS
            have hm' := meas_push (w := w) (k := k) (b := b) (by omega) (hg.lt l (List.mem_of_getElem? gl) c (List.mem_of_getElem? gc)) hcS
            have hlw : (w ++ [(b, k + 1)]).length = w.length + 1 := by simp
            have hlw0 : (w ++ [(b, k0)]).length = w.length + 1 := by simp
            refine WP.seq ?_
            refine WP.plain cf0 rfl ?_
            refine Run.mv rfl rfl rfl rfl ?_
            refine Run.mv rfl rfl rfl rfl ?_
            refine Run.mapUpdate 0 rfl rfl rfl rfl mt_48 ui_3 rfl rfl ?_
            refine Run.nil ?_
            refine thn_next ?_
            refine WP.seq ?_
            refine WP.plain cf0 rfl ?_
            refine Run.mv rfl rfl rfl rfl ?_
            refine Run.mv rfl rfl rfl rfl ?_
            refine Run.build rfl bd_50 rfl rfl rfl rfl ?_
            refine Run.buildSlice (E := encV) rfl sl_51 zr_50 ([(c, 0)]) rfl rfl rfl (by decide) rfl rfl ?_
            intro b64
            refine Run.append 1 rfl rfl rfl rfl rfl rfl sl_51 zr_50 rfl (src_own 3 rfl) (by first | omega | (simp <;> omega)) (by first | omega | (simp <;> omega)) ?_
            intro sv65 hv65
            refine Run.mv rfl rfl rfl rfl ?_
            refine Run.nil ?_
            refine thn_next ?_
            refine WP.exit ?_; refine blk_miss rfl ?_; refine thn_exit ?_; refine blk_miss rfl ?_; refine thn_exit ?_; refine blk_hit ?_
            refine thn_next ⟨(c :: S, (w ++ [(b, k + 1)]) ++ [(c, 0)], done, sv65, dv), hinv', Nat.lt_of_lt_of_le hm' hmle, ⟨rfl, rfl, rfl, rfl, trivial⟩, ?_⟩
            simp only
            rw [← seenF_cons]
            exact pick_only [0, 0, 0] _
          · have hcS : c ∈ S := Classical.byContradiction fun hc => by rw [if_neg hc] at hs; exact hs rfl
            refine WP.skip ?_; refine blk_norm ?_
            have hm' := meas_next (tn := tn) (S := S) (w := w) (k := k) (b := b) (c := 0) (by omega)
            refine thn_next ⟨k + 1, ⟨hk.next gl gc hcS, by omega⟩, hm', ⟨rfl, rfl, rfl, rfl, rfl, trivial⟩, ent.refl _⟩
        · refine WP.exit ?_; refine thn_exit ?_; refine thn_exit ?_; refine blk_hit ?_
          refine thn_next ⟨k, ⟨hk, by omega, hmle⟩, ⟨rfl, rfl, rfl, rfl, rfl, trivial⟩, ent.refl _⟩
      rintro k ⟨hk, hkl, hmle⟩
      have gtop := get_top w (b, k)
      have hlw : (w ++ [(b, k)]).length = w.length + 1 := by simp
      have htop2 : (((w ++ [(b, k)]).length : Int) - 1).toNat = w.length := by simp
      have hlens2 := hk.len hg
      refine WP.seq ?_
      refine WP.plain cf0 rfl ?_
      refine Run.mv rfl rfl rfl rfl ?_
      refine Run.mv rfl rfl rfl rfl ?_
      refine Run.nilCheck rfl rfl rfl rfl ?_
      refine Run.fieldAddr rfl rfl fo_50_0 rfl rfl ?_
      refine Run.loadO 1 w.length 0 rfl rfl ag_3 rfl rfl rfl rfl gtop rfl ?_
      refine Run.buildSlice (E := Enc.nat) rfl sl_31 zr_3 ([b]) rfl rfl rfl (by decide) rfl rfl ?_
      intro b71
      refine Run.append 2 rfl rfl rfl rfl rfl rfl sl_31 zr_3 rfl (src_own 3 rfl) (by first | omega | (simp <;> omega)) (by first | omega | (simp <;> omega)) ?_
      intro sv72 hv72
      refine Run.mv rfl rfl rfl rfl ?_
      refine Run.nil ?_
      refine thn_next ?_
      refine WP.plain cf0 rfl ?_
      refine Run.mv rfl rfl rfl rfl ?_
      refine Run.mv rfl rfl rfl rfl ?_
      refine Run.lenO 1 rfl rfl sl_51 rfl rfl rfl ?_
      refine Run.sub64 rfl rfl rfl rfl rfl (by first | omega | (simp <;> omega)) (by first | omega | (simp <;> omega)) ?_
      refine Run.sliceO 1 rfl rfl rfl sl_51 rfl rfl rfl rfl (by first | omega | (simp <;> omega)) (by first | omega | (simp <;> omega)) (by first | omega | (simp <;> omega)) ?_
      refine Run.mv rfl rfl rfl rfl ?_
      refine Run.nil ?_
      refine blk_norm ?_
      refine thn_next ⟨(S, w, done ++ [b], wv.cut 2 0 w.length, sv72), hk.pop gl hkl, Nat.lt_of_lt_of_le meas_pop hmle, ⟨rfl, rfl, ?_, rfl, trivial⟩, ?_⟩
      · simp only [htop2]; rfl
      · simp only [htop2]
        have e : ((w ++ [(b, k)]).take w.length).drop ((0 : Nat) : Int).toNat = w := by simp
        rw [e]
        exact pick_only [0, 0, 0] _
    · refine WP.exit ?_; refine thn_exit ?_; refine thn_exit ?_; refine blk_hit ?_
      have : way = [] := by cases way with
        | nil => rfl
        | cons x w => exact absurd (by simp <;> omega) hge
      subst this
      refine thn_next ⟨(S, done, dv), hinv, ⟨rfl, rfl, trivial⟩, pick_only [2] _⟩
  rintro ⟨S, done, dv⟩ hinv
  simp only at hinv ⊢
  have hdl := hinv.len hg
  simp only [List.length_nil, Nat.zero_add] at hdl
  refine WP.seqMeet (α := Unit) (fun _ => True) (fun _ => [(5, dv.val)]) (fun _ => [slA 3 Enc.nat dv.val done.reverse]) ?_ ?_
  · refine WP.seq ?_
    refine WP.plain cf0 rfl ?_
    refine Run.mv rfl rfl rfl rfl ?_
    refine Run.lenO 0 rfl rfl sl_31 rfl rfl rfl ?_
    refine Run.sub64 rfl rfl rfl rfl rfl (by first | omega | (simp <;> omega)) (by first | omega | (simp <;> omega)) ?_
    refine Run.mv rfl rfl rfl rfl ?_
    refine Run.mv rfl rfl rfl rfl ?_
    refine Run.nil ?_
    refine thn_next ?_
    refine WP.block ?_
    refine WP.loop (α := Nat × List Nat) (fun z => z.1 ≤ done.length ∧ RevI done z.1 z.2) (fun z => [(5, dv.val), (8, .int .i64 (z.1 : Int)), (9, .int .i64 ((done.length : Int) - 1 - z.1))]) (fun z => [slA 3 Enc.nat dv.val z.2]) (fun z => done.length - z.1)
      (0, done) ⟨Nat.zero_le _, RevI.start done⟩ ⟨rfl, rfl, by simp [Env.get], trivial⟩ (ent.refl _) ?_
    rintro ⟨i, ys⟩ ⟨hi, hrev⟩
    simp only at hi hrev ⊢
    have hyl := hrev.1
    refine WP.seq ?_
    refine WP.seq ?_
    refine WP.plain cf0 rfl ?_
    refine Run.mv rfl rfl rfl rfl ?_
    refine Run.mv rfl rfl rfl rfl ?_
    refine Run.int2 rfl rfl rfl rfl rfl rfl ?_
    refine Run.nil ?_
    refine thn_next ?_
    refine WP.ite rfl (fun hlt => ?_) (fun hge => ?_)
    · refine WP.skip ?_; refine thn_next ?_
      have h2 : 2 * i + 1 < done.length := by omega
      obtain ⟨a, ga⟩ : ∃ x, ys[i]? = some x := ⟨_, List.getElem?_eq_getElem (by omega)⟩
      obtain ⟨c, gc⟩ : ∃ x, ys[done.length - 1 - i]? = some x := ⟨_, List.getElem?_eq_getElem (by omega)⟩
      have ej : ((done.length : Int) - 1 - (i : Int)).toNat = done.length - 1 - i := by omega
      have gc2 : (ys.set i c)[done.length - 1 - i]? = some c := by rw [List.getElem?_set_ne (by omega)]; exact gc
      have hsl : (ys.set i c).length = done.length := by simp [hyl]
      refine WP.seq ?_
      refine WP.block ?_
      refine WP.drawn0 cf0 mixed rfl (by kernel_rfl) ?_
      refine Run.mv rfl rfl rfl rfl ?_
      refine Run.mv rfl rfl rfl rfl ?_
      refine Run.mv rfl rfl rfl rfl ?_
      refine Run.mv rfl rfl rfl rfl ?_
      refine Run.mv rfl rfl rfl rfl ?_
      refine Run.mv rfl rfl rfl rfl ?_
      refine Run.idxO 0 rfl rfl rfl sl_31 rfl rfl rfl rfl (by first | omega | (simp <;> omega)) (by first | omega | (simp <;> omega)) ?_
      refine Run.eqv (v' := .pointer (some (elemAddr dv.val ((done.length - 1 - i) * 1)))) (by rw [ej]; rfl) ?_
      refine Run.loadO 0 (done.length - 1 - i) 0 rfl rfl ag_3 rfl rfl rfl rfl gc rfl ?_
      refine Run.mv rfl rfl rfl rfl ?_
      refine Run.mv rfl rfl rfl rfl ?_
      refine Run.idxO 0 rfl rfl rfl sl_31 rfl rfl rfl rfl (by first | omega | (simp <;> omega)) (by first | omega | (simp <;> omega)) ?_
      refine Run.loadO 0 i 0 rfl rfl ag_3 rfl rfl rfl rfl ga rfl ?_
      refine Run.idxO 0 rfl rfl rfl sl_31 rfl rfl rfl rfl (by first | omega | (simp <;> omega)) (by first | omega | (simp <;> omega)) ?_
      refine Run.storeO 0 i 0 (y' := c) rfl rfl rfl rfl ag_3 rfl rfl rfl rfl ga rfl rfl ?_
      refine Run.idxO 0 rfl rfl rfl sl_31 rfl rfl rfl rfl (by first | omega | (simp <;> omega)) (by first | omega | (simp <;> omega)) ?_
      refine Run.eqv (v' := .pointer (some (elemAddr dv.val ((done.length - 1 - i) * 1)))) (by rw [ej]; rfl) ?_
      refine Run.storeO 0 (done.length - 1 - i) 0 (y' := a) rfl rfl rfl rfl ag_3 rfl rfl rfl rfl gc2 rfl rfl ?_
      refine Run.nil ?_
      refine blk_norm ?_; refine thn_next ?_
      refine WP.plain cf0 rfl ?_
      refine Run.mv rfl rfl rfl rfl ?_
      refine Run.add64 rfl rfl rfl rfl rfl (by first | omega | (simp <;> omega)) (by first | omega | (simp <;> omega)) ?_
      refine Run.mv rfl rfl rfl rfl ?_
      refine Run.sub64 rfl rfl rfl rfl rfl (by first | omega | (simp <;> omega)) (by first | omega | (simp <;> omega)) ?_
      refine Run.mv rfl rfl rfl rfl ?_
      refine Run.mv rfl rfl rfl rfl ?_
      refine Run.nil ?_
      refine thn_next ⟨(i + 1, (ys.set i c).set (done.length - 1 - i) a), ⟨by simp only; omega, hrev.step h2 ga gc⟩, by simp only; omega, ⟨rfl, rfl, ?_, trivial⟩, ent.refl _⟩
      simp only
      have : (done.length : Int) - 1 - ((i + 1 : Nat) : Int) = (done.length : Int) - 1 - (i : Int) - 1 := by omega
      rw [this]; rfl
    · refine WP.exit ?_; refine thn_exit ?_; refine thn_exit ?_; refine blk_hit ?_
      refine thn_next ⟨(), trivial, ⟨rfl, trivial⟩, ?_⟩
      rw [hrev.end (by omega)]; exact ent.refl _
  rintro _ _
  refine WP.seq ?_
  refine WP.plain cf0 rfl ?_
  refine Run.mv rfl rfl rfl rfl ?_
  refine Run.mv rfl rfl rfl rfl ?_
  refine Run.nil ?_
  refine thn_next ?_
  refine WP.ret ?_
  refine scp_ret ?_
  exact retT [2] _ rfl rfl ⟨dv, done.reverse, rfl, hinv.lined, rfl⟩
end Go.Proofs.Ytifpejpeophlbaa
