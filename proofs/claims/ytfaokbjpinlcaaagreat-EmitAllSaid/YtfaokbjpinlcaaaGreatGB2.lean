/- The program's lexer: blanks, all tokens; walked. -/
import Derived.Test.YtfaokbjpinlcaaaGreatGA4
import Derived.Test.YtfaokbjpinlcaaaGreatGB1
section
/- The program's lexer: blanks, all tokens; walked. -/
namespace Go.Proofs.YtfaokbjpinlcaaaGreat
open Go.Sep
set_option linter.unusedSimpArgs false
set_option linter.unusedVariables false
set_option maxRecDepth 100000
attribute [local irreducible] blk slA mp mpF rows rowsBut many mpK mpE nameL
/-- nothing is skipped here -/
def StopAt (xs : List Int) (a : Nat) : Prop := a = xs.length ∨ ∃ c, xs[a]? = some c ∧ clsN c = 3
theorem StopAt.name {xs : List Int} (h : nameL xs = true) : StopAt xs 0 := .inr (nameL_spec.1 h).2.1
set_option maxHeartbeats 4000000 in
theorem skip_ok (hR : Heap) (br : Nat) (sv : SV) (xs : List Int) (a : Nat) (H : TxV hR sv xs) (ha : a ≤ xs.length) :
    Tri Tryz.prog hR 128 #[.pointer (some ⟨br, 0, none⟩)] [blk br [sv.val, .int .i64 (a : Int)] 173] fun v Γ' => ∃ (b : Bool) (a' : Nat), v = .bool b ∧ a ≤ a' ∧ a' ≤ xs.length ∧ (StopAt xs a → b = true ∧ a' = a) ∧ Γ' = [blk br [sv.val, .int .i64 (a' : Int)] 173] := by
  have hl := H.hl
  have hs := H.hs
  refine Tri.ent (Tri.of (args := [.pointer (some ⟨br, 0, none⟩)]) Tryz.func128 rfl Tryz.ntmps128 (by simp) ?_)
  refine Zp ?_
  refine Zm ?_
  refine Ze ?_
  refine WP.scope ?_
  refine Zp ?_
  refine Zm ?_
  refine Ze ?_
  refine WP.seq ?_
  refine WP.label ?_; refine thn_next ?_
  refine WP.trim [0, 2, 3] [0] ?_
  refine WP.meetC (α := Nat × Bool) (fun z => a ≤ z.1 ∧ z.1 ≤ xs.length ∧ (StopAt xs a → z.1 = a)) (fun z => [(3, .bool z.2)]) (fun z => [(0, blk br [sv.val, .int .i64 (z.1 : Int)] 173)]) ?_ ?_
  · refine WP.block ?_
    refine WP.loopC (α := Nat × Bool) (fun z => a ≤ z.1 ∧ z.1 ≤ xs.length ∧ (StopAt xs a → z.1 = a ∧ z.2 = false)) (fun z => [(3, .bool z.2)]) (fun z => [(0, blk br [sv.val, .int .i64 (z.1 : Int)] 173)]) (fun z => xs.length - z.1) (a, false) ⟨Nat.le_refl _, ha, fun _ => ⟨rfl, rfl⟩⟩ ?_
    rintro ⟨i, cm⟩ ⟨h1, h2, hst⟩
    simp only at h1 h2 hst ⊢
    refine WP.trim [0, 2, 3] [0] ?_
    refine WP.seq ?_
    refine WP.seq ?_
    refine WP.drawn0 cf0 mixed rfl (by kernel_rfl) ?_
    refine Zm ?_
    refine Zn ?_
    refine Zf fo_173_1 ?_
    refine Zl 0 ag_3 ?_
    refine Zm ?_
    refine Zn ?_
    refine Zf fo_173_0 ?_
    refine Zl 0 ag_140 ?_
    refine Zh sl_140 hs ?_
    refine Zi ?_
    refine Ze ?_
    refine WP.ite rfl (fun hlt => ?_) (fun hge => ?_)
    · refine Zb ?_
      obtain ⟨c, gc⟩ : ∃ c, xs[(i : Int).toNat]? = some c := ⟨_, List.getElem?_eq_getElem (by omega)⟩
      have gc' : xs[i]? = some c := gc
      have hno : StopAt xs a → cm = false ∧ clsN c = 3 := fun h => by
        obtain ⟨e1, e2⟩ := hst h
        subst e1
        refine ⟨e2, ?_⟩
        rcases h with h | ⟨d, hd, h3⟩
        · omega
        · rw [gc'] at hd; cases hd; exact h3
      refine WP.seq ?_
      refine WP.block ?_
      refine WP.seq ?_
      refine WP.drawn0 cf0 mixed rfl (by kernel_rfl) ?_
      refine Zm ?_
      refine Zn ?_
      refine Zf fo_173_0 ?_
      refine Zl 0 ag_140 ?_
      refine Zm ?_
      refine Zn ?_
      refine Zf fo_173_1 ?_
      refine Zl 0 ag_3 ?_
      refine Zx sl_140 hs ?_
      refine Zr ag_5 (SlR.cell0 hs gc rfl) ?_
      refine Zm ?_
      refine Ze ?_
      refine Zp ?_
      refine Zm ?_
      refine Run.callP [] ok_162 (class_ok hR c) ?_; rintro _ _ ⟨rfl, rfl⟩
      refine Zm ?_
      refine Ze ?_
      refine WP.trim [0, 2, 3, 4, 5] [0] ?_
      refine WP.block ?_
      refine WP.seqCut [(0, .pointer (some ⟨br, 0, none⟩)), (2, .bool false), (3, .bool cm), (4, .int .u8 c), (5, .int .i64 (clsN c)), (35, .bool (decide (cm = true ∧ clsN c = 0)))] [blk br [sv.val, .int .i64 (i : Int)] 173] ?_ ?_
      · cases cm
        all_goals
          refine Zc ?_
          all_goals (first | refine Zm ?_)
          all_goals (first | refine Zm ?_)
          all_goals (first | refine Zv ?_ | refine Zm ?_)
          all_goals (first | refine Zv ?_ | refine Zi ?_)
          all_goals (first | refine Zq ?_)
          all_goals (first | refine Zm ?_)
          all_goals (refine Run.nil ?_)
          all_goals refine thn_next ⟨⟨rfl, rfl, rfl, rfl, rfl, ?_, trivial⟩, ent.go⟩
          all_goals simp [Env.get]
      refine WP.ite rfl (fun h6 => ?_) (fun h6 => ?_)
      · refine Zp ?_
        refine Zm ?_
        refine Ze ?_
        refine WP.ret ?_; refine blk_ret ?_; refine blk_ret ?_; refine thn_ret ?_; refine thn_ret ?_; refine blk_ret ?_; refine thn_ret ?_
        refine scp_ret ?_
        exact retT [2] _ rfl rfl ⟨[blk br [sv.val, .int .i64 (i : Int)] 173], ent.go, false, i, rfl, h1, h2, (fun h => by obtain ⟨e1, e2⟩ := hno h; rw [h6.1] at e1; cases e1), rfl⟩
      refine Zp ?_
      refine Zm ?_
      refine Run.eqv (v' := .bool (decide (cm = true))) (by cases cm <;> rfl) ?_
      refine Zm ?_
      refine Ze ?_
      refine WP.ite rfl (fun h8 => ?_) (fun h8 => ?_)
      · refine Zc ?_
        refine Zm ?_
        refine Zi ?_
        refine Zm ?_
        refine Run.nil ?_
        refine blk_norm ?_; refine blk_norm ?_; refine thn_next ?_
        refine Zc ?_
        refine Zm ?_
        refine Zn ?_
        refine Zf fo_173_1 ?_
        refine Zl 0 ag_3 ?_
        refine Za ?_
        refine Zn ?_
        refine Zf fo_173_1 ?_
        refine Run.storeB 0 rfl rfl rfl rfl ag_3 rfl rfl rfl rfl rfl ?_
        refine Run.nil ?_
        exact thn_next ⟨(i + 1, decide (c ≠ 10)), ⟨by simp only; omega, by simp only; omega, (fun h => by obtain ⟨e1, e2⟩ := hno h; rw [h8] at e1; cases e1)⟩, by simp only; omega, Ko.go, ent.gc⟩
      refine Zp ?_
      refine Zm ?_
      refine Zi ?_
      refine Zm ?_
      refine Ze ?_
      refine WP.ite rfl (fun h10 => ?_) (fun h10 => ?_)
      · refine WP.exit ?_; refine blk_miss rfl ?_; refine blk_hit ?_; refine thn_next ?_
        refine Zc ?_
        refine Zm ?_
        refine Zn ?_
        refine Zf fo_173_1 ?_
        refine Zl 0 ag_3 ?_
        refine Za ?_
        refine Zn ?_
        refine Zf fo_173_1 ?_
        refine Run.storeB 0 rfl rfl rfl rfl ag_3 rfl rfl rfl rfl rfl ?_
        refine Run.nil ?_
        exact thn_next ⟨(i + 1, cm), ⟨by simp only; omega, by simp only; omega, (fun h => by obtain ⟨e1, e2⟩ := hno h; omega)⟩, by simp only; omega, Ko.go, ent.gc⟩
      have hcut := H.cut (a := i) (by omega)
      have hcl : (xs.drop i).length = xs.length - i := List.length_drop ..
      refine WP.seqCut [(0, .pointer (some ⟨br, 0, none⟩)), (2, .bool false), (3, .bool cm), (48, .bool (decide (c = 47 ∧ xs[i + 1]? = some 47)))] [blk br [sv.val, .int .i64 (i : Int)] 173] ?_ ?_
      · by_cases hh : i + 1 < xs.length
        · obtain ⟨d, gd⟩ : ∃ d, (xs.drop i)[(1 : Int).toNat]? = some d := ⟨_, List.getElem?_eq_getElem (by rw [hcl]; show 1 < _; omega)⟩
          have gd' : xs[i + 1]? = some d := by rw [← List.getElem?_drop]; exact gd
          rw [gd']
          refine Zc ?_
          all_goals (first | refine Zm ?_)
          all_goals (first | refine Zi ?_)
          all_goals (first | refine Run.tt (by first | assumption | omega) ?_ | refine Run.ff (by first | assumption | omega) ?_ | refine Run.split (fun hc50 => ?_) (fun hc50 => ?_) | refine Run.splitB (fun hc50 => ?_) (fun hc50 => ?_) | skip)
          all_goals (first | refine Zm ?_)
          all_goals (first | refine Zv ?_ | refine Zm ?_)
          all_goals (first | refine Zv ?_ | refine Run.callP [0] ok_163 (rest_ok hR br sv xs i H.hs H.hn H.hc (by omega)) ?_; rintro _ _ ⟨rfl, rfl⟩)
          all_goals (first | refine Zv ?_ | refine Zh sl_140 hcut ?_; rw [hcl])
          all_goals (first | refine Zv ?_ | refine Zi ?_)
          all_goals (first | refine Run.tt (by first | assumption | omega) ?_ | refine Run.ff (by first | assumption | omega) ?_ | refine Run.split (fun hc55 => ?_) (fun hc55 => ?_) | refine Run.splitB (fun hc55 => ?_) (fun hc55 => ?_) | skip)
          all_goals (first | refine Zq ?_)
          all_goals (first | refine Zm ?_)
          all_goals (first | refine Zv ?_ | refine Zm ?_)
          all_goals (first | refine Zv ?_ | refine Run.callP [0] ok_163 (rest_ok hR br sv xs i H.hs H.hn H.hc (by omega)) ?_; rintro _ _ ⟨rfl, rfl⟩)
          all_goals (first | refine Zv ?_ | refine Run.idxR rfl rfl rfl sl_140 rfl rfl hcut (by rfl) (by omega) (by rw [hcl]; omega) ?_)
          all_goals (first | refine Zv ?_ | refine Zr ag_5 (SlR.cell0 hcut gd rfl) ?_)
          all_goals (first | refine Zv ?_ | refine Zi ?_)
          all_goals (first | refine Zq ?_)
          all_goals (first | refine Zm ?_)
          all_goals (refine Run.nil ?_)
          all_goals refine thn_next ⟨⟨rfl, rfl, rfl, ?_, trivial⟩, ent.go⟩
          all_goals simp [Env.get, *]
        · rw [List.getElem?_eq_none (by omega)]
          refine Zc ?_
          all_goals (first | refine Zm ?_)
          all_goals (first | refine Zi ?_)
          all_goals (first | refine Run.tt (by first | assumption | omega) ?_ | refine Run.ff (by first | assumption | omega) ?_ | refine Run.split (fun hc50 => ?_) (fun hc50 => ?_) | refine Run.splitB (fun hc50 => ?_) (fun hc50 => ?_) | skip)
          all_goals (first | refine Zm ?_)
          all_goals (first | refine Zv ?_ | refine Zm ?_)
          all_goals (first | refine Zv ?_ | refine Run.callP [0] ok_163 (rest_ok hR br sv xs i H.hs H.hn H.hc (by omega)) ?_; rintro _ _ ⟨rfl, rfl⟩)
          all_goals (first | refine Zv ?_ | refine Zh sl_140 hcut ?_; rw [hcl])
          all_goals (first | refine Zv ?_ | refine Zi ?_)
          all_goals (first | refine Run.tt (by first | assumption | omega) ?_ | refine Run.ff (by first | assumption | omega) ?_ | refine Run.split (fun hc55 => ?_) (fun hc55 => ?_) | refine Run.splitB (fun hc55 => ?_) (fun hc55 => ?_) | skip)
          all_goals (first | refine Zq ?_)
          all_goals (first | refine Zm ?_)
          all_goals (first | refine Zv ?_ | refine Zm ?_)
          all_goals (first | refine Zv ?_ | fail)
          all_goals (first | refine Zv ?_ | fail)
          all_goals (first | refine Zv ?_ | fail)
          all_goals (first | refine Zv ?_ | refine Zi ?_)
          all_goals (first | refine Zq ?_)
          all_goals (first | refine Zm ?_)
          all_goals (refine Run.nil ?_)
          all_goals refine thn_next ⟨⟨rfl, rfl, rfl, ?_, trivial⟩, ent.go⟩
          all_goals simp [Env.get, *]
      refine WP.ite rfl (fun h11 => ?_) (fun h11 => ?_)
      · refine Zc ?_
        refine Zm ?_
        refine Run.nil ?_
        refine blk_norm ?_; refine blk_norm ?_; refine thn_next ?_
        refine Zc ?_
        refine Zm ?_
        refine Zn ?_
        refine Zf fo_173_1 ?_
        refine Zl 0 ag_3 ?_
        refine Za ?_
        refine Zn ?_
        refine Zf fo_173_1 ?_
        refine Run.storeB 0 rfl rfl rfl rfl ag_3 rfl rfl rfl rfl rfl ?_
        refine Run.nil ?_
        refine thn_next ⟨(i + 1, true), ⟨by simp only; omega, by simp only; omega, fun h => ?_⟩, by simp only; omega, Ko.go, ent.gc⟩
        obtain ⟨e1, e2⟩ := hno h; rw [h11.1] at e2; exact absurd e2 (by decide)
      · refine WP.exit ?_; refine blk_miss rfl ?_; refine blk_miss rfl ?_; refine thn_exit ?_; refine thn_exit ?_; refine blk_hit ?_
        exact thn_next ⟨(i, cm), ⟨h1, h2, fun h => (hst h).1⟩, Ko.go, ent.gc⟩
    · refine Zj ?_
      exact thn_next ⟨(i, cm), ⟨h1, h2, fun h => (hst h).1⟩, Ko.go, ent.gc⟩
  rintro ⟨i, cm⟩ ⟨h1, h2, h3⟩
  simp only at h1 h2 h3 ⊢
  refine Zp ?_
  refine Zm ?_
  refine Ze ?_
  refine WP.ret ?_
  refine scp_ret ?_
  exact retT [2] _ rfl rfl ⟨[blk br [sv.val, .int .i64 (i : Int)] 173], ent.go, true, i, rfl, h1, h2, fun h => ⟨rfl, h3 h⟩, rfl⟩
end Go.Proofs.YtfaokbjpinlcaaaGreat
end
section
/- The program's lexer: all tokens; a function's name; walked. -/
namespace Go.Proofs.YtfaokbjpinlcaaaGreat
open Go.Sep
set_option linter.unusedSimpArgs false
set_option linter.unusedVariables false
set_option maxRecDepth 100000
attribute [local irreducible] blk slA mp mpF rows rowsBut many mpK mpE nameL roP
structure TK where
  k : Int
  t : Int
  v : Int
  nm : ByteArray
def encTok : Enc TK := ⟨4, fun x => [.int .i64 x.k, .int .i64 x.t, .int .i64 x.v, .string x.nm], fun _ => rfl, fun _ => rfl⟩
/-- what is known of a lexer's answer -/
def TokRes (xs : List Int) (T : List TK) (e : Int) : Prop :=
  (∀ x ∈ T, x.k = 1 → nmB x.nm = true) ∧ T.length ≤ xs.length ∧ (nameL xs = true → e = 0 ∧ ∃ t v, T = [⟨1, t, v, strOf xs⟩])
/-- on the way -/
def TokGo (xs : List Int) (T : List TK) (a : Nat) : Prop :=
  a ≤ xs.length ∧ (∀ x ∈ T, x.k = 1 → nmB x.nm = true) ∧ T.length ≤ a ∧ (nameL xs = true → (a = 0 ∧ T = []) ∨ (a = xs.length ∧ ∃ t v, T = [⟨1, t, v, strOf xs⟩]))
theorem TokGo.stop {xs : List Int} {T : List TK} {a : Nat} (h : TokGo xs T a) (hn : nameL xs = true) : StopAt xs a := by
  rcases h.2.2.2 hn with ⟨e, _⟩ | ⟨e, _⟩
  · rw [e]; exact StopAt.name hn
  · exact .inl e
theorem TokGo.err {xs : List Int} {T : List TK} {a : Nat} {e : Int} (h : TokGo xs T a) (hx : nameL xs = true → False) : TokRes xs T e :=
  ⟨h.2.1, Nat.le_trans h.2.2.1 h.1, fun hn => (hx hn).elim⟩
theorem TokGo.fin {xs : List Int} {T : List TK} {a : Nat} (h : TokGo xs T a) (h2 : nameL xs = true → a = xs.length) : TokRes xs T 0 :=
  ⟨h.2.1, Nat.le_trans h.2.2.1 h.1, fun hn => ⟨rfl, by
    rcases h.2.2.2 hn with ⟨e, _⟩ | ⟨_, e⟩
    · have := (nameL_spec.1 hn).1.1
      have := h2 hn
      omega
    · exact e⟩⟩
theorem TokGo.snoc {xs : List Int} {T : List TK} {a a1 a2 : Nat} {k t v : Int} {nm : ByteArray} (h : TokGo xs T a) (h1 : StopAt xs a → a1 = a) (hlt : a1 < xs.length) (q2 : a2 ≤ xs.length) (h0 : a ≤ a1)
    (q3 : a1 < a2 ∧ (k = 1 → nmB nm = true)) (q4 : a1 = 0 → nameL xs = true → a2 = xs.length ∧ k = 1 ∧ nm = strOf xs) : TokGo xs (T ++ [⟨k, t, v, nm⟩]) a2 := by
  obtain ⟨g1, g2, g3, g4⟩ := h
  refine ⟨q2, fun x hx => ?_, by rw [List.length_append, List.length_singleton]; omega, fun hn => .inr ?_⟩
  · rcases List.mem_append.1 hx with hx | hx
    · exact g2 x hx
    · rw [List.mem_singleton.1 hx]; exact q3.2
  · rcases g4 hn with ⟨e, eT⟩ | ⟨e, _⟩
    · have e1 := h1 (by rw [e]; exact StopAt.name hn)
      obtain ⟨r1, r2, r3⟩ := q4 (by omega) hn
      exact ⟨r1, t, v, by rw [eT, r2, r3]; rfl⟩
    · have := h1 (.inl e); omega
set_option maxHeartbeats 4000000 in
theorem lexTokens_ok (hR : Heap) (sv : SV) (xs : List Int) (H : TxV hR sv xs) :
    Tri Tryz.prog hR 90 #[sv.val] [] fun v Γ' => ∃ (lv : SV) (T : List TK) (p e : Int), v = .tuple #[lv.val, .int .i64 p, .int .i64 e] ∧ TokRes xs T e ∧ Γ' = [slA 142 encTok lv.val T] := by
  have hl := H.hl
  have hs := H.hs
  refine Tri.ent (Tri.of (args := [sv.val]) Tryz.func90 rfl Tryz.ntmps90 (by simp) ?_)
  refine Zp ?_
  iterate 3 refine Zm ?_
  refine Ze ?_
  refine Zp ?_
  refine Zm ?_
  refine Run.build rfl bd_173 rfl rfl rfl rfl ?_
  refine Run.box rfl rfl rfl rfl rfl ?_
  intro b11
  refine Zm ?_
  refine Ze ?_
  refine Zp ?_
  refine Zm ?_
  refine Ze ?_
  refine WP.block ?_
  refine WP.trim [0, 2, 3, 4, 5, 6] [0] ?_
  refine WP.via (Γ' := [blk b11 [sv.val, .int .i64 0] 173, slA 142 encTok nilS.val []]) (slA_nil 142 encTok _) ?_
  refine WP.loopC (α := Nat × SV × List TK) (fun z => TokGo xs z.2.2 z.1) (fun z => [(6, z.2.1.val)]) (fun z => [(0, blk b11 [sv.val, .int .i64 (z.1 : Int)] 173), (1, slA 142 encTok z.2.1.val z.2.2)]) (fun z => xs.length - z.1) (0, nilS, []) ⟨Nat.zero_le _, fun x hx => by simp at hx, Nat.zero_le _, fun _ => .inl ⟨rfl, rfl⟩⟩ ?_
  rintro ⟨a, ov, T⟩ hg
  simp only at hg ⊢
  have ha := hg.1
  refine WP.block ?_
  refine WP.trim [0, 2, 3, 4, 5, 6] [0, 1] ?_
  refine WP.seq ?_
  refine Zp ?_
  refine Zm ?_
  refine Run.callP [0] ok_128 (skip_ok hR b11 sv xs a H ha) ?_; rintro _ _ ⟨bb, a1, rfl, h1, h2, h3, rfl⟩
  refine Run.bnotB rfl rfl rfl rfl ?_
  refine Run.eqv (v' := .bool (decide (bb = false))) (by cases bb <;> rfl) ?_
  refine Ze ?_
  refine WP.ite rfl (fun hb => ?_) (fun hb => ?_)
  · refine WP.seq ?_
    refine WP.drawn0 cf0 mixed rfl (by kernel_rfl) ?_
    refine Zm ?_
    refine Zm ?_
    refine Zn ?_
    refine Zf fo_173_1 ?_
    refine Zl 0 ag_3 ?_
    iterate 3 refine Zm ?_
    refine Ze ?_
    refine WP.ret ?_; refine thn_ret ?_; refine blk_ret ?_; refine thn_ret ?_; refine blk_ret ?_
    exact retT [2, 3, 4] _ rfl rfl ⟨[slA 142 encTok ov.val T], ent.go, ov, T, _, _, rfl, hg.err (fun hn => by have := (h3 (hg.stop hn)).1; rw [hb] at this; cases this), rfl⟩
  refine Zb ?_
  refine WP.seq ?_
  refine Zp ?_
  refine Zm ?_
  refine Zn ?_
  refine Zf fo_173_1 ?_
  refine Zl 0 ag_3 ?_
  refine Zm ?_
  refine Zh sl_140 hs ?_
  refine Zi ?_
  refine Ze ?_
  refine WP.ite rfl (fun he => ?_) (fun he => ?_)
  · refine Zp ?_
    iterate 4 refine Zm ?_
    refine Ze ?_
    refine WP.ret ?_; refine thn_ret ?_; refine blk_ret ?_; refine thn_ret ?_; refine blk_ret ?_
    exact retT [2, 3, 4] _ rfl rfl ⟨[slA 142 encTok ov.val T], ent.go, ov, T, _, _, rfl, hg.fin (fun hn => by have := (h3 (hg.stop hn)).2; omega), rfl⟩
  refine Zb ?_
  have hlt : a1 < xs.length := by omega
  refine WP.trim [0, 2, 3, 4, 5, 6] [0, 1] ?_
  refine Zp ?_
  refine Zm ?_
  refine Run.callP [0] ok_129 (token_ok hR b11 sv xs a1 H hlt) ?_; rintro _ _ ⟨_, e, a2, rfl, ⟨q1, q2, k, t, v, nm, rfl, q3, q4⟩, rfl⟩
  refine Zm ?_
  refine Run.extract rfl rfl rfl rfl rfl ?_
  refine Run.extract rfl rfl rfl rfl rfl ?_
  refine Run.alloc rfl zr_142 rfl rfl rfl ?_
  intro b7
  refine Run.storeB 2 rfl rfl rfl rfl ag_142 rfl rfl rfl rfl rfl ?_
  refine Zm ?_
  refine Ze ?_
  refine WP.trim [0, 2, 3, 4, 5, 6, 7, 8] [0, 1, 2] ?_
  refine WP.seq ?_
  refine Zp ?_
  refine Zm ?_
  refine Zi ?_
  refine Ze ?_
  refine WP.ite rfl (fun he => ?_) (fun he => ?_)
  · have hne : nameL xs = true → False := fun hn => by
      have e1 := (h3 (hg.stop hn)).2
      rcases hg.2.2.2 hn with ⟨e0, _⟩ | ⟨e0, _⟩
      · exact he (q4 (by omega) hn).1
      · omega
    refine WP.seq ?_
    refine WP.drawn0 cf0 mixed rfl (by kernel_rfl) ?_
    refine Zm ?_
    refine Zm ?_
    refine Zn ?_
    refine Zf fo_173_1 ?_
    refine Zl 0 ag_3 ?_
    iterate 4 refine Zm ?_
    refine Ze ?_
    refine WP.ret ?_; refine thn_ret ?_; refine blk_ret ?_; refine thn_ret ?_; refine blk_ret ?_
    exact retT [2, 3, 4] _ rfl rfl ⟨[slA 142 encTok ov.val T], ent.go, ov, T, _, _, rfl, hg.err hne, rfl⟩
  refine Zb ?_
  have he0 : e = 0 := Decidable.not_not.1 he
  have hgT := hg.2.2.1
  refine Zc ?_
  refine Zm ?_
  refine Run.loadBagg 2 rfl rfl ag_142 rfl rfl rfl rfl rfl ?_
  refine Run.buildSlice (E := encTok) rfl sl_137 zr_142 ([(⟨k, t, v, nm⟩ : TK)]) rfl rfl rfl (by decide) rfl rfl ?_
  intro b43
  refine Run.append (E := encTok) (xs := T) (ys := [(⟨k, t, v, nm⟩ : TK)]) 1 rfl rfl rfl rfl rfl rfl sl_137 zr_142 rfl (src_own 3 rfl) (by simp only [List.length_singleton]; omega) (by simp only [List.length_singleton]; omega) ?_
  intro sv9 hsv9
  refine Zm ?_
  refine Run.nil ?_
  refine blk_norm ?_
  exact thn_next ⟨(a2, sv9, T ++ [⟨k, t, v, nm⟩]), hg.snoc (fun h => (h3 h).2) hlt q2 h1 (q3 he0) (fun h0 hn => (q4 h0 hn).2), by have := (q3 he0).1; simp only; omega, Ko.go, ent.gc⟩
end Go.Proofs.YtfaokbjpinlcaaaGreat
end
section
/- A function's name, by the program; walked. -/
namespace Go.Proofs.YtfaokbjpinlcaaaGreat
open Go.Sep
set_option linter.unusedSimpArgs false
set_option linter.unusedVariables false
set_option maxRecDepth 100000
attribute [local irreducible] blk slA mp mpF rows rowsBut many mpK mpE nameL roP
theorem TokRes.one {s : ByteArray} {x : TK} {e : Int} (h : TokRes (bts s) [x] e) : nmB s = decide (e = 0 ∧ x.k = 1 ∧ x.nm = s) := by
  obtain ⟨h1, _, h3⟩ := h
  cases hn : nmB s with
  | true =>
    obtain ⟨he, t, v, eT⟩ := h3 hn
    simp only [List.cons.injEq, and_true] at eT
    subst eT
    exact (decide_eq_true ⟨he, rfl, strOf_bts s⟩).symm
  | false =>
    refine (decide_eq_false fun hh => ?_).symm
    have := h1 x (List.mem_singleton.2 rfl) hh.2.1
    rw [hh.2.2, hn] at this; cases this
theorem TokRes.many {s : ByteArray} {T : List TK} {e : Int} (h : TokRes (bts s) T e) (hT : T.length ≠ 1) : nmB s = false := by
  cases hn : nmB s with
  | false => rfl
  | true =>
    obtain ⟨_, t, v, eT⟩ := h.2.2 hn
    rw [eT] at hT; exact absurd rfl hT
theorem txv_bts {h : Heap} {b c : Nat} {s : ByteArray} (hs : SlR rdB h (.slice (some ⟨b, 0, none⟩) s.size c) (bts s)) (hl : s.size ≤ 2000000) : TxV h ⟨some ⟨b, 0, none⟩, s.size, c⟩ (bts s) :=
  have hs' : SlR rdB h (SV.val ⟨some ⟨b, 0, none⟩, s.size, c⟩) (bts s) := hs
  ⟨hs', (sl_cap hs').1, (sl_cap hs').2, by rw [bts_len]; exact hl, fun x hx => bts_lt hx⟩
set_option maxHeartbeats 4000000 in
theorem named_ok (hR : Heap) (s : ByteArray) (hl : s.size ≤ 2000000) : Tri Tryz.prog hR 43 #[.string s] [] fun v Γ' => v = .bool (nmB s) ∧ Γ' = [] := by
  refine Tri.ent (Tri.of (args := [.string s]) Tryz.func43 rfl Tryz.ntmps43 (by simp) ?_)
  refine Zp ?_
  refine Zm ?_
  refine Ze ?_
  refine Zp ?_
  refine Zm ?_
  refine Run.toBytes rfl rfl rfl rfl rfl rfl rfl ?_; intro bq cq
  refine Run.callL [] [0] ok_90 (fun g hg hd => lexTokens_ok (un hR g) ⟨some ⟨bq, 0, none⟩, s.size, cq⟩ (bts s) (txv_bts (roP_lend hg hR hd) hl)) ?_; rintro _ _ ⟨lv, T, p, e, rfl, hT, rfl⟩
  refine Zm ?_
  refine Run.extract rfl rfl rfl rfl rfl ?_
  refine Run.extract rfl rfl rfl rfl rfl ?_
  refine Run.extract rfl rfl rfl rfl rfl ?_
  iterate 3 refine Zm ?_
  refine Ze ?_
  refine WP.trim [0, 2, 3, 5] [0] ?_
  have hTl := hT.2.1
  rw [bts_len] at hTl
  refine WP.seqCut [(2, .bool (nmB s))] [] ?_ ?_
  · by_cases h1 : T.length = 1
    · obtain ⟨x, rfl⟩ : ∃ x, T = [x] := List.length_eq_one_iff.1 h1
      rw [hT.one]
      refine Zc ?_
      all_goals (first | refine Zm ?_)
      all_goals (first | refine Zi ?_)
      all_goals (first | refine Run.tt (by first | assumption | omega) ?_ | refine Run.ff (by first | assumption | omega) ?_ | refine Run.split (fun hc14 => ?_) (fun hc14 => ?_) | refine Run.splitB (fun hc14 => ?_) (fun hc14 => ?_) | skip)
      all_goals (first | refine Zm ?_)
      all_goals (first | refine Zv ?_ | refine Zm ?_)
      all_goals (first | refine Zv ?_ | refine Run.lenO 0 rfl rfl sl_137 rfl rfl rfl ?_)
      all_goals (first | refine Zv ?_ | refine Zi ?_)
      all_goals (first | refine Run.tt (by first | assumption | omega) ?_ | refine Run.ff (by first | assumption | omega) ?_ | refine Run.split (fun hc18 => ?_) (fun hc18 => ?_) | refine Run.splitB (fun hc18 => ?_) (fun hc18 => ?_) | skip)
      all_goals (first | refine Zq ?_)
      all_goals (first | refine Zm ?_)
      all_goals (first | refine Zv ?_ | refine Zm ?_)
      all_goals (first | refine Zv ?_ | refine Run.idxO 0 rfl rfl rfl sl_137 rfl rfl rfl rfl (by omega) (by simp) ?_)
      all_goals (first | refine Zv ?_ | refine Zf fo_142_0 ?_)
      all_goals (first | refine Zv ?_ | refine Run.loadO 0 0 0 (y := x) rfl rfl ag_3 rfl rfl rfl rfl rfl rfl ?_)
      all_goals (first | refine Zv ?_ | refine Zi ?_)
      all_goals (first | refine Run.tt (by first | assumption | omega) ?_ | refine Run.ff (by first | assumption | omega) ?_ | refine Run.split (fun hc25 => ?_) (fun hc25 => ?_) | refine Run.splitB (fun hc25 => ?_) (fun hc25 => ?_) | skip)
      all_goals (first | refine Zq ?_)
      all_goals (first | refine Zm ?_)
      all_goals (first | refine Zv ?_ | refine Zm ?_)
      all_goals (first | refine Zv ?_ | refine Run.idxO 0 rfl rfl rfl sl_137 rfl rfl rfl rfl (by omega) (by simp) ?_)
      all_goals (first | refine Zv ?_ | refine Zf fo_142_3 ?_)
      all_goals (first | refine Zv ?_ | refine Run.loadO 0 0 3 (y := x) rfl rfl ag_9 rfl rfl rfl rfl rfl rfl ?_)
      all_goals (first | refine Zv ?_ | refine Zm ?_)
      all_goals (first | refine Zv ?_ | refine Run.eqStr rfl rfl rfl rfl rfl ?_)
      all_goals (first | refine Zq ?_)
      all_goals (first | refine Zm ?_)
      all_goals (refine Run.nil ?_)
      all_goals refine thn_next ⟨⟨?_, trivial⟩, ent.none _⟩
      all_goals simp [Env.get, *]
    · rw [hT.many h1]
      have h1' : ¬ (T.length : Int) = 1 := by omega
      refine Zc ?_
      all_goals (first | refine Zm ?_)
      all_goals (first | refine Zi ?_)
      all_goals (first | refine Run.tt (by first | assumption | omega) ?_ | refine Run.ff (by first | assumption | omega) ?_ | refine Run.split (fun hc14 => ?_) (fun hc14 => ?_) | refine Run.splitB (fun hc14 => ?_) (fun hc14 => ?_) | skip)
      all_goals (first | refine Zm ?_)
      all_goals (first | refine Zv ?_ | refine Zm ?_)
      all_goals (first | refine Zv ?_ | refine Run.lenO 0 rfl rfl sl_137 rfl rfl rfl ?_)
      all_goals (first | refine Zv ?_ | refine Zi ?_)
      all_goals (first | refine Run.tt (by first | assumption | omega) ?_ | refine Run.ff (by first | assumption | omega) ?_ | refine Run.split (fun hc18 => ?_) (fun hc18 => ?_) | refine Run.splitB (fun hc18 => ?_) (fun hc18 => ?_) | skip)
      all_goals (first | refine Zq ?_)
      all_goals (first | refine Zm ?_)
      all_goals (first | refine Zv ?_ | refine Zm ?_)
      all_goals (first | refine Zv ?_ | fail)
      all_goals (first | refine Zv ?_ | refine Zf fo_142_0 ?_)
      all_goals (first | refine Zv ?_ | fail)
      all_goals (first | refine Zv ?_ | refine Zi ?_)
      all_goals (first | refine Run.tt (by first | assumption | omega) ?_ | refine Run.ff (by first | assumption | omega) ?_ | refine Run.split (fun hc25 => ?_) (fun hc25 => ?_) | refine Run.splitB (fun hc25 => ?_) (fun hc25 => ?_) | skip)
      all_goals (first | refine Zq ?_)
      all_goals (first | refine Zm ?_)
      all_goals (first | refine Zv ?_ | refine Zm ?_)
      all_goals (first | refine Zv ?_ | fail)
      all_goals (first | refine Zv ?_ | refine Zf fo_142_3 ?_)
      all_goals (first | refine Zv ?_ | fail)
      all_goals (first | refine Zv ?_ | refine Zm ?_)
      all_goals (first | refine Zv ?_ | refine Run.eqStr rfl rfl rfl rfl rfl ?_)
      all_goals (first | refine Zq ?_)
      all_goals (first | refine Zm ?_)
      all_goals (refine Run.nil ?_)
      all_goals refine thn_next ⟨⟨?_, trivial⟩, ent.none _⟩
      all_goals simp [Env.get, *]
  refine WP.ret ?_
  exact retT [2] _ rfl rfl ⟨_, ent.none _, rfl, rfl⟩
end Go.Proofs.YtfaokbjpinlcaaaGreat
end
section
/- The document's lexer: letters, digits, rows, the words; blanks; walked. -/
namespace Go.Proofs.YtfaokbjpinlcaaaGreat
open Go.Sep
set_option linter.unusedSimpArgs false
set_option linter.unusedVariables false
set_option maxRecDepth 100000
attribute [local irreducible] blk slA mp mpF rows rowsBut many mpK mpE nameL roP
theorem cls3 (c : Int) : (c = 95 ∨ (65 ≤ c ∧ c ≤ 90) ∨ (97 ≤ c ∧ c ≤ 122)) ↔ clsN c = 3 := by
  unfold clsN
  by_cases h1 : c = 95 ∨ (97 ≤ c ∧ c ≤ 122) ∨ (65 ≤ c ∧ c ≤ 90)
  · rw [if_pos h1]; exact ⟨fun _ => rfl, fun _ => by omega⟩
  · rw [if_neg h1]
    refine ⟨fun h => by omega, fun h => ?_⟩
    split at h
    · omega
    · split at h
      · omega
      · split at h <;> omega
theorem cls2 (c : Int) : (48 ≤ c ∧ c ≤ 57) ↔ clsN c = 2 := by
  unfold clsN
  by_cases h1 : c = 95 ∨ (97 ≤ c ∧ c ≤ 122) ∨ (65 ≤ c ∧ c ≤ 90)
  · rw [if_pos h1]; exact ⟨fun _ => by omega, fun h => by omega⟩
  · rw [if_neg h1]
    by_cases h2 : 48 ≤ c ∧ c ≤ 57
    · rw [if_pos h2]; exact ⟨fun _ => rfl, fun _ => h2⟩
    · rw [if_neg h2]
      refine ⟨fun h => by omega, fun h => ?_⟩
      split at h
      · omega
      · split at h <;> omega
theorem letter_ok (hR : Heap) (c : Int) : Tri Tryz.prog hR 178 #[.int .u8 c] [] fun v Γ' => v = .bool (decide (clsN c = 3)) ∧ Γ' = [] := by
  rw [← decide_eq_decide.2 (cls3 c)]
  refine Tri.ent (Tri.of (args := [.int .u8 c]) Tryz.func178 rfl Tryz.ntmps178 (by simp) ?_)
  refine Zp ?_
  refine Zm ?_
  refine Ze ?_
  refine WP.seqCut [(2, .bool (decide (c = 95 ∨ (65 ≤ c ∧ c ≤ 90) ∨ (97 ≤ c ∧ c ≤ 122))))] [] ?_ ?_
  · refine Zc ?_
    all_goals (first | refine Zm ?_)
    all_goals (first | refine Zi ?_)
    all_goals (first | refine Run.tt (by first | assumption | omega) ?_ | refine Run.ff (by first | assumption | omega) ?_ | refine Run.split (fun hc4 => ?_) (fun hc4 => ?_) | refine Run.splitB (fun hc4 => ?_) (fun hc4 => ?_) | skip)
    all_goals (first | refine Zm ?_)
    all_goals (first | refine Zv ?_ | refine Zm ?_)
    all_goals (first | refine Zv ?_ | refine Zi ?_)
    all_goals (first | refine Run.tt (by first | assumption | omega) ?_ | refine Run.ff (by first | assumption | omega) ?_ | refine Run.split (fun hc7 => ?_) (fun hc7 => ?_) | refine Run.splitB (fun hc7 => ?_) (fun hc7 => ?_) | skip)
    all_goals (first | refine Zv ?_ | refine Zm ?_)
    all_goals (first | refine Zv ?_ | refine Zm ?_)
    all_goals (first | refine Zv ?_ | refine Zi ?_)
    all_goals (first | refine Run.tt (by first | assumption | omega) ?_ | refine Run.ff (by first | assumption | omega) ?_ | refine Run.split (fun hc10 => ?_) (fun hc10 => ?_) | refine Run.splitB (fun hc10 => ?_) (fun hc10 => ?_) | skip)
    all_goals (first | refine Zv ?_ | refine Zq ?_)
    all_goals (first | refine Zq ?_)
    all_goals (first | refine Zm ?_)
    all_goals (first | refine Zv ?_ | refine Zm ?_)
    all_goals (first | refine Zv ?_ | refine Zi ?_)
    all_goals (first | refine Run.tt (by first | assumption | omega) ?_ | refine Run.ff (by first | assumption | omega) ?_ | refine Run.split (fun hc15 => ?_) (fun hc15 => ?_) | refine Run.splitB (fun hc15 => ?_) (fun hc15 => ?_) | skip)
    all_goals (first | refine Zv ?_ | refine Zm ?_)
    all_goals (first | refine Zv ?_ | refine Zm ?_)
    all_goals (first | refine Zv ?_ | refine Zi ?_)
    all_goals (first | refine Zv ?_ | refine Zq ?_)
    all_goals (first | refine Zq ?_)
    all_goals (first | refine Zm ?_)
    all_goals (refine Run.nil ?_)
    all_goals refine thn_next ⟨⟨?_, trivial⟩, ent.none _⟩
    all_goals (first | (simp [Env.get]; omega) | (simp [Env.get, *]; omega) | (simp [Env.get, *]; done) | (by_cases x1 : c = 95 <;> by_cases x2 : 65 ≤ c <;> by_cases x3 : c ≤ 90 <;> by_cases x4 : 97 ≤ c <;> by_cases x5 : c ≤ 122 <;> (first | omega | (simp [Env.get, x1, x2, x3, x4, x5]; done))))
  refine WP.ret ?_
  exact retT [2] _ rfl rfl ⟨_, ent.none _, rfl, rfl⟩
theorem digit_ok (hR : Heap) (c : Int) : Tri Tryz.prog hR 181 #[.int .u8 c] [] fun v Γ' => v = .bool (decide (clsN c = 2)) ∧ Γ' = [] := by
  rw [← decide_eq_decide.2 (cls2 c)]
  refine Tri.ent (Tri.of (args := [.int .u8 c]) Tryz.func181 rfl Tryz.ntmps181 (by simp) ?_)
  refine Zp ?_
  refine Zm ?_
  refine Ze ?_
  refine WP.seqCut [(2, .bool (decide (48 ≤ c ∧ c ≤ 57)))] [] ?_ ?_
  · refine Zc ?_
    all_goals (first | refine Zm ?_)
    all_goals (first | refine Zi ?_)
    all_goals (first | refine Run.tt (by first | assumption | omega) ?_ | refine Run.ff (by first | assumption | omega) ?_ | refine Run.split (fun hc4 => ?_) (fun hc4 => ?_) | refine Run.splitB (fun hc4 => ?_) (fun hc4 => ?_) | skip)
    all_goals (first | refine Zm ?_)
    all_goals (first | refine Zv ?_ | refine Zm ?_)
    all_goals (first | refine Zv ?_ | refine Zi ?_)
    all_goals (first | refine Zq ?_)
    all_goals (first | refine Zm ?_)
    all_goals (refine Run.nil ?_)
    all_goals refine thn_next ⟨⟨?_, trivial⟩, ent.none _⟩
    all_goals (first | (simp [Env.get]; omega) | (simp [Env.get, *]; omega) | (simp [Env.get, *]; done))
  refine WP.ret ?_
  exact retT [2] _ rfl rfl ⟨_, ent.none _, rfl, rfl⟩
set_option maxHeartbeats 4000000 in
theorem row_ok (hR : Heap) (sv : SV) (xs : List Int) (a : Nat) (L : Bool) (H : TxV hR sv xs) (ha : a ≤ xs.length) :
    Tri Tryz.prog hR 179 #[sv.val, .int .i64 (a : Int), .bool L] [] fun v Γ' => v = .int .i64 ((a : Int) + (strN L xs a : Int)) ∧ Γ' = [] := by
  have hl := H.hl
  have hs := H.hs
  refine Tri.ent (Tri.of (args := [sv.val, .int .i64 (a : Int), .bool L]) Tryz.func179 rfl Tryz.ntmps179 (by simp) ?_)
  refine Zp ?_
  refine Zm ?_
  refine Ze ?_
  refine WP.meetC (α := Nat) (fun z => strN L xs a = z) (fun z => [(1, .int .i64 ((a : Int) + (z : Int)))]) (fun _ => []) ?_ ?_
  · refine WP.block ?_
    refine WP.loopC (α := Nat) (fun i => a + i ≤ xs.length ∧ ∀ (j : Nat) (c : Int), j < i → xs[a + j]? = some c → ltr L c = true) (fun i => [(1, .int .i64 ((a : Int) + (i : Int)))]) (fun _ => []) (fun i => xs.length - (a + i)) 0 ⟨ha, fun j c h => by omega⟩ ?_
    rintro i ⟨hi, hok⟩
    refine WP.trim [0, 1, 2, 6] [] ?_
    refine WP.seq ?_
    refine WP.seqCut [(0, sv.val), (1, .int .i64 ((a : Int) + (i : Int))), (2, .bool L), (6, .int .i64 0), (27, .bool (decide (xs[a + i]?.any (ltr L) = true)))] [] ?_ ?_
    · by_cases hh : a + i < xs.length
      · obtain ⟨c, gc⟩ : ∃ c, xs[((a : Int) + (i : Int)).toNat]? = some c := ⟨_, List.getElem?_eq_getElem (by omega)⟩
        have gc' : xs[a + i]? = some c := by rw [← gc]; congr 1
        rw [gc']
        cases L
        all_goals
          refine Zc ?_
          all_goals (first | refine Zm ?_)
          all_goals (first | refine Zm ?_)
          all_goals (first | refine Zh sl_140 hs ?_)
          all_goals (first | refine Zi ?_)
          all_goals (first | refine Run.tt (by first | assumption | omega) ?_ | refine Run.ff (by first | assumption | omega) ?_ | refine Run.split (fun hc10 => ?_) (fun hc10 => ?_) | refine Run.splitB (fun hc10 => ?_) (fun hc10 => ?_) | skip)
          all_goals (first | refine Zm ?_)
          all_goals (first | refine Zv ?_ | refine Zm ?_)
          all_goals (first | refine Zv ?_ | refine Zm ?_)
          all_goals (first | refine Zv ?_ | refine Zx sl_140 hs ?_)
          all_goals (first | refine Zv ?_ | refine Zr ag_5 (SlR.cell0 hs gc rfl) ?_)
          all_goals (first | refine Zv ?_ | refine Run.callP [] ok_181 (digit_ok hR c) ?_; rintro _ _ ⟨rfl, rfl⟩)
          all_goals (first | refine Run.tt (by first | assumption | omega) ?_ | refine Run.ff (by first | assumption | omega) ?_ | refine Run.split (fun hc16 => ?_) (fun hc16 => ?_) | refine Run.splitB (fun hc16 => ?_) (fun hc16 => ?_) | skip)
          all_goals (first | refine Zv ?_ | refine Zm ?_)
          all_goals (first | refine Zv ?_ | refine Zm ?_)
          all_goals (first | refine Zv ?_ | refine Zm ?_)
          all_goals (first | refine Zv ?_ | refine Zm ?_)
          all_goals (first | refine Zv ?_ | refine Zm ?_)
          all_goals (first | refine Zv ?_ | refine Zx sl_140 hs ?_)
          all_goals (first | refine Zv ?_ | refine Zr ag_5 (SlR.cell0 hs gc rfl) ?_)
          all_goals (first | refine Zv ?_ | refine Run.callP [] ok_178 (letter_ok hR c) ?_; rintro _ _ ⟨rfl, rfl⟩)
          all_goals (first | refine Zv ?_ | refine Zq ?_)
          all_goals (first | refine Zv ?_ | refine Zq ?_)
          all_goals (first | refine Zq ?_)
          all_goals (refine Run.nil ?_)
          all_goals refine thn_next ⟨⟨rfl, rfl, rfl, rfl, ?_, trivial⟩, ent.none _⟩
          all_goals simp [Env.get, ltr, *]
      · rw [List.getElem?_eq_none (by omega)]
        cases L
        all_goals
          refine Zc ?_
          all_goals (first | refine Zm ?_)
          all_goals (first | refine Zm ?_)
          all_goals (first | refine Zh sl_140 hs ?_)
          all_goals (first | refine Zi ?_)
          all_goals (first | refine Run.tt (by first | assumption | omega) ?_ | refine Run.ff (by first | assumption | omega) ?_ | refine Run.split (fun hc10 => ?_) (fun hc10 => ?_) | refine Run.splitB (fun hc10 => ?_) (fun hc10 => ?_) | skip)
          all_goals (first | refine Zm ?_)
          all_goals (first | refine Zv ?_ | refine Zm ?_)
          all_goals (first | refine Zv ?_ | refine Zm ?_)
          all_goals (first | refine Zv ?_ | fail)
          all_goals (first | refine Zv ?_ | fail)
          all_goals (first | refine Zv ?_ | fail)
          all_goals (first | refine Run.tt (by first | assumption | omega) ?_ | refine Run.ff (by first | assumption | omega) ?_ | refine Run.split (fun hc16 => ?_) (fun hc16 => ?_) | refine Run.splitB (fun hc16 => ?_) (fun hc16 => ?_) | skip)
          all_goals (first | refine Zv ?_ | refine Zm ?_)
          all_goals (first | refine Zv ?_ | refine Zm ?_)
          all_goals (first | refine Zv ?_ | refine Zm ?_)
          all_goals (first | refine Zv ?_ | refine Zm ?_)
          all_goals (first | refine Zv ?_ | refine Zm ?_)
          all_goals (first | refine Zv ?_ | fail)
          all_goals (first | refine Zv ?_ | fail)
          all_goals (first | refine Zv ?_ | fail)
          all_goals (first | refine Zv ?_ | refine Zq ?_)
          all_goals (first | refine Zv ?_ | refine Zq ?_)
          all_goals (first | refine Zq ?_)
          all_goals (refine Run.nil ?_)
          all_goals refine thn_next ⟨⟨rfl, rfl, rfl, rfl, ?_, trivial⟩, ent.none _⟩
          all_goals simp [Env.get, *]
    refine WP.ite rfl (fun hgo => ?_) (fun hst => ?_)
    · refine Zb ?_
      obtain ⟨c, gc, hc⟩ : ∃ c, xs[a + i]? = some c ∧ ltr L c = true := by
        cases gc : xs[a + i]? with
        | none => rw [gc] at hgo; simp at hgo
        | some c => rw [gc] at hgo; exact ⟨c, rfl, by simpa using hgo⟩
      have hlt := (List.getElem?_eq_some_iff.1 gc).1
      refine WP.block ?_
      refine Zc ?_
      refine Zm ?_
      refine Za ?_
      refine Zm ?_
      refine Run.nil ?_
      refine blk_norm ?_
      refine thn_next ⟨i + 1, ⟨by omega, fun j d hj hd => ?_⟩, by omega, by rw [Int.natCast_add, ← Int.add_assoc]; exact Ko.go, ent.gc⟩
      by_cases e : j = i
      · subst e; rw [gc] at hd; cases hd; exact hc
      · exact hok j d (by omega) hd
    · refine Zj ?_
      refine thn_next ⟨i, strN_eq hok hi fun c hc => ?_, Ko.go, ent.gc⟩
      rw [hc] at hst; simpa using hst
  intro z hz
  refine Zp ?_
  refine Zm ?_
  refine Zm ?_
  refine Ze ?_
  refine WP.ret ?_
  exact retT [6] _ rfl rfl ⟨_, ent.none _, by rw [hz]; rfl, rfl⟩
abbrev wordV : List Value := [.string ⟨#[102, 117, 110, 99]⟩, .string ⟨#[118, 97, 114]⟩, .string ⟨#[105, 102]⟩, .string ⟨#[101, 108, 115, 101]⟩, .string ⟨#[102, 111, 114]⟩, .string ⟨#[114, 101, 116, 117, 114, 110]⟩, .string ⟨#[98, 114, 101, 97, 107]⟩, .string ⟨#[99, 111, 110, 116, 105, 110, 117, 101]⟩, .string ⟨#[112, 114, 105, 110, 116]⟩, .string ⟨#[112, 97, 110, 105, 99]⟩, .string ⟨#[105, 110, 112, 117, 116]⟩, .string ⟨#[108, 101, 110]⟩, .string ⟨#[109, 97, 107, 101]⟩, .string ⟨#[105, 110, 116]⟩, .string ⟨#[98, 111, 111, 108]⟩, .string ⟨#[116, 114, 117, 101]⟩, .string ⟨#[102, 97, 108, 115, 101]⟩, .string ⟨#[110, 105, 108]⟩]
abbrev signV : List Value := [.string ⟨#[40]⟩, .string ⟨#[41]⟩, .string ⟨#[123]⟩, .string ⟨#[125]⟩, .string ⟨#[91]⟩, .string ⟨#[93]⟩, .string ⟨#[44]⟩, .string ⟨#[59]⟩, .string ⟨#[61]⟩, .string ⟨#[61, 61]⟩, .string ⟨#[33, 61]⟩, .string ⟨#[60]⟩, .string ⟨#[60, 61]⟩, .string ⟨#[62]⟩, .string ⟨#[62, 61]⟩, .string ⟨#[43]⟩, .string ⟨#[45]⟩, .string ⟨#[42]⟩, .string ⟨#[47]⟩, .string ⟨#[37]⟩, .string ⟨#[38]⟩, .string ⟨#[124]⟩, .string ⟨#[94]⟩, .string ⟨#[38, 94]⟩, .string ⟨#[60, 60]⟩, .string ⟨#[62, 62]⟩, .string ⟨#[38, 38]⟩, .string ⟨#[124, 124]⟩, .string ⟨#[33]⟩]
theorem words_ok (hR : Heap) : Tri Tryz.prog hR 180 #[] [] fun v Γ' => v = .agg ⟨wordV⟩ ∧ Γ' = [] := by
  refine Tri.ent (Tri.of (args := []) Tryz.func180 rfl Tryz.ntmps180 (by simp) ?_)
  refine Zp ?_
  refine Run.alloc rfl zr_234 rfl rfl rfl ?_
  intro b0
  refine Ze ?_
  refine Zp ?_
  refine Run.buildA rfl ba_234 rfl rfl rfl rfl ?_
  refine Run.storeB 0 rfl rfl rfl rfl ag_234 rfl rfl rfl rfl rfl ?_
  refine Ze ?_
  refine WP.ret ?_
  exact retC 0 0 ag_234 rfl rfl rfl rfl ⟨_, ent.none _, rfl, rfl⟩
def signL : List ByteArray := [⟨#[40]⟩, ⟨#[41]⟩, ⟨#[123]⟩, ⟨#[125]⟩, ⟨#[91]⟩, ⟨#[93]⟩, ⟨#[44]⟩, ⟨#[59]⟩, ⟨#[61]⟩, ⟨#[61, 61]⟩, ⟨#[33, 61]⟩, ⟨#[60]⟩, ⟨#[60, 61]⟩, ⟨#[62]⟩, ⟨#[62, 61]⟩, ⟨#[43]⟩, ⟨#[45]⟩, ⟨#[42]⟩, ⟨#[47]⟩, ⟨#[37]⟩, ⟨#[38]⟩, ⟨#[124]⟩, ⟨#[94]⟩, ⟨#[38, 94]⟩, ⟨#[60, 60]⟩, ⟨#[62, 62]⟩, ⟨#[38, 38]⟩, ⟨#[124, 124]⟩, ⟨#[33]⟩]
theorem ba_237 : baT Tryz.prog 237 = some (List.replicate 29 (.string ⟨#[]⟩), 1) := by kernel_rfl
theorem signs_ok (hR : Heap) : Tri Tryz.prog hR 183 #[] [] fun v Γ' => v = .agg ⟨signV⟩ ∧ Γ' = [] := by
  refine Tri.ent (Tri.of (args := []) Tryz.func183 rfl Tryz.ntmps183 (by simp) ?_)
  refine Zp ?_
  refine Run.alloc rfl zr_237 rfl rfl rfl ?_
  intro b0
  refine Ze ?_
  refine Zp ?_
  refine Run.buildA rfl ba_237 rfl rfl rfl rfl ?_
  refine Run.storeB 0 rfl rfl rfl rfl ag_237 rfl rfl rfl rfl rfl ?_
  refine Ze ?_
  refine WP.ret ?_
  exact retC 0 0 ag_237 rfl rfl rfl rfl ⟨_, ent.none _, rfl, rfl⟩
end Go.Proofs.YtfaokbjpinlcaaaGreat
end
section
/- The document's lexer: blanks, numbers; walked. -/
namespace Go.Proofs.YtfaokbjpinlcaaaGreat
open Go.Sep
set_option linter.unusedSimpArgs false
set_option linter.unusedVariables false
set_option maxRecDepth 100000
attribute [local irreducible] blk slA mp mpF rows rowsBut many mpK mpE nameL roP
set_option maxHeartbeats 4000000 in
theorem number182_ok (hR : Heap) (tv : Value) (ys : List Int) (hs : SlR rdB hR tv ys) (hl : ys.length ≤ 2000000) :
    Tri Tryz.prog hR 182 #[tv] [] fun v Γ' => ∃ (n : Int) (b : Bool), v = .tuple #[.int .i64 n, .bool b] ∧ Γ' = [] := by
  obtain ⟨tv, rfl, _, _⟩ := SlR.sv hs
  refine Tri.ent (Tri.of (args := [tv.val]) Tryz.func182 rfl Tryz.ntmps182 (by simp) ?_)
  refine Zp ?_
  refine Zm ?_
  refine Zm ?_
  refine Ze ?_
  refine WP.seq ?_
  refine WP.seqCut [(0, tv.val), (2, .int .i64 0), (3, .bool false), (19, .bool (decide (((1 : Int) < ys.length ∧ ys[0]? = some 48) ∨ (19 : Int) < ys.length)))] [] ?_ ?_
  · by_cases hh : 1 < ys.length
    · obtain ⟨d, gd⟩ : ∃ d, ys[(0 : Int).toNat]? = some d := ⟨_, List.getElem?_eq_getElem (by show 0 < _; omega)⟩
      have gd' : ys[0]? = some d := gd
      rw [gd']
      refine Zc ?_
      all_goals (first | refine Zm ?_)
      all_goals (first | refine Zh sl_140 hs ?_)
      all_goals (first | refine Zi ?_)
      all_goals (first | refine Run.tt (by first | assumption | omega) ?_ | refine Run.ff (by first | assumption | omega) ?_ | refine Run.split (fun hc8 => ?_) (fun hc8 => ?_) | refine Run.splitB (fun hc8 => ?_) (fun hc8 => ?_) | skip)
      all_goals (first | refine Zm ?_)
      all_goals (first | refine Zv ?_ | refine Zm ?_)
      all_goals (first | refine Zv ?_ | refine Zx sl_140 hs ?_)
      all_goals (first | refine Zv ?_ | refine Zr ag_5 (SlR.cell0 hs gd rfl) ?_)
      all_goals (first | refine Zv ?_ | refine Zi ?_)
      all_goals (first | refine Run.tt (by first | assumption | omega) ?_ | refine Run.ff (by first | assumption | omega) ?_ | refine Run.split (fun hc13 => ?_) (fun hc13 => ?_) | refine Run.splitB (fun hc13 => ?_) (fun hc13 => ?_) | skip)
      all_goals (first | refine Zq ?_)
      all_goals (first | refine Zm ?_)
      all_goals (first | refine Zv ?_ | refine Zm ?_)
      all_goals (first | refine Zv ?_ | refine Zh sl_140 hs ?_)
      all_goals (first | refine Zv ?_ | refine Zi ?_)
      all_goals (first | refine Zq ?_)
      all_goals (refine Run.nil ?_)
      all_goals refine thn_next ⟨⟨rfl, rfl, rfl, ?_, trivial⟩, ent.none _⟩
      all_goals (first | (simp [Env.get, *]; done) | (simp [Env.get, *]; omega))
    · refine Zc ?_
      all_goals (first | refine Zm ?_)
      all_goals (first | refine Zh sl_140 hs ?_)
      all_goals (first | refine Zi ?_)
      all_goals (first | refine Run.tt (by first | assumption | omega) ?_ | refine Run.ff (by first | assumption | omega) ?_ | refine Run.split (fun hc8 => ?_) (fun hc8 => ?_) | refine Run.splitB (fun hc8 => ?_) (fun hc8 => ?_) | skip)
      all_goals (first | refine Zm ?_)
      all_goals (first | refine Zv ?_ | refine Zm ?_)
      all_goals (first | refine Zv ?_ | fail)
      all_goals (first | refine Zv ?_ | fail)
      all_goals (first | refine Zv ?_ | refine Zi ?_)
      all_goals (first | refine Run.tt (by first | assumption | omega) ?_ | refine Run.ff (by first | assumption | omega) ?_ | refine Run.split (fun hc13 => ?_) (fun hc13 => ?_) | refine Run.splitB (fun hc13 => ?_) (fun hc13 => ?_) | skip)
      all_goals (first | refine Zq ?_)
      all_goals (first | refine Zm ?_)
      all_goals (first | refine Zv ?_ | refine Zm ?_)
      all_goals (first | refine Zv ?_ | refine Zh sl_140 hs ?_)
      all_goals (first | refine Zv ?_ | refine Zi ?_)
      all_goals (first | refine Zq ?_)
      all_goals (refine Run.nil ?_)
      all_goals refine thn_next ⟨⟨rfl, rfl, rfl, ?_, trivial⟩, ent.none _⟩
      all_goals (first | (simp [Env.get, *]; done) | (simp [Env.get, *]; omega) | (have e : ¬ (19 : Int) < ys.length := (by omega); simp [Env.get, *]; done) | (have e : ¬ (19 : Int) < ys.length := (by omega); simp [Env.get, *]; omega))
  refine WP.ite rfl (fun h => ?_) (fun h => ?_)
  · refine Zp ?_
    refine Zm ?_
    refine Zm ?_
    refine Ze ?_
    refine WP.ret ?_; refine thn_ret ?_
    exact retT [2, 3] _ rfl rfl ⟨_, ent.none _, _, _, rfl, rfl⟩
  refine Zb ?_
  refine Zp ?_
  refine Zm ?_
  refine Ze ?_
  refine WP.trim [0, 2, 3, 4] [] ?_
  refine WP.meetC (α := Int) (fun _ => True) (fun z => [(4, .int .u64 z)]) (fun _ => []) ?_ ?_
  · refine Zp ?_
    refine Zm ?_
    refine Ze ?_
    refine WP.block ?_
    refine WP.trim [0, 2, 3, 4, 5] [] ?_
    refine WP.loopC (α := Nat × Int) (fun z => z.1 ≤ ys.length) (fun z => [(4, .int .u64 z.2), (5, .int .i64 (z.1 : Int))]) (fun _ => []) (fun z => ys.length - z.1) (0, 0) (Nat.zero_le _) ?_
    rintro ⟨i, w⟩ hi
    simp only at hi ⊢
    refine WP.trim [0, 2, 3, 4, 5] [] ?_
    refine WP.seq ?_
    refine Zp ?_
    refine Zm ?_
    refine Zm ?_
    refine Zh sl_140 hs ?_
    refine Zi ?_
    refine Ze ?_
    refine WP.ite rfl (fun hlt => ?_) (fun hge => ?_)
    · refine Zb ?_
      obtain ⟨d, gd⟩ : ∃ d, ys[(i : Int).toNat]? = some d := ⟨_, List.getElem?_eq_getElem (by omega)⟩
      refine WP.seq ?_
      refine WP.block ?_
      refine Zc ?_
      refine Zm ?_
      refine Zi ?_
      refine Zm ?_
      refine Zm ?_
      refine Zx sl_140 hs ?_
      refine Zr ag_5 (SlR.cell0 hs gd rfl) ?_
      refine Zi ?_
      refine Run.conv rfl rfl rfl rfl rfl rfl ?_
      refine Zi ?_
      refine Zm ?_
      refine Run.nil ?_
      refine blk_norm ?_; refine thn_next ?_
      refine Zc ?_
      refine Zm ?_
      refine Za ?_
      refine Zm ?_
      refine Run.nil ?_
      exact thn_next ⟨(i + 1, IntKind.u64.wrap (IntKind.u64.wrap (10 * w) + IntKind.u64.wrap (IntKind.u8.wrap (d - 48)))), by simp only; omega, by simp only; omega, Ko.go, ent.gc⟩
    · refine Zj ?_
      exact thn_next ⟨w, trivial, Ko.go, ent.gc⟩
  intro w _
  refine WP.seq ?_
  refine Zp ?_
  refine Zm ?_
  refine Zi ?_
  refine Ze ?_
  refine WP.ite rfl (fun h => ?_) (fun h => ?_)
  · refine Zp ?_
    refine Zm ?_
    refine Zm ?_
    refine Ze ?_
    refine WP.ret ?_; refine thn_ret ?_
    exact retT [2, 3] _ rfl rfl ⟨_, ent.none _, _, _, rfl, rfl⟩
  refine Zb ?_
  refine Zp ?_
  refine Zm ?_
  refine Run.conv rfl rfl rfl rfl rfl rfl ?_
  refine Zm ?_
  refine Zm ?_
  refine Ze ?_
  refine WP.ret ?_
  exact retT [2, 3] _ rfl rfl ⟨_, ent.none _, _, _, rfl, rfl⟩
set_option maxHeartbeats 4000000 in
theorem blank_ok (hR : Heap) (sv : SV) (xs : List Int) (a : Nat) (H : TxV hR sv xs) (ha : a ≤ xs.length) :
    Tri Tryz.prog hR 152 #[sv.val, .int .i64 (a : Int)] [] fun v Γ' => ∃ (b : Bool) (a' : Nat), v = .tuple #[.int .i64 (a' : Int), .bool b] ∧ a ≤ a' ∧ a' ≤ xs.length ∧ (StopAt xs a → b = true ∧ a' = a) ∧ Γ' = [] := by
  have hl := H.hl
  have hs := H.hs
  refine Tri.ent (Tri.of (args := [sv.val, .int .i64 (a : Int)]) Tryz.func152 rfl Tryz.ntmps152 (by simp) ?_)
  refine Zp ?_
  refine Zm ?_
  refine Zm ?_
  refine Ze ?_
  refine WP.trim [0, 1, 4, 5] [] ?_
  refine WP.meetC (α := Nat) (fun i => a ≤ i ∧ i ≤ xs.length ∧ (StopAt xs a → i = a)) (fun z => [(1, .int .i64 (z : Int))]) (fun _ => []) ?_ ?_
  · refine WP.block ?_
    refine WP.loopC (α := Nat) (fun i => a ≤ i ∧ i ≤ xs.length ∧ (StopAt xs a → i = a)) (fun z => [(1, .int .i64 (z : Int))]) (fun _ => []) (fun i => xs.length - i) a ⟨Nat.le_refl _, ha, fun _ => rfl⟩ ?_
    rintro i ⟨h1, h2, hst⟩
    refine WP.trim [0, 1, 4, 5] [] ?_
    refine WP.seq ?_
    refine Zp ?_
    refine Zm ?_
    refine Zm ?_
    refine Zh sl_140 hs ?_
    refine Zi ?_
    refine Ze ?_
    refine WP.ite rfl (fun hlt => ?_) (fun hge => ?_)
    · refine Zb ?_
      obtain ⟨c, gc⟩ : ∃ c, xs[(i : Int).toNat]? = some c := ⟨_, List.getElem?_eq_getElem (by omega)⟩
      have gc' : xs[i]? = some c := gc
      have hno : StopAt xs a → clsN c = 3 := fun h => by
        have e1 := hst h
        subst e1
        rcases h with h | ⟨d, hd, h3⟩
        · omega
        · rw [gc'] at hd; cases hd; exact h3
      refine WP.block ?_
      refine Zp ?_
      refine Zm ?_
      refine Zm ?_
      refine Zx sl_140 hs ?_
      refine Zr ag_5 (SlR.cell0 hs gc rfl) ?_
      refine Zm ?_
      refine Ze ?_
      refine WP.seq ?_
      refine WP.seqCut [(0, sv.val), (1, .int .i64 (i : Int)), (4, .int .i64 0), (5, .bool false), (6, .int .u8 c), (28, .bool (decide (c = 9 ∨ c = 10 ∨ c = 13 ∨ c = 32)))] [] ?_ ?_
      · refine Zc ?_
        all_goals (first | refine Zm ?_)
        all_goals (first | refine Zi ?_)
        all_goals (first | refine Run.tt (by first | assumption | omega) ?_ | refine Run.ff (by first | assumption | omega) ?_ | refine Run.split (fun hc16 => ?_) (fun hc16 => ?_) | refine Run.splitB (fun hc16 => ?_) (fun hc16 => ?_) | skip)
        all_goals (first | refine Zm ?_)
        all_goals (first | refine Zv ?_ | refine Zm ?_)
        all_goals (first | refine Zv ?_ | refine Zi ?_)
        all_goals (first | refine Run.tt (by first | assumption | omega) ?_ | refine Run.ff (by first | assumption | omega) ?_ | refine Run.split (fun hc19 => ?_) (fun hc19 => ?_) | refine Run.splitB (fun hc19 => ?_) (fun hc19 => ?_) | skip)
        all_goals (first | refine Zq ?_)
        all_goals (first | refine Zm ?_)
        all_goals (first | refine Zv ?_ | refine Zm ?_)
        all_goals (first | refine Zv ?_ | refine Zi ?_)
        all_goals (first | refine Run.tt (by first | assumption | omega) ?_ | refine Run.ff (by first | assumption | omega) ?_ | refine Run.split (fun hc23 => ?_) (fun hc23 => ?_) | refine Run.splitB (fun hc23 => ?_) (fun hc23 => ?_) | skip)
        all_goals (first | refine Zq ?_)
        all_goals (first | refine Zm ?_)
        all_goals (first | refine Zv ?_ | refine Zm ?_)
        all_goals (first | refine Zv ?_ | refine Zi ?_)
        all_goals (first | refine Zq ?_)
        all_goals (refine Run.nil ?_)
        all_goals refine thn_next ⟨⟨rfl, rfl, rfl, rfl, rfl, ?_, trivial⟩, ent.none _⟩
        all_goals (first | (simp [Env.get, *]; done) | (simp [Env.get, *]; omega) | (simp [Env.get]; omega))
      refine WP.ite rfl (fun h3 => ?_) (fun h3 => ?_)
      · refine Zp ?_
        refine Zm ?_
        refine Za ?_
        refine Zm ?_
        refine Ze ?_
        refine WP.exit ?_; refine thn_exit ?_; refine blk_hit ?_
        exact thn_next ⟨i + 1, ⟨by omega, by omega, fun h => by have := (cls3 c).2 (hno h); omega⟩, by omega, Ko.go, ent.gc⟩
      refine Zb ?_
      refine WP.seq ?_
      refine WP.seqCut [(0, sv.val), (1, .int .i64 (i : Int)), (4, .int .i64 0), (5, .bool false), (6, .int .u8 c), (47, .bool (decide (¬ (c = 47 ∧ xs[i + 1]? = some 47))))] [] ?_ ?_
      · by_cases hh : i + 1 < xs.length
        · obtain ⟨d, gd⟩ : ∃ d, xs[((i : Int) + 1).toNat]? = some d := ⟨_, List.getElem?_eq_getElem (by omega)⟩
          have gd' : xs[i + 1]? = some d := by rw [← gd]; congr 1
          rw [gd']
          refine Zc ?_
          all_goals (first | refine Zm ?_)
          all_goals (first | refine Zi ?_)
          all_goals (first | refine Run.tt (by first | assumption | omega) ?_ | refine Run.ff (by first | assumption | omega) ?_ | refine Run.split (fun hc32 => ?_) (fun hc32 => ?_) | refine Run.splitB (fun hc32 => ?_) (fun hc32 => ?_) | skip)
          all_goals (first | refine Zm ?_)
          all_goals (first | refine Zv ?_ | refine Zm ?_)
          all_goals (first | refine Zv ?_ | refine Za ?_)
          all_goals (first | refine Zv ?_ | refine Zm ?_)
          all_goals (first | refine Zv ?_ | refine Zh sl_140 hs ?_)
          all_goals (first | refine Zv ?_ | refine Zi ?_)
          all_goals (first | refine Run.tt (by first | assumption | omega) ?_ | refine Run.ff (by first | assumption | omega) ?_ | refine Run.split (fun hc38 => ?_) (fun hc38 => ?_) | refine Run.splitB (fun hc38 => ?_) (fun hc38 => ?_) | skip)
          all_goals (first | refine Zq ?_)
          all_goals (first | refine Zm ?_)
          all_goals (first | refine Zv ?_ | refine Zm ?_)
          all_goals (first | refine Zv ?_ | refine Zm ?_)
          all_goals (first | refine Zv ?_ | refine Za ?_)
          all_goals (first | refine Zv ?_ | refine Zx sl_140 hs ?_)
          all_goals (first | refine Zv ?_ | refine Zr ag_5 (SlR.cell0 hs gd rfl) ?_)
          all_goals (first | refine Zv ?_ | refine Zi ?_)
          all_goals (first | refine Zq ?_)
          all_goals (refine Run.nil ?_)
          all_goals refine thn_next ⟨⟨rfl, rfl, rfl, rfl, rfl, ?_, trivial⟩, ent.none _⟩
          all_goals (first | (simp [Env.get, *]; done) | (simp [Env.get, *]; omega))
        · rw [List.getElem?_eq_none (by omega)]
          refine Zc ?_
          all_goals (first | refine Zm ?_)
          all_goals (first | refine Zi ?_)
          all_goals (first | refine Run.tt (by first | assumption | omega) ?_ | refine Run.ff (by first | assumption | omega) ?_ | refine Run.split (fun hc32 => ?_) (fun hc32 => ?_) | refine Run.splitB (fun hc32 => ?_) (fun hc32 => ?_) | skip)
          all_goals (first | refine Zm ?_)
          all_goals (first | refine Zv ?_ | refine Zm ?_)
          all_goals (first | refine Zv ?_ | refine Za ?_)
          all_goals (first | refine Zv ?_ | refine Zm ?_)
          all_goals (first | refine Zv ?_ | refine Zh sl_140 hs ?_)
          all_goals (first | refine Zv ?_ | refine Zi ?_)
          all_goals (first | refine Run.tt (by first | assumption | omega) ?_ | refine Run.ff (by first | assumption | omega) ?_ | refine Run.split (fun hc38 => ?_) (fun hc38 => ?_) | refine Run.splitB (fun hc38 => ?_) (fun hc38 => ?_) | skip)
          all_goals (first | refine Zq ?_)
          all_goals (first | refine Zm ?_)
          all_goals (first | refine Zv ?_ | refine Zm ?_)
          all_goals (first | refine Zv ?_ | refine Zm ?_)
          all_goals (first | refine Zv ?_ | refine Za ?_)
          all_goals (first | refine Zv ?_ | fail)
          all_goals (first | refine Zv ?_ | fail)
          all_goals (first | refine Zv ?_ | refine Zi ?_)
          all_goals (first | refine Zq ?_)
          all_goals (refine Run.nil ?_)
          all_goals refine thn_next ⟨⟨rfl, rfl, rfl, rfl, rfl, ?_, trivial⟩, ent.none _⟩
          all_goals (first | (simp [Env.get, *]; done) | (simp [Env.get, *]; omega))
      refine WP.ite rfl (fun h5 => ?_) (fun h5 => ?_)
      · refine Zp ?_
        iterate 3 refine Zm ?_
        refine Ze ?_
        refine WP.ret ?_; refine thn_ret ?_; refine blk_ret ?_; refine thn_ret ?_; refine blk_ret ?_; refine thn_ret ?_
        exact retT [4, 5] _ rfl rfl ⟨_, ent.none _, true, i, rfl, h1, h2, fun h => ⟨rfl, hst h⟩, rfl⟩
      refine Zb ?_
      have hc47 : c = 47 := (Decidable.not_not.1 h5).1
      have hnostop : StopAt xs a → False := fun h => by have := (cls3 c).2 (hno h); omega
      refine WP.trim [0, 1, 4, 5] [] ?_
      refine WP.block ?_
      refine WP.loopC (α := Nat) (fun j => i ≤ j ∧ j ≤ xs.length) (fun z => [(1, .int .i64 (z : Int))]) (fun _ => []) (fun j => xs.length - j) i ⟨Nat.le_refl _, h2⟩ ?_
      rintro j ⟨g1, g2⟩
      refine WP.trim [0, 1, 4, 5] [] ?_
      refine WP.seq ?_
      refine WP.seqCut [(0, sv.val), (1, .int .i64 (j : Int)), (4, .int .i64 0), (5, .bool false), (59, .bool (decide (xs[j]?.any (fun d => decide (d ≠ 10)) = true)))] [] ?_ ?_
      · by_cases hh : j < xs.length
        · obtain ⟨d, gd⟩ : ∃ d, xs[(j : Int).toNat]? = some d := ⟨_, List.getElem?_eq_getElem (by omega)⟩
          have gd' : xs[j]? = some d := gd
          rw [gd']
          refine Zc ?_
          all_goals (first | refine Zm ?_)
          all_goals (first | refine Zm ?_)
          all_goals (first | refine Zh sl_140 hs ?_)
          all_goals (first | refine Zi ?_)
          all_goals (first | refine Run.tt (by first | assumption | omega) ?_ | refine Run.ff (by first | assumption | omega) ?_ | refine Run.split (fun hc52 => ?_) (fun hc52 => ?_) | refine Run.splitB (fun hc52 => ?_) (fun hc52 => ?_) | skip)
          all_goals (first | refine Zm ?_)
          all_goals (first | refine Zv ?_ | refine Zm ?_)
          all_goals (first | refine Zv ?_ | refine Zm ?_)
          all_goals (first | refine Zv ?_ | refine Zx sl_140 hs ?_)
          all_goals (first | refine Zv ?_ | refine Zr ag_5 (SlR.cell0 hs gd rfl) ?_)
          all_goals (first | refine Zv ?_ | refine Zi ?_)
          all_goals (first | refine Zq ?_)
          all_goals (refine Run.nil ?_)
          all_goals refine thn_next ⟨⟨rfl, rfl, rfl, rfl, ?_, trivial⟩, ent.none _⟩
          all_goals simp [Env.get, *]
        · rw [List.getElem?_eq_none (by omega)]
          refine Zc ?_
          all_goals (first | refine Zm ?_)
          all_goals (first | refine Zm ?_)
          all_goals (first | refine Zh sl_140 hs ?_)
          all_goals (first | refine Zi ?_)
          all_goals (first | refine Run.tt (by first | assumption | omega) ?_ | refine Run.ff (by first | assumption | omega) ?_ | refine Run.split (fun hc52 => ?_) (fun hc52 => ?_) | refine Run.splitB (fun hc52 => ?_) (fun hc52 => ?_) | skip)
          all_goals (first | refine Zm ?_)
          all_goals (first | refine Zv ?_ | refine Zm ?_)
          all_goals (first | refine Zv ?_ | refine Zm ?_)
          all_goals (first | refine Zv ?_ | fail)
          all_goals (first | refine Zv ?_ | fail)
          all_goals (first | refine Zv ?_ | refine Zi ?_)
          all_goals (first | refine Zq ?_)
          all_goals (refine Run.nil ?_)
          all_goals refine thn_next ⟨⟨rfl, rfl, rfl, rfl, ?_, trivial⟩, ent.none _⟩
          all_goals simp [Env.get, *]
      refine WP.ite rfl (fun hgo => ?_) (fun hend => ?_)
      · refine Zb ?_
        obtain ⟨d, gd'⟩ : ∃ d, xs[j]? = some d := by
          cases gc : xs[j]? with
          | none => rw [gc] at hgo; simp at hgo
          | some d => exact ⟨d, rfl⟩
        have hjl := (List.getElem?_eq_some_iff.1 gd').1
        have gd : xs[(j : Int).toNat]? = some d := gd'
        refine WP.block ?_
        refine WP.seq ?_
        refine WP.seqCut [(0, sv.val), (1, .int .i64 (j : Int)), (4, .int .i64 0), (5, .bool false), (85, .bool (decide (d ≠ 9 ∧ d ≠ 13 ∧ (d < 32 ∨ 126 < d))))] [] ?_ ?_
        · refine Zc ?_
          all_goals (first | refine Zm ?_)
          all_goals (first | refine Zm ?_)
          all_goals (first | refine Zx sl_140 hs ?_)
          all_goals (first | refine Zr ag_5 (SlR.cell0 hs gd rfl) ?_)
          all_goals (first | refine Zi ?_)
          all_goals (first | refine Run.tt (by first | assumption | omega) ?_ | refine Run.ff (by first | assumption | omega) ?_ | refine Run.split (fun hc64 => ?_) (fun hc64 => ?_) | refine Run.splitB (fun hc64 => ?_) (fun hc64 => ?_) | skip)
          all_goals (first | refine Zm ?_)
          all_goals (first | refine Zv ?_ | refine Zm ?_)
          all_goals (first | refine Zv ?_ | refine Zm ?_)
          all_goals (first | refine Zv ?_ | refine Zx sl_140 hs ?_)
          all_goals (first | refine Zv ?_ | refine Zr ag_5 (SlR.cell0 hs gd rfl) ?_)
          all_goals (first | refine Zv ?_ | refine Zi ?_)
          all_goals (first | refine Run.tt (by first | assumption | omega) ?_ | refine Run.ff (by first | assumption | omega) ?_ | refine Run.split (fun hc70 => ?_) (fun hc70 => ?_) | refine Run.splitB (fun hc70 => ?_) (fun hc70 => ?_) | skip)
          all_goals (first | refine Zq ?_)
          all_goals (first | refine Zm ?_)
          all_goals (first | refine Zv ?_ | refine Zm ?_)
          all_goals (first | refine Zv ?_ | refine Zm ?_)
          all_goals (first | refine Zv ?_ | refine Zx sl_140 hs ?_)
          all_goals (first | refine Zv ?_ | refine Zr ag_5 (SlR.cell0 hs gd rfl) ?_)
          all_goals (first | refine Zv ?_ | refine Zi ?_)
          all_goals (first | refine Run.tt (by first | assumption | omega) ?_ | refine Run.ff (by first | assumption | omega) ?_ | refine Run.split (fun hc77 => ?_) (fun hc77 => ?_) | refine Run.splitB (fun hc77 => ?_) (fun hc77 => ?_) | skip)
          all_goals (first | refine Zv ?_ | refine Zm ?_)
          all_goals (first | refine Zv ?_ | refine Zm ?_)
          all_goals (first | refine Zv ?_ | refine Zm ?_)
          all_goals (first | refine Zv ?_ | refine Zx sl_140 hs ?_)
          all_goals (first | refine Zv ?_ | refine Zr ag_5 (SlR.cell0 hs gd rfl) ?_)
          all_goals (first | refine Zv ?_ | refine Zi ?_)
          all_goals (first | refine Zv ?_ | refine Zq ?_)
          all_goals (first | refine Zq ?_)
          all_goals (refine Run.nil ?_)
          all_goals refine thn_next ⟨⟨rfl, rfl, rfl, rfl, ?_, trivial⟩, ent.none _⟩
          all_goals (first | (simp [Env.get, *]; done) | (simp [Env.get, *]; omega) | (simp [Env.get]; omega))
        refine WP.ite rfl (fun h8 => ?_) (fun h8 => ?_)
        · refine Zp ?_
          iterate 3 refine Zm ?_
          refine Ze ?_
          refine WP.ret ?_; refine thn_ret ?_; refine blk_ret ?_; refine thn_ret ?_; refine blk_ret ?_; refine blk_ret ?_; refine thn_ret ?_; refine blk_ret ?_; refine thn_ret ?_
          exact retT [4, 5] _ rfl rfl ⟨_, ent.none _, false, j, rfl, by omega, by omega, fun h => (hnostop h).elim, rfl⟩
        refine Zb ?_
        refine Zc ?_
        refine Zm ?_
        refine Za ?_
        refine Zm ?_
        refine Run.nil ?_
        refine blk_norm ?_
        exact thn_next ⟨j + 1, ⟨by omega, by omega⟩, by omega, Ko.go, ent.gc⟩
      · refine Zj ?_; refine blk_norm ?_
        have hji : i < j := by
          rcases Nat.lt_or_ge i j with h | h
          · exact h
          · obtain rfl : i = j := by omega
            rw [gc'] at hend
            exact absurd (by rw [hc47]; rfl) hend
        exact thn_next ⟨j, ⟨by omega, g2, fun h => (hnostop h).elim⟩, by omega, Ko.go, ent.gc⟩
    · refine Zj ?_
      exact thn_next ⟨i, ⟨h1, h2, hst⟩, Ko.go, ent.gc⟩
  rintro i ⟨h1, h2, hst⟩
  refine Zp ?_
  iterate 3 refine Zm ?_
  refine Ze ?_
  refine WP.ret ?_
  exact retT [4, 5] _ rfl rfl ⟨_, ent.none _, true, i, rfl, h1, h2, fun h => ⟨rfl, hst h⟩, rfl⟩
end Go.Proofs.YtfaokbjpinlcaaaGreat
end
section
/- The document's lexer: one token; walked. -/
namespace Go.Proofs.YtfaokbjpinlcaaaGreat
open Go.Sep
set_option linter.unusedSimpArgs false
set_option linter.unusedVariables false
set_option maxRecDepth 100000
attribute [local irreducible] blk slA mp mpF rows rowsBut many mpK mpE nameL roP
theorem TxV.cut3 {h : Heap} {sv : SV} {xs : List Int} (H : TxV h sv xs) {a n : Nat} (hn : a + n ≤ xs.length) : SlR rdB h (sv.cut 1 a (a + n)).val ((xs.drop a).take n) := by
  have := SlR_cut H.hs (lo := a) (hi := a + n) (by omega) hn
  rw [List.drop_take, Nat.add_sub_cancel_left] at this
  exact this
theorem sign_at {k : Nat} {w : ByteArray} (h : signL[k]? = some w) : signV[k]? = some (.string w) := by
  show (signL.map Value.string)[k]? = _
  rw [List.getElem?_map, h]; rfl
theorem word_at' {k : Nat} {w : ByteArray} (h : wordL[k]? = some w) : wordV[k]? = some (.string w) := word_at h
theorem add_at {b i : Nat} {k : Int} (h : k = (i : Int)) : (Addr.mk b 0 none).add (k.toNat * 1) = ⟨b, i, none⟩ := by subst h; simp [Addr.add]; omega
set_option maxHeartbeats 4000000 in
theorem token153_ok (hR : Heap) (sv : SV) (xs : List Int) (a : Nat) (H : TxV hR sv xs) (ha : a < xs.length) :
    Tri Tryz.prog hR 153 #[sv.val, .int .i64 (a : Int)] [] fun v Γ' => ∃ (tv : Value) (e : Int) (a' : Nat), v = .tuple #[tv, .int .i64 (a' : Int), .int .i64 e] ∧ TokOk xs a tv e a' ∧ Γ' = [] := by
  have hl := H.hl
  have hs := H.hs
  have hc := H.hc
  obtain ⟨c, gc⟩ : ∃ c, xs[a]? = some c := ⟨_, List.getElem?_eq_getElem ha⟩
  have gc' : xs[((a : Int)).toNat]? = some c := gc
  refine Tri.ent (Tri.of (args := [sv.val, .int .i64 (a : Int)]) Tryz.func153 rfl Tryz.ntmps153 (by simp) ?_)
  refine Zp ?_
  refine Run.alloc rfl zr_142 rfl rfl rfl ?_
  intro b4
  refine Zm ?_
  refine Zm ?_
  refine Ze ?_
  refine Zp ?_
  refine Zm ?_
  refine Zm ?_
  refine Zx sl_140 hs ?_
  refine Zr ag_5 (SlR.cell0 hs gc' rfl) ?_
  refine Zm ?_
  refine Ze ?_
  refine WP.trim [0, 1, 4, 5, 6, 7] [0] ?_
  refine WP.seq ?_
  refine Zp ?_
  refine Zm ?_
  refine Run.callP [] ok_178 (letter_ok hR c) ?_; rintro _ _ ⟨rfl, rfl⟩
  refine Ze ?_
  refine WP.ite rfl (fun h3 => ?_) (fun h3 => ?_)
  · have hp := strN_pos (letters := true) gc (by unfold ltr; rw [h3]; rfl)
    have hle := strN_le true xs a
    have hcut := H.cut3 (a := a) (n := strN true xs a) (by omega)
    refine Zp ?_
    refine Zm ?_
    refine Zm ?_
    refine Run.callP [] ok_179 (row_ok hR sv xs a true H (by omega)) ?_; rintro _ _ ⟨rfl, rfl⟩
    refine Zm ?_
    refine Ze ?_
    refine WP.seq ?_
    refine Zp ?_
    refine Zm ?_
    refine Zm ?_
    refine Zs ?_
    refine Zi ?_
    refine Ze ?_
    refine WP.ite rfl (fun h64 => ?_) (fun h64 => ?_)
    · refine Zp ?_
      refine Run.build rfl bd_142 rfl rfl rfl rfl ?_
      refine Zm ?_
      refine Run.storeB 0 rfl rfl rfl rfl ag_142 rfl rfl rfl rfl rfl ?_
      refine Zm ?_
      refine Zm ?_
      refine Ze ?_
      refine WP.ret ?_; refine thn_ret ?_; refine thn_ret ?_
      refine retCTT 4 0 5 6 ag_142 rfl rfl rfl rfl rfl rfl ⟨_, ent.none _, _, _, a, rfl, ⟨Nat.le_refl _, by omega, _, _, _, _, rfl, fun h => by simp at h, fun h0 hn => ?_⟩, rfl⟩
      subst h0
      obtain ⟨q1, q2, q3, q4⟩ := nameL_all hn
      omega
    refine Zb ?_
    refine WP.trim [0, 1, 4, 5, 6, 8] [0] ?_
    refine Zp ?_
    iterate 3 refine Zm ?_
    refine Run.sliceV (sv := sv) (il := (a : Int)) (ih := (a : Int) + (strN true xs a : Int)) rfl rfl sl_140 rfl rfl rfl rfl (by omega) (by omega) (by omega) ?_
    refine Run.toStr rfl rfl rfl rfl rfl rfl rfl hcut ?_
    refine Zm ?_
    refine Ze ?_
    generalize hnm : strOf ((xs.drop a).take (strN true xs a)) = nm
    refine Zp ?_
    refine Run.callP [] ok_180 (words_ok hR) ?_; rintro _ _ ⟨rfl, rfl⟩
    refine Run.alloc rfl zr_234 rfl rfl rfl ?_
    intro b10
    refine Run.storeB 1 rfl rfl rfl rfl ag_234 rfl rfl rfl rfl rfl ?_
    refine Ze ?_
    refine WP.trim [0, 1, 4, 5, 6, 8, 9, 10] [0, 1] ?_
    refine WP.meetC (α := Unit) (fun _ => nm ∉ wordL) (fun _ => []) (fun _ => []) ?_ ?_
    · refine Zp ?_
      refine Zm ?_
      refine Ze ?_
      refine WP.block ?_
      refine WP.trim [0, 1, 4, 5, 6, 8, 9, 10, 11] [0, 1] ?_
      refine WP.loopC (α := Nat) (fun i => i ≤ 18 ∧ nm ∉ wordL.take i) (fun i => [(11, .int .i64 (i : Int))]) (fun _ => []) (fun i => 18 - i) 0 ⟨Nat.zero_le _, by simp⟩ ?_
      rintro i ⟨hi, hno⟩
      refine WP.trim [0, 1, 4, 5, 6, 8, 9, 10, 11] [0, 1] ?_
      refine WP.seq ?_
      refine Zp ?_
      refine Zm ?_
      refine Zi ?_
      refine Ze ?_
      refine WP.ite rfl (fun hlt => ?_) (fun hge => ?_)
      · refine Zb ?_
        obtain ⟨w, gw⟩ : ∃ w, wordL[i]? = some w := ⟨_, List.getElem?_eq_getElem (by show _ < 18; omega)⟩
        refine WP.seq ?_
        refine WP.block ?_
        refine Zp ?_
        refine Zm ?_
        refine Run.idxArr rfl rfl rfl ar_234 rfl rfl (by first | omega | (simp <;> omega)) (by first | omega | (simp <;> omega)) ?_
        refine Run.loadB 1 (off := i) (v := .string w) rfl rfl ag_9 rfl rfl rfl (add_at rfl) (word_at' gw) ?_
        refine Zm ?_
        refine Run.eqStr rfl rfl rfl rfl rfl ?_
        refine Ze ?_
        refine WP.ite rfl (fun hy => ?_) (fun hy => ?_)
        · refine Zp ?_
          refine Zm ?_
          refine Za ?_
          refine Zm ?_
          refine Run.build rfl bd_142 rfl rfl rfl rfl ?_
          refine Zm ?_
          refine Run.storeB 0 rfl rfl rfl rfl ag_142 rfl rfl rfl rfl rfl ?_
          refine Zm ?_
          refine Zm ?_
          refine Ze ?_
          refine WP.ret ?_; refine blk_ret ?_; refine thn_ret ?_; refine thn_ret ?_; refine blk_ret ?_; refine thn_ret ?_; refine thn_ret ?_
          refine retCTT 4 0 5 6 ag_142 rfl rfl rfl rfl rfl rfl ⟨_, ent.none _, _, _, a + strN true xs a, by rw [Int.natCast_add]; rfl, ⟨by omega, by omega, _, _, _, _, rfl, fun _ => ⟨by omega, fun hk => by omega⟩, fun h0 hn => ?_⟩, rfl⟩
          subst h0
          obtain ⟨q1, q2, q3, q4⟩ := nameL_all hn
          rw [q1, List.drop_zero, List.take_length] at hnm
          exact absurd (List.mem_of_getElem? gw) (by rw [hy, ← hnm]; exact q4)
        · refine WP.skip ?_; refine blk_norm ?_; refine thn_next ?_
          refine Zc ?_
          refine Zm ?_
          refine Za ?_
          refine Zm ?_
          refine Run.nil ?_
          refine thn_next ⟨i + 1, ⟨by omega, ?_⟩, by omega, Ko.go, ent.gc⟩
          rw [List.take_add_one, gw, List.mem_append]
          rintro (h | h)
          · exact hno h
          · simp at h; exact hy h.symm
      · refine Zj ?_
        refine thn_next ⟨(), fun h => hno ?_, Ko.go, ent.gc⟩
        rw [List.take_of_length_le (by show 18 ≤ i; omega)]; exact h
    intro _ hno
    refine Zp ?_
    refine Zm ?_
    refine Zm ?_
    refine Run.build rfl bd_142 rfl rfl rfl rfl ?_
    refine Zm ?_
    refine Run.storeB 0 rfl rfl rfl rfl ag_142 rfl rfl rfl rfl rfl ?_
    refine Zm ?_
    refine Zm ?_
    refine Ze ?_
    refine WP.ret ?_; refine thn_ret ?_
    refine retCTT 4 0 5 6 ag_142 rfl rfl rfl rfl rfl rfl ⟨_, ent.none _, _, _, a + strN true xs a, by rw [Int.natCast_add]; rfl, ⟨by omega, by omega, _, _, _, _, rfl, fun _ => ⟨by omega, fun _ => by rw [← hnm] at hno ⊢; exact name_mk H gc h3 (by omega) hno⟩, fun h0 hn => ?_⟩, rfl⟩
    subst h0
    obtain ⟨q1, q2, q3, q4⟩ := nameL_all hn
    exact ⟨rfl, by omega, rfl, by rw [← hnm, q1, List.drop_zero, List.take_length]⟩
  refine Zb ?_
  refine WP.trim [0, 1, 4, 5, 6, 7] [0] ?_
  refine WP.seq ?_
  refine Zp ?_
  refine Zm ?_
  refine Run.callP [] ok_181 (digit_ok hR c) ?_; rintro _ _ ⟨rfl, rfl⟩
  refine Ze ?_
  refine WP.ite rfl (fun h2 => ?_) (fun h2 => ?_)
  · have hp := strN_pos (letters := false) gc (by unfold ltr; rw [h2]; rfl)
    have hle := strN_le false xs a
    have hcut := H.cut3 (a := a) (n := strN false xs a) (by omega)
    refine Zp ?_
    refine Zm ?_
    refine Zm ?_
    refine Run.callP [] ok_179 (row_ok hR sv xs a false H (by omega)) ?_; rintro _ _ ⟨rfl, rfl⟩
    refine Zm ?_
    refine Ze ?_
    refine Zp ?_
    iterate 3 refine Zm ?_
    refine Run.sliceV (sv := sv) (il := (a : Int)) (ih := (a : Int) + (strN false xs a : Int)) rfl rfl sl_140 rfl rfl rfl rfl (by omega) (by omega) (by omega) ?_
    refine Run.callP [] ok_182 (number182_ok hR _ _ hcut (by rw [List.length_take, List.length_drop]; omega)) ?_; rintro _ _ ⟨n, bb, rfl, rfl⟩
    refine Zm ?_
    refine Run.extract rfl rfl rfl rfl rfl ?_
    refine Run.extract rfl rfl rfl rfl rfl ?_
    refine Zm ?_
    refine Zm ?_
    refine Ze ?_
    refine WP.seq ?_
    refine Zp ?_
    refine Zm ?_
    refine Run.bnotB rfl rfl rfl rfl ?_
    refine Run.eqv (v' := .bool (decide (bb = false))) (by cases bb <;> rfl) ?_
    refine Ze ?_
    refine WP.ite rfl (fun hb => ?_) (fun hb => ?_)
    · refine Zp ?_
      refine Run.build rfl bd_142 rfl rfl rfl rfl ?_
      refine Zm ?_
      refine Run.storeB 0 rfl rfl rfl rfl ag_142 rfl rfl rfl rfl rfl ?_
      refine Zm ?_
      refine Zm ?_
      refine Ze ?_
      refine WP.ret ?_; refine thn_ret ?_; refine thn_ret ?_
      exact retCTT 4 0 5 6 ag_142 rfl rfl rfl rfl rfl rfl ⟨_, ent.none _, _, _, a, rfl, tok_err gc h3 (by decide), rfl⟩
    refine Zb ?_
    refine Zp ?_
    refine Zm ?_
    refine Zm ?_
    refine Run.build rfl bd_142 rfl rfl rfl rfl ?_
    refine Zm ?_
    refine Run.storeB 0 rfl rfl rfl rfl ag_142 rfl rfl rfl rfl rfl ?_
    refine Zm ?_
    refine Zm ?_
    refine Ze ?_
    refine WP.ret ?_; refine thn_ret ?_
    exact retCTT 4 0 5 6 ag_142 rfl rfl rfl rfl rfl rfl ⟨_, ent.none _, _, _, a + strN false xs a, by rw [Int.natCast_add]; rfl, tok_ok gc h3 (by omega) (by omega) (by decide), rfl⟩
  refine Zb ?_
  refine WP.trim [0, 1, 4, 5, 6, 7] [0] ?_
  refine Zp ?_
  refine Zm ?_
  refine Ze ?_
  refine Zp ?_
  refine Zm ?_
  refine Ze ?_
  refine Zp ?_
  refine Run.callP [] ok_183 (signs_ok hR) ?_; rintro _ _ ⟨rfl, rfl⟩
  refine Run.alloc rfl zr_237 rfl rfl rfl ?_
  intro b17
  refine Run.storeB 1 rfl rfl rfl rfl ag_237 rfl rfl rfl rfl rfl ?_
  refine Ze ?_
  refine WP.trim [0, 1, 4, 5, 6, 15, 16, 17] [0, 1] ?_
  refine WP.meetC (α := Nat × Int) (fun z => z.1 ≠ 0 → a + z.1 ≤ xs.length ∧ 40 ≤ z.2) (fun z => [(15, .int .i64 (z.1 : Int)), (16, .int .i64 z.2)]) (fun _ => []) ?_ ?_
  · refine Zp ?_
    refine Zm ?_
    refine Ze ?_
    refine WP.block ?_
    refine WP.trim [0, 1, 4, 5, 6, 15, 16, 17, 18] [0, 1] ?_
    refine WP.loopC (α := Nat × Nat × Int) (fun z => z.1 ≤ 29 ∧ (z.2.1 ≠ 0 → a + z.2.1 ≤ xs.length ∧ 40 ≤ z.2.2)) (fun z => [(15, .int .i64 (z.2.1 : Int)), (16, .int .i64 z.2.2), (18, .int .i64 (z.1 : Int))]) (fun _ => []) (fun z => 29 - z.1) (0, 0, 0) ⟨Nat.zero_le _, fun h => absurd rfl h⟩ ?_
    rintro ⟨i, best, kd⟩ ⟨hi, hbk⟩
    simp only at hi hbk ⊢
    refine WP.trim [0, 1, 4, 5, 6, 15, 16, 17, 18] [0, 1] ?_
    refine WP.seq ?_
    refine Zp ?_
    refine Zm ?_
    refine Zi ?_
    refine Ze ?_
    refine WP.ite rfl (fun hlt => ?_) (fun hge => ?_)
    · refine Zb ?_
      obtain ⟨s, gs⟩ : ∃ w, signL[i]? = some w := ⟨_, List.getElem?_eq_getElem (by show _ < 29; omega)⟩
      have hss : s.size ≤ 2 := (by decide : ∀ w ∈ signL, w.size ≤ 2) s (List.mem_of_getElem? gs)
      refine WP.seq ?_
      refine WP.block ?_
      refine Zp ?_
      refine Zm ?_
      refine Run.idxArr rfl rfl rfl ar_237 rfl rfl (by first | omega | (simp <;> omega)) (by first | omega | (simp <;> omega)) ?_
      refine Run.loadB 1 (off := i) (v := .string s) rfl rfl ag_9 rfl rfl rfl (add_at rfl) (sign_at gs) ?_
      refine Run.lenStr rfl rfl rfl rfl rfl ?_
      refine Zm ?_
      refine Ze ?_
      refine WP.trim [0, 1, 4, 5, 6, 15, 16, 17, 18, 19] [0, 1] ?_
      refine WP.seqCut [(0, sv.val), (1, .int .i64 (a : Int)), (4, .pointer (some ⟨b4, 0, none⟩)), (5, .int .i64 0), (6, .int .i64 0), (15, .int .i64 (best : Int)), (16, .int .i64 kd), (17, .pointer (some ⟨b17, 0, none⟩)), (18, .int .i64 (i : Int)), (19, .int .i64 (s.size : Int)), (112, .bool (decide ((best : Int) < s.size ∧ (a : Int) + s.size ≤ xs.length ∧ strOf ((xs.drop a).take s.size) = s)))] [blk b4 [.int .i64 0, .int .i64 0, .int .i64 0, .string ⟨#[]⟩] 142, blk b17 signV 237] ?_ ?_
      · refine WP.drawn0 cfS mixed rfl (by kernel_rfl) ?_
        all_goals (first | refine Zm ?_)
        all_goals (first | refine Zm ?_)
        all_goals (first | refine Zi ?_)
        all_goals (first | refine Run.tt (by first | assumption | omega) ?_ | refine Run.ff (by first | assumption | omega) ?_ | refine Run.split (fun hc91 => ?_) (fun hc91 => ?_) | refine Run.splitB (fun hc91 => ?_) (fun hc91 => ?_) | skip)
        all_goals (first | refine Zm ?_)
        all_goals (first | refine Zv ?_ | refine Zm ?_)
        all_goals (first | refine Zv ?_ | refine Zm ?_)
        all_goals (first | refine Zv ?_ | refine Za ?_)
        all_goals (first | refine Zv ?_ | refine Zm ?_)
        all_goals (first | refine Zv ?_ | refine Zh sl_140 hs ?_)
        all_goals (first | refine Zv ?_ | refine Zi ?_)
        all_goals (first | refine Run.tt (by first | assumption | omega) ?_ | refine Run.ff (by first | assumption | omega) ?_ | refine Run.split (fun hc98 => ?_) (fun hc98 => ?_) | refine Run.splitB (fun hc98 => ?_) (fun hc98 => ?_) | skip)
        all_goals (first | refine Zq ?_)
        all_goals (first | refine Zm ?_)
        all_goals (first | refine Zv ?_ | refine Zm ?_)
        all_goals (first | refine Zv ?_ | refine Zm ?_)
        all_goals (first | refine Zv ?_ | refine Zm ?_)
        all_goals (first | refine Zv ?_ | refine Zm ?_)
        all_goals (first | refine Zv ?_ | refine Za ?_)
        all_goals (first | refine Zv ?_ | refine Run.sliceV (sv := sv) (il := (a : Int)) (ih := (a : Int) + (s.size : Int)) rfl rfl sl_140 rfl rfl rfl rfl (by omega) (by omega) (by omega) ?_)
        all_goals (first | refine Zv ?_ | refine Run.toStrF rfl rfl rfl rfl rfl rfl rfl (H.cut3 (a := a) (n := s.size) (by omega)) ?_)
        all_goals (first | refine Zv ?_ | refine Zm ?_)
        all_goals (first | refine Zv ?_ | refine Run.idxArr rfl rfl rfl ar_237 rfl rfl (by first | omega | (simp <;> omega)) (by first | omega | (simp <;> omega)) ?_)
        all_goals (first | refine Zv ?_ | refine Run.loadB 1 (off := i) (v := .string s) rfl rfl ag_9 rfl rfl rfl (add_at rfl) (sign_at gs) ?_)
        all_goals (first | refine Zv ?_ | refine Run.eqStr rfl rfl rfl rfl rfl ?_)
        all_goals (first | refine Zq ?_)
        all_goals (refine Run.nil ?_)
        all_goals refine thn_next ⟨⟨rfl, rfl, rfl, rfl, rfl, rfl, rfl, rfl, rfl, rfl, ?_, trivial⟩, ent.go⟩
        all_goals simp [Env.get, *]
      refine WP.ite rfl (fun hy => ?_) (fun hy => ?_)
      · refine Zp ?_
        refine Zm ?_
        refine Zm ?_
        refine Ze ?_
        refine Zc ?_
        refine Zm ?_
        refine Za ?_
        refine Zm ?_
        refine Run.nil ?_
        refine blk_norm ?_; refine thn_next ?_
        refine Zc ?_
        refine Zm ?_
        refine Za ?_
        refine Zm ?_
        refine Run.nil ?_
        exact thn_next ⟨(i + 1, s.size, 40 + (i : Int)), ⟨by simp only; omega, fun _ => ⟨by simp only; omega, by simp only; omega⟩⟩, by simp only; omega, Ko.go, ent.gc⟩
      · refine WP.skip ?_; refine blk_norm ?_; refine thn_next ?_
        refine Zc ?_
        refine Zm ?_
        refine Za ?_
        refine Zm ?_
        refine Run.nil ?_
        exact thn_next ⟨(i + 1, best, kd), ⟨by simp only; omega, hbk⟩, by simp only; omega, Ko.go, ent.gc⟩
    · refine Zj ?_
      exact thn_next ⟨(best, kd), hbk, Ko.go, ent.gc⟩
  rintro ⟨best, kd⟩ hbk
  simp only at hbk ⊢
  refine WP.seq ?_
  refine Zp ?_
  refine Zm ?_
  refine Zi ?_
  refine Ze ?_
  refine WP.ite rfl (fun h0 => ?_) (fun h0 => ?_)
  · refine Zp ?_
    refine Run.build rfl bd_142 rfl rfl rfl rfl ?_
    refine Zm ?_
    refine Run.storeB 0 rfl rfl rfl rfl ag_142 rfl rfl rfl rfl rfl ?_
    refine Zm ?_
    refine Zm ?_
    refine Ze ?_
    refine WP.ret ?_; refine thn_ret ?_
    exact retCTT 4 0 5 6 ag_142 rfl rfl rfl rfl rfl rfl ⟨_, ent.none _, _, _, a, rfl, tok_err gc h3 (by decide), rfl⟩
  refine Zb ?_
  obtain ⟨hb1, hb2⟩ := hbk (by omega)
  refine Zp ?_
  refine Zm ?_
  refine Zm ?_
  refine Run.build rfl bd_142 rfl rfl rfl rfl ?_
  refine Zm ?_
  refine Zm ?_
  refine Za ?_
  refine Run.storeB 0 rfl rfl rfl rfl ag_142 rfl rfl rfl rfl rfl ?_
  refine Zm ?_
  refine Zm ?_
  refine Ze ?_
  refine WP.ret ?_
  exact retCTT 4 0 5 6 ag_142 rfl rfl rfl rfl rfl rfl ⟨_, ent.none _, _, _, a + best, by rw [Int.natCast_add]; rfl, tok_ok gc h3 (by omega) hb1 (by omega), rfl⟩
end Go.Proofs.YtfaokbjpinlcaaaGreat
end
