/- The program's lexer: blanks, all tokens; walked. -/
import Derived.Test.YtfaokbjpinlcaaaGA4
import Derived.Test.YtfaokbjpinlcaaaGB1
import Derived.Test.YtfaokbjpinlcaaaGA9
import Derived.Test.YtfaokbjpinlcaaaGB0
section
/- The program's lexer: blanks, all tokens; walked. -/
namespace Go.Proofs.Ytfaokbjpinlcaaa
open Go.Sep
set_option linter.unusedSimpArgs false
set_option linter.unusedVariables false
set_option maxRecDepth 100000
attribute [local irreducible] blk slA mp mpF rows rowsBut many mpK mpE nameL
/-- nothing is skipped here -/
def StopAt (xs : List Int) (a : Nat) : Prop := a = xs.length ∨ ∃ c, xs[a]? = some c ∧ clsN c = 3
theorem StopAt.name {xs : List Int} (h : nameL xs = true) : StopAt xs 0 := .inr (nameL_spec.1 h).2.1
set_option maxHeartbeats 4000000 in
theorem skip_ok (hR : Heap) (br : Nat) (sv : SV) (xs : List Int) (a : Nat) (H : TxV hR sv xs) (ha : a ≤ xs.length) :
    Tri Try.prog hR 31 #[.pointer (some ⟨br, 0, none⟩)] [blk br [sv.val, .int .i64 (a : Int)] 91] fun v Γ' => ∃ (b : Bool) (a' : Nat), v = .bool b ∧ a ≤ a' ∧ a' ≤ xs.length ∧ (StopAt xs a → b = true ∧ a' = a) ∧ Γ' = [blk br [sv.val, .int .i64 (a' : Int)] 91] := by
  have hl := H.hl
  have hs := H.hs
  refine Tri.ent (Tri.of (args := [.pointer (some ⟨br, 0, none⟩)]) Try.func31 rfl Try.ntmps31 (by simp) ?_)
  refine Zp ?_
  refine Zm ?_
  refine Ze ?_
  refine WP.scope ?_
  refine Zp ?_
  refine Zm ?_
  refine Ze ?_
  refine WP.seq ?_
  refine WP.label ?_; refine thn_next ?_
  refine WP.trim [0, 2, 3] [0] ?_
  refine WP.meetC (α := Nat × Bool) (fun z => a ≤ z.1 ∧ z.1 ≤ xs.length ∧ (StopAt xs a → z.1 = a)) (fun z => [(3, .bool z.2)]) (fun z => [(0, blk br [sv.val, .int .i64 (z.1 : Int)] 91)]) ?_ ?_
  · refine WP.block ?_
    refine WP.loopC (α := Nat × Bool) (fun z => a ≤ z.1 ∧ z.1 ≤ xs.length ∧ (StopAt xs a → z.1 = a ∧ z.2 = false)) (fun z => [(3, .bool z.2)]) (fun z => [(0, blk br [sv.val, .int .i64 (z.1 : Int)] 91)]) (fun z => xs.length - z.1) (a, false) ⟨Nat.le_refl _, ha, fun _ => ⟨rfl, rfl⟩⟩ ?_
    rintro ⟨i, cm⟩ ⟨h1, h2, hst⟩
    simp only at h1 h2 hst ⊢
    refine WP.trim [0, 2, 3] [0] ?_
    refine WP.seq ?_
    refine WP.seq ?_
    refine WP.drawn0 cf0 mixed rfl (by kernel_rfl) ?_
    refine Zm ?_
    refine Zn ?_
    refine Zf fo_91_1 ?_
    refine Zl 0 ag_3 ?_
    refine Zm ?_
    refine Zn ?_
    refine Zf fo_91_0 ?_
    refine Zl 0 ag_71 ?_
    refine Zh sl_71 hs ?_
    refine Zi ?_
    refine Ze ?_
    refine WP.ite rfl (fun hlt => ?_) (fun hge => ?_)
    · refine Zb ?_
      obtain ⟨c, gc⟩ : ∃ c, xs[(i : Int).toNat]? = some c := ⟨_, List.getElem?_eq_getElem (by omega)⟩
      have gc' : xs[i]? = some c := gc
      have hno : StopAt xs a → cm = false ∧ clsN c = 3 := fun h => by
        obtain ⟨e1, e2⟩ := hst h
        subst e1
        refine ⟨e2, ?_⟩
        rcases h with h | ⟨d, hd, h3⟩
        · omega
        · rw [gc'] at hd; cases hd; exact h3
      refine WP.seq ?_
      refine WP.block ?_
      refine WP.seq ?_
      refine WP.drawn0 cf0 mixed rfl (by kernel_rfl) ?_
      refine Zm ?_
      refine Zn ?_
      refine Zf fo_91_0 ?_
      refine Zl 0 ag_71 ?_
      refine Zm ?_
      refine Zn ?_
      refine Zf fo_91_1 ?_
      refine Zl 0 ag_3 ?_
      refine Zx sl_71 hs ?_
      refine Zr ag_5 (SlR.cell0 hs gc rfl) ?_
      refine Zm ?_
      refine Ze ?_
      refine Zp ?_
      refine Zm ?_
      refine Run.callP [] ok_49 (class_ok hR c) ?_; rintro _ _ ⟨rfl, rfl⟩
      refine Zm ?_
      refine Ze ?_
      refine WP.trim [0, 2, 3, 4, 5] [0] ?_
      refine WP.block ?_
      refine WP.seqCut [(0, .pointer (some ⟨br, 0, none⟩)), (2, .bool false), (3, .bool cm), (4, .int .u8 c), (5, .int .i64 (clsN c)), (35, .bool (decide (cm = true ∧ clsN c = 0)))] [blk br [sv.val, .int .i64 (i : Int)] 91] ?_ ?_
      · cases cm
        all_goals
          refine Zc ?_
          all_goals (first | refine Zm ?_)
          all_goals (first | refine Zm ?_)
          all_goals (first | refine Zv ?_ | refine Zm ?_)
          all_goals (first | refine Zv ?_ | refine Zi ?_)
          all_goals (first | refine Zq ?_)
          all_goals (first | refine Zm ?_)
          all_goals (refine Run.nil ?_)
          all_goals refine thn_next ⟨⟨rfl, rfl, rfl, rfl, rfl, ?_, trivial⟩, ent.go⟩
          all_goals simp [Env.get]
      refine WP.ite rfl (fun h6 => ?_) (fun h6 => ?_)
      · refine Zp ?_
        refine Zm ?_
        refine Ze ?_
        refine WP.ret ?_; refine blk_ret ?_; refine blk_ret ?_; refine thn_ret ?_; refine thn_ret ?_; refine blk_ret ?_; refine thn_ret ?_
        refine scp_ret ?_
        exact retT [2] _ rfl rfl ⟨[blk br [sv.val, .int .i64 (i : Int)] 91], ent.go, false, i, rfl, h1, h2, (fun h => by obtain ⟨e1, e2⟩ := hno h; rw [h6.1] at e1; cases e1), rfl⟩
      refine Zp ?_
      refine Zm ?_
      refine Run.eqv (v' := .bool (decide (cm = true))) (by cases cm <;> rfl) ?_
      refine Zm ?_
      refine Ze ?_
      refine WP.ite rfl (fun h8 => ?_) (fun h8 => ?_)
      · refine Zc ?_
        refine Zm ?_
        refine Zi ?_
        refine Zm ?_
        refine Run.nil ?_
        refine blk_norm ?_; refine blk_norm ?_; refine thn_next ?_
        refine Zc ?_
        refine Zm ?_
        refine Zn ?_
        refine Zf fo_91_1 ?_
        refine Zl 0 ag_3 ?_
        refine Za ?_
        refine Zn ?_
        refine Zf fo_91_1 ?_
        refine Run.storeB 0 rfl rfl rfl rfl ag_3 rfl rfl rfl rfl rfl ?_
        refine Run.nil ?_
        exact thn_next ⟨(i + 1, decide (c ≠ 10)), ⟨by simp only; omega, by simp only; omega, (fun h => by obtain ⟨e1, e2⟩ := hno h; rw [h8] at e1; cases e1)⟩, by simp only; omega, Ko.go, ent.gc⟩
      refine Zp ?_
      refine Zm ?_
      refine Zi ?_
      refine Zm ?_
      refine Ze ?_
      refine WP.ite rfl (fun h10 => ?_) (fun h10 => ?_)
      · refine WP.exit ?_; refine blk_miss rfl ?_; refine blk_hit ?_; refine thn_next ?_
        refine Zc ?_
        refine Zm ?_
        refine Zn ?_
        refine Zf fo_91_1 ?_
        refine Zl 0 ag_3 ?_
        refine Za ?_
        refine Zn ?_
        refine Zf fo_91_1 ?_
        refine Run.storeB 0 rfl rfl rfl rfl ag_3 rfl rfl rfl rfl rfl ?_
        refine Run.nil ?_
        exact thn_next ⟨(i + 1, cm), ⟨by simp only; omega, by simp only; omega, (fun h => by obtain ⟨e1, e2⟩ := hno h; omega)⟩, by simp only; omega, Ko.go, ent.gc⟩
      have hcut := H.cut (a := i) (by omega)
      have hcl : (xs.drop i).length = xs.length - i := List.length_drop ..
      refine WP.seqCut [(0, .pointer (some ⟨br, 0, none⟩)), (2, .bool false), (3, .bool cm), (48, .bool (decide (c = 47 ∧ xs[i + 1]? = some 47)))] [blk br [sv.val, .int .i64 (i : Int)] 91] ?_ ?_
      · by_cases hh : i + 1 < xs.length
        · obtain ⟨d, gd⟩ : ∃ d, (xs.drop i)[(1 : Int).toNat]? = some d := ⟨_, List.getElem?_eq_getElem (by rw [hcl]; show 1 < _; omega)⟩
          have gd' : xs[i + 1]? = some d := by rw [← List.getElem?_drop]; exact gd
          rw [gd']
          refine Zc ?_
          all_goals (first | refine Zm ?_)
          all_goals (first | refine Zi ?_)
          all_goals (first | refine Run.tt (by first | assumption | omega) ?_ | refine Run.ff (by first | assumption | omega) ?_ | refine Run.split (fun hc50 => ?_) (fun hc50 => ?_) | refine Run.splitB (fun hc50 => ?_) (fun hc50 => ?_) | skip)
          all_goals (first | refine Zm ?_)
          all_goals (first | refine Zv ?_ | refine Zm ?_)
          all_goals (first | refine Zv ?_ | refine Run.callP [0] ok_50 (rest_ok hR br sv xs i H.hs H.hn H.hc (by omega)) ?_; rintro _ _ ⟨rfl, rfl⟩)
          all_goals (first | refine Zv ?_ | refine Zh sl_71 hcut ?_; rw [hcl])
          all_goals (first | refine Zv ?_ | refine Zi ?_)
          all_goals (first | refine Run.tt (by first | assumption | omega) ?_ | refine Run.ff (by first | assumption | omega) ?_ | refine Run.split (fun hc55 => ?_) (fun hc55 => ?_) | refine Run.splitB (fun hc55 => ?_) (fun hc55 => ?_) | skip)
          all_goals (first | refine Zq ?_)
          all_goals (first | refine Zm ?_)
          all_goals (first | refine Zv ?_ | refine Zm ?_)
          all_goals (first | refine Zv ?_ | refine Run.callP [0] ok_50 (rest_ok hR br sv xs i H.hs H.hn H.hc (by omega)) ?_; rintro _ _ ⟨rfl, rfl⟩)
          all_goals (first | refine Zv ?_ | refine Run.idxR rfl rfl rfl sl_71 rfl rfl hcut (by rfl) (by omega) (by rw [hcl]; omega) ?_)
          all_goals (first | refine Zv ?_ | refine Zr ag_5 (SlR.cell0 hcut gd rfl) ?_)
          all_goals (first | refine Zv ?_ | refine Zi ?_)
          all_goals (first | refine Zq ?_)
          all_goals (first | refine Zm ?_)
          all_goals (refine Run.nil ?_)
          all_goals refine thn_next ⟨⟨rfl, rfl, rfl, ?_, trivial⟩, ent.go⟩
          all_goals simp [Env.get, *]
        · rw [List.getElem?_eq_none (by omega)]
          refine Zc ?_
          all_goals (first | refine Zm ?_)
          all_goals (first | refine Zi ?_)
          all_goals (first | refine Run.tt (by first | assumption | omega) ?_ | refine Run.ff (by first | assumption | omega) ?_ | refine Run.split (fun hc50 => ?_) (fun hc50 => ?_) | refine Run.splitB (fun hc50 => ?_) (fun hc50 => ?_) | skip)
          all_goals (first | refine Zm ?_)
          all_goals (first | refine Zv ?_ | refine Zm ?_)
          all_goals (first | refine Zv ?_ | refine Run.callP [0] ok_50 (rest_ok hR br sv xs i H.hs H.hn H.hc (by omega)) ?_; rintro _ _ ⟨rfl, rfl⟩)
          all_goals (first | refine Zv ?_ | refine Zh sl_71 hcut ?_; rw [hcl])
          all_goals (first | refine Zv ?_ | refine Zi ?_)
          all_goals (first | refine Run.tt (by first | assumption | omega) ?_ | refine Run.ff (by first | assumption | omega) ?_ | refine Run.split (fun hc55 => ?_) (fun hc55 => ?_) | refine Run.splitB (fun hc55 => ?_) (fun hc55 => ?_) | skip)
          all_goals (first | refine Zq ?_)
          all_goals (first | refine Zm ?_)
          all_goals (first | refine Zv ?_ | refine Zm ?_)
          all_goals (first | refine Zv ?_ | fail)
          all_goals (first | refine Zv ?_ | fail)
          all_goals (first | refine Zv ?_ | fail)
          all_goals (first | refine Zv ?_ | refine Zi ?_)
          all_goals (first | refine Zq ?_)
          all_goals (first | refine Zm ?_)
          all_goals (refine Run.nil ?_)
          all_goals refine thn_next ⟨⟨rfl, rfl, rfl, ?_, trivial⟩, ent.go⟩
          all_goals simp [Env.get, *]
      refine WP.ite rfl (fun h11 => ?_) (fun h11 => ?_)
      · refine Zc ?_
        refine Zm ?_
        refine Run.nil ?_
        refine blk_norm ?_; refine blk_norm ?_; refine thn_next ?_
        refine Zc ?_
        refine Zm ?_
        refine Zn ?_
        refine Zf fo_91_1 ?_
        refine Zl 0 ag_3 ?_
        refine Za ?_
        refine Zn ?_
        refine Zf fo_91_1 ?_
        refine Run.storeB 0 rfl rfl rfl rfl ag_3 rfl rfl rfl rfl rfl ?_
        refine Run.nil ?_
        refine thn_next ⟨(i + 1, true), ⟨by simp only; omega, by simp only; omega, fun h => ?_⟩, by simp only; omega, Ko.go, ent.gc⟩
        obtain ⟨e1, e2⟩ := hno h; rw [h11.1] at e2; exact absurd e2 (by decide)
      · refine WP.exit ?_; refine blk_miss rfl ?_; refine blk_miss rfl ?_; refine thn_exit ?_; refine thn_exit ?_; refine blk_hit ?_
        exact thn_next ⟨(i, cm), ⟨h1, h2, fun h => (hst h).1⟩, Ko.go, ent.gc⟩
    · refine Zj ?_
      exact thn_next ⟨(i, cm), ⟨h1, h2, fun h => (hst h).1⟩, Ko.go, ent.gc⟩
  rintro ⟨i, cm⟩ ⟨h1, h2, h3⟩
  simp only at h1 h2 h3 ⊢
  refine Zp ?_
  refine Zm ?_
  refine Ze ?_
  refine WP.ret ?_
  refine scp_ret ?_
  exact retT [2] _ rfl rfl ⟨[blk br [sv.val, .int .i64 (i : Int)] 91], ent.go, true, i, rfl, h1, h2, fun h => ⟨rfl, h3 h⟩, rfl⟩
end Go.Proofs.Ytfaokbjpinlcaaa
end
section
/- The program's lexer: all tokens; a function's name; walked. -/
namespace Go.Proofs.Ytfaokbjpinlcaaa
open Go.Sep
set_option linter.unusedSimpArgs false
set_option linter.unusedVariables false
set_option maxRecDepth 100000
attribute [local irreducible] blk slA mp mpF rows rowsBut many mpK mpE nameL roP
structure TK where
  k : Int
  t : Int
  v : Int
  nm : ByteArray
def encTok : Enc TK := ⟨4, fun x => [.int .i64 x.k, .int .i64 x.t, .int .i64 x.v, .string x.nm], fun _ => rfl, fun _ => rfl⟩
/-- what is known of a lexer's answer -/
def TokRes (xs : List Int) (T : List TK) (e : Int) : Prop :=
  (∀ x ∈ T, x.k = 1 → nmB x.nm = true) ∧ T.length ≤ xs.length ∧ (nameL xs = true → e = 0 ∧ ∃ t v, T = [⟨1, t, v, strOf xs⟩])
/-- on the way -/
def TokGo (xs : List Int) (T : List TK) (a : Nat) : Prop :=
  a ≤ xs.length ∧ (∀ x ∈ T, x.k = 1 → nmB x.nm = true) ∧ T.length ≤ a ∧ (nameL xs = true → (a = 0 ∧ T = []) ∨ (a = xs.length ∧ ∃ t v, T = [⟨1, t, v, strOf xs⟩]))
theorem TokGo.stop {xs : List Int} {T : List TK} {a : Nat} (h : TokGo xs T a) (hn : nameL xs = true) : StopAt xs a := by
  rcases h.2.2.2 hn with ⟨e, _⟩ | ⟨e, _⟩
  · rw [e]; exact StopAt.name hn
  · exact .inl e
theorem TokGo.err {xs : List Int} {T : List TK} {a : Nat} {e : Int} (h : TokGo xs T a) (hx : nameL xs = true → False) : TokRes xs T e :=
  ⟨h.2.1, Nat.le_trans h.2.2.1 h.1, fun hn => (hx hn).elim⟩
theorem TokGo.fin {xs : List Int} {T : List TK} {a : Nat} (h : TokGo xs T a) (h2 : nameL xs = true → a = xs.length) : TokRes xs T 0 :=
  ⟨h.2.1, Nat.le_trans h.2.2.1 h.1, fun hn => ⟨rfl, by
    rcases h.2.2.2 hn with ⟨e, _⟩ | ⟨_, e⟩
    · have := (nameL_spec.1 hn).1.1
      have := h2 hn
      omega
    · exact e⟩⟩
theorem TokGo.snoc {xs : List Int} {T : List TK} {a a1 a2 : Nat} {k t v : Int} {nm : ByteArray} (h : TokGo xs T a) (h1 : StopAt xs a → a1 = a) (hlt : a1 < xs.length) (q2 : a2 ≤ xs.length) (h0 : a ≤ a1)
    (q3 : a1 < a2 ∧ (k = 1 → nmB nm = true)) (q4 : a1 = 0 → nameL xs = true → a2 = xs.length ∧ k = 1 ∧ nm = strOf xs) : TokGo xs (T ++ [⟨k, t, v, nm⟩]) a2 := by
  obtain ⟨g1, g2, g3, g4⟩ := h
  refine ⟨q2, fun x hx => ?_, by rw [List.length_append, List.length_singleton]; omega, fun hn => .inr ?_⟩
  · rcases List.mem_append.1 hx with hx | hx
    · exact g2 x hx
    · rw [List.mem_singleton.1 hx]; exact q3.2
  · rcases g4 hn with ⟨e, eT⟩ | ⟨e, _⟩
    · have e1 := h1 (by rw [e]; exact StopAt.name hn)
      obtain ⟨r1, r2, r3⟩ := q4 (by omega) hn
      exact ⟨r1, t, v, by rw [eT, r2, r3]; rfl⟩
    · have := h1 (.inl e); omega
set_option maxHeartbeats 4000000 in
theorem lexTokens_ok (hR : Heap) (sv : SV) (xs : List Int) (H : TxV hR sv xs) :
    Tri Try.prog hR 17 #[sv.val] [] fun v Γ' => ∃ (lv : SV) (T : List TK) (p e : Int), v = .tuple #[lv.val, .int .i64 p, .int .i64 e] ∧ TokRes xs T e ∧ Γ' = [slA 73 encTok lv.val T] := by
  have hl := H.hl
  have hs := H.hs
  refine Tri.ent (Tri.of (args := [sv.val]) Try.func17 rfl Try.ntmps17 (by simp) ?_)
  refine Zp ?_
  iterate 3 refine Zm ?_
  refine Ze ?_
  refine Zp ?_
  refine Zm ?_
  refine Run.build rfl bd_91 rfl rfl rfl rfl ?_
  refine Run.box rfl rfl rfl rfl rfl ?_
  intro b11
  refine Zm ?_
  refine Ze ?_
  refine Zp ?_
  refine Zm ?_
  refine Ze ?_
  refine WP.block ?_
  refine WP.trim [0, 2, 3, 4, 5, 6] [0] ?_
  refine WP.via (Γ' := [blk b11 [sv.val, .int .i64 0] 91, slA 73 encTok nilS.val []]) (slA_nil 73 encTok _) ?_
  refine WP.loopC (α := Nat × SV × List TK) (fun z => TokGo xs z.2.2 z.1) (fun z => [(6, z.2.1.val)]) (fun z => [(0, blk b11 [sv.val, .int .i64 (z.1 : Int)] 91), (1, slA 73 encTok z.2.1.val z.2.2)]) (fun z => xs.length - z.1) (0, nilS, []) ⟨Nat.zero_le _, fun x hx => by simp at hx, Nat.zero_le _, fun _ => .inl ⟨rfl, rfl⟩⟩ ?_
  rintro ⟨a, ov, T⟩ hg
  simp only at hg ⊢
  have ha := hg.1
  refine WP.block ?_
  refine WP.trim [0, 2, 3, 4, 5, 6] [0, 1] ?_
  refine WP.seq ?_
  refine Zp ?_
  refine Zm ?_
  refine Run.callP [0] ok_31 (skip_ok hR b11 sv xs a H ha) ?_; rintro _ _ ⟨bb, a1, rfl, h1, h2, h3, rfl⟩
  refine Run.bnotB rfl rfl rfl rfl ?_
  refine Run.eqv (v' := .bool (decide (bb = false))) (by cases bb <;> rfl) ?_
  refine Ze ?_
  refine WP.ite rfl (fun hb => ?_) (fun hb => ?_)
  · refine WP.seq ?_
    refine WP.drawn0 cf0 mixed rfl (by kernel_rfl) ?_
    refine Zm ?_
    refine Zm ?_
    refine Zn ?_
    refine Zf fo_91_1 ?_
    refine Zl 0 ag_3 ?_
    iterate 3 refine Zm ?_
    refine Ze ?_
    refine WP.ret ?_; refine thn_ret ?_; refine blk_ret ?_; refine thn_ret ?_; refine blk_ret ?_
    exact retT [2, 3, 4] _ rfl rfl ⟨[slA 73 encTok ov.val T], ent.go, ov, T, _, _, rfl, hg.err (fun hn => by have := (h3 (hg.stop hn)).1; rw [hb] at this; cases this), rfl⟩
  refine Zb ?_
  refine WP.seq ?_
  refine Zp ?_
  refine Zm ?_
  refine Zn ?_
  refine Zf fo_91_1 ?_
  refine Zl 0 ag_3 ?_
  refine Zm ?_
  refine Zh sl_71 hs ?_
  refine Zi ?_
  refine Ze ?_
  refine WP.ite rfl (fun he => ?_) (fun he => ?_)
  · refine Zp ?_
    iterate 4 refine Zm ?_
    refine Ze ?_
    refine WP.ret ?_; refine thn_ret ?_; refine blk_ret ?_; refine thn_ret ?_; refine blk_ret ?_
    exact retT [2, 3, 4] _ rfl rfl ⟨[slA 73 encTok ov.val T], ent.go, ov, T, _, _, rfl, hg.fin (fun hn => by have := (h3 (hg.stop hn)).2; omega), rfl⟩
  refine Zb ?_
  have hlt : a1 < xs.length := by omega
  refine WP.trim [0, 2, 3, 4, 5, 6] [0, 1] ?_
  refine Zp ?_
  refine Zm ?_
  refine Run.callP [0] ok_32 (token_ok hR b11 sv xs a1 H hlt) ?_; rintro _ _ ⟨_, e, a2, rfl, ⟨q1, q2, k, t, v, nm, rfl, q3, q4⟩, rfl⟩
  refine Zm ?_
  refine Run.extract rfl rfl rfl rfl rfl ?_
  refine Run.extract rfl rfl rfl rfl rfl ?_
  refine Run.alloc rfl zr_73 rfl rfl rfl ?_
  intro b7
  refine Run.storeB 2 rfl rfl rfl rfl ag_73 rfl rfl rfl rfl rfl ?_
  refine Zm ?_
  refine Ze ?_
  refine WP.trim [0, 2, 3, 4, 5, 6, 7, 8] [0, 1, 2] ?_
  refine WP.seq ?_
  refine Zp ?_
  refine Zm ?_
  refine Zi ?_
  refine Ze ?_
  refine WP.ite rfl (fun he => ?_) (fun he => ?_)
  · have hne : nameL xs = true → False := fun hn => by
      have e1 := (h3 (hg.stop hn)).2
      rcases hg.2.2.2 hn with ⟨e0, _⟩ | ⟨e0, _⟩
      · exact he (q4 (by omega) hn).1
      · omega
    refine WP.seq ?_
    refine WP.drawn0 cf0 mixed rfl (by kernel_rfl) ?_
    refine Zm ?_
    refine Zm ?_
    refine Zn ?_
    refine Zf fo_91_1 ?_
    refine Zl 0 ag_3 ?_
    iterate 4 refine Zm ?_
    refine Ze ?_
    refine WP.ret ?_; refine thn_ret ?_; refine blk_ret ?_; refine thn_ret ?_; refine blk_ret ?_
    exact retT [2, 3, 4] _ rfl rfl ⟨[slA 73 encTok ov.val T], ent.go, ov, T, _, _, rfl, hg.err hne, rfl⟩
  refine Zb ?_
  have he0 : e = 0 := Decidable.not_not.1 he
  have hgT := hg.2.2.1
  refine Zc ?_
  refine Zm ?_
  refine Run.loadBagg 2 rfl rfl ag_73 rfl rfl rfl rfl rfl ?_
  refine Run.buildSlice (E := encTok) rfl sl_68 zr_73 ([(⟨k, t, v, nm⟩ : TK)]) rfl rfl rfl (by decide) rfl rfl ?_
  intro b43
  refine Run.append (E := encTok) (xs := T) (ys := [(⟨k, t, v, nm⟩ : TK)]) 1 rfl rfl rfl rfl rfl rfl sl_68 zr_73 rfl (src_own 3 rfl) (by simp only [List.length_singleton]; omega) (by simp only [List.length_singleton]; omega) ?_
  intro sv9 hsv9
  refine Zm ?_
  refine Run.nil ?_
  refine blk_norm ?_
  exact thn_next ⟨(a2, sv9, T ++ [⟨k, t, v, nm⟩]), hg.snoc (fun h => (h3 h).2) hlt q2 h1 (q3 he0) (fun h0 hn => (q4 h0 hn).2), by have := (q3 he0).1; simp only; omega, Ko.go, ent.gc⟩
end Go.Proofs.Ytfaokbjpinlcaaa
end
section
/- A function's name, by the program; walked. -/
namespace Go.Proofs.Ytfaokbjpinlcaaa
open Go.Sep
set_option linter.unusedSimpArgs false
set_option linter.unusedVariables false
set_option maxRecDepth 100000
attribute [local irreducible] blk slA mp mpF rows rowsBut many mpK mpE nameL roP
theorem TokRes.one {s : ByteArray} {x : TK} {e : Int} (h : TokRes (bts s) [x] e) : nmB s = decide (e = 0 ∧ x.k = 1 ∧ x.nm = s) := by
  obtain ⟨h1, _, h3⟩ := h
  cases hn : nmB s with
  | true =>
    obtain ⟨he, t, v, eT⟩ := h3 hn
    simp only [List.cons.injEq, and_true] at eT
    subst eT
    exact (decide_eq_true ⟨he, rfl, strOf_bts s⟩).symm
  | false =>
    refine (decide_eq_false fun hh => ?_).symm
    have := h1 x (List.mem_singleton.2 rfl) hh.2.1
    rw [hh.2.2, hn] at this; cases this
theorem TokRes.many {s : ByteArray} {T : List TK} {e : Int} (h : TokRes (bts s) T e) (hT : T.length ≠ 1) : nmB s = false := by
  cases hn : nmB s with
  | false => rfl
  | true =>
    obtain ⟨_, t, v, eT⟩ := h.2.2 hn
    rw [eT] at hT; exact absurd rfl hT
theorem txv_bts {h : Heap} {b c : Nat} {s : ByteArray} (hs : SlR rdB h (.slice (some ⟨b, 0, none⟩) s.size c) (bts s)) (hl : s.size ≤ 2000000) : TxV h ⟨some ⟨b, 0, none⟩, s.size, c⟩ (bts s) :=
  have hs' : SlR rdB h (SV.val ⟨some ⟨b, 0, none⟩, s.size, c⟩) (bts s) := hs
  ⟨hs', (sl_cap hs').1, (sl_cap hs').2, by rw [bts_len]; exact hl, fun x hx => bts_lt hx⟩
set_option maxHeartbeats 4000000 in
theorem named_ok (hR : Heap) (s : ByteArray) (hl : s.size ≤ 2000000) : Tri Try.prog hR 11 #[.string s] [] fun v Γ' => v = .bool (nmB s) ∧ Γ' = [] := by
  refine Tri.ent (Tri.of (args := [.string s]) Try.func11 rfl Try.ntmps11 (by simp) ?_)
  refine Zp ?_
  refine Zm ?_
  refine Ze ?_
  refine Zp ?_
  refine Zm ?_
  refine Run.toBytes rfl rfl rfl rfl rfl rfl rfl ?_; intro bq cq
  refine Run.callL [] [0] ok_17 (fun g hg hd => lexTokens_ok (un hR g) ⟨some ⟨bq, 0, none⟩, s.size, cq⟩ (bts s) (txv_bts (roP_lend hg hR hd) hl)) ?_; rintro _ _ ⟨lv, T, p, e, rfl, hT, rfl⟩
  refine Zm ?_
  refine Run.extract rfl rfl rfl rfl rfl ?_
  refine Run.extract rfl rfl rfl rfl rfl ?_
  refine Run.extract rfl rfl rfl rfl rfl ?_
  iterate 3 refine Zm ?_
  refine Ze ?_
  refine WP.trim [0, 2, 3, 5] [0] ?_
  have hTl := hT.2.1
  rw [bts_len] at hTl
  refine WP.seqCut [(2, .bool (nmB s))] [] ?_ ?_
  · by_cases h1 : T.length = 1
    · obtain ⟨x, rfl⟩ : ∃ x, T = [x] := List.length_eq_one_iff.1 h1
      rw [hT.one]
      refine Zc ?_
      all_goals (first | refine Zm ?_)
      all_goals (first | refine Zi ?_)
      all_goals (first | refine Run.tt (by first | assumption | omega) ?_ | refine Run.ff (by first | assumption | omega) ?_ | refine Run.split (fun hc14 => ?_) (fun hc14 => ?_) | refine Run.splitB (fun hc14 => ?_) (fun hc14 => ?_) | skip)
      all_goals (first | refine Zm ?_)
      all_goals (first | refine Zv ?_ | refine Zm ?_)
      all_goals (first | refine Zv ?_ | refine Run.lenO 0 rfl rfl sl_68 rfl rfl rfl ?_)
      all_goals (first | refine Zv ?_ | refine Zi ?_)
      all_goals (first | refine Run.tt (by first | assumption | omega) ?_ | refine Run.ff (by first | assumption | omega) ?_ | refine Run.split (fun hc18 => ?_) (fun hc18 => ?_) | refine Run.splitB (fun hc18 => ?_) (fun hc18 => ?_) | skip)
      all_goals (first | refine Zq ?_)
      all_goals (first | refine Zm ?_)
      all_goals (first | refine Zv ?_ | refine Zm ?_)
      all_goals (first | refine Zv ?_ | refine Run.idxO 0 rfl rfl rfl sl_68 rfl rfl rfl rfl (by omega) (by simp) ?_)
      all_goals (first | refine Zv ?_ | refine Zf fo_73_0 ?_)
      all_goals (first | refine Zv ?_ | refine Run.loadO 0 0 0 (y := x) rfl rfl ag_3 rfl rfl rfl rfl rfl rfl ?_)
      all_goals (first | refine Zv ?_ | refine Zi ?_)
      all_goals (first | refine Run.tt (by first | assumption | omega) ?_ | refine Run.ff (by first | assumption | omega) ?_ | refine Run.split (fun hc25 => ?_) (fun hc25 => ?_) | refine Run.splitB (fun hc25 => ?_) (fun hc25 => ?_) | skip)
      all_goals (first | refine Zq ?_)
      all_goals (first | refine Zm ?_)
      all_goals (first | refine Zv ?_ | refine Zm ?_)
      all_goals (first | refine Zv ?_ | refine Run.idxO 0 rfl rfl rfl sl_68 rfl rfl rfl rfl (by omega) (by simp) ?_)
      all_goals (first | refine Zv ?_ | refine Zf fo_73_3 ?_)
      all_goals (first | refine Zv ?_ | refine Run.loadO 0 0 3 (y := x) rfl rfl ag_9 rfl rfl rfl rfl rfl rfl ?_)
      all_goals (first | refine Zv ?_ | refine Zm ?_)
      all_goals (first | refine Zv ?_ | refine Run.eqStr rfl rfl rfl rfl rfl ?_)
      all_goals (first | refine Zq ?_)
      all_goals (first | refine Zm ?_)
      all_goals (refine Run.nil ?_)
      all_goals refine thn_next ⟨⟨?_, trivial⟩, ent.none _⟩
      all_goals simp [Env.get, *]
    · rw [hT.many h1]
      have h1' : ¬ (T.length : Int) = 1 := by omega
      refine Zc ?_
      all_goals (first | refine Zm ?_)
      all_goals (first | refine Zi ?_)
      all_goals (first | refine Run.tt (by first | assumption | omega) ?_ | refine Run.ff (by first | assumption | omega) ?_ | refine Run.split (fun hc14 => ?_) (fun hc14 => ?_) | refine Run.splitB (fun hc14 => ?_) (fun hc14 => ?_) | skip)
      all_goals (first | refine Zm ?_)
      all_goals (first | refine Zv ?_ | refine Zm ?_)
      all_goals (first | refine Zv ?_ | refine Run.lenO 0 rfl rfl sl_68 rfl rfl rfl ?_)
      all_goals (first | refine Zv ?_ | refine Zi ?_)
      all_goals (first | refine Run.tt (by first | assumption | omega) ?_ | refine Run.ff (by first | assumption | omega) ?_ | refine Run.split (fun hc18 => ?_) (fun hc18 => ?_) | refine Run.splitB (fun hc18 => ?_) (fun hc18 => ?_) | skip)
      all_goals (first | refine Zq ?_)
      all_goals (first | refine Zm ?_)
      all_goals (first | refine Zv ?_ | refine Zm ?_)
      all_goals (first | refine Zv ?_ | fail)
      all_goals (first | refine Zv ?_ | refine Zf fo_73_0 ?_)
      all_goals (first | refine Zv ?_ | fail)
      all_goals (first | refine Zv ?_ | refine Zi ?_)
      all_goals (first | refine Run.tt (by first | assumption | omega) ?_ | refine Run.ff (by first | assumption | omega) ?_ | refine Run.split (fun hc25 => ?_) (fun hc25 => ?_) | refine Run.splitB (fun hc25 => ?_) (fun hc25 => ?_) | skip)
      all_goals (first | refine Zq ?_)
      all_goals (first | refine Zm ?_)
      all_goals (first | refine Zv ?_ | refine Zm ?_)
      all_goals (first | refine Zv ?_ | fail)
      all_goals (first | refine Zv ?_ | refine Zf fo_73_3 ?_)
      all_goals (first | refine Zv ?_ | fail)
      all_goals (first | refine Zv ?_ | refine Zm ?_)
      all_goals (first | refine Zv ?_ | refine Run.eqStr rfl rfl rfl rfl rfl ?_)
      all_goals (first | refine Zq ?_)
      all_goals (first | refine Zm ?_)
      all_goals (refine Run.nil ?_)
      all_goals refine thn_next ⟨⟨?_, trivial⟩, ent.none _⟩
      all_goals simp [Env.get, *]
  refine WP.ret ?_
  exact retT [2] _ rfl rfl ⟨_, ent.none _, rfl, rfl⟩
end Go.Proofs.Ytfaokbjpinlcaaa
end
section
/- The program's check, of every value of ALIR. -/
namespace Go.Proofs.Ytfaokbjpinlcaaa
open Go.Sep
theorem check6_ok (hR : Heap) (A : AL) (fv : SV) (hA : ALv hR A fv) : Tri Try.prog hR 6 #[.agg ⟨alv A fv⟩] [] fun r Γ' => r = .int .i64 (if okA nmB A then 0 else 190) ∧ Γ' = [] :=
  check_ok nmB (fun hR s hs => named_ok hR s hs) hR A fv hA
end Go.Proofs.Ytfaokbjpinlcaaa
end
section
/- A program's code; walked. -/
namespace Go.Proofs.Ytfaokbjpinlcaaa
open Go.Sep
set_option linter.unusedSimpArgs false
set_option linter.unusedVariables false
set_option maxRecDepth 100000
attribute [local irreducible] blk slA mp mpF rows rowsBut many mpK mpE nameL
noncomputable def emS (st : List RI × List RF) (F : AF) : List RI × List RF :=
  (st.1 ++ codeC (savS F) F st.1.length, st.2 ++ [⟨F.name, slotW (savS F) F.slots, st.1.length, (codeC (savS F) F st.1.length).length, F.params.length⟩])
noncomputable def emL (l : List AF) : List RI × List RF := l.foldl emS ([], [])
theorem emL_step {l : List AF} {i : Nat} {F : AF} (h : l[i]? = some F) : emL (l.take (i + 1)) = emS (emL (l.take i)) F := by
  unfold emL
  rw [List.take_add_one, h, List.foldl_append]; rfl
theorem wordR_ok (hR : Heap) (bm : Nat) (S : List Int) (sv : SV) (s : Int) (hs : -1000000 ≤ s ∧ s ≤ 1000000) (hl : S.length ≤ 1000000) (hc : cellH hR ⟨bm, 7, none⟩ sv.val) (hS : SlR rdI hR sv.val S) :
    Tri Try.prog hR 14 #[ptrV bm, vI s] [] fun v Γ' => v = vI (slotW S s) ∧ Γ' = [] := by
  refine Tri.ent (Tri.of (args := [ptrV bm, vI s]) Try.func14 rfl Try.ntmps14 (by simp) ?_)
  refine Zp ?_
  refine Zm ?_
  refine Ze ?_
  refine Zp ?_
  refine Zm ?_
  refine Zn ?_
  refine Zf fo_63_3 ?_
  refine Zr ag_45 hc ?_
  refine Zh sl_45 hS ?_
  refine Za ?_
  refine Zm ?_
  refine Za ?_
  refine Zm ?_
  refine Ze ?_
  refine WP.ret ?_
  exact retT [4] _ rfl rfl ⟨_, ent.none _, rfl, rfl⟩
set_option maxHeartbeats 4000000 in
theorem emit_ok (hR : Heap) (A : AL) (fv : SV) (hA : ALv hR A fv) :
    Tri Try.prog hR 7 #[.agg ⟨alv A fv⟩] [] fun v Γ' => (okA nmB A = true ∧ ∃ iv gv : SV, v = .tuple #[.agg ⟨[iv.val, gv.val, vI A.main]⟩, vI 0] ∧ Γ' = [slA 56 encRI iv.val (emL A.funcs).1, slA 53 encRF gv.val (emL A.funcs).2]) ∨
      (okA nmB A = false ∧ v = .tuple #[.agg ⟨[nilS.val, nilS.val, vI 0]⟩, vI 190] ∧ Γ' = []) := by
  have hf := hA.hf
  have hl1 := hA.sm.sf
  refine Tri.ent (Tri.of (args := [.agg ⟨alv A fv⟩]) Try.func7 rfl Try.ntmps7 (by simp) ?_)
  refine Zp ?_
  refine Run.box rfl rfl rfl rfl rfl ?_
  intro b1
  refine Run.alloc rfl zr_32 rfl rfl rfl ?_
  intro b2
  refine Zm ?_
  refine Ze ?_
  refine WP.seq ?_
  refine Zp ?_
  refine Run.loadBagg 0 rfl rfl ag_24 rfl rfl rfl rfl rfl ?_
  refine Run.callP [] ok_6 (check6_ok hR A fv hA) ?_; rintro _ _ ⟨rfl, rfl⟩
  refine Zm ?_
  refine Ze ?_
  refine Zp ?_
  refine Zm ?_
  refine Zi ?_
  refine Run.eqv (v' := .bool (decide (okA nmB A = false))) (by cases okA nmB A <;> rfl) ?_
  refine Ze ?_
  refine WP.ite rfl (fun hbad => ?_) (fun hgood => ?_)
  · rw [hbad]
    refine Zp ?_
    refine Run.build rfl bd_32 rfl rfl rfl rfl ?_
    refine Zm ?_
    refine Run.storeB 1 rfl rfl rfl rfl ag_32 rfl rfl rfl rfl rfl ?_
    refine Zm ?_
    refine Ze ?_
    refine WP.ret ?_; refine thn_ret ?_
    exact retCT 2 1 3 ag_32 rfl rfl rfl rfl rfl ⟨_, ent.none _, .inr ⟨rfl, rfl, rfl⟩⟩
  refine Zb ?_
  have hok := btrue hgood
  rw [hok]
  refine WP.trim [1, 2, 3] [0, 1] ?_
  refine Zp ?_
  refine Zf fo_24_1 ?_
  refine Zl 0 ag_3 ?_
  refine Run.build rfl bd_32 rfl rfl rfl rfl ?_
  refine Run.alloc rfl zr_32 rfl rfl rfl ?_
  intro b5
  refine Run.storeB 2 rfl rfl rfl rfl ag_32 rfl rfl rfl rfl rfl ?_
  refine Ze ?_
  refine WP.trim [1, 2, 3, 5] [0, 1, 2] ?_
  refine WP.via (Γ' := [blk b1 (alv A fv) 24, blk b2 [nilS.val, nilS.val, vI 0] 32, blk b5 [nilS.val, nilS.val, vI A.main] 32, slA 56 encRI nilS.val [], slA 53 encRF nilS.val []]) ((slA_nil 56 encRI _).trans (slA_nil 53 encRF _)) ?_
  refine WP.meetC (α := SV × SV) (fun _ => True) (fun _ => []) (fun z => [(2, blk b5 [z.1.val, z.2.val, vI A.main] 32), (3, slA 56 encRI z.1.val (emL A.funcs).1), (4, slA 53 encRF z.2.val (emL A.funcs).2)]) ?_ ?_
  · refine Zp ?_
    refine Zf fo_24_0 ?_
    refine Zl 0 ag_22 ?_
    refine Zh sl_22 hf ?_
    refine Zm ?_
    refine Ze ?_
    refine WP.block ?_
    refine WP.trim [1, 2, 3, 5, 19, 20, 21] [0, 1, 2, 3, 4] ?_
    refine WP.loopC (α := Nat × SV × SV) (fun z => z.1 ≤ A.funcs.length ∧ (emL (A.funcs.take z.1)).1.length ≤ 3000000 * z.1 ∧ (emL (A.funcs.take z.1)).2.length = z.1) (fun z => [(21, vI (z.1 : Int))]) (fun z => [(2, blk b5 [z.2.1.val, z.2.2.val, vI A.main] 32), (3, slA 56 encRI z.2.1.val (emL (A.funcs.take z.1)).1), (4, slA 53 encRF z.2.2.val (emL (A.funcs.take z.1)).2)]) (fun z => A.funcs.length - z.1) (0, nilS, nilS) ⟨Nat.zero_le _, Nat.zero_le _, rfl⟩ ?_
    rintro ⟨i, iv, gv⟩ ⟨hi, hlI, hlF⟩
    simp only at hi hlI hlF ⊢
    refine WP.trim [1, 2, 3, 5, 19, 20, 21] [0, 1, 2, 3, 4] ?_
    refine Zp ?_
    refine Zi ?_
    refine Ze ?_
    refine WP.seq ?_
    refine WP.ite rfl (fun hlt => ?_) (fun hge => ?_)
    · refine Zb ?_
      obtain ⟨F, gF⟩ : ∃ b, A.funcs[(i : Int).toNat]? = some b := ⟨_, List.getElem?_eq_getElem (by omega)⟩
      have gF' : A.funcs[i]? = some F := gF
      have hstep := emL_step gF'
      have hFo := okA_fun hok hA.sm (List.mem_of_getElem? gF)
      obtain ⟨_, ⟨fu0, fv0, rfl, hfu, hfv⟩, hrow⟩ := hf.at gF
      obtain ⟨fu, rfl, _, _⟩ := SlR.sv hfu
      obtain ⟨fw, rfl, _, _⟩ := SlR.sv hfv
      generalize emL (A.funcs.take i) = st at hlI hlF hstep ⊢
      obtain ⟨is, gs⟩ := st
      simp only at hlI hlF ⊢
      refine WP.seq ?_
      refine WP.block ?_
      refine Zp ?_
      refine Zx sl_22 hf ?_
      refine Run.loadRagg rfl rfl ag_41 rfl rfl hrow (by rfl) ?_
      refine Run.alloc rfl zr_41 rfl rfl rfl ?_
      intro b7
      refine Run.storeB 5 rfl rfl rfl rfl ag_41 rfl rfl rfl rfl rfl ?_
      refine Ze ?_
      refine WP.trim [1, 2, 3, 5, 7, 19, 20, 21] [0, 1, 2, 3, 4, 5] ?_
      refine Zp ?_
      refine Run.loadBagg 5 rfl rfl ag_41 rfl rfl rfl rfl rfl ?_
      refine Zf fo_32_0 ?_
      refine Zl 2 ag_29 ?_
      refine Run.lenO 3 rfl rfl sl_29 rfl rfl rfl ?_
      refine Run.makeMapF rfl rfl rfl ?_
      intro b29
      refine Run.build rfl bd_63 rfl rfl rfl rfl ?_
      refine Run.box rfl rfl rfl rfl rfl ?_
      intro b31
      refine Zm ?_
      refine Ze ?_
      refine WP.trim [1, 2, 3, 5, 7, 8, 19, 20, 21] [0, 1, 2, 3, 4, 5, 6, 7] ?_
      refine WP.via (Γ' := [blk b31 [.string F.name, fu.val, vI F.result, vI F.slots, fw.val, vI (is.length : Int), nilS.val, nilS.val, .map (some b29), nilS.val] 63, slA 56 encRI nilS.val [], slA 3 encI nilS.val [], mpF b29 (fun _ => none), slA 3 encI nilS.val [], blk b1 (alv A fv) 24, blk b2 [nilS.val, nilS.val, vI 0] 32, blk b5 [iv.val, gv.val, vI A.main] 32, slA 56 encRI iv.val is, slA 53 encRF gv.val gs, blk b7 (afv F fu.val fw.val) 41]) (((slA_nil 56 encRI _).trans ((slA_nil 3 encI _).trans (slA_nil 3 encI _))).trans ent.go) ?_
      refine WP.via (Γ' := [mkP b31 ⟨F, fu.val, fw.val, (is.length : Int), b29⟩ [] [] (fun _ => none) [], blk b1 (alv A fv) 24, blk b2 [nilS.val, nilS.val, vI 0] 32, blk b5 [iv.val, gv.val, vI A.main] 32, slA 56 encRI iv.val is, slA 53 encRF gv.val gs, blk b7 (afv F fu.val fw.val) 41]) (mkP_shut (M := ⟨F, fu.val, fw.val, (is.length : Int), b29⟩) ⟨nilS, nilS, nilS⟩ [blk b1 (alv A fv) 24, blk b2 [nilS.val, nilS.val, vI 0] 32, blk b5 [iv.val, gv.val, vI A.main] 32, slA 56 encRI iv.val is, slA 53 encRF gv.val gs, blk b7 (afv F fu.val fw.val) 41]) ?_
      refine Zp ?_
      refine Zm ?_
      refine Run.callP [0] ok_13 (function_ok hR b31 ⟨F, fu.val, fw.val, (is.length : Int), b29⟩ fu fw rfl rfl ⟨hfu, hfv⟩ hFo ⟨by simp only; omega, by simp only; omega⟩) ?_; rintro _ _ ⟨⟨pl, js, rfl⟩, hcl⟩
      refine Ze ?_
      simp only at hcl ⊢
      have hS8 := savS_len F
      have hsl := hFo.sl
      have e2 : emS (is, gs) F = (is ++ codeC (savS F) F (is.length : Int), gs ++ [⟨F.name, slotW (savS F) F.slots, is.length, (codeC (savS F) F (is.length : Int)).length, F.params.length⟩]) := rfl
      generalize savS F = S at hS8 hcl e2 ⊢
      generalize codeC S F (is.length : Int) = code at hcl e2 ⊢
      refine WP.openX 0 ?_
      rintro ⟨cv, sv, jv⟩ _
      refine WP.trim [1, 2, 3, 5, 7, 8, 19, 20, 21] [5, 6, 8, 9, 1, 7, 10, 0, 2] ?_
      refine WP.seq ?_
      refine WP.via (Γ' := [blk b1 (alv A fv) 24, blk b2 [nilS.val, nilS.val, vI 0] 32, slA 56 encRI iv.val is, slA 53 encRF gv.val gs, slA 56 encRI cv.val code] ++ [blk b5 [iv.val, gv.val, vI A.main] 32, blk b7 (afv F fu.val fw.val) 41, blk b31 [.string F.name, fu.val, vI F.result, vI F.slots, fw.val, vI (is.length : Int), cv.val, sv.val, .map (some b29), jv.val] 63, slA 3 encI sv.val S]) (ent.refl _) ?_
      refine WP.drawnF cfF [0, 1, 2, 3, 4, 5, 6, 7, 8, 9, 10, 11, 12, 13, 14, 15, 16, 17, 18, 19, 20, 21, 22, 23] [24] ([blk b5 [iv.val, gv.val, vI A.main] 32, blk b7 (afv F fu.val fw.val) 41, blk b31 [.string F.name, fu.val, vI F.result, vI F.slots, fw.val, vI (is.length : Int), cv.val, sv.val, .map (some b29), jv.val] 63, slA 3 encI sv.val S]) mixed rfl rfl (by kernel_rfl) (fun gF hgF hdF => ?_)
      refine Zf fo_32_1 ?_
      refine Run.loadF rfl rfl ag_30 rfl rfl (lent_blk (v := gv.val) 0 1 rfl rfl hgF hdF) ?_
      refine Zf fo_41_0 ?_
      refine Run.loadF rfl rfl ag_9 rfl rfl (lent_blk (v := .string F.name) 1 0 rfl rfl hgF hdF) ?_
      refine Zm ?_
      refine Zf fo_41_3 ?_
      refine Run.loadF rfl rfl ag_3 rfl rfl (lent_blk (v := vI F.slots) 1 3 rfl rfl hgF hdF) ?_
      refine Run.callP [] ok_14 (wordR_ok (un hR gF) b31 S sv F.slots (by omega) (by omega) (lent_blk (v := sv.val) 2 7 rfl rfl hgF hdF) (lent_at 3 rfl hgF hdF)) ?_; rintro _ _ ⟨rfl, rfl⟩
      refine Zm ?_
      refine Zn ?_
      refine Zf fo_63_1 ?_
      refine Run.loadF rfl rfl ag_3 rfl rfl (lent_blk (v := vI (is.length : Int)) 2 5 rfl rfl hgF hdF) ?_
      refine Zm ?_
      refine Zn ?_
      refine Zf fo_63_2 ?_
      refine Run.loadF rfl rfl ag_29 rfl rfl (lent_blk (v := cv.val) 2 6 rfl rfl hgF hdF) ?_
      refine Run.lenO 4 rfl rfl sl_29 rfl rfl rfl ?_
      refine Zf fo_41_1 ?_
      refine Run.loadF rfl rfl ag_38 rfl rfl (lent_blk (v := fu.val) 1 1 rfl rfl hgF hdF) ?_
      refine Zh sl_38 (hfu.mono (Sub.un_left _ _)) ?_
      refine Run.build rfl bd_53 rfl rfl rfl rfl ?_
      refine Run.buildSlice (E := encRF) rfl sl_30 zr_53 ([(⟨F.name, slotW S F.slots, is.length, code.length, F.params.length⟩ : RF)]) rfl rfl rfl (by decide) rfl rfl ?_
      intro b55
      refine Run.append (E := encRF) (xs := gs) (ys := [(⟨F.name, slotW S F.slots, is.length, code.length, F.params.length⟩ : RF)]) 3 rfl rfl rfl rfl rfl rfl sl_30 zr_53 rfl (src_own 5 rfl) (by simp only [List.length_singleton]; omega) (by simp only [List.length_singleton]; omega) ?_
      intro gv2 hgv2
      refine Zf fo_32_1 ?_
      refine Run.nil ?_
      refine Run.storeB 6 rfl rfl rfl rfl ag_30 rfl rfl rfl rfl rfl ?_
      refine Ze ?_
      refine WP.trim [1, 2, 3, 5, 7, 8, 19, 20, 21] [0, 1, 2, 3, 4, 6, 8] ?_
      refine WP.drawn0 cf0 mixed rfl (by kernel_rfl) ?_
      refine Zf fo_32_0 ?_
      refine Zl 5 ag_29 ?_
      refine Zm ?_
      refine Zn ?_
      refine Zf fo_63_2 ?_
      refine Zl 6 ag_29 ?_
      refine Run.append (E := encRI) (xs := is) (ys := code) 2 rfl rfl rfl rfl rfl rfl sl_29 zr_56 rfl (src_own 4 rfl) (by omega) (by omega) ?_
      intro iv2 hiv2
      refine Zf fo_32_0 ?_
      refine Run.storeB 5 rfl rfl rfl rfl ag_29 rfl rfl rfl rfl rfl ?_
      refine Run.nil ?_
      refine blk_norm ?_; refine thn_next ?_
      refine Zc ?_
      refine Za ?_
      refine Zm ?_
      refine Run.nil ?_
      refine thn_next ⟨(i + 1, iv2, gv2), ⟨by simp only; omega, ?_, ?_⟩, by simp only; omega, Ko.go, ?_⟩
      · simp only; rw [hstep, e2, List.length_append]; omega
      · simp only; rw [hstep, e2, List.length_append, List.length_singleton, hlF]
      · simp only [hstep, e2]; exact ent.gc
    · refine Zj ?_
      obtain rfl : i = A.funcs.length := by omega
      rw [List.take_length]
      exact thn_next ⟨(iv, gv), trivial, Ko.go, ent.gc⟩
  rintro ⟨iv, gv⟩ _
  simp only
  refine Zp ?_
  refine Run.loadBagg 2 rfl rfl ag_32 rfl rfl rfl rfl rfl ?_
  refine Run.storeB 1 rfl rfl rfl rfl ag_32 rfl rfl rfl rfl rfl ?_
  refine Zm ?_
  refine Ze ?_
  refine WP.ret ?_
  exact retCT 2 1 3 ag_32 rfl rfl rfl rfl rfl ⟨[slA 56 encRI iv.val (emL A.funcs).1, slA 53 encRF gv.val (emL A.funcs).2], ent.go, .inl ⟨trivial, iv, gv, rfl, rfl⟩⟩
end Go.Proofs.Ytfaokbjpinlcaaa
end
section
/- What is made of ALIR is code: each instruction has its registers and its number; plain. -/
namespace Go.Proofs.Ytfaokbjpinlcaaa
open Go.Sep
set_option linter.unusedVariables false
set_option linter.unusedSimpArgs false
def uA (op : Int) : Bool := decide (¬(op = 27 ∨ op = 21 ∨ op = 26))
def uB (op : Int) : Bool := decide (op = 2 ∨ (18 ≤ op ∧ op ≤ 20) ∨ (28 ≤ op ∧ op ≤ 31) ∨ op = 34 ∨ (3 ≤ op ∧ op ≤ 17))
def uC (op : Int) : Bool := decide (op = 30 ∨ op = 31 ∨ (3 ≤ op ∧ op ≤ 17))
def regOk (n : Int) (b : Bool) : Prop := n = 0 ∨ (b = true ∧ 0 < n ∧ n < 16)
def numU (nf frame op n : Int) : Prop := op = 1 ∨ ((op = 24 ∨ op = 25) ∧ 2 ≤ n ∧ n < frame) ∨ (op = 26 ∧ 0 ≤ n ∧ n < nf) ∨ ((op = 32 ∨ op = 33 ∨ op = 34) ∧ 1 ≤ n ∧ n ≤ 5) ∨ (op = 35 ∧ 1 ≤ n ∧ n ≤ 6) ∨ (n = 0 ∧ ¬(op = 24 ∨ op = 25 ∨ op = 26 ∨ op = 32 ∨ op = 33 ∨ op = 34 ∨ op = 35))
structure RegsOk (x : RI) : Prop where
  o1 : 1 ≤ x.op
  o2 : x.op ≤ 38
  ra : regOk x.a (uA x.op)
  rb : regOk x.b (uB x.op)
  rc : regOk x.c (uC x.op)
/-- an instruction that is no jump -/
def okU (nf frame : Int) (x : RI) : Prop := RegsOk x ∧ ¬(21 ≤ x.op ∧ x.op ≤ 23) ∧ numU nf frame x.op x.n
/-- a jump, but for where it leads -/
def okJ (x : RI) : Prop := RegsOk x ∧ 21 ≤ x.op ∧ x.op ≤ 23
def numV (nf frame first count op n : Int) : Prop := ((21 ≤ op ∧ op ≤ 23) ∧ first ≤ n ∧ n - first < count) ∨ (¬(21 ≤ op ∧ op ≤ 23) ∧ numU nf frame op n)
def InsV (nf frame first count : Int) (x : RI) : Prop := RegsOk x ∧ numV nf frame first count x.op x.n
theorem mkOk {nf fr op a b c n : Int} (h1 : 1 ≤ op) (h2 : op ≤ 38) (h3 : ¬(21 ≤ op ∧ op ≤ 23)) (ra : regOk a (uA op)) (rb : regOk b (uB op)) (rc : regOk c (uC op)) (hn : numU nf fr op n) : okU nf fr ⟨op, a, b, c, n⟩ := ⟨⟨h1, h2, ra, rb, rc⟩, h3, hn⟩
def regR (r : Int) : Prop := 0 ≤ r ∧ r < 16
def PL (F : AF) (l : Lc) : Prop := (l.kind = 1 ∧ 0 ≤ l.n ∧ l.n < 16) ∨ (l.kind = 2 ∧ 0 ≤ l.n ∧ l.n < F.slots)
theorem place_PL {F : AF} {l : Lc} (h : placeB F l = true) : PL F l := by
  simp only [placeB, decide_eq_true_eq] at h
  unfold PL; omega
theorem reg_ok {n : Int} {b : Bool} (h : regR n) (hb : b = true) : regOk n b := by
  unfold regOk; unfold regR at h; subst hb; simp; omega
section
variable {nf : Int} {F : AF} {S : List Int}
theorem lds_ok {r s : Int} (hr : regR r) (hs : 0 ≤ s ∧ s < F.slots) : okU nf (slotW S F.slots) ⟨24, r, 0, 0, slotW S s⟩ :=
  mkOk (by decide) (by decide) (by decide) (reg_ok hr rfl) (.inl rfl) (.inl rfl) (.inr (.inl ⟨.inl rfl, by unfold slotW; omega, by unfold slotW; omega⟩))
theorem sts_ok {r s : Int} (hr : regR r) (hs : 0 ≤ s ∧ s < F.slots) : okU nf (slotW S F.slots) ⟨25, r, 0, 0, slotW S s⟩ :=
  mkOk (by decide) (by decide) (by decide) (reg_ok hr rfl) (.inl rfl) (.inl rfl) (.inr (.inl ⟨.inr rfl, by unfold slotW; omega, by unfold slotW; omega⟩))
theorem mov_ok {a b fr : Int} (ha : regR a) (hb : regR b) : okU nf fr ⟨2, a, b, 0, 0⟩ :=
  mkOk (by decide) (by decide) (by decide) (reg_ok ha rfl) (reg_ok hb rfl) (.inl rfl) (by unfold numU; simp)
theorem loadC_okU {r : Int} {l : Lc} (hl : PL F l) (hr : regR r) : ∀ x ∈ loadC S r l, okU nf (slotW S F.slots) x := fun x hx => by
  unfold loadC at hx
  rcases hl with ⟨h1, h2, h3⟩ | ⟨h1, h2, h3⟩
  · rw [if_neg (by omega)] at hx
    split at hx
    · cases hx
    · obtain rfl := List.mem_singleton.1 hx; exact mov_ok hr ⟨h2, h3⟩
  · rw [if_pos h1] at hx
    obtain rfl := List.mem_singleton.1 hx; exact lds_ok hr ⟨h2, h3⟩
theorem storeC_okU {r : Int} {l : Lc} (hl : PL F l) (hr : regR r) : ∀ x ∈ storeC S l r, okU nf (slotW S F.slots) x := fun x hx => by
  unfold storeC at hx
  rcases hl with ⟨h1, h2, h3⟩ | ⟨h1, h2, h3⟩
  · rw [if_neg (by omega)] at hx
    split at hx
    · cases hx
    · obtain rfl := List.mem_singleton.1 hx; exact mov_ok ⟨h2, h3⟩ hr
  · rw [if_pos h1] at hx
    obtain rfl := List.mem_singleton.1 hx; exact sts_ok hr ⟨h2, h3⟩
theorem PL_reg {l : Lc} (hl : PL F l) (hk : l.kind = 1) : regR l.n := by unfold PL at hl; unfold regR; omega
theorem r8 : regR 8 := ⟨by decide, by decide⟩
theorem moveC_okU {to fr : Lc} (h1 : PL F to) (h2 : PL F fr) : ∀ x ∈ moveC S to fr, okU nf (slotW S F.slots) x := fun x hx => by
  unfold moveC at hx
  split at hx
  · cases hx
  · split at hx
    · rename_i hk; exact loadC_okU h2 (PL_reg h1 hk) x hx
    · split at hx
      · rename_i hk; exact storeC_okU h1 (PL_reg h2 hk) x hx
      · rcases List.mem_append.1 hx with hx | hx
        · exact loadC_okU h2 r8 x hx
        · exact storeC_okU h1 r8 x hx
theorem movesC_okU {l : List Mv} (h : ∀ m ∈ l, PL F m.to ∧ PL F m.from_) : ∀ x ∈ movesC S l, okU nf (slotW S F.slots) x := fun x hx => by
  unfold movesC at hx
  obtain ⟨m, hm, hx⟩ := List.mem_flatMap.1 hx
  have key : ∀ m ∈ ordF (regL 11) (l.filter fun m => decide (m.from_ ≠ m.to)), PL F m.to ∧ PL F m.from_ := by
    by_cases ho : ∃ o, Ord (regL 11) (l.filter fun m => decide (m.from_ ≠ m.to)) o
    · obtain ⟨o, ho⟩ := ho
      rw [ordF_eq ho]
      exact ho.len (PL F) (.inl ⟨rfl, by decide, by decide⟩) fun m hm => h m (List.mem_filter.1 hm).1
    · intro m hm
      unfold ordF at hm; rw [dif_neg ho] at hm; cases hm
  exact moveC_okU (key m hm).1 (key m hm).2 x hx
theorem readsC_okU : ∀ {l : List Lc} {i : Nat}, (∀ y ∈ l, PL F y) → i + l.length ≤ 8 → ∀ x ∈ readsC S i l, okU nf (slotW S F.slots) x
  | [], i, _, _, x, hx => by simp [readsC] at hx
  | y :: l, i, h, hi, x, hx => by
    simp only [List.length_cons] at hi
    simp only [readsC, List.mem_append] at hx
    rcases hx with hx | hx
    · split at hx
      · exact loadC_okU (h y (by simp)) ⟨by omega, by omega⟩ x hx
      · cases hx
    · exact readsC_okU (fun z hz => h z (by simp [hz])) (by omega) x hx
theorem regOf_reg {i : Nat} {l : Lc} (hl : PL F l) (hi : i < 8) : regR (regOf i l) := by
  unfold regOf
  split
  · exact ⟨by omega, by omega⟩
  · exact PL_reg hl (by unfold PL at hl; omega)
theorem argR_reg {x : AI} (h : ∀ l ∈ x.args, PL F l) {i : Nat} (hi : i < 8) : regR (argR x i) := by
  unfold argR
  split
  · rename_i l hl; exact regOf_reg (h l (List.mem_of_getElem? hl)) hi
  · exact ⟨by decide, by decide⟩
theorem dstR_reg {x : AI} (h : noneB x.dst = true ∨ placeB F x.dst = true) : regR (dstR x) := by
  unfold dstR
  split
  · exact r8
  · rcases h with h | h
    · simp only [noneB, decide_eq_true_eq] at h; exact ⟨by omega, by omega⟩
    · exact PL_reg (place_PL h) (by have := place_PL h; unfold PL at this; omega)
theorem opC_okU {x : AI} {fr : Int} (h : InsOk F S x) (h25 : x.op ≠ 25) (h31 : x.op ≠ 31) (htr : 28 ≤ x.op ∧ x.op ≤ 30 → 1 ≤ x.imm ∧ x.imm ≤ 5) : okU nf fr (opC x) := by
  have hal := (h.nc h25).1
  have hc := argsN_cases hal h25
  have a0 := argR_reg (x := x) (F := F) (fun l hl => place_PL (h.pl l hl)) (i := 0) (by decide)
  have a1 := argR_reg (x := x) (F := F) (fun l hl => place_PL (h.pl l hl)) (i := 1) (by decide)
  have a2 := argR_reg (x := x) (F := F) (fun l hl => place_PL (h.pl l hl)) (i := 2) (by decide)
  have d := dstR_reg h.ds
  have z : ∀ b, regOk 0 b := fun b => .inl rfl
  have hop : 1 ≤ x.op ∧ x.op ≤ 30 := by omega
  unfold opC
  by_cases e1 : x.op = 1
  · rw [if_pos e1]
    exact mkOk (by decide) (by decide) (by decide) (reg_ok d rfl) (z _) (z _) (.inl rfl)
  rw [if_neg e1]
  by_cases e2 : x.op ≤ 16
  · rw [if_pos e2]
    refine mkOk (by omega) (by omega) (by omega) (reg_ok d ?_) (reg_ok a0 ?_) (reg_ok a1 ?_) (.inr (.inr (.inr (.inr (.inr ⟨rfl, by omega⟩)))))
    · simp only [uA, decide_eq_true_eq]; omega
    · simp only [uB, decide_eq_true_eq]; omega
    · simp only [uC, decide_eq_true_eq]; omega
  rw [if_neg e2]
  by_cases e3 : x.op ≤ 19
  · rw [if_pos e3]
    refine mkOk (by omega) (by omega) (by omega) (reg_ok d ?_) (reg_ok a0 ?_) (z _) (.inr (.inr (.inr (.inr (.inr ⟨rfl, by omega⟩)))))
    · simp only [uA, decide_eq_true_eq]; omega
    · simp only [uB, decide_eq_true_eq]; omega
  rw [if_neg e3]
  by_cases e4 : x.op = 20
  · rw [if_pos e4]
    exact mkOk (by decide) (by decide) (by decide) (reg_ok d rfl) (reg_ok a0 rfl) (z _) (by unfold numU; simp)
  rw [if_neg e4]
  by_cases e5 : x.op = 21
  · rw [if_pos e5]
    exact mkOk (by decide) (by decide) (by decide) (reg_ok d rfl) (reg_ok a0 rfl) (reg_ok a1 rfl) (by unfold numU; simp)
  rw [if_neg e5]
  by_cases e6 : x.op = 22
  · rw [if_pos e6]
    exact mkOk (by decide) (by decide) (by decide) (reg_ok a2 rfl) (reg_ok a0 rfl) (reg_ok a1 rfl) (by unfold numU; simp)
  rw [if_neg e6]
  by_cases e7 : x.op = 23
  · rw [if_pos e7]
    exact mkOk (by decide) (by decide) (by decide) (reg_ok d rfl) (reg_ok a0 rfl) (z _) (by unfold numU; simp)
  rw [if_neg e7]
  by_cases e8 : x.op = 24
  · rw [if_pos e8]
    exact mkOk (by decide) (by decide) (by decide) (reg_ok d rfl) (z _) (z _) (by unfold numU; simp)
  rw [if_neg e8]
  by_cases e9 : x.op = 26
  · rw [if_pos e9]
    exact mkOk (by decide) (by decide) (by decide) (reg_ok a0 rfl) (z _) (z _) (by unfold numU; simp)
  rw [if_neg e9]
  by_cases e10 : x.op = 27
  · rw [if_pos e10]
    exact mkOk (by decide) (by decide) (by decide) (reg_ok a0 rfl) (z _) (z _) (by unfold numU; simp)
  rw [if_neg e10]
  by_cases e11 : x.op = 28
  · rw [if_pos e11]
    have := htr (by omega); exact mkOk (by decide) (by decide) (by decide) (reg_ok a0 rfl) (z _) (z _) (by unfold numU; omega)
  rw [if_neg e11]
  by_cases e12 : x.op = 29
  · rw [if_pos e12]
    have := htr (by omega); exact mkOk (by decide) (by decide) (by decide) (reg_ok a0 rfl) (z _) (z _) (by unfold numU; omega)
  rw [if_neg e12]
  have := htr (by omega); exact mkOk (by decide) (by decide) (by decide) (reg_ok a0 rfl) (reg_ok a1 rfl) (z _) (by unfold numU; omega)
theorem insC_okU {x : AI} (h : InsOk F S x) (hsl : 0 ≤ F.slots) (hS : ∀ r ∈ S, 0 ≤ r ∧ r < 8) (hcall : x.op = 25 → 0 ≤ x.imm ∧ x.imm < nf) (htr : 28 ≤ x.op ∧ x.op ≤ 30 → 1 ≤ x.imm ∧ x.imm ≤ 5) : ∀ y ∈ insC S x, okU nf (slotW S F.slots) y := fun y hy => by
  have hpa : ∀ l ∈ x.args, PL F l := fun l hl => place_PL (h.pl l hl)
  have hst : ∀ z ∈ (if noneB x.dst then [] else storeC S x.dst 8), okU nf (slotW S F.slots) z := fun z hz => by
    split at hz
    · cases hz
    · rename_i hn
      rcases h.ds with hd | hd
      · exact absurd hd hn
      · exact storeC_okU (place_PL hd) r8 z hz
  have hhome : ∀ (op : Int), op = 24 ∨ op = 25 → ∀ r ∈ x.saves, okU nf (slotW S F.slots) ⟨op, r, 0, 0, homeW S r⟩ := fun op ho r hr => by
    have hm := h.sv r hr
    have h8 := hS r hm
    have hi : S.idxOf r < S.length := List.idxOf_lt_length_of_mem hm
    have hh : 2 ≤ homeW S r ∧ homeW S r < slotW S F.slots := by unfold homeW slotW; omega
    refine mkOk (by omega) (by omega) (by omega) (reg_ok ⟨h8.1, by omega⟩ ?_) (.inl rfl) (.inl rfl) (.inr (.inl ⟨ho, hh⟩))
    simp only [uA, decide_eq_true_eq]; omega
  unfold insC at hy
  split at hy
  · rename_i h25
    unfold callC at hy
    simp only [List.mem_append, List.mem_map] at hy
    rcases hy with ((((⟨r, hr, rfl⟩ | hy) | hy) | hy) | ⟨r, hr, rfl⟩) | hy
    · exact hhome 25 (.inr rfl) r hr
    · refine movesC_okU (fun m hm => ?_) y hy
      obtain ⟨k, hk⟩ := List.getElem?_of_mem hm
      rw [numb_get] at hk
      cases hl : x.args[k]? with
      | none => rw [hl] at hk; cases hk
      | some l =>
        rw [hl] at hk; simp only [Option.map_some, Option.some.injEq] at hk
        subst hk
        have := (List.getElem?_eq_some_iff.1 hl).1
        have := h.al
        exact ⟨.inl ⟨rfl, by simp only [regL]; omega, by simp only [regL]; omega⟩, hpa l (List.mem_of_getElem? hl)⟩
    · obtain rfl := List.mem_singleton.1 hy
      have := hcall h25
      exact mkOk (by decide) (by decide) (by decide) (.inl rfl) (.inl rfl) (.inl rfl) (by unfold numU; omega)
    · split at hy
      · cases hy
      · obtain rfl := List.mem_singleton.1 hy; exact mov_ok r8 ⟨by decide, by decide⟩
    · exact hhome 24 (.inl rfl) r hr
    · exact hst y hy
  · rename_i h25
    split at hy
    · rename_i h31
      split at hy
      · rename_i l _ ha
        have hset := (h.nc h25).2.1
        have hdp : placeB F x.dst = true := by
          rcases h.ds with hd | hd
          · rw [hd, h31] at hset; exact absurd hset (by decide)
          · exact hd
        exact moveC_okU (place_PL hdp) (hpa l (by rw [ha]; simp)) y hy
      · cases hy
    · rename_i h31
      simp only [List.mem_append] at hy
      rcases hy with (hy | hy) | hy
      · exact readsC_okU hpa (by have := h.al; omega) y hy
      · obtain rfl := List.mem_singleton.1 hy; exact opC_okU h h25 h31 htr
      · split at hy
        · rename_i hk
          have hd : placeB F x.dst = true := by
            rcases h.ds with hd | hd
            · simp only [noneB, decide_eq_true_eq] at hd; omega
            · exact hd
          exact storeC_okU (place_PL hd) r8 y hy
        · cases hy
/-- what is asked of the end of a block -/
def TermV (F : AF) (t : AT) : Prop := (noneB t.value = true ∧ (t.kind = 1 ∨ t.kind = 3)) ∨ placeB F t.value = true
theorem termC_ok {k : Int} {t : AT} (hv : TermV F t) (hk : t.kind = 1 ∨ t.kind = 2 ∨ t.kind = 3 ∨ t.kind = 4) : ∀ q ∈ termC S k t, if q.2 then okJ q.1 else okU nf (slotW S F.slots) q.1 := fun q hq => by
  have hU : ∀ {l : List RI}, (∀ x ∈ l, okU nf (slotW S F.slots) x) → q ∈ l.map (·, false) → if q.2 then okJ q.1 else okU nf (slotW S F.slots) q.1 := fun {l} h hm => by
    obtain ⟨x, hx, rfl⟩ := List.mem_map.1 hm
    exact h x hx
  have hpl : t.kind = 2 ∨ t.kind = 4 → PL F t.value := fun h => by
    rcases hv with ⟨_, hv⟩ | hv
    · omega
    · exact place_PL hv
  have hrd : t.kind = 2 ∨ t.kind = 4 → ∀ x ∈ readsC S 0 [t.value], okU nf (slotW S F.slots) x := fun h => readsC_okU (fun y hy => by rw [List.mem_singleton.1 hy]; exact hpl h) (by simp)
  have jmp : ∀ (op r n : Int), op = 21 ∧ r = 0 ∨ (op = 22 ∨ op = 23) ∧ regR r → okJ ⟨op, r, 0, 0, n⟩ := fun op r n h => by
    refine ⟨⟨by simp only; omega, by simp only; omega, ?_, .inl rfl, .inl rfl⟩, by simp only; omega, by simp only; omega⟩
    rcases h with ⟨_, rfl⟩ | ⟨ho, hr⟩
    · exact .inl rfl
    · exact reg_ok hr (by simp only [uA, decide_eq_true_eq]; omega)
  unfold termC at hq
  split at hq
  · split at hq
    · split at hq
      · cases hq
      · obtain rfl := List.mem_singleton.1 hq; exact jmp 21 0 _ (.inl ⟨rfl, rfl⟩)
    · cases hq
  · split at hq
    · rename_i h2
      split at hq
      · rename_i b c hb
        have hr := regOf_reg (i := 0) (hpl (.inl h2)) (by decide)
        rcases List.mem_append.1 hq with hq | hq
        · exact hU (hrd (.inl h2)) hq
        · split at hq
          · obtain rfl := List.mem_singleton.1 hq; exact jmp 22 _ _ (.inr ⟨.inl rfl, hr⟩)
          · rcases List.mem_cons.1 hq with rfl | hq
            · exact jmp 23 _ _ (.inr ⟨.inr rfl, hr⟩)
            · split at hq
              · cases hq
              · obtain rfl := List.mem_singleton.1 hq; exact jmp 21 0 _ (.inl ⟨rfl, rfl⟩)
      · cases hq
    · split at hq
      · refine hU (fun x hx => ?_) hq
        rcases List.mem_append.1 hx with hx | hx
        · split at hx
          · cases hx
          · rename_i hn
            rcases hv with ⟨hv, _⟩ | hv
            · exact absurd hv hn
            · exact loadC_okU (place_PL hv) ⟨by decide, by decide⟩ x hx
        · obtain rfl := List.mem_singleton.1 hx
          exact mkOk (by decide) (by decide) (by decide) (.inl rfl) (.inl rfl) (.inl rfl) (by unfold numU; simp)
      · have h4 : t.kind = 4 := by omega
        refine hU (fun x hx => ?_) hq
        rcases List.mem_append.1 hx with hx | hx
        · exact hrd (.inr h4) x hx
        · obtain rfl := List.mem_singleton.1 hx
          exact mkOk (by decide) (by decide) (by decide) (reg_ok (regOf_reg (i := 0) (hpl (.inr h4)) (by decide)) rfl) (.inl rfl) (.inl rfl) (by unfold numU; omega)
/-- the last block's end: it leads on, and its last instruction goes -/
theorem termC_last {k : Nat} {t : AT} (hk : t.kind = 1 ∧ (∃ b, t.to = [b]) ∨ t.kind = 2 ∧ (∃ b c, t.to = [b, c]) ∨ t.kind = 3 ∨ t.kind = 4) (ht : ∀ b ∈ t.to, b < (k : Int) + 1) : ∃ (q : List (RI × Bool)) (y : RI × Bool), termC S k t = q ++ [y] ∧ (y.1.op = 21 ∨ y.1.op = 27 ∨ y.1.op = 35) := by
  rcases hk with ⟨h1, b, hb⟩ | ⟨h2, b, c, hb⟩ | h3 | h4
  · have := ht b (by rw [hb]; simp)
    refine ⟨[], (⟨21, 0, 0, 0, b⟩, true), ?_, .inl rfl⟩
    unfold termC; rw [if_pos h1, hb]
    simp only
    rw [if_neg (by omega)]; rfl
  · have h5 := ht b (by rw [hb]; simp)
    have h6 := ht c (by rw [hb]; simp)
    refine ⟨(readsC S 0 [t.value]).map (·, false) ++ [(⟨23, regOf 0 t.value, 0, 0, b⟩, true)], (⟨21, 0, 0, 0, c⟩, true), ?_, .inl rfl⟩
    unfold termC; rw [if_neg (by omega), if_pos h2, hb]
    simp only
    rw [if_neg (by omega), if_neg (by omega), List.append_assoc]; rfl
  · refine ⟨(if noneB t.value then [] else loadC S 0 t.value).map (·, false), (⟨27, 0, 0, 0, 0⟩, false), ?_, .inr (.inl rfl)⟩
    unfold termC; rw [if_neg (by omega), if_neg (by omega), if_pos h3, List.map_append]; rfl
  · refine ⟨(readsC S 0 [t.value]).map (·, false), (⟨35, regOf 0 t.value, 0, 0, 6⟩, false), ?_, .inr (.inr rfl)⟩
    unfold termC; rw [if_neg (by omega), if_neg (by omega), if_neg (by omega), List.map_append]; rfl
end
end Go.Proofs.Ytfaokbjpinlcaaa
end
section
/- A function's code is code that holds; plain. -/
namespace Go.Proofs.Ytfaokbjpinlcaaa
open Go.Sep
set_option linter.unusedVariables false
set_option linter.unusedSimpArgs false
/-- what the check tells of a function, as its code is checked -/
structure FunV (nf : Int) (F : AF) : Prop where
  ok : FunOk F
  ins : ∀ b ∈ F.blocks, ∀ x ∈ b.body, (x.op = 25 → 0 ≤ x.imm ∧ x.imm < nf) ∧ (28 ≤ x.op ∧ x.op ≤ 30 → 1 ≤ x.imm ∧ x.imm ≤ 5)
  trm : ∀ b ∈ F.blocks, TermV F b.term
  ne : F.blocks ≠ []
theorem insB_more {A : AL} {F : AF} {x : AI} (h : insB A F x = true) : (x.op = 25 → 0 ≤ x.imm ∧ x.imm < (A.funcs.length : Int)) ∧ (28 ≤ x.op ∧ x.op ≤ 30 → 1 ≤ x.imm ∧ x.imm ≤ 5) := by
  unfold insB at h
  rw [Bool.and_eq_true] at h
  have h3 := h.2
  by_cases h25 : x.op = 25
  · rw [if_pos h25] at h3
    unfold callB at h3
    rw [Bool.and_eq_true, decide_eq_true_eq] at h3
    exact ⟨fun _ => h3.1, fun h => by omega⟩
  · rw [if_neg h25] at h3
    refine ⟨fun h => absurd h h25, fun hr => ?_⟩
    rw [if_pos hr] at h3
    simp only [Bool.and_eq_true, decide_eq_true_eq] at h3
    exact h3.2
theorem termB_V {F : AF} {t : AT} (h : termB F t = true) : TermV F t := by
  unfold termB at h
  rw [Bool.and_eq_true, Bool.and_eq_true, Bool.or_eq_true] at h
  obtain ⟨⟨h1, _⟩, h3⟩ := h
  rcases h1 with h1 | h1
  · refine .inl ⟨h1, ?_⟩
    by_cases e1 : t.kind = 1
    · exact .inl e1
    rw [if_neg e1] at h3
    by_cases e2 : t.kind = 2
    · rw [if_pos e2, h1] at h3; simp at h3
    rw [if_neg e2] at h3
    by_cases e3 : t.kind = 3
    · exact .inr e3
    rw [if_neg e3, h1] at h3
    split at h3 <;> simp at h3
  · exact .inr h1
theorem okA_funB {nm : ByteArray → Bool} {A : AL} (h : okA nm A = true) {F : AF} (hF : F ∈ A.funcs) : nm F.name = true ∧ funB A F = true := by
  unfold okA at h
  rw [Bool.and_eq_true, Bool.and_eq_true, Bool.and_eq_true] at h
  have := List.all_eq_true.1 h.1.1.1 F hF
  rwa [Bool.and_eq_true] at this
theorem okA_nodup {nm : ByteArray → Bool} {A : AL} (h : okA nm A = true) : (A.funcs.map AF.name).Nodup ∧ 0 ≤ A.main ∧ A.main < (A.funcs.length : Int) := by
  unfold okA at h
  rw [Bool.and_eq_true, Bool.and_eq_true, Bool.and_eq_true, decide_eq_true_eq, decide_eq_true_eq] at h
  exact ⟨h.1.1.2, h.1.2⟩
theorem okA_main {nm : ByteArray → Bool} {A : AL} (h : okA nm A = true) : ∃ F, A.funcs[A.main.toNat]? = some F ∧ F.params = [] := by
  unfold okA at h
  rw [Bool.and_eq_true] at h
  have h2 := h.2
  cases g : A.funcs[A.main.toNat]? with
  | none => rw [g] at h2; cases h2
  | some F =>
    rw [g] at h2
    simp only [Bool.and_eq_true] at h2
    exact ⟨F, rfl, List.isEmpty_iff.1 h2.1⟩
theorem okA_funV {nm : ByteArray → Bool} {A : AL} (h : okA nm A = true) (hs : SmallA A) {F : AF} (hF : F ∈ A.funcs) : FunV A.funcs.length F := by
  obtain ⟨h1, h2, h3, h4⟩ := funB_spec (okA_funB h hF).2
  exact ⟨okA_fun h hs hF, fun b hb x hx => insB_more ((h4 b hb).1 x hx), fun b hb => termB_V (h4 b hb).2, h1.2.2.2.2.2⟩
theorem termC_to {S : List Int} {k : Int} {t : AT} : ∀ q ∈ termC S k t, q.2 = true → q.1.n ∈ t.to := fun q hq h2 => by
  have hU : ∀ {l : List RI}, q ∈ l.map (·, false) → False := fun {l} hm => by
    obtain ⟨x, _, rfl⟩ := List.mem_map.1 hm
    cases h2
  unfold termC at hq
  split at hq
  · split at hq
    · rename_i b hb
      split at hq
      · cases hq
      · obtain rfl := List.mem_singleton.1 hq; rw [hb]; simp
    · cases hq
  · split at hq
    · split at hq
      · rename_i b c hb
        rw [hb]
        rcases List.mem_append.1 hq with hq | hq
        · exact (hU hq).elim
        · split at hq
          · obtain rfl := List.mem_singleton.1 hq; simp
          · rcases List.mem_cons.1 hq with rfl | hq
            · simp
            · split at hq
              · cases hq
              · obtain rfl := List.mem_singleton.1 hq; simp
      · cases hq
    · split at hq
      · exact (hU hq).elim
      · exact (hU hq).elim
section
variable {nf : Int} {F : AF}
theorem raw_okU (h : FunV nf F) : ∀ k, k ≤ F.blocks.length → ∀ q ∈ rawC (savS F) F k, if q.2 then okJ q.1 ∧ 0 ≤ q.1.n ∧ q.1.n < (F.blocks.length : Int) else okU nf (slotW (savS F) F.slots) q.1
  | 0, _, q, hq => by
    rw [raw_zero] at hq
    unfold preC at hq
    obtain ⟨x, hx, rfl⟩ := List.mem_map.1 hq
    refine movesC_okU (F := F) (fun m hm => ?_) x hx
    obtain ⟨k, hk⟩ := List.getElem?_of_mem hm
    rw [numb_get] at hk
    cases hl : F.params[k]? with
    | none => rw [hl] at hk; cases hk
    | some l =>
      rw [hl] at hk; simp only [Option.map_some, Option.some.injEq] at hk
      have h1 := (List.getElem?_eq_some_iff.1 hl).1
      have h2 := h.ok.pl
      subst hk
      exact ⟨place_PL (h.ok.pp l (List.mem_of_getElem? hl)), .inl ⟨rfl, by simp only [regL]; omega, by simp only [regL]; omega⟩⟩
  | k + 1, hk, q, hq => by
    obtain ⟨b, gb⟩ : ∃ b, F.blocks[k]? = some b := ⟨_, List.getElem?_eq_getElem (by omega)⟩
    have hb := List.mem_of_getElem? gb
    rw [raw_step gb] at hq
    rcases List.mem_append.1 hq with hq | hq
    · exact raw_okU h k (by omega) q hq
    · unfold blkC at hq
      rcases List.mem_append.1 hq with hq | hq
      · obtain ⟨x, hx, rfl⟩ := List.mem_map.1 hq
        obtain ⟨i, hi, hx⟩ := List.mem_flatMap.1 hx
        refine insC_okU (h.ok.ins b hb i hi) h.ok.sl.1 (fun r hr => ?_) (h.ins b hb i hi).1 (h.ins b hb i hi).2 x hx
        exact h.ok.sv r ((savS_mem h.ok.sv r).1 hr)
      · have hk : b.term.kind = 1 ∨ b.term.kind = 2 ∨ b.term.kind = 3 ∨ b.term.kind = 4 := by
          rcases (h.ok.trm b hb).1.to with h | h | h | h
          · exact .inl h.1
          · exact .inr (.inl h.1)
          · exact .inr (.inr (.inl h))
          · exact .inr (.inr (.inr h))
        have h1 := termC_ok (nf := nf) (F := F) (h.trm b hb) hk q hq
        cases hq2 : q.2 with
        | false => rw [hq2] at h1; exact h1
        | true =>
          rw [hq2] at h1
          exact ⟨h1, (h.ok.trm b hb).2 _ (termC_to q hq hq2)⟩
theorem raw_mono {S : List Int} : ∀ {k m : Nat}, k ≤ m → m ≤ F.blocks.length → (rawC S F k).length ≤ (rawC S F m).length
  | k, 0, h, _ => by rw [Nat.le_zero.1 h]; exact Nat.le_refl _
  | k, m + 1, h, hm => by
    by_cases e : k = m + 1
    · subst e; exact Nat.le_refl _
    · obtain ⟨b, gb⟩ : ∃ b, F.blocks[m]? = some b := ⟨_, List.getElem?_eq_getElem (by omega)⟩
      have := raw_mono (S := S) (k := k) (m := m) (by omega) (by omega)
      rw [raw_step gb, List.length_append]; omega
/-- the code's end goes -/
theorem raw_last (h : FunV nf F) : ∃ (k : Nat) (q : List (RI × Bool)) (y : RI × Bool), F.blocks.length = k + 1 ∧ rawC (savS F) F F.blocks.length = rawC (savS F) F k ++ q ++ [y] ∧ (y.1.op = 21 ∨ y.1.op = 27 ∨ y.1.op = 35) := by
  have hl := List.length_pos_iff.2 h.ne
  obtain ⟨k, hk⟩ : ∃ k, F.blocks.length = k + 1 := ⟨F.blocks.length - 1, by omega⟩
  obtain ⟨b, gb⟩ : ∃ b, F.blocks[k]? = some b := ⟨_, List.getElem?_eq_getElem (by omega)⟩
  have hb := List.mem_of_getElem? gb
  obtain ⟨q, y, e, hy⟩ := termC_last (S := savS F) (k := k) (h.ok.trm b hb).1.to fun c hc => by have := (h.ok.trm b hb).2 c hc; omega
  refine ⟨k, (b.body.flatMap (insC (savS F))).map (·, false) ++ q, y, hk, ?_, hy⟩
  rw [hk, raw_step gb]
  unfold blkC
  rw [e]; simp only [List.append_assoc]
theorem code_len {S : List Int} {first : Int} : (codeC S F first).length = (rawC S F F.blocks.length).length := by rw [codeC_eq, List.length_map]
theorem code_V (h : FunV nf F) (first : Int) : ∀ x ∈ codeC (savS F) F first, InsV nf (slotW (savS F) F.slots) first (codeC (savS F) F first).length x := fun x hx => by
  rw [code_len]
  rw [codeC_eq] at hx
  obtain ⟨q, hq, rfl⟩ := List.mem_map.1 hx
  have h1 := raw_okU h _ (Nat.le_refl _) q hq
  unfold patC
  cases hq2 : q.2 with
  | false =>
    rw [hq2, if_neg (by simp)] at h1
    rw [if_neg (by simp)]
    exact ⟨h1.1, .inr ⟨h1.2.1, h1.2.2⟩⟩
  | true =>
    rw [hq2, if_pos rfl] at h1
    rw [if_pos rfl]
    obtain ⟨⟨r, o1, o2⟩, n0, n1⟩ := h1
    obtain ⟨k, l, y, hk, e, _⟩ := raw_last h
    refine ⟨⟨r.o1, r.o2, r.ra, r.rb, r.rc⟩, .inl ⟨⟨o1, o2⟩, ?_, ?_⟩⟩
    · show first ≤ placeC _ _ _ _
      unfold placeC; omega
    · show placeC _ _ _ _ - first < _
      have := raw_mono (F := F) (S := savS F) (k := q.1.n.toNat) (m := k) (by omega) (by omega)
      unfold placeC
      rw [e, List.length_append, List.length_append, List.length_singleton]; omega
theorem code_last (h : FunV nf F) (first : Int) : ∃ (xs : List RI) (y : RI), codeC (savS F) F first = xs ++ [y] ∧ (y.op = 21 ∨ y.op = 27 ∨ y.op = 35) := by
  obtain ⟨k, q, y, _, e, hy⟩ := raw_last h
  refine ⟨(rawC (savS F) F k ++ q).map (patC (savS F) F first), patC (savS F) F first y, ?_, ?_⟩
  · rw [codeC_eq, e, List.map_append]; rfl
  · unfold patC; split <;> exact hy
theorem code_ne (h : FunV nf F) (first : Int) : 1 ≤ (codeC (savS F) F first).length := by
  obtain ⟨xs, y, e, _⟩ := code_last h first
  rw [e, List.length_append, List.length_singleton]; omega
end
/-! ### A program's code -/
noncomputable def rfU (F : AF) (first : Nat) : RF := ⟨F.name, slotW (savS F) F.slots, first, (codeC (savS F) F first).length, F.params.length⟩
theorem emL_snd_len : ∀ (l : List AF) (i : Nat), i ≤ l.length → (emL (l.take i)).2.length = i
  | l, 0, _ => by rw [List.take_zero]; rfl
  | l, i + 1, h => by
    obtain ⟨F, gF⟩ : ∃ b, l[i]? = some b := ⟨_, List.getElem?_eq_getElem (by omega)⟩
    rw [emL_step gF]
    unfold emS
    simp only [List.length_append, List.length_singleton]
    rw [emL_snd_len l i (by omega)]
theorem emL_pre {l : List AF} : ∀ {i m : Nat}, i ≤ m → m ≤ l.length → (∃ a, (emL (l.take m)).1 = (emL (l.take i)).1 ++ a) ∧ ∃ b, (emL (l.take m)).2 = (emL (l.take i)).2 ++ b
  | i, m, h, hm => by
    induction m with
    | zero => rw [Nat.le_zero.1 h]; exact ⟨⟨[], by simp⟩, ⟨[], by simp⟩⟩
    | succ m ih =>
      by_cases e : i = m + 1
      · subst e; exact ⟨⟨[], by simp⟩, ⟨[], by simp⟩⟩
      · obtain ⟨⟨a, ha⟩, ⟨b, hb⟩⟩ := ih (by omega) (by omega)
        obtain ⟨F, gF⟩ : ∃ b, l[m]? = some b := ⟨_, List.getElem?_eq_getElem (by omega)⟩
        rw [emL_step gF]
        unfold emS
        exact ⟨⟨a ++ _, by simp only; rw [ha, List.append_assoc]⟩, ⟨b ++ _, by simp only; rw [hb, List.append_assoc]⟩⟩
theorem emL_fun {l : List AF} {i : Nat} {F : AF} (h : l[i]? = some F) : (emL l).2[i]? = some (rfU F (emL (l.take i)).1.length) := by
  have hi := (List.getElem?_eq_some_iff.1 h).1
  obtain ⟨_, b, hb⟩ := emL_pre (l := l) (i := i + 1) (m := l.length) (by omega) (Nat.le_refl _)
  rw [List.take_length, emL_step h] at hb
  rw [hb]
  unfold emS
  have := emL_snd_len l i (by omega)
  rw [List.getElem?_append_left (by simp [this]), List.getElem?_append_right (by omega), this, Nat.sub_self]
  rfl
theorem emL_ins {l : List AF} {i : Nat} {F : AF} (h : l[i]? = some F) : (emL (l.take (i + 1))).1.length = (emL (l.take i)).1.length + (codeC (savS F) F (emL (l.take i)).1.length).length := by
  rw [emL_step h]; unfold emS; simp only [List.length_append]
theorem emL_at {l : List AF} {i j : Nat} {F : AF} (h : l[i]? = some F) (hj : j < (codeC (savS F) F (emL (l.take i)).1.length).length) : (emL l).1[(emL (l.take i)).1.length + j]? = (codeC (savS F) F (emL (l.take i)).1.length)[j]? := by
  have hi := (List.getElem?_eq_some_iff.1 h).1
  obtain ⟨⟨a, ha⟩, _⟩ := emL_pre (l := l) (i := i + 1) (m := l.length) (by omega) (Nat.le_refl _)
  rw [List.take_length, emL_step h] at ha
  rw [ha]
  unfold emS
  simp only
  rw [List.append_assoc, List.getElem?_append_right (by omega), Nat.add_sub_cancel_left, List.getElem?_append_left hj]
theorem emL_le {l : List AF} {i : Nat} (h : i ≤ l.length) : (emL (l.take i)).1.length ≤ (emL l).1.length := by
  obtain ⟨⟨a, ha⟩, _⟩ := emL_pre (l := l) (i := i) (m := l.length) h (Nat.le_refl _)
  rw [List.take_length] at ha
  rw [ha, List.length_append]; omega
theorem emL_len {l : List AF} (h : ∀ F ∈ l, FunOk F) : ∀ i, i ≤ l.length → (emL (l.take i)).1.length ≤ 3000000 * i ∧ (emL (l.take i)).2.length = i
  | 0, _ => by simp [emL]
  | i + 1, hi => by
    obtain ⟨F, gF⟩ : ∃ F, l[i]? = some F := ⟨_, List.getElem?_eq_getElem (by omega)⟩
    obtain ⟨h1, h2⟩ := emL_len h i (by omega)
    have hF := h F (List.mem_of_getElem? gF)
    have h3 := raw_len hF F.blocks.length (Nat.le_refl _)
    have h4 := sumB_le F F.blocks.length
    have h5 := hF.sm.st
    have h6 := hF.sm.sb
    rw [emL_step gF]
    unfold emS
    simp only [List.length_append, List.length_singleton, codeC_eq, List.length_map]
    omega
end Go.Proofs.Ytfaokbjpinlcaaa
end
section
/- Flags of registers, and how many are met; plain. -/
namespace Go.Proofs.Ytfaokbjpinlcaaa
open Go.Sep
set_option linter.unusedVariables false
set_option linter.unusedSimpArgs false
abbrev flg (S : List Int) (i : Int) : Value := .bool (decide (i ∈ S))
abbrev fgV (S : List Int) : List Value := [flg S 0, flg S 1, flg S 2, flg S 3, flg S 4, flg S 5, flg S 6, flg S 7]
theorem fgV_nil : fgV [] = [.bool false, .bool false, .bool false, .bool false, .bool false, .bool false, .bool false, .bool false] := by simp [fgV, flg]
theorem flg_snoc (S : List Int) (i r : Int) : flg (S ++ [r]) i = if i = r then .bool true else flg S i := by
  by_cases h : i = r <;> simp [flg, h]
theorem fg_cases {r : Int} (h0 : 0 ≤ r) (h8 : r < 8) : r = 0 ∨ r = 1 ∨ r = 2 ∨ r = 3 ∨ r = 4 ∨ r = 5 ∨ r = 6 ∨ r = 7 := by omega
theorem fgV_set {S : List Int} {r : Int} (h0 : 0 ≤ r) (h8 : r < 8) : setManyL (fgV S) r.toNat [.bool true] = fgV (S ++ [r]) := by
  unfold fgV
  simp only [flg_snoc]
  rcases fg_cases h0 h8 with rfl | rfl | rfl | rfl | rfl | rfl | rfl | rfl <;> simp [setManyL]
theorem flg_eq {S S' : List Int} (h : ∀ r, r ∈ S ↔ r ∈ S') (i : Int) : flg S i = flg S' i := by
  unfold flg; rw [decide_eq_decide.2 (h i)]
theorem fgV_eq {S S' : List Int} (h : ∀ r, r ∈ S ↔ r ∈ S') : fgV S = fgV S' := by
  unfold fgV; simp only [flg_eq h]
theorem fgV_at {S : List Int} {r : Int} (h0 : 0 ≤ r) (h8 : r < 8) : (fgV S)[r.toNat]? = some (flg S r) := by
  rcases fg_cases h0 h8 with rfl | rfl | rfl | rfl | rfl | rfl | rfl | rfl <;> rfl
theorem mem_snoc {S : List Int} {r : Int} (h : r ∈ S) (q : Int) : q ∈ S ↔ q ∈ S ++ [r] := by
  rw [List.mem_append, List.mem_singleton]
  exact ⟨.inl, fun h2 => h2.elim id fun e => e ▸ h⟩
/-- how many of these are met -/
def cntL (S l : List Int) : Int := (l.map fun i => if i ∈ S then (1 : Int) else 0).sum
def cntS (S : List Int) : Int := cntL S [0, 1, 2, 3, 4, 5, 6, 7]
theorem cntL_cons (S : List Int) (x : Int) (l : List Int) : cntL S (x :: l) = (if x ∈ S then (1 : Int) else 0) + cntL S l := rfl
theorem cntL_out {S : List Int} {r : Int} : ∀ {l : List Int}, r ∉ l → cntL (S ++ [r]) l = cntL S l
  | [], _ => rfl
  | x :: l, h => by
    have hx : ¬ x = r := fun e => h (by rw [e]; simp)
    rw [cntL_cons, cntL_cons, cntL_out fun hm => h (by simp [hm])]
    simp [hx]
theorem cntL_snoc {S : List Int} {r : Int} (hr : r ∉ S) : ∀ {l : List Int}, l.Nodup → r ∈ l → cntL (S ++ [r]) l = cntL S l + 1
  | [], _, h => by cases h
  | x :: l, hn, h => by
    rw [List.nodup_cons] at hn
    rw [cntL_cons, cntL_cons]
    by_cases hx : x = r
    · subst hx
      rw [cntL_out hn.1, if_pos (by simp), if_neg hr]; omega
    · rw [cntL_snoc hr hn.2 ((List.mem_cons.1 h).resolve_left fun e => hx e.symm)]
      simp [hx]; omega
theorem cntS_snoc {S : List Int} {r : Int} (hr : r ∉ S) (h0 : 0 ≤ r) (h8 : r < 8) : cntS (S ++ [r]) = cntS S + 1 :=
  cntL_snoc hr (by decide) (by rcases fg_cases h0 h8 with rfl | rfl | rfl | rfl | rfl | rfl | rfl | rfl <;> decide)
theorem cntS_eq {S S' : List Int} (h : ∀ r, r ∈ S ↔ r ∈ S') : cntS S = cntS S' := by
  unfold cntS cntL; simp only [h]
theorem cntS_nil : cntS [] = 0 := rfl
theorem cntL_filter (S : List Int) : ∀ (l : List Int), ((l.filter fun r => decide (r ∈ S)).length : Int) = cntL S l
  | [] => rfl
  | x :: l => by
    rw [cntL_cons, List.filter_cons]
    by_cases h : x ∈ S
    · rw [if_pos (by simpa using h), if_pos h, List.length_cons, ← cntL_filter S l]; omega
    · rw [if_neg (by simpa using h), if_neg h, cntL_filter S l]; omega
theorem cntS_le (S : List Int) : 0 ≤ cntS S ∧ cntS S ≤ 8 := by
  unfold cntS
  rw [← cntL_filter]
  have := List.length_filter_le (fun r => decide (r ∈ S)) [(0 : Int), 1, 2, 3, 4, 5, 6, 7]
  simp only [List.length_cons, List.length_nil] at this
  omega
theorem frame_eq (F : AF) : slotW (savS F) F.slots = 2 + F.slots + cntS (allS F) := by
  unfold slotW savS cntS
  rw [range8, cntL_filter]; omega
end Go.Proofs.Ytfaokbjpinlcaaa
end
