/- The work of an order of moves: what it holds; a place is read by one less; a move is put; walked. -/
import Derived.Test.YtfaokbjpinlcaaaGA4
import Derived.Test.YtfaokbjpinlcaaaGA6
section
/- The work of an order of moves: what it holds; a place is read by one less; a move is put; walked. -/
namespace Go.Proofs.Ytfaokbjpinlcaaa
open Go.Sep
set_option linter.unusedSimpArgs false
set_option linter.unusedVariables false
attribute [local irreducible] blk slA mp mpF rows rowsBut many mpK mpE
abbrev vI (n : Int) : Value := .int .i64 n
abbrev ptrV (b : Nat) : Value := .pointer (some ⟨b, 0, none⟩)
def MpI (f : Lc → Option Value) (r : Lc → Int) : Prop := ∀ p, (f p).getD (vI 0) = vI (r p)
theorem MpI.upd {f : Lc → Option Value} {r : Lc → Int} (h : MpI f r) (p : Lc) (n : Int) : MpI (updK f p (vI n)) (fun q => if q = p then n else r q) := fun q => by
  unfold updK
  by_cases e : q = p
  · simp [e]
  · simp only [e, if_false]; exact h q
theorem MpI.same {f : Lc → Option Value} {r : Lc → Int} (h : MpI f r) (p : Lc) (z : Value) : updK (updK f p ((f p).getD (vI 0))) p z = updK f p z := updK_same _ _ _ _
structure WZ where
  lv : SV
  dv : SV
  ov : SV
  rm : Nat
  sm : Nat
  f : Lc → Option Value
  g : Lc → Option Value
abbrev wkC (b : Nat) (Ms : List Mv) (ds : List Int) (S : List Int) (out : List Mv) (z : WZ) : List HProp :=
  [hpP b z.lv.val z.dv.val (.map (some z.rm)) (.map (some z.sm)) z.ov.val S, slA 82 encMv z.lv.val Ms, slA 3 encI z.dv.val ds, mpK encL z.rm z.f, mpK encL z.sm z.g, slA 82 encMv z.ov.val out]
def workP (b : Nat) (Ms : List Mv) (ds : List Int) (rf sf : Lc → Int) (S : List Int) (out : List Mv) : HProp := exP (fun z : WZ => MpI z.f rf ∧ MpI z.g sf) (wkC b Ms ds S out)
theorem workP_shut {b : Nat} {Ms : List Mv} {ds : List Int} {rf sf : Lc → Int} {S : List Int} {out : List Mv} (z : WZ) (h1 : MpI z.f rf) (h2 : MpI z.g sf) (Γ : List HProp) : ent (wkC b Ms ds S out z ++ Γ) (workP b Ms ds rf sf S out :: Γ) :=
  exP_shut (g := fun z : WZ => MpI z.f rf ∧ MpI z.g sf) (Θ := wkC b Ms ds S out) z ⟨h1, h2⟩ Γ
/-- one less -/
def decF (rf : Lc → Int) (l : Lc) : Lc → Int := fun p => if p = l then rf p - 1 else rf p
/-- who is ready when a place is read by one less -/
def rdyF (ds : List Int) (rf sf : Lc → Int) (S : List Int) (l : Lc) : List Int := if rf l = 1 ∧ 0 < sf l ∧ ds[(sf l - 1).toNat]? = some 0 then (sf l - 1) :: S else S
set_option maxHeartbeats 1000000 in
set_option maxRecDepth 100000 in
theorem free_ok (hR : Heap) (b : Nat) (Ms : List Mv) (ds : List Int) (rf sf : Lc → Int) (S : List Int) (out : List Mv) (l : Lc) (hS : S.length < 1000000) (hb : -1000000000 ≤ rf l ∧ rf l ≤ 1000000000) (hs : 0 < sf l → ∃ d, ds[(sf l - 1).toNat]? = some d) (hs2 : sf l ≤ 1000000) (hs3 : 0 ≤ sf l) :
    Tri Try.prog hR 70 #[ptrV b, encL l] [workP b Ms ds rf sf S out] fun _ Γ' => Γ' = [workP b Ms ds (decF rf l) sf (rdyF ds rf sf S l) out] := by
  refine Tri.openX 0 ?_
  rintro ⟨lv, dv, ov, rm, sm, f, g⟩ ⟨hf, hg⟩
  simp only at hf hg
  refine Tri.openX 0 ?_
  rintro ⟨rv, xs⟩ ⟨hp, hh⟩
  simp only at hp hh
  refine Tri.ent (Tri.of (args := [ptrV b, .agg ⟨lcv l⟩]) Try.func70 rfl Try.ntmps70 (by simp) ?_)
  refine Zp ?_
  refine Run.box rfl rfl rfl rfl rfl ?_
  intro b3
  refine Ze ?_
  refine WP.trim [0, 3] [0, 1, 2, 3, 4, 5, 6, 7] ?_
  refine WP.seqCut [(0, ptrV b), (3, ptrV b3)] [wkB b lv.val dv.val (.map (some rm)) (.map (some sm)) rv.val ov.val, slA 3 encI rv.val xs, slA 82 encMv lv.val Ms, slA 3 encI dv.val ds, mpK encL rm (updK f l (vI (rf l - 1))), mpK encL sm g, slA 82 encMv ov.val out, blk b3 (lcv l) 44] ?_ ?_
  · refine WP.drawnX cf0 [0, 1, 2, 3, 4, 5, 6, 7, 8, 9] [0, 1, 2, 3, 4, 7, 5, 6, 8, 9] 5 7 mixed rfl rfl (by kernel_rfl) ?_ ?_
    · refine Zm ?_
      refine Zn ?_
      refine Zf fo_134_2 ?_
      refine Zl 0 ag_131 ?_
      refine Run.loadBagg 7 rfl rfl ag_44 rfl rfl rfl rfl rfl ?_
      refine Run.lookupK kok_44 4 (k := l) rfl rfl rfl mt_131 zr_3 rfl rfl rfl ?_; refine Run.eqv (hf l) ?_
      refine Zs ?_
      refine Run.mapEntryK kok_44 4 (k := l) rfl rfl rfl mt_131 zr_3 rfl rfl rfl ?_
      intro st
      refine Run.extract rfl rfl rfl rfl rfl ?_
      refine Run.entryStoreK kok_44.inj 4 rfl rfl rfl rfl rfl rfl ?_
      refine Run.nil ?_
      refine thn_next ⟨⟨rfl, rfl, trivial⟩, ?_⟩
      rw [updK_same]; exact ent.go
    · refine Zm ?_
      refine Zn ?_
      refine Zf fo_134_2 ?_
      refine Zl 0 ag_131 ?_
      refine Run.loadBagg 7 rfl rfl ag_44 rfl rfl rfl rfl rfl ?_
      refine Run.mapEntryK kok_44 4 (k := l) rfl rfl rfl mt_131 zr_3 rfl rfl rfl ?_
      intro st
      refine Run.lookupE kok_44 4 (k := l) rfl rfl rfl mt_131 zr_3 rfl rfl rfl ?_; refine Run.eqv (v' := vI (rf l)) (by simp only [updK, if_true, Option.getD_some]; exact hf l) ?_
      refine Zs ?_
      refine Run.extract rfl rfl rfl rfl rfl ?_
      refine Run.entryStoreK kok_44.inj 4 rfl rfl rfl rfl rfl rfl ?_
      refine Run.nil ?_
      refine thn_next ⟨⟨rfl, rfl, trivial⟩, ?_⟩
      rw [updK_same]; exact ent.go
  have hf2 := hf.upd l (rf l - 1)
  have e2 : (fun q => if q = l then rf l - 1 else rf q) = decF rf l := by
    funext q; unfold decF; split
    · rename_i e; rw [e]
    · rfl
  rw [e2] at hf2
  generalize updK f l (vI (rf l - 1)) = f2 at hf2
  refine WP.trim [0, 3] [0, 1, 2, 3, 4, 5, 6, 7] ?_
  refine WP.seq ?_
  refine WP.drawn0 cf0 mixed rfl (by kernel_rfl) ?_
  refine Zm ?_
  refine Zn ?_
  refine Zf fo_134_3 ?_
  refine Zl 0 ag_131 ?_
  refine Run.loadBagg 7 rfl rfl ag_44 rfl rfl rfl rfl rfl ?_
  refine Run.lookupK kok_44 5 (k := l) rfl rfl rfl mt_131 zr_3 rfl rfl rfl ?_; refine Run.eqv (hg l) ?_
  refine Zm ?_
  refine Ze ?_
  refine WP.trim [0, 3, 4] [0, 1, 2, 3, 4, 5, 6, 7] ?_
  refine WP.seqCut [(0, ptrV b), (4, vI (sf l)), (41, .bool (decide (rf l = 1 ∧ 0 < sf l ∧ ds[(sf l - 1).toNat]? = some 0)))] [wkB b lv.val dv.val (.map (some rm)) (.map (some sm)) rv.val ov.val, slA 3 encI rv.val xs, slA 82 encMv lv.val Ms, slA 3 encI dv.val ds, mpK encL rm f2, mpK encL sm g, slA 82 encMv ov.val out] ?_ ?_
  · by_cases hk : 0 < sf l
    · obtain ⟨dd, gd⟩ := hs hk
      have hlt := (List.getElem?_eq_some_iff.1 gd).1
      have gd' : ds[(sf l).toNat - 1]? = some dd := by rw [show (sf l).toNat - 1 = (sf l - 1).toNat by omega]; exact gd
      refine WP.drawn0 cf0 mixed rfl (by kernel_rfl) ?_
      all_goals (first | refine Zm ?_)
      all_goals (first | refine Zn ?_)
      all_goals (first | refine Zf fo_134_2 ?_)
      all_goals (first | refine Zl 0 ag_131 ?_)
      all_goals (first | refine Run.loadBagg 7 rfl rfl ag_44 rfl rfl rfl rfl rfl ?_)
      all_goals (first | refine Run.lookupK kok_44 4 (k := l) rfl rfl rfl mt_131 zr_3 rfl rfl rfl ?_)
      refine Run.eqv (v' := vI (rf l - 1)) (by rw [hf2 l]; simp [decF]) ?_
      all_goals (first | refine Zi ?_)
      all_goals (first | refine Run.tt (by first | assumption | omega) ?_ | refine Run.ff (by first | assumption | omega) ?_ | refine Run.split (fun hc26 => ?_) (fun hc26 => ?_) | refine Run.splitB (fun hc26 => ?_) (fun hc26 => ?_) | skip)
      all_goals (first | refine Zm ?_)
      all_goals (first | refine Zv ?_ | refine Zm ?_)
      all_goals (first | refine Zv ?_ | refine Zi ?_)
      all_goals (first | refine Run.tt (by first | assumption | omega) ?_ | refine Run.ff (by first | assumption | omega) ?_ | refine Run.split (fun hc29 => ?_) (fun hc29 => ?_) | refine Run.splitB (fun hc29 => ?_) (fun hc29 => ?_) | skip)
      all_goals (first | refine Zq ?_)
      all_goals (first | refine Zm ?_)
      all_goals (first | refine Zv ?_ | refine Zm ?_)
      all_goals (first | refine Zv ?_ | refine Zn ?_)
      all_goals (first | refine Zv ?_ | refine Zf fo_134_1 ?_)
      all_goals (first | refine Zv ?_ | refine Zl 0 ag_45 ?_)
      all_goals (first | refine Zv ?_ | refine Zm ?_)
      all_goals (first | refine Zv ?_ | refine Zs ?_)
      all_goals (first | refine Zv ?_ | refine Run.idxO 3 rfl rfl rfl sl_45 rfl rfl rfl rfl (by omega) (by omega) ?_)
      all_goals (first | refine Zv ?_ | refine Run.loadO 3 (sf l - 1).toNat 0 rfl rfl ag_3 rfl rfl rfl rfl gd rfl ?_)
      all_goals (first | refine Zv ?_ | refine Zi ?_)
      all_goals (first | refine Zq ?_)
      all_goals (refine Run.nil ?_)
      all_goals refine thn_next ⟨⟨rfl, rfl, ?_, trivial⟩, ent.go⟩
      all_goals simp [Env.get, gd', hk]
      all_goals (first | omega | (have h1 : rf l = 1 := by omega); simp [h1])
    · refine WP.drawn0 cf0 mixed rfl (by kernel_rfl) ?_
      all_goals (first | refine Zm ?_)
      all_goals (first | refine Zn ?_)
      all_goals (first | refine Zf fo_134_2 ?_)
      all_goals (first | refine Zl 0 ag_131 ?_)
      all_goals (first | refine Run.loadBagg 7 rfl rfl ag_44 rfl rfl rfl rfl rfl ?_)
      all_goals (first | refine Run.lookupK kok_44 4 (k := l) rfl rfl rfl mt_131 zr_3 rfl rfl rfl ?_)
      refine Run.eqv (v' := vI (rf l - 1)) (by rw [hf2 l]; simp [decF]) ?_
      all_goals (first | refine Zi ?_)
      all_goals (first | refine Run.tt (by first | assumption | omega) ?_ | refine Run.ff (by first | assumption | omega) ?_ | refine Run.split (fun hc26 => ?_) (fun hc26 => ?_) | refine Run.splitB (fun hc26 => ?_) (fun hc26 => ?_) | skip)
      all_goals (first | refine Zm ?_)
      all_goals (first | refine Zv ?_ | refine Zm ?_)
      all_goals (first | refine Zv ?_ | refine Zi ?_)
      all_goals (first | refine Run.tt (by first | assumption | omega) ?_ | refine Run.ff (by first | assumption | omega) ?_ | refine Run.split (fun hc29 => ?_) (fun hc29 => ?_) | refine Run.splitB (fun hc29 => ?_) (fun hc29 => ?_) | skip)
      all_goals (first | refine Zq ?_)
      all_goals (first | refine Zm ?_)
      all_goals (first | refine Zv ?_ | refine Zm ?_)
      all_goals (first | refine Zv ?_ | refine Zn ?_)
      all_goals (first | refine Zv ?_ | refine Zf fo_134_1 ?_)
      all_goals (first | refine Zv ?_ | refine Zl 0 ag_45 ?_ | refine Run.loadO 0 _ 0 rfl rfl ag_45 rfl rfl rfl rfl (by assumption) rfl ?_ | refine Run.loadO 0 _ _ rfl rfl ag_45 rfl rfl rfl rfl (by assumption) rfl ?_ | refine Zl 1 ag_45 ?_ | refine Run.loadO 1 _ 0 rfl rfl ag_45 rfl rfl rfl rfl (by assumption) rfl ?_ | refine Run.loadO 1 _ _ rfl rfl ag_45 rfl rfl rfl rfl (by assumption) rfl ?_ | refine Zl 2 ag_45 ?_ | refine Run.loadO 2 _ 0 rfl rfl ag_45 rfl rfl rfl rfl (by assumption) rfl ?_ | refine Run.loadO 2 _ _ rfl rfl ag_45 rfl rfl rfl rfl (by assumption) rfl ?_ | refine Zl 3 ag_45 ?_ | refine Run.loadO 3 _ 0 rfl rfl ag_45 rfl rfl rfl rfl (by assumption) rfl ?_ | refine Run.loadO 3 _ _ rfl rfl ag_45 rfl rfl rfl rfl (by assumption) rfl ?_ | refine Zl 4 ag_45 ?_ | refine Run.loadO 4 _ 0 rfl rfl ag_45 rfl rfl rfl rfl (by assumption) rfl ?_ | refine Run.loadO 4 _ _ rfl rfl ag_45 rfl rfl rfl rfl (by assumption) rfl ?_ | refine Zl 5 ag_45 ?_ | refine Run.loadO 5 _ 0 rfl rfl ag_45 rfl rfl rfl rfl (by assumption) rfl ?_ | refine Run.loadO 5 _ _ rfl rfl ag_45 rfl rfl rfl rfl (by assumption) rfl ?_ | refine Zl 6 ag_45 ?_ | refine Run.loadO 6 _ 0 rfl rfl ag_45 rfl rfl rfl rfl (by assumption) rfl ?_ | refine Run.loadO 6 _ _ rfl rfl ag_45 rfl rfl rfl rfl (by assumption) rfl ?_ | refine Zl 7 ag_45 ?_ | refine Run.loadO 7 _ 0 rfl rfl ag_45 rfl rfl rfl rfl (by assumption) rfl ?_ | refine Run.loadO 7 _ _ rfl rfl ag_45 rfl rfl rfl rfl (by assumption) rfl ?_ | refine Run.loadR rfl rfl ag_45 rfl rfl (by first | assumption | exact SlR.cell0 (by assumption) (by assumption) rfl | exact SlR.cell (by assumption) (by assumption) rfl) ?_)
      all_goals (first | refine Zv ?_ | refine Zm ?_)
      all_goals (first | refine Zv ?_ | refine Zs ?_)
      all_goals (first | refine Zv ?_ | fail)
      all_goals (first | refine Zv ?_ | fail)
      all_goals (first | refine Zv ?_ | refine Zi ?_)
      all_goals (first | refine Zq ?_)
      all_goals (refine Run.nil ?_)
      all_goals refine thn_next ⟨⟨rfl, rfl, ?_, trivial⟩, ent.go⟩
      all_goals simp [Env.get, hk]
      all_goals omega
  refine WP.ite rfl (fun hy => ?_) (fun hn => ?_)
  · have eS : rdyF ds rf sf S l = (sf l - 1) :: S := by unfold rdyF; rw [if_pos hy]
    refine WP.via (Γ' := [hpP b lv.val dv.val (.map (some rm)) (.map (some sm)) ov.val S, slA 82 encMv lv.val Ms, slA 3 encI dv.val ds, mpK encL rm f2, mpK encL sm g, slA 82 encMv ov.val out]) (hpP_shut rv xs hp hh _) ?_
    refine Zc ?_
    refine Zm ?_
    refine Zn ?_
    refine Zf fo_134_4 ?_
    refine Run.mkIface rfl rfl if_136 rfl rfl ?_
    refine Zm ?_
    refine Zs ?_
    refine Run.mkIface rfl rfl if_3 rfl rfl ?_
    refine Run.callP [0] ok_67 (hPushH_ok hR b _ _ _ _ _ S (sf l - 1) hS) ?_; rintro _ _ rfl
    refine Run.nil ?_
    refine retN [] [] rfl rfl ⟨[workP b Ms ds (decF rf l) sf (rdyF ds rf sf S l) out], ?_, rfl⟩
    rw [eS]
    exact workP_shut ⟨lv, dv, ov, rm, sm, f2, g⟩ hf2 hg []
  · have eS : rdyF ds rf sf S l = S := by unfold rdyF; rw [if_neg hn]
    refine WP.via (Γ' := [hpP b lv.val dv.val (.map (some rm)) (.map (some sm)) ov.val S, slA 82 encMv lv.val Ms, slA 3 encI dv.val ds, mpK encL rm f2, mpK encL sm g, slA 82 encMv ov.val out]) (hpP_shut rv xs hp hh _) ?_
    refine WP.skip ?_
    refine retN [] [] rfl rfl ⟨[workP b Ms ds (decF rf l) sf (rdyF ds rf sf S l) out], ?_, rfl⟩
    rw [eS]
    exact workP_shut ⟨lv, dv, ov, rm, sm, f2, g⟩ hf2 hg []
end Go.Proofs.Ytfaokbjpinlcaaa
end
section
/- Moves that are as they should be are not refused; a move is put; walked. -/
namespace Go.Proofs.Ytfaokbjpinlcaaa
open Go.Sep
set_option linter.unusedSimpArgs false
set_option linter.unusedVariables false
attribute [local irreducible] blk slA mp mpF rows rowsBut many mpK mpE
def isPl (l : Lc) : Prop := (l.kind = 1 ∨ l.kind = 2) ∧ 0 ≤ l.n
instance (l : Lc) : Decidable (isPl l) := by unfold isPl; exact inferInstance
theorem mvIsPlace_ok (hR : Heap) (l : Lc) : Tri Try.prog hR 82 #[encL l] [] fun v Γ' => v = .bool (decide (isPl l)) ∧ Γ' = [] := by
  refine Tri.ent (Tri.of (args := [.agg ⟨lcv l⟩]) Try.func82 rfl Try.ntmps82 (by simp) ?_)
  refine Zp ?_
  refine Run.box rfl rfl rfl rfl rfl ?_
  intro b1
  refine Zm ?_
  refine Ze ?_
  refine WP.seqCut [(2, .bool (decide (isPl l)))] [] ?_ ?_
  · refine Zc ?_
    all_goals (first | refine Zf fo_44_0 ?_)
    all_goals (first | refine Zl 0 ag_3 ?_)
    all_goals (first | refine Zi ?_)
    all_goals (first | refine Run.tt (by first | assumption | omega) ?_ | refine Run.ff (by first | assumption | omega) ?_ | refine Run.split (fun hc5 => ?_) (fun hc5 => ?_) | refine Run.splitB (fun hc5 => ?_) (fun hc5 => ?_) | skip)
    all_goals (first | refine Zm ?_)
    all_goals (first | refine Zv ?_ | refine Zf fo_44_0 ?_)
    all_goals (first | refine Zv ?_ | refine Zl 0 ag_3 ?_)
    all_goals (first | refine Zv ?_ | refine Zi ?_)
    all_goals (first | refine Run.tt (by first | assumption | omega) ?_ | refine Run.ff (by first | assumption | omega) ?_ | refine Run.split (fun hc9 => ?_) (fun hc9 => ?_) | refine Run.splitB (fun hc9 => ?_) (fun hc9 => ?_) | skip)
    all_goals (first | refine Zq ?_)
    all_goals (first | refine Zm ?_)
    all_goals (first | refine Zv ?_ | refine Zf fo_44_1 ?_)
    all_goals (first | refine Zv ?_ | refine Zl 0 ag_3 ?_)
    all_goals (first | refine Zv ?_ | refine Zi ?_)
    all_goals (first | refine Zq ?_)
    all_goals (first | refine Zm ?_)
    all_goals (refine Run.nil ?_)
    all_goals refine thn_next ⟨⟨?_, trivial⟩, ent.none _⟩
    all_goals simp [Env.get, isPl, *]
  refine WP.ret ?_
  exact retT [2] _ rfl rfl ⟨_, ent.go, rfl, rfl⟩
/-- moves that are not refused -/
structure GoodL (temp : Lc) (l : List Mv) : Prop where
  pt : isPl temp
  to : ∀ m ∈ l, isPl m.to ∧ m.to ≠ temp
  fr : ∀ m ∈ l, isPl m.from_ ∧ m.from_ ≠ temp
  nd : (l.map Mv.to).Nodup
theorem lc_ne {a b : Lc} (h : a ≠ b) : (decide (a.kind = b.kind) && (decide (a.n = b.n) && true)) = false := by
  cases hx : (decide (a.kind = b.kind) && (decide (a.n = b.n) && true)) with
  | false => rfl
  | true =>
    exfalso; apply h
    simp at hx
    cases a; cases b; simp_all
set_option maxHeartbeats 1000000 in
set_option maxRecDepth 100000 in
theorem refuse_ok (hR : Heap) (lv : Value) (l : List Mv) (temp : Lc) (hl : SlR encMv.rd hR lv l) (hlen : l.length ≤ 1000000) (hG : GoodL temp l) :
    Tri Try.prog hR 66 #[lv, encL temp] [] fun v Γ' => v = vI 0 ∧ Γ' = [] := by
  refine Tri.ent (Tri.of (args := [lv, .agg ⟨lcv temp⟩]) Try.func66 rfl Try.ntmps66 (by simp) ?_)
  refine Zp ?_
  refine Run.box rfl rfl rfl rfl rfl ?_
  intro b3
  refine Zm ?_
  refine Ze ?_
  refine WP.seq ?_
  refine Zp ?_
  refine Run.loadBagg 0 rfl rfl ag_44 rfl rfl rfl rfl rfl ?_
  refine Run.callP [] ok_82 (mvIsPlace_ok hR temp) ?_; rintro _ _ ⟨rfl, rfl⟩; refine Run.eqv (v' := .bool true) (by simp [hG.pt]) ?_
  refine Run.bnotB rfl rfl rfl rfl ?_
  refine Ze ?_
  refine Zno ?_
  refine Zb ?_
  refine WP.trim [0, 3, 4] [0] ?_
  refine WP.meetC (α := Unit) (fun _ => True) (fun _ => []) (fun _ => []) ?_ ?_
  · refine Zp ?_
    refine Zm ?_
    refine Run.lenR rfl rfl sl_80 rfl rfl (by assumption) ?_
    refine Zm ?_
    refine Ze ?_
    refine WP.block ?_
    refine WP.trim [0, 3, 4, 13, 14, 15] [0] ?_
    refine WP.loopC (α := Nat) (fun i => i ≤ l.length) (fun i => [(15, vI (i : Int))]) (fun _ => []) (fun i => l.length - i) 0 (Nat.zero_le _) ?_
    intro i hi
    refine WP.trim [0, 3, 4, 13, 14, 15] [0] ?_
    refine Zp ?_
    refine Zi ?_
    refine Ze ?_
    refine WP.seq ?_
    refine WP.ite rfl (fun hlt => ?_) (fun hge => ?_)
    · refine Zb ?_
      obtain ⟨m, gm⟩ : ∃ m, l[(i : Int).toNat]? = some m := ⟨_, List.getElem?_eq_getElem (by omega)⟩
      have hm := List.mem_of_getElem? gm
      obtain ⟨t1, t2⟩ := hG.to m hm
      obtain ⟨f1, f2⟩ := hG.fr m hm
      refine WP.seq ?_
      refine WP.block ?_
      refine Zp ?_
      refine Zx sl_80 hl ?_
      refine Run.loadRagg rfl rfl ag_82 rfl rfl (SlR.row hl gm) rfl ?_
      refine Run.alloc rfl zr_82 rfl rfl rfl ?_
      intro b6
      refine Run.storeB 1 rfl rfl rfl rfl ag_82 rfl rfl rfl rfl rfl ?_
      refine Ze ?_
      refine Zp ?_
      refine Zf fo_82_0 ?_
      refine Run.loadBagg 1 rfl rfl ag_44 rfl rfl rfl rfl rfl ?_
      refine Run.callP [] ok_82 (mvIsPlace_ok hR m.to) ?_; rintro _ _ ⟨rfl, rfl⟩; refine Run.eqv (v' := .bool true) (by simp [t1]) ?_
      refine Run.bnotB rfl rfl rfl rfl ?_
      refine Zm ?_
      refine Zf fo_82_1 ?_
      refine Run.loadBagg 1 rfl rfl ag_44 rfl rfl rfl rfl rfl ?_
      refine Run.callP [] ok_82 (mvIsPlace_ok hR m.from_) ?_; rintro _ _ ⟨rfl, rfl⟩; refine Run.eqv (v' := .bool true) (by simp [f1]) ?_
      refine Run.bnotB rfl rfl rfl rfl ?_
      refine Zm ?_
      iterate 4 refine Zv ?_
      refine Zq ?_
      refine Zq ?_
      refine Zm ?_
      refine Zf fo_82_0 ?_
      refine Run.loadBagg 1 rfl rfl ag_44 rfl rfl rfl rfl rfl ?_
      refine Run.loadBagg 0 rfl rfl ag_44 rfl rfl rfl rfl rfl ?_
      refine Run.eqS rfl rfl rfl is_44 nf_44 rfl rfl rfl rfl ?_
      refine Run.eqv (v' := .bool false) (by rw [lc_ne t2]) ?_
      refine Zq ?_
      refine Zm ?_
      refine Zf fo_82_1 ?_
      refine Run.loadBagg 1 rfl rfl ag_44 rfl rfl rfl rfl rfl ?_
      refine Run.loadBagg 0 rfl rfl ag_44 rfl rfl rfl rfl rfl ?_
      refine Run.eqS rfl rfl rfl is_44 nf_44 rfl rfl rfl rfl ?_
      refine Run.eqv (v' := .bool false) (by rw [lc_ne f2]) ?_
      refine Zq ?_
      refine Ze ?_
      refine Zno ?_
      refine WP.skip ?_; refine blk_norm ?_; refine thn_next ?_
      refine Zc ?_
      refine Za ?_
      refine Zm ?_
      refine Run.nil ?_
      refine thn_next ⟨i + 1, by omega, by omega, Ko.go, ent.gc⟩
    · refine Zj ?_
      refine thn_next ⟨(), trivial, Ko.go, ent.gc⟩
  intro _ _
  refine Zp ?_
  refine Run.makeMapK encL rfl rfl rfl ?_
  intro b48
  refine Zm ?_
  refine Ze ?_
  refine WP.trim [0, 4, 7] [1] ?_
  refine WP.meetC (α := Lc → Option Value) (fun _ => True) (fun _ => []) (fun f => [(0, mpK encL b48 f)]) ?_ ?_
  · refine Zp ?_
    refine Zm ?_
    refine Run.lenR rfl rfl sl_80 rfl rfl (by assumption) ?_
    refine Zm ?_
    refine Ze ?_
    refine WP.block ?_
    refine WP.trim [0, 4, 7, 49, 50, 51] [0] ?_
    refine WP.loopC (α := Nat × (Lc → Option Value)) (fun z => z.1 ≤ l.length ∧ ∃ r, MpI z.2 r ∧ ∀ (j : Nat) (m : Mv), z.1 ≤ j → l[j]? = some m → r m.to = 0) (fun z => [(51, vI (z.1 : Int))]) (fun z => [(0, mpK encL b48 z.2)]) (fun z => l.length - z.1) (0, fun _ => none) ⟨Nat.zero_le _, fun _ => 0, fun _ => rfl, fun _ _ _ _ => rfl⟩ ?_
    rintro ⟨i, f⟩ ⟨hi, r, hf, hr⟩
    simp only at hi hf hr ⊢
    refine WP.trim [0, 4, 7, 49, 50, 51] [0] ?_
    refine Zp ?_
    refine Zi ?_
    refine Ze ?_
    refine WP.seq ?_
    refine WP.ite rfl (fun hlt => ?_) (fun hge => ?_)
    · refine Zb ?_
      obtain ⟨m, gm⟩ : ∃ m, l[(i : Int).toNat]? = some m := ⟨_, List.getElem?_eq_getElem (by omega)⟩
      have gm' : l[i]? = some m := gm
      have h0 := hr i m (Nat.le_refl _) gm'
      have hv : (f m.to).getD (vI 0) = vI 0 := by rw [hf m.to, h0]
      refine WP.seq ?_
      refine WP.block ?_
      refine Zp ?_
      refine Zx sl_80 hl ?_
      refine Run.loadRagg rfl rfl ag_82 rfl rfl (SlR.row hl gm) rfl ?_
      refine Run.alloc rfl zr_82 rfl rfl rfl ?_
      intro b9
      refine Run.storeB 1 rfl rfl rfl rfl ag_82 rfl rfl rfl rfl rfl ?_
      refine Ze ?_
      refine WP.trim [0, 4, 7, 9, 49, 50, 51] [0, 1] ?_
      refine WP.seqCut [(0, lv), (4, vI 0), (7, .map (some b48)), (9, ptrV b9), (49, lv), (50, vI (l.length : Int)), (51, vI (i : Int))] [mpK encL b48 (updK f m.to (vI 1)), blk b9 (encMv.cells m) 82] ?_ ?_
      · refine WP.drawnX cf0 [0, 1, 2, 3, 4, 5, 6, 7] [0, 1, 2, 5, 3, 4, 6, 7] 3 5 mixed rfl rfl (by kernel_rfl) ?_ ?_
        · refine Zm ?_
          refine Zf fo_82_0 ?_
          refine Run.loadBagg 1 rfl rfl ag_44 rfl rfl rfl rfl rfl ?_
          refine Run.lookupK kok_44 0 (k := m.to) rfl rfl rfl mt_131 zr_3 rfl rfl rfl ?_; refine Run.eqv hv ?_
          refine Za ?_
          refine Run.mapEntryK kok_44 0 (k := m.to) rfl rfl rfl mt_131 zr_3 rfl rfl rfl ?_
          intro st
          refine Run.extract rfl rfl rfl rfl rfl ?_
          refine Run.entryStoreK kok_44.inj 0 rfl rfl rfl rfl rfl rfl ?_
          refine Run.nil ?_
          refine thn_next ⟨⟨rfl, rfl, rfl, rfl, rfl, rfl, rfl, trivial⟩, ?_⟩
          rw [updK_same]; exact ent.go
        · refine Zm ?_
          refine Zf fo_82_0 ?_
          refine Run.loadBagg 1 rfl rfl ag_44 rfl rfl rfl rfl rfl ?_
          refine Run.mapEntryK kok_44 0 (k := m.to) rfl rfl rfl mt_131 zr_3 rfl rfl rfl ?_
          intro st
          refine Run.lookupE kok_44 0 (k := m.to) rfl rfl rfl mt_131 zr_3 rfl rfl rfl ?_; refine Run.eqv (v' := vI 0) (by simp only [updK, if_true, Option.getD_some]; exact hv) ?_
          refine Za ?_
          refine Run.extract rfl rfl rfl rfl rfl ?_
          refine Run.entryStoreK kok_44.inj 0 rfl rfl rfl rfl rfl rfl ?_
          refine Run.nil ?_
          refine thn_next ⟨⟨rfl, rfl, rfl, rfl, rfl, rfl, rfl, trivial⟩, ?_⟩
          rw [updK_same]; exact ent.go
      refine Zp ?_
      refine Zm ?_
      refine Zf fo_82_0 ?_
      refine Run.loadBagg 1 rfl rfl ag_44 rfl rfl rfl rfl rfl ?_
      refine Run.lookupK kok_44 0 (k := m.to) rfl rfl rfl mt_131 zr_3 rfl rfl rfl ?_; refine Run.eqv (v' := vI 1) (by simp [updK]) ?_
      refine Zi ?_
      refine Ze ?_
      refine WP.ite rfl (fun hgt => absurd hgt (by omega)) (fun _ => ?_)
      refine WP.skip ?_; refine blk_norm ?_; refine thn_next ?_
      refine Zc ?_
      refine Za ?_
      refine Zm ?_
      refine Run.nil ?_
      refine thn_next ⟨(i + 1, updK f m.to (vI 1)), ⟨by simp only; omega, _, hf.upd m.to 1, fun j m2 hj gm2 => ?_⟩, by simp only; omega, Ko.go, ent.gc⟩
      have hne : m2.to ≠ m.to := fun e => by
        have hn := List.pairwise_iff_getElem.1 hG.nd i j
        have hjl := (List.getElem?_eq_some_iff.1 gm2).1
        have := hn (by simp; omega) (by simpa using hjl) (by simp only at hj; omega)
        rw [List.getElem_map, List.getElem_map] at this
        rw [List.getElem?_eq_getElem (by omega)] at gm' gm2
        simp only [Option.some.injEq] at gm' gm2
        rw [gm', gm2] at this
        exact this e.symm
      simp only [hne, if_false]
      exact hr j m2 (by simp only at hj; omega) gm2
    · refine Zj ?_
      refine thn_next ⟨f, trivial, Ko.go, ent.gc⟩
  intro _ _
  refine Zp ?_
  refine Zm ?_
  refine Ze ?_
  refine WP.ret ?_
  exact retT [4] _ rfl rfl ⟨_, ent.none _, rfl, rfl⟩
end Go.Proofs.Ytfaokbjpinlcaaa
end
section
/- What the maker of an order holds from round to round; plain. -/
namespace Go.Proofs.Ytfaokbjpinlcaaa
open Go.Sep
set_option linter.unusedVariables false
def dI (b : Bool) : Int := if b then 1 else 0
def dsL (L : List (Mv × Bool)) : List Int := L.map fun p => dI p.2
def msL (L : List (Mv × Bool)) : List Mv := L.map Prod.fst
def muL (temp : Lc) (L : List (Mv × Bool)) : Nat := L.countP (fun p => !p.2) + L.countP (fun p => !p.2 && decide (p.1.from_ ≠ temp))
theorem ds_get {L : List (Mv × Bool)} {i : Nat} {m : Mv} {b : Bool} (h : L[i]? = some (m, b)) : (dsL L)[i]? = some (dI b) := by simp [dsL, h]
theorem ms_get {L : List (Mv × Bool)} {i : Nat} {m : Mv} {b : Bool} (h : L[i]? = some (m, b)) : (msL L)[i]? = some m := by simp [msL, h]
theorem ds_set {L : List (Mv × Bool)} {i : Nat} (m : Mv) (b : Bool) : dsL (L.set i (m, b)) = (dsL L).set i (dI b) := by simp [dsL, List.map_set]
theorem ms_set {L : List (Mv × Bool)} {i : Nat} (m : Mv) (b : Bool) : msL (L.set i (m, b)) = (msL L).set i m := by simp [msL, List.map_set]
theorem ms_same {L : List (Mv × Bool)} {i : Nat} {m : Mv} {b b' : Bool} (h : L[i]? = some (m, b)) : msL (L.set i (m, b')) = msL L := by
  rw [ms_set]
  apply List.ext_getElem?; intro j
  rw [List.getElem?_set]
  split
  · next e => subst e; rw [ms_get h]; simp [msL, (List.getElem?_eq_some_iff.1 h).1]
  · rfl
theorem ds_same {L : List (Mv × Bool)} {i : Nat} {m m' : Mv} {b : Bool} (h : L[i]? = some (m, b)) : dsL (L.set i (m', b)) = dsL L := by
  rw [ds_set]
  apply List.ext_getElem?; intro j
  rw [List.getElem?_set]
  split
  · next e => subst e; rw [ds_get h]; simp [dsL, (List.getElem?_eq_some_iff.1 h).1]
  · rfl
theorem ds_zero {L : List (Mv × Bool)} {i : Nat} (h : (dsL L)[i]? = some 0) : ∃ m, L[i]? = some (m, false) := by
  simp only [dsL, List.getElem?_map] at h
  cases hx : L[i]? with
  | none => rw [hx] at h; cases h
  | some p =>
    obtain ⟨m, b⟩ := p
    rw [hx] at h
    cases b with
    | false => exact ⟨m, rfl⟩
    | true => simp [dI] at h
structure WkOk (temp : Lc) (l0 : List Mv) (L : List (Mv × Bool)) (rf sf : Lc → Int) (S : List Int) (out : List Mv) : Prop where
  mv : MvSt temp l0 out L rf (fun i => (i : Int) ∈ S)
  nd : S.Nodup
  nn : ∀ x ∈ S, 0 ≤ x ∧ x < L.length
  st : ∀ p, 0 ≤ sf p ∧ sf p ≤ L.length ∧ (0 < sf p → ∃ m b, L[(sf p - 1).toNat]? = some (m, b) ∧ m.to = p)
  sf : ∀ (i : Nat) (m : Mv) (b : Bool), L[i]? = some (m, b) → sf m.to = i + 1
  bd : ∀ p, -(1000000 + (out.length : Int)) ≤ rf p ∧ rf p ≤ 1000000 + (out.length : Int)
  mu : out.length + muL temp L ≤ 2 * L.length
  ln : L.length ≤ 1000000
theorem nodup_le : ∀ {xs ys : List Nat}, xs.Nodup → (∀ x ∈ xs, x ∈ ys) → xs.length ≤ ys.length
  | [], _, _, _ => Nat.zero_le _
  | x :: xs, ys, hn, hs => by
    rw [List.nodup_cons] at hn
    have hx := hs x (List.mem_cons_self ..)
    have := nodup_le (ys := ys.erase x) hn.2 fun z hz => (List.mem_erase_of_ne (fun e : z = x => hn.1 (by rw [← e]; exact hz))).2 (hs z (List.mem_cons_of_mem _ hz))
    rw [List.length_erase_of_mem hx] at this
    have := List.length_pos_of_mem hx
    simp only [List.length_cons]; omega
theorem nd_len {S : List Int} {n : Nat} (h1 : S.Nodup) (h2 : ∀ x ∈ S, 0 ≤ x ∧ x < (n : Int)) : S.length ≤ n := by
  have h3 : (S.map Int.toNat).Nodup := by
    rw [List.nodup_iff_pairwise_ne, List.pairwise_map]
    refine List.Pairwise.imp_of_mem (fun {a b} ha hb hne e => hne ?_) h1
    have := h2 a ha; have := h2 b hb
    omega
  have h4 : ∀ x ∈ S.map Int.toNat, x ∈ List.range n := fun x hx => by
    obtain ⟨y, hy, rfl⟩ := List.mem_map.1 hx
    have := h2 y hy
    rw [List.mem_range]; omega
  have := nodup_le h3 h4
  simpa using this
theorem WkOk.len {temp : Lc} {l0 : List Mv} {L : List (Mv × Bool)} {rf sf : Lc → Int} {S : List Int} {out : List Mv} (h : WkOk temp l0 L rf sf S out) : S.length ≤ L.length := nd_len h.nd h.nn
theorem rdyF_mem {ds : List Int} {rf sf : Lc → Int} {S : List Int} {l : Lc} {x : Int} : x ∈ rdyF ds rf sf S l ↔ x ∈ S ∨ (rf l = 1 ∧ 0 < sf l ∧ ds[(sf l - 1).toNat]? = some 0) ∧ x = sf l - 1 := by
  unfold rdyF
  split
  · rename_i h
    rw [List.mem_cons]
    exact ⟨fun h1 => h1.elim (fun e => .inr ⟨h, e⟩) .inl, fun h1 => h1.elim .inr fun e => .inl e.2⟩
  · rename_i h
    exact ⟨.inl, fun h1 => h1.elim id fun e => absurd e.1 h⟩
theorem rdyF_nd {ds : List Int} {rf sf : Lc → Int} {S : List Int} {l : Lc} (hn : S.Nodup) (h : rf l = 1 → 0 < sf l → ds[(sf l - 1).toNat]? = some 0 → sf l - 1 ∉ S) : (rdyF ds rf sf S l).Nodup := by
  unfold rdyF
  split
  · rename_i hc; exact List.nodup_cons.2 ⟨h hc.1 hc.2.1 hc.2.2, hn⟩
  · exact hn
theorem WkOk.put {temp : Lc} {l0 : List Mv} {L : List (Mv × Bool)} {rf sf : Lc → Int} {S : List Int} {out : List Mv} (h : WkOk temp l0 L rf sf S out) {i : Nat} (hi : (i : Int) ∈ S) (hmin : ∀ y ∈ S, (i : Int) ≤ y) :
    ∃ m, L[i]? = some (m, false) ∧ WkOk temp l0 (L.set i (m, true)) (decF rf m.from_) sf (rdyF (dsL (L.set i (m, true))) rf sf (S.erase i) m.from_) (out ++ [m]) ∧ muL temp (L.set i (m, true)) < muL temp L := by
  obtain ⟨m, gm, hm⟩ := h.mv.put hi (fun j hj => by have := hmin j hj; omega)
  have hlt := (List.getElem?_eq_some_iff.1 gm).1
  have hmem : ∀ j : Nat, ((j : Int) ∈ rdyF (dsL (L.set i (m, true))) rf sf (S.erase i) m.from_) ↔ ((j : Int) ∈ S ∧ j ≠ i) ∨ (∃ x : Mv, L[j]? = some (x, false) ∧ j ≠ i ∧ x.to = m.from_ ∧ rf m.from_ = 1) := fun j => by
    rw [rdyF_mem, List.Nodup.mem_erase_iff h.nd]
    constructor
    · rintro (⟨h1, h2⟩ | ⟨⟨h1, h2, h3⟩, h4⟩)
      · exact .inl ⟨h2, fun e => h1 (by omega)⟩
      · obtain ⟨x, b, gx, hx⟩ := (h.st m.from_).2.2 h2
        have ej : (sf m.from_ - 1).toNat = j := by omega
        rw [ej] at gx h3
        obtain ⟨m', gm'⟩ := ds_zero h3
        have hne : i ≠ j := fun e => by subst e; rw [List.getElem?_set_self hlt] at gm'; simp at gm'
        rw [List.getElem?_set_ne hne, gx] at gm'
        simp only [Option.some.injEq, Prod.mk.injEq] at gm'
        obtain ⟨rfl, rfl⟩ := gm'
        exact .inr ⟨x, gx, Ne.symm hne, hx, h1⟩
    · rintro (⟨h1, h2⟩ | ⟨x, gx, h2, h3, h4⟩)
      · exact .inl ⟨by omega, h1⟩
      · have hs := h.sf j x false gx
        rw [h3] at hs
        refine .inr ⟨⟨h4, by omega, ?_⟩, by omega⟩
        have ej : (sf m.from_ - 1).toNat = j := by omega
        rw [ej]
        exact ds_get (m := x) (b := false) (by rw [List.getElem?_set_ne (Ne.symm h2)]; exact gx)
  have hmu : muL temp (L.set i (m, true)) + 1 ≤ muL temp L := by
    unfold muL
    rw [set_split gm]
    conv => rhs; rw [at_split gm]
    simp only [List.countP_append, List.countP_cons, Bool.not_true, Bool.not_false, Bool.false_and, Bool.true_and, if_true]
    simp only [Bool.false_eq_true, if_false]
    omega
  refine ⟨m, gm, ⟨?_, ?_, ?_, ?_, ?_, ?_, ?_, ?_⟩, by omega⟩
  · exact { inv := hm.inv, rd := hm.rd, rdy := fun j => (hmem j).trans (hm.rdy j), tos := hm.tos, one := hm.one }
  · refine rdyF_nd (h.nd.erase _) fun h1 h2 h3 hin => ?_
    have hin' := List.mem_of_mem_erase hin
    obtain ⟨x, b, gx, hx⟩ := (h.st m.from_).2.2 h2
    have e : (((sf m.from_ - 1).toNat : Nat) : Int) = sf m.from_ - 1 := by omega
    rw [← e] at hin'
    obtain ⟨y, gy, hy⟩ := (h.mv.rdy _).1 hin'
    rw [gx] at gy
    simp only [Option.some.injEq, Prod.mk.injEq] at gy
    obtain ⟨rfl, rfl⟩ := gy
    have := h.mv.rd x.to (h.mv.tos _ _ _ gx)
    rw [hx] at this hy
    omega
  · intro x hx
    rw [List.length_set]
    rcases rdyF_mem.1 hx with hx | ⟨⟨_, h2, _⟩, rfl⟩
    · exact h.nn x (List.mem_of_mem_erase hx)
    · have := h.st m.from_; omega
  · intro p
    rw [List.length_set]
    refine ⟨(h.st p).1, (h.st p).2.1, fun hp => ?_⟩
    obtain ⟨x, b, gx, hx⟩ := (h.st p).2.2 hp
    by_cases e : i = (sf p - 1).toNat
    · rw [← e] at gx ⊢
      rw [List.getElem?_set_self hlt]
      rw [gm] at gx; simp only [Option.some.injEq, Prod.mk.injEq] at gx
      exact ⟨m, true, rfl, by rw [gx.1]; exact hx⟩
    · rw [List.getElem?_set_ne e]; exact ⟨x, b, gx, hx⟩
  · intro j x b hx
    by_cases e : i = j
    · subst e
      rw [List.getElem?_set_self hlt] at hx
      simp only [Option.some.injEq, Prod.mk.injEq] at hx
      rw [← hx.1]; exact h.sf i m false gm
    · rw [List.getElem?_set_ne e] at hx; exact h.sf j x b hx
  · intro p
    have := h.bd p
    unfold decF
    rw [List.length_append, List.length_singleton]
    split <;> omega
  · rw [List.length_append, List.length_set, List.length_singleton]; have := h.mu; omega
  · rw [List.length_set]; exact h.ln
theorem WkOk.brk {temp : Lc} {l0 : List Mv} {L : List (Mv × Bool)} {rf sf : Lc → Int} {out : List Mv} (h : WkOk temp l0 L rf sf [] out) {i : Nat} {m : Mv} (gm : L[i]? = some (m, false)) (hfst : ∀ (j : Nat) (x : Mv) (b : Bool), j < i → L[j]? = some (x, b) → b = true) :
    WkOk temp l0 (L.set i (⟨m.to, temp⟩, false)) (decF rf m.from_) sf (rdyF (dsL L) rf sf [] m.from_) (out ++ [⟨temp, m.from_⟩]) ∧ muL temp (L.set i (⟨m.to, temp⟩, false)) < muL temp L := by
  obtain ⟨hft, hm⟩ := h.mv.brk (by simp) gm hfst
  have hlt := (List.getElem?_eq_some_iff.1 gm).1
  have hds : dsL L = dsL (L.set i (⟨m.to, temp⟩, false)) := (ds_same gm).symm
  have hmem : ∀ j : Nat, ((j : Int) ∈ rdyF (dsL L) rf sf [] m.from_) ↔ ∃ x : Mv, (L.set i (⟨m.to, temp⟩, false))[j]? = some (x, false) ∧ x.to = m.from_ ∧ rf m.from_ = 1 := fun j => by
    rw [rdyF_mem]
    constructor
    · rintro (h1 | ⟨⟨h1, h2, h3⟩, h4⟩)
      · cases h1
      · obtain ⟨x, b, gx, hx⟩ := (h.st m.from_).2.2 h2
        have ej : (sf m.from_ - 1).toNat = j := by omega
        rw [ej] at gx h3
        obtain ⟨m', gm'⟩ := ds_zero h3
        rw [gx] at gm'
        simp only [Option.some.injEq, Prod.mk.injEq] at gm'
        obtain ⟨rfl, rfl⟩ := gm'
        by_cases e : i = j
        · subst e
          rw [gm] at gx; simp only [Option.some.injEq, Prod.mk.injEq] at gx
          exact ⟨⟨m.to, temp⟩, List.getElem?_set_self hlt, (show m.to = x.to by rw [gx.1]).trans hx, h1⟩
        · exact ⟨x, by rw [List.getElem?_set_ne e]; exact gx, hx, h1⟩
    · rintro ⟨x, gx, h3, h4⟩
      have hs : sf x.to = j + 1 := by
        by_cases e : i = j
        · subst e
          rw [List.getElem?_set_self hlt] at gx
          simp only [Option.some.injEq, Prod.mk.injEq] at gx
          rw [← gx.1]; exact h.sf i m false gm
        · rw [List.getElem?_set_ne e] at gx; exact h.sf j x false gx
      rw [h3] at hs
      refine .inr ⟨⟨h4, by omega, ?_⟩, by omega⟩
      have ej : (sf m.from_ - 1).toNat = j := by omega
      rw [ej, hds]
      exact ds_get gx
  have hmu : muL temp (L.set i (⟨m.to, temp⟩, false)) + 1 ≤ muL temp L := by
    unfold muL
    rw [set_split gm]
    conv => rhs; rw [at_split gm]
    simp only [List.countP_append, List.countP_cons, Bool.not_false, Bool.true_and, if_true]
    have e1 : decide (m.from_ ≠ temp) = true := by simpa using hft
    simp [e1]
    omega
  refine ⟨⟨?_, ?_, ?_, ?_, ?_, ?_, ?_, ?_⟩, by omega⟩
  · exact { inv := hm.inv, rd := hm.rd, rdy := fun j => (hmem j).trans (hm.rdy j), tos := hm.tos, one := hm.one }
  · exact rdyF_nd (by simp) fun _ _ _ hin => by cases hin
  · intro x hx
    rw [List.length_set]
    rcases rdyF_mem.1 hx with hx | ⟨⟨_, h2, _⟩, rfl⟩
    · cases hx
    · have := h.st m.from_; omega
  · intro p
    rw [List.length_set]
    refine ⟨(h.st p).1, (h.st p).2.1, fun hp => ?_⟩
    obtain ⟨x, b, gx, hx⟩ := (h.st p).2.2 hp
    by_cases e : i = (sf p - 1).toNat
    · rw [← e] at gx ⊢
      rw [List.getElem?_set_self hlt]
      rw [gm] at gx; simp only [Option.some.injEq, Prod.mk.injEq] at gx
      exact ⟨_, false, rfl, by show m.to = p; rw [gx.1]; exact hx⟩
    · rw [List.getElem?_set_ne e]; exact ⟨x, b, gx, hx⟩
  · intro j x b hx
    by_cases e : i = j
    · subst e
      rw [List.getElem?_set_self hlt] at hx
      simp only [Option.some.injEq, Prod.mk.injEq] at hx
      rw [← hx.1]; exact h.sf i m false gm
    · rw [List.getElem?_set_ne e] at hx; exact h.sf j x b hx
  · intro p
    have := h.bd p
    unfold decF
    rw [List.length_append, List.length_singleton]
    split <;> omega
  · rw [List.length_append, List.length_set, List.length_singleton]; have := h.mu; omega
  · rw [List.length_set]; exact h.ln
theorem curM_all : ∀ ms : List Mv, curM (ms.map (·, false)) = ms
  | [] => rfl
  | x :: xs => by
    have := curM_all xs
    simp only [curM, List.map_cons] at this ⊢
    rw [List.filter_cons_of_pos (by rfl), List.map_cons, this]
/-- at the beginning: all that is left, who is ready -/
theorem WkOk.start {temp : Lc} {ms : List Mv} {sf : Lc → Int} {S : List Int} (hln : ms.length ≤ 1000000) (hto : ∀ m ∈ ms, m.to ≠ temp) (hn : (ms.map Mv.to).Nodup)
    (st : ∀ p, 0 ≤ sf p ∧ sf p ≤ ms.length ∧ (0 < sf p → ∃ m, ms[(sf p - 1).toNat]? = some m ∧ m.to = p)) (hsf : ∀ (i : Nat) (m : Mv), ms[i]? = some m → sf m.to = i + 1)
    (nd : S.Nodup) (hS : ∀ x, x ∈ S ↔ ∃ (i : Nat) (m : Mv), x = i ∧ ms[i]? = some m ∧ readsOf ms m.to = 0) : WkOk temp ms (ms.map (·, false)) (fun p => readsOf ms p) sf S [] := by
  have hcur : curM (ms.map (·, false)) = ms := curM_all ms
  have hg : ∀ {i : Nat} {m : Mv} {b : Bool}, (ms.map (·, false))[i]? = some (m, b) → ms[i]? = some m ∧ b = false := fun {i m b} h => by
    rw [List.getElem?_map] at h
    cases hx : ms[i]? with
    | none => rw [hx] at h; cases h
    | some y => rw [hx] at h; simp only [Option.map_some, Option.some.injEq, Prod.mk.injEq] at h; exact ⟨by rw [h.1], h.2.symm⟩
  refine ⟨⟨?_, ?_, ?_, ?_, ?_⟩, nd, ?_, ?_, ?_, ?_, ?_, by simpa using hln⟩
  · rw [hcur]; exact OrdInv.start
  · intro p _; rw [hcur]
  · intro i
    rw [hS, hcur]
    constructor
    · rintro ⟨j, m, e, gm, hr⟩
      obtain rfl : i = j := by omega
      exact ⟨m, by rw [List.getElem?_map, gm]; rfl, hr⟩
    · rintro ⟨m, gm, hr⟩
      exact ⟨i, m, rfl, (hg gm).1, hr⟩
  · intro i m b gm; exact hto m (List.mem_of_getElem? (hg gm).1)
  · intro i j m m' b b' gm gm' e
    have h1 := (hg gm).1
    have h2 := (hg gm').1
    obtain ⟨l1, e1⟩ := List.getElem?_eq_some_iff.1 h1
    obtain ⟨l2, e2⟩ := List.getElem?_eq_some_iff.1 h2
    have hp := List.pairwise_iff_getElem.1 hn
    rcases Nat.lt_trichotomy i j with h | h | h
    · exact ((hp i j (by simpa using l1) (by simpa using l2) h) (by simp [e1, e2, e])).elim
    · exact h
    · exact ((hp j i (by simpa using l2) (by simpa using l1) h) (by simp [e1, e2, e])).elim
  · intro x hx
    obtain ⟨i, m, rfl, gm, _⟩ := (hS x).1 hx
    have := (List.getElem?_eq_some_iff.1 gm).1
    simp; omega
  · intro p
    refine ⟨(st p).1, by simpa using (st p).2.1, fun hp => ?_⟩
    obtain ⟨m, gm, e⟩ := (st p).2.2 hp
    exact ⟨m, false, by rw [List.getElem?_map, gm]; rfl, e⟩
  · intro i m b gm; exact hsf i m (hg gm).1
  · intro p
    have h1 : readsOf ms p ≤ ms.length := List.countP_le_length
    simp only [List.length_nil]; omega
  · have h1 : (ms.map fun m => (m, false)).countP (fun p => !p.2) ≤ ms.length := Nat.le_trans List.countP_le_length (by simp)
    have h2 : (ms.map fun m => (m, false)).countP (fun p => !p.2 && decide (p.1.from_ ≠ temp)) ≤ ms.length := Nat.le_trans List.countP_le_length (by simp)
    unfold muL
    simp only [List.length_nil, List.length_map]
    omega
end Go.Proofs.Ytfaokbjpinlcaaa
end
section
/- A move is put; walked. -/
namespace Go.Proofs.Ytfaokbjpinlcaaa
open Go.Sep
set_option linter.unusedSimpArgs false
set_option linter.unusedVariables false
attribute [local irreducible] blk slA mp mpF rows rowsBut many mpK mpE
set_option maxHeartbeats 1000000 in
set_option maxRecDepth 100000 in
theorem mvPut_ok (hR : Heap) (b : Nat) (L : List (Mv × Bool)) (rf sf : Lc → Int) (S : List Int) (out : List Mv) (i : Nat) (m : Mv) (gm : L[i]? = some (m, false)) (hS : S.length < 1000000) (hL : L.length ≤ 1000000) (ho : out.length ≤ 2000000)
    (hb : ∀ p, -1000000000 ≤ rf p ∧ rf p ≤ 1000000000) (hs : ∀ p, 0 ≤ sf p ∧ sf p ≤ L.length) :
    Tri Try.prog hR 68 #[ptrV b, vI (i : Int)] [workP b (msL L) (dsL L) rf sf S out] fun _ Γ' => Γ' = [workP b (msL L) (dsL (L.set i (m, true))) (decF rf m.from_) sf (rdyF (dsL (L.set i (m, true))) rf sf S m.from_) (out ++ [m])] := by
  have gM := ms_get gm
  have gD := ds_get gm
  have hlt := (List.getElem?_eq_some_iff.1 gm).1
  have hML : (msL L).length = L.length := by simp [msL]
  have hDL : (dsL L).length = L.length := by simp [dsL]
  refine Tri.openX 0 ?_
  rintro ⟨lv, dv, ov, rm, sm, f, g⟩ ⟨hf, hg⟩
  simp only at hf hg
  refine Tri.openX 0 ?_
  rintro ⟨rv, xs⟩ ⟨hp, hh⟩
  simp only at hp hh
  refine Tri.ent (Tri.of (args := [ptrV b, vI (i : Int)]) Try.func68 rfl Try.ntmps68 (by simp) ?_)
  refine WP.seq ?_
  refine WP.drawn0 cf0 mixed rfl (by kernel_rfl) ?_
  refine Zm ?_
  refine Zm ?_
  refine Zn ?_
  refine Zf fo_134_5 ?_
  refine Zl 0 ag_80 ?_
  refine Zm ?_
  refine Zn ?_
  refine Zf fo_134_0 ?_
  refine Zl 0 ag_80 ?_
  refine Zm ?_
  refine Run.idxO 2 rfl rfl rfl sl_80 rfl rfl rfl rfl (by omega) (by omega) ?_
  refine Run.loadOagg 2 i rfl rfl ag_82 rfl rfl rfl rfl rfl gM ?_
  refine Run.buildSlice (E := encMv) rfl sl_80 zr_82 ([m]) rfl rfl rfl (by decide) rfl rfl ?_
  intro b16
  refine Run.append 6 rfl rfl rfl rfl rfl rfl sl_80 zr_82 rfl (src_own 7 rfl) (by first | omega | (simp <;> omega)) (by first | omega | (simp <;> omega)) ?_
  intro sv17 hv17
  refine Zn ?_
  refine Zf fo_134_5 ?_
  refine Run.storeB 0 rfl rfl rfl rfl ag_80 rfl rfl rfl rfl rfl ?_
  refine Ze ?_
  refine WP.trim [0, 1] [0, 1, 2, 3, 4, 5, 6] ?_
  refine Zp ?_
  refine Zm ?_
  refine Zn ?_
  refine Zf fo_134_1 ?_
  refine Zl 0 ag_45 ?_
  refine Zm ?_
  refine Run.idxO 3 rfl rfl rfl sl_45 rfl rfl rfl rfl (by omega) (by omega) ?_
  refine Run.storeO 3 i 0 rfl rfl rfl rfl ag_3 rfl rfl rfl rfl gD (y' := dI true) rfl rfl ?_
  refine Ze ?_
  refine WP.trim [0, 1] [0, 1, 2, 3, 4, 5, 6] ?_
  rw [← ds_set m true]
  have hcall := free_ok hR b (msL L) (dsL (L.set i (m, true))) rf sf S (out ++ [m]) m.from_ hS (hb _) (fun h0 => by
    have h1 := hs m.from_
    have h2 : (sf m.from_ - 1).toNat < (dsL (L.set i (m, true))).length := by rw [dsL, List.length_map, List.length_set]; omega
    exact ⟨_, List.getElem?_eq_getElem h2⟩) (by have := hs m.from_; omega) (hs _).1
  refine Zc ?_
  refine Zm ?_
  refine Zm ?_
  refine Zn ?_
  refine Zf fo_134_0 ?_
  refine Zl 0 ag_80 ?_
  refine Zm ?_
  refine Run.idxO 2 rfl rfl rfl sl_80 rfl rfl rfl rfl (by omega) (by omega) ?_
  refine Zf fo_82_1 ?_
  refine Run.loadOsub 2 i 2 rfl rfl ag_44 rfl rfl rfl rfl gM rfl ?_; refine Run.via (Γ' := [workP b (msL L) (dsL (L.set i (m, true))) rf sf S (out ++ [m])]) ((hpP_shut rv xs hp hh _).trans (workP_shut ⟨lv, dv, sv17, rm, sm, f, g⟩ hf hg [])) ?_
  refine Run.callP [0] ok_70 hcall ?_; rintro _ _ rfl
  refine Run.nil ?_
  exact retN [] [] rfl rfl ⟨_, ent.go, rfl⟩
end Go.Proofs.Ytfaokbjpinlcaaa
end
section
/- moves.Order; walked. -/
namespace Go.Proofs.Ytfaokbjpinlcaaa
open Go.Sep
set_option linter.unusedSimpArgs false
set_option linter.unusedVariables false
attribute [local irreducible] blk slA mp mpF rows rowsBut many mpK mpE
/-- what is left of the first i -/
def leftL (l : List Mv) (i : Nat) : List Mv := (l.take i).filter fun m => decide (m.from_ ≠ m.to)
theorem leftL_step {l : List Mv} {i : Nat} {m : Mv} (h : l[i]? = some m) : leftL l (i + 1) = leftL l i ++ (if m.from_ ≠ m.to then [m] else []) := by
  unfold leftL
  rw [List.take_add_one, h, List.filter_append]
  congr 1
  by_cases e : m.from_ = m.to <;> simp [e]
theorem leftL_len (l : List Mv) (i : Nat) : (leftL l i).length ≤ l.length := Nat.le_trans (List.length_filter_le _ _) (by simp; omega)
theorem leftL_sub {l : List Mv} {i : Nat} : (leftL l i).Sublist l := List.filter_sublist.trans (List.take_sublist _ _)
theorem lc_neq (a b : Lc) : (!(decide (a.kind = b.kind) && (decide (a.n = b.n) && true))) = decide (a ≠ b) := by
  obtain ⟨a1, a2⟩ := a; obtain ⟨b1, b2⟩ := b
  by_cases h1 : a1 = b1 <;> by_cases h2 : a2 = b2 <;> simp [h1, h2]
/-- which move sets a place -/
structure SfOk (ms : List Mv) (sf : Lc → Int) : Prop where
  st : ∀ p, 0 ≤ sf p ∧ sf p ≤ ms.length ∧ (0 < sf p → ∃ m, ms[(sf p - 1).toNat]? = some m ∧ m.to = p)
  sf : ∀ (i : Nat) (m : Mv), ms[i]? = some m → sf m.to = i + 1
theorem SfOk.snoc {ms : List Mv} {sf : Lc → Int} {m : Mv} (h : SfOk ms sf) (hn : ∀ x ∈ ms, x.to ≠ m.to) : SfOk (ms ++ [m]) (fun q => if q = m.to then (ms.length : Int) + 1 else sf q) := by
  constructor
  · intro p
    have := h.st p
    by_cases e : p = m.to
    · simp only [e, if_true, List.length_append, List.length_singleton]
      refine ⟨by omega, by omega, fun _ => ⟨m, ?_, rfl⟩⟩
      rw [show ((ms.length : Int) + 1 - 1).toNat = ms.length by omega]; simp
    · simp only [e, if_false, List.length_append, List.length_singleton]
      refine ⟨this.1, by omega, fun hp => ?_⟩
      obtain ⟨x, gx, hx⟩ := this.2.2 hp
      exact ⟨x, by rw [List.getElem?_append_left (List.getElem?_eq_some_iff.1 gx).1]; exact gx, hx⟩
  · intro i x hx
    rcases Nat.lt_or_ge i ms.length with hi | hi
    · rw [List.getElem?_append_left hi] at hx
      have := hn x (List.mem_of_getElem? hx)
      simp only [this, if_false]
      exact h.sf i x hx
    · have hl := (List.getElem?_eq_some_iff.1 hx).1
      simp at hl
      obtain rfl : i = ms.length := by omega
      simp at hx
      subst hx; simp
theorem reads_snoc (ms : List Mv) (m : Mv) (p : Lc) : (readsOf (ms ++ [m]) p : Int) = if p = m.from_ then (readsOf ms m.from_ : Int) + 1 else readsOf ms p := by
  simp only [readsOf, List.countP_append, List.countP_singleton, decide_eq_true_eq]
  by_cases e : m.from_ = p
  · subst e; simp
  · simp [e, Ne.symm e]
theorem ds_start (ms : List Mv) : dsL (ms.map (·, false)) = List.replicate ms.length 0 := by
  induction ms with
  | nil => rfl
  | cons x xs ih => simp only [dsL, List.map_cons, List.length_cons, List.replicate_succ] at ih ⊢; rw [ih]; rfl
theorem ms_start (ms : List Mv) : msL (ms.map (·, false)) = ms := by
  induction ms with
  | nil => rfl
  | cons x xs ih => simp only [msL, List.map_cons] at ih ⊢; rw [ih]
def doneB (L : List (Mv × Bool)) (a : Nat) : Bool := match L[a]? with
  | some (_, true) => true
  | _ => false
theorem Hp_nil : Hp (gd []) ([] : List Int).length := fun c _ h => by simp at h
theorem Ord.len {temp : Lc} {l o : List Mv} (P : Lc → Prop) (hp : P temp) (h : Ord temp l o) : (∀ m ∈ l, P m.to ∧ P m.from_) → ∀ m ∈ o, P m.to ∧ P m.from_ := by
  induction h with
  | nil => intro _ m hm; cases hm
  | @put a b o m h1 h2 h ih =>
    intro hl x hx
    rcases List.mem_cons.1 hx with rfl | hx
    · exact hl _ (by simp)
    · exact ih (fun y hy => hl y (by rcases List.mem_append.1 hy with h | h <;> simp [h])) x hx
  | @brk b o m h1 h ih =>
    intro hl x hx
    have hm := hl m (by simp)
    rcases List.mem_cons.1 hx with rfl | hx
    · exact ⟨hp, hm.2⟩
    · refine ih (fun y hy => ?_) x hx
      rcases List.mem_cons.1 hy with rfl | hy
      · exact ⟨hm.1, hp⟩
      · exact hl y (by simp [hy])
set_option maxHeartbeats 8000000 in
set_option maxRecDepth 100000 in
theorem order_ok (hR : Heap) (ls : SV) (l : List Mv) (temp : Lc) (hl : SlR encMv.rd hR ls.val l) (hlen : l.length ≤ 300000) (hG : GoodL temp l) :
    Tri Try.prog hR 40 #[ls.val, encL temp] [] fun v Γ' => ∃ (sv : SV) (o : List Mv), v = .tuple #[sv.val, vI 0] ∧ Γ' = [slA 82 encMv sv.val o] ∧ Ord temp (l.filter fun m => decide (m.from_ ≠ m.to)) o ∧ o.length ≤ 2 * l.length := by
  refine Tri.ent (Tri.of (args := [ls.val, .agg ⟨lcv temp⟩]) Try.func40 rfl Try.ntmps40 (by simp) ?_)
  refine Zp ?_
  refine Run.box rfl rfl rfl rfl rfl ?_
  intro b3
  refine Zm ?_
  refine Zm ?_
  refine Ze ?_
  refine WP.scope ?_
  refine WP.seq ?_
  refine Zp ?_
  refine Zm ?_
  refine Run.loadBagg 0 rfl rfl ag_44 rfl rfl rfl rfl rfl ?_
  refine Run.callP [] ok_66 (refuse_ok hR ls.val l temp hl (by omega) hG) ?_; rintro _ _ ⟨rfl, rfl⟩
  refine Zm ?_
  refine Ze ?_
  refine Zp ?_
  refine Zm ?_
  refine Zi ?_
  refine Ze ?_
  refine WP.ite rfl (fun h => absurd rfl h) (fun _ => ?_)
  refine Zb ?_
  refine Zp ?_
  refine Run.makeMapK encL rfl rfl rfl ?_
  intro b20
  refine Run.makeMapK encL rfl rfl rfl ?_
  intro b21
  refine Run.build rfl bd_134 rfl rfl rfl rfl ?_
  refine Run.box rfl rfl rfl rfl rfl ?_
  intro b23
  refine Zm ?_
  refine Ze ?_
  refine WP.trim [0, 3, 5, 7] [0, 1, 2, 3] ?_
  refine WP.via (Γ' := [wkB b23 nilS.val nilS.val (.map (some b20)) (.map (some b21)) nilS.val nilS.val, slA 82 encMv nilS.val [], mpK encL b20 fun _ => none, mpK encL b21 fun _ => none, blk b3 (lcv temp) 44]) ((slA_nil 82 encMv _).trans ent.go) ?_
  refine WP.meetC (α := SV × (Lc → Option Value) × (Lc → Option Value)) (fun z => MpI z.2.1 (fun p => readsOf (leftL l l.length) p) ∧ ∃ sf, MpI z.2.2 sf ∧ SfOk (leftL l l.length) sf) (fun z => []) (fun z => [(0, wkB b23 z.1.val nilS.val (.map (some b20)) (.map (some b21)) nilS.val nilS.val), (1, slA 82 encMv z.1.val (leftL l l.length)), (2, mpK encL b20 z.2.1), (3, mpK encL b21 z.2.2)]) ?_ ?_
  · refine Zp ?_
    refine Zm ?_
    refine Run.lenR rfl rfl sl_80 rfl rfl (by assumption) ?_
    refine Zm ?_
    refine Ze ?_
    refine WP.block ?_
    refine WP.trim [0, 3, 5, 7, 24, 25, 26] [0, 1, 2, 3, 4] ?_
    refine WP.loopC (α := Nat × SV × (Lc → Option Value) × (Lc → Option Value)) (fun z => z.1 ≤ l.length ∧ MpI z.2.2.1 (fun p => readsOf (leftL l z.1) p) ∧ ∃ sf, MpI z.2.2.2 sf ∧ SfOk (leftL l z.1) sf) (fun z => [(26, vI (z.1 : Int))]) (fun z => [(0, wkB b23 z.2.1.val nilS.val (.map (some b20)) (.map (some b21)) nilS.val nilS.val), (1, slA 82 encMv z.2.1.val (leftL l z.1)), (2, mpK encL b20 z.2.2.1), (3, mpK encL b21 z.2.2.2)]) (fun z => l.length - z.1) (0, nilS, fun _ => none, fun _ => none) ⟨Nat.zero_le _, fun _ => rfl, fun _ => 0, fun _ => rfl, ⟨fun _ => ⟨by omega, by simp [leftL], fun h => by omega⟩, fun i m h => by simp [leftL] at h⟩⟩ ?_
    rintro ⟨i, lv, f, g⟩ ⟨hi, hf, sf, hg, hsf⟩
    simp only at hi hf hg hsf ⊢
    refine WP.trim [0, 3, 5, 7, 24, 25, 26] [0, 1, 2, 3, 4] ?_
    refine Zp ?_
    refine Zi ?_
    refine Ze ?_
    refine WP.seq ?_
    refine WP.ite rfl (fun hlt => ?_) (fun hge => ?_)
    · refine Zb ?_
      obtain ⟨m, gm⟩ : ∃ m, l[(i : Int).toNat]? = some m := ⟨_, List.getElem?_eq_getElem (by omega)⟩
      have gm' : l[i]? = some m := gm
      have hll := leftL_len l i
      refine WP.seq ?_
      refine WP.block ?_
      refine Zp ?_
      refine Zx sl_80 hl ?_
      refine Run.loadRagg rfl rfl ag_82 rfl rfl (SlR.row hl gm) rfl ?_
      refine Run.alloc rfl zr_82 rfl rfl rfl ?_
      intro b9
      refine Run.storeB 5 rfl rfl rfl rfl ag_82 rfl rfl rfl rfl rfl ?_
      refine Ze ?_
      refine WP.trim [0, 3, 5, 7, 9, 24, 25, 26] [0, 1, 2, 3, 4, 5] ?_
      refine Zp ?_
      refine Zf fo_82_1 ?_
      refine Run.loadBagg 5 rfl rfl ag_44 rfl rfl rfl rfl rfl ?_
      refine Zf fo_82_0 ?_
      refine Run.loadBagg 5 rfl rfl ag_44 rfl rfl rfl rfl rfl ?_
      refine Run.neS rfl rfl rfl is_44 nf_44 rfl rfl rfl rfl ?_
      refine Run.eqv (v' := .bool (decide (m.from_ ≠ m.to))) (by rw [← lc_neq]) ?_
      refine Ze ?_
      refine WP.ite rfl (fun hne => ?_) (fun heq => ?_)
      · refine WP.seq ?_
        refine WP.drawn0 cf0 mixed rfl (by kernel_rfl) ?_
        refine Zm ?_
        refine Zm ?_
        refine Zn ?_
        refine Zf fo_134_0 ?_
        refine Zl 0 ag_80 ?_
        refine Run.loadBagg 5 rfl rfl ag_82 rfl rfl rfl rfl rfl ?_
        refine Run.buildSlice (E := encMv) rfl sl_80 zr_82 ([m]) rfl rfl rfl (by decide) rfl rfl ?_
        intro b41
        refine Run.append 1 rfl rfl rfl rfl rfl rfl sl_80 zr_82 rfl (src_own 6 rfl) (by first | omega | (simp <;> omega)) (by first | omega | (simp <;> omega)) ?_
        intro sv42 hv42
        refine Zn ?_
        refine Zf fo_134_0 ?_
        refine Run.storeB 0 rfl rfl rfl rfl ag_80 rfl rfl rfl rfl rfl ?_
        refine Ze ?_
        refine WP.trim [0, 3, 5, 7, 9, 24, 25, 26] [0, 1, 2, 3, 4, 5] ?_
        have hrb : (readsOf (leftL l i) m.from_ : Int) ≤ 300000 := by
          have : readsOf (leftL l i) m.from_ ≤ (leftL l i).length := List.countP_le_length
          omega
        have hv := hf m.from_
        refine WP.seqCut [(0, ls.val), (3, ptrV b3), (5, vI 0), (7, ptrV b23), (9, ptrV b9), (24, ls.val), (25, vI (l.length : Int)), (26, vI (i : Int))] [wkB b23 sv42.val nilS.val (.map (some b20)) (.map (some b21)) nilS.val nilS.val, slA 82 encMv sv42.val (leftL l i ++ [m]), mpK encL b20 (updK f m.from_ (vI ((readsOf (leftL l i) m.from_ : Int) + 1))), mpK encL b21 g, blk b3 (lcv temp) 44, blk b9 (encMv.cells m) 82] ?_ ?_
        · refine WP.drawnX cf0 [0, 1, 2, 3, 4, 5, 6, 7, 8, 9, 10] [0, 1, 2, 3, 4, 5, 8, 6, 7, 9, 10] 6 8 mixed rfl rfl (by kernel_rfl) ?_ ?_
          · refine Zm ?_
            refine Zn ?_
            refine Zf fo_134_2 ?_
            refine Zl 0 ag_131 ?_
            refine Zf fo_82_1 ?_
            refine Run.loadBagg 5 rfl rfl ag_44 rfl rfl rfl rfl rfl ?_
            refine Run.lookupK kok_44 2 (k := m.from_) rfl rfl rfl mt_131 zr_3 rfl rfl rfl ?_; refine Run.eqv hv ?_
            refine Za ?_
            refine Run.mapEntryK kok_44 2 (k := m.from_) rfl rfl rfl mt_131 zr_3 rfl rfl rfl ?_
            intro st
            refine Run.extract rfl rfl rfl rfl rfl ?_
            refine Run.entryStoreK kok_44.inj 2 rfl rfl rfl rfl rfl rfl ?_
            refine Run.nil ?_
            refine thn_next ⟨⟨rfl, rfl, rfl, rfl, rfl, rfl, rfl, rfl, trivial⟩, ?_⟩
            rw [updK_same]; exact ent.go
          · refine Zm ?_
            refine Zn ?_
            refine Zf fo_134_2 ?_
            refine Zl 0 ag_131 ?_
            refine Zf fo_82_1 ?_
            refine Run.loadBagg 5 rfl rfl ag_44 rfl rfl rfl rfl rfl ?_
            refine Run.mapEntryK kok_44 2 (k := m.from_) rfl rfl rfl mt_131 zr_3 rfl rfl rfl ?_
            intro st
            refine Run.lookupE kok_44 2 (k := m.from_) rfl rfl rfl mt_131 zr_3 rfl rfl rfl ?_; refine Run.eqv (v' := vI (readsOf (leftL l i) m.from_ : Int)) (by simp only [updK, if_true, Option.getD_some]; exact hv) ?_
            refine Za ?_
            refine Run.extract rfl rfl rfl rfl rfl ?_
            refine Run.entryStoreK kok_44.inj 2 rfl rfl rfl rfl rfl rfl ?_
            refine Run.nil ?_
            refine thn_next ⟨⟨rfl, rfl, rfl, rfl, rfl, rfl, rfl, rfl, trivial⟩, ?_⟩
            rw [updK_same]; exact ent.go
        refine WP.drawn0 cf0 mixed rfl (by kernel_rfl) ?_
        refine Zm ?_
        refine Zn ?_
        refine Zf fo_134_3 ?_
        refine Zl 0 ag_131 ?_
        refine Zf fo_82_0 ?_
        refine Run.loadBagg 5 rfl rfl ag_44 rfl rfl rfl rfl rfl ?_
        refine Zm ?_
        refine Zn ?_
        refine Zf fo_134_0 ?_
        refine Zl 0 ag_80 ?_
        refine Run.lenO 1 rfl rfl sl_80 rfl rfl rfl ?_
        refine Run.mapUpdateK kok_44 3 (k := m.to) (v := vI ((leftL l i ++ [m]).length : Int)) rfl rfl rfl rfl mt_131 rfl rfl ?_
        refine Run.nil ?_
        refine blk_norm ?_
        refine thn_next ?_
        refine Zc ?_
        refine Za ?_
        refine Zm ?_
        refine Run.nil ?_
        have hstep := leftL_step gm'
        rw [if_pos hne] at hstep
        refine thn_next ⟨(i + 1, sv42, updK f m.from_ (vI ((readsOf (leftL l i) m.from_ : Int) + 1)), updK g m.to (vI ((leftL l i ++ [m]).length : Int))), ⟨by simp only; omega, ?_, fun q => if q = m.to then ((leftL l i ++ [m]).length : Int) else sf q, ?_, ?_⟩, by simp only; omega, Ko.go, by simp only [hstep]; exact ent.gc⟩
        · simp only [hstep]
          have := hf.upd m.from_ ((readsOf (leftL l i) m.from_ : Int) + 1)
          have e : (fun q => if q = m.from_ then (readsOf (leftL l i) m.from_ : Int) + 1 else (readsOf (leftL l i) q : Int)) = fun p => (readsOf (leftL l i ++ [m]) p : Int) := by funext p; rw [reads_snoc]
          rw [e] at this; exact this
        · exact hg.upd m.to ((leftL l i ++ [m]).length : Int)
        · simp only [hstep]
          have e : (((leftL l i ++ [m]).length : Nat) : Int) = (leftL l i).length + 1 := by simp
          rw [e]
          refine hsf.snoc fun x hx e2 => ?_
          have hsub : (leftL l i ++ [m]).Sublist l := hstep ▸ leftL_sub
          have hnd := (hsub.map Mv.to).nodup hG.nd
          rw [List.map_append, List.nodup_append] at hnd
          exact hnd.2.2 x.to (List.mem_map.2 ⟨x, hx, rfl⟩) m.to (by simp) e2
      · refine WP.skip ?_; refine blk_norm ?_; refine thn_next ?_
        refine Zc ?_
        refine Za ?_
        refine Zm ?_
        refine Run.nil ?_
        have hstep := leftL_step gm'
        rw [if_neg heq, List.append_nil] at hstep
        refine thn_next ⟨(i + 1, lv, f, g), ⟨by simp only; omega, by simp only [hstep]; exact hf, sf, hg, by simp only [hstep]; exact hsf⟩, by simp only; omega, Ko.go, by simp only [hstep]; exact ent.gc⟩
    · refine Zj ?_
      have e : i = l.length := by omega
      subst e
      refine thn_next ⟨(lv, f, g), ⟨hf, sf, hg, hsf⟩, Ko.go, ent.gc⟩
  rintro ⟨lv, f, g⟩ ⟨hf, sf, hg, hsf⟩
  simp only at hf hg hsf ⊢
  have hll := leftL_len l l.length
  have hsub : (leftL l l.length).Sublist l := leftL_sub
  have hfil : l.filter (fun m => decide (m.from_ ≠ m.to)) = leftL l l.length := by simp [leftL]
  rw [hfil]
  generalize leftL l l.length = ms at hf hsf hll hsub ⊢
  clear hfil
  refine WP.trim [0, 3, 5, 7] [0, 1, 2, 3, 4] ?_
  refine Zp ?_
  refine Zm ?_
  refine Zm ?_
  refine Zn ?_
  refine Zf fo_134_0 ?_
  refine Zl 0 ag_80 ?_
  refine Run.lenO 1 rfl rfl sl_80 rfl rfl rfl ?_
  refine Run.makeSlice (E := encI) (0) rfl rfl rfl sl_45 zr_3 rfl rfl rfl (by first | omega | (simp <;> omega)) (by first | omega | (simp <;> omega)) (by first | omega | (simp <;> omega)) (by first | omega | (simp <;> omega)) ?_
  intro b73
  refine Zn ?_
  refine Zf fo_134_1 ?_
  refine Run.storeB 0 rfl rfl rfl rfl ag_45 rfl rfl rfl rfl rfl ?_
  refine Ze ?_
  refine WP.trim [3, 5, 7] [0, 1, 2, 3, 4, 5] ?_
  obtain ⟨dv, hdv⟩ : ∃ dv : SV, dv.val = .slice (some ⟨b73, 0, none⟩) (ms.length : Int).toNat (ms.length : Int).toNat := ⟨⟨some ⟨b73, 0, none⟩, ms.length, ms.length⟩, rfl⟩
  refine WP.via (Γ' := [hpP b23 lv.val dv.val (.map (some b20)) (.map (some b21)) nilS.val [], slA 82 encMv lv.val ms, slA 3 encI dv.val (dsL (ms.map (·, false))), mpK encL b20 f, mpK encL b21 g, slA 82 encMv nilS.val [], blk b3 (lcv temp) 44]) ?_ ?_
  · refine (slA_nil 3 encI _).trans ((slA_nil 82 encMv _).trans ?_)
    rw [ds_start, hdv]
    refine ent.trans (Δ := wkB b23 lv.val (.slice (some ⟨b73, 0, none⟩) (ms.length : Int).toNat (ms.length : Int).toNat) (.map (some b20)) (.map (some b21)) nilS.val nilS.val :: slA 3 encI nilS.val [] :: [slA 82 encMv lv.val ms, slA 3 encI (.slice (some ⟨b73, 0, none⟩) (ms.length : Int).toNat (ms.length : Int).toNat) (List.replicate (ms.length : Int).toNat 0), mpK encL b20 f, mpK encL b21 g, slA 82 encMv nilS.val [], blk b3 (lcv temp) 44]) ent.go ?_
    exact hpP_shut nilS [] (.refl _) Hp_nil _
  -- who is ready
  refine WP.meetC (α := List Int) (fun S => S.Nodup ∧ ∀ x, x ∈ S ↔ ∃ (i : Nat) (m : Mv), x = i ∧ ms[i]? = some m ∧ readsOf ms m.to = 0) (fun _ => []) (fun S => [(0, hpP b23 lv.val dv.val (.map (some b20)) (.map (some b21)) nilS.val S)]) ?_ ?_
  · refine WP.seq ?_
    refine WP.openX 0 ?_
    rintro ⟨rv, xs⟩ ⟨hp, hh⟩
    simp only at hp hh ⊢
    refine Zc ?_
    refine Zm ?_
    refine Zn ?_
    refine Zf fo_134_0 ?_
    refine Zl 0 ag_80 ?_
    refine Run.lenO 2 rfl rfl sl_80 rfl rfl rfl ?_
    refine Zm ?_
    refine Ze ?_
    refine WP.via (Γ' := [hpP b23 lv.val dv.val (.map (some b20)) (.map (some b21)) nilS.val [], slA 82 encMv lv.val ms, slA 3 encI dv.val (dsL (ms.map (·, false))), mpK encL b20 f, mpK encL b21 g, slA 82 encMv nilS.val [], blk b3 (lcv temp) 44]) (hpP_shut rv xs hp hh _) ?_
    refine WP.block ?_
    refine WP.trim [3, 5, 7, 79, 80, 81] [0, 1, 2, 3, 4, 5, 6] ?_
    refine WP.loopC (α := Nat × List Int) (fun z => z.1 ≤ ms.length ∧ z.2.Nodup ∧ ∀ x, x ∈ z.2 ↔ ∃ (i : Nat) (m : Mv), x = i ∧ i < z.1 ∧ ms[i]? = some m ∧ readsOf ms m.to = 0) (fun z => [(81, vI (z.1 : Int))]) (fun z => [(0, hpP b23 lv.val dv.val (.map (some b20)) (.map (some b21)) nilS.val z.2)]) (fun z => ms.length - z.1) (0, []) ⟨Nat.zero_le _, by simp, fun x => ⟨(fun h => by cases h), fun ⟨i, m, _, h, _⟩ => by simp at h⟩⟩ ?_
    rintro ⟨i, S⟩ ⟨hi, hnd, hS⟩
    simp only at hi hnd hS ⊢
    have hSl : S.length ≤ i := nd_len hnd fun x hx => by obtain ⟨j, m, rfl, h, _⟩ := (hS x).1 hx; omega
    refine WP.trim [3, 5, 7, 79, 80, 81] [0, 1, 2, 3, 4, 5, 6] ?_
    refine Zp ?_
    refine Zi ?_
    refine Ze ?_
    refine WP.seq ?_
    refine WP.ite rfl (fun hlt => ?_) (fun hge => ?_)
    · refine Zb ?_
      obtain ⟨m, gm⟩ : ∃ m, ms[i]? = some m := ⟨_, List.getElem?_eq_getElem (by omega)⟩
      refine WP.seq ?_
      refine WP.block ?_
      refine Zp ?_
      refine Zm ?_
      refine Run.idxO 1 rfl rfl rfl sl_80 rfl rfl rfl rfl (by omega) (by omega) ?_
      refine Run.loadOagg 1 i rfl rfl ag_82 rfl rfl rfl rfl rfl gm ?_
      refine Run.alloc rfl zr_82 rfl rfl rfl ?_
      intro b11
      refine Zm ?_
      refine Run.storeB 7 rfl rfl rfl rfl ag_82 rfl rfl rfl rfl rfl ?_
      refine Ze ?_
      refine WP.trim [3, 5, 7, 10, 11, 79, 80, 81] [0, 1, 2, 3, 4, 5, 6, 7] ?_
      refine WP.seq ?_
      refine WP.openX 0 ?_
      rintro ⟨rv, xs⟩ ⟨hp, hh⟩
      simp only at hp hh ⊢
      refine WP.drawn0 cf0 mixed rfl (by kernel_rfl) ?_
      refine Zm ?_
      refine Zn ?_
      refine Zf fo_134_2 ?_
      refine Zl 0 ag_131 ?_
      refine Zf fo_82_0 ?_
      refine Run.loadBagg 8 rfl rfl ag_44 rfl rfl rfl rfl rfl ?_
      refine Run.lookupK kok_44 4 (k := m.to) rfl rfl rfl mt_131 zr_3 rfl rfl rfl ?_; refine Run.eqv (hf m.to) ?_
      refine Zi ?_
      refine Ze ?_
      refine WP.via (Γ' := [hpP b23 lv.val dv.val (.map (some b20)) (.map (some b21)) nilS.val S, slA 82 encMv lv.val ms, slA 3 encI dv.val (dsL (ms.map (·, false))), mpK encL b20 f, mpK encL b21 g, slA 82 encMv nilS.val [], blk b3 (lcv temp) 44, blk b11 (encMv.cells m) 82]) (hpP_shut rv xs hp hh _) ?_
      have hmem : ∀ S' : List Int, (∀ x, x ∈ S' ↔ x ∈ S ∨ (x = (i : Int) ∧ readsOf ms m.to = 0)) → ∀ x, x ∈ S' ↔ ∃ (j : Nat) (m : Mv), x = j ∧ j < i + 1 ∧ ms[j]? = some m ∧ readsOf ms m.to = 0 := fun S' h x => by
        rw [h, hS]
        constructor
        · rintro (⟨j, y, h1, h2, h3⟩ | ⟨h1, h2⟩)
          · exact ⟨j, y, h1, by omega, h3⟩
          · exact ⟨i, m, h1, by omega, gm, h2⟩
        · rintro ⟨j, y, h1, h2, h3, h4⟩
          by_cases e : j = i
          · subst e; rw [gm] at h3; cases h3; exact .inr ⟨h1, h4⟩
          · exact .inl ⟨j, y, h1, by omega, h3, h4⟩
      refine WP.ite rfl (fun hz => ?_) (fun hz => ?_)
      · refine Zc ?_
        refine Zm ?_
        refine Zn ?_
        refine Zf fo_134_4 ?_
        refine Run.mkIface rfl rfl if_136 rfl rfl ?_
        refine Zm ?_
        refine Run.mkIface rfl rfl if_3 rfl rfl ?_
        refine Run.callP [0] ok_67 (hPushH_ok hR b23 _ _ _ _ _ S (i : Int) (by omega)) ?_; rintro _ _ rfl
        refine Run.nil ?_
        refine blk_norm ?_; refine thn_next ?_
        refine Zc ?_
        refine Za ?_
        refine Zm ?_
        refine Run.nil ?_
        refine thn_next ⟨(i + 1, (i : Int) :: S), ⟨by simp only; omega, List.nodup_cons.2 ⟨fun h => by obtain ⟨j, y, h1, h2, _⟩ := (hS _).1 h; omega, hnd⟩, hmem _ fun x => ?_⟩, by simp only; omega, Ko.go, ent.gc⟩
        have hz' : readsOf ms m.to = 0 := by have h : (readsOf ms m.to : Int) = 0 := hz; omega
        simp [hz']; exact or_comm
      · refine WP.skip ?_; refine blk_norm ?_; refine thn_next ?_
        refine Zc ?_
        refine Za ?_
        refine Zm ?_
        refine Run.nil ?_
        refine thn_next ⟨(i + 1, S), ⟨by simp only; omega, hnd, hmem _ fun x => ?_⟩, by simp only; omega, Ko.go, ent.gc⟩
        have hz' : ¬ readsOf ms m.to = 0 := by have h : ¬ (readsOf ms m.to : Int) = 0 := hz; omega
        simp [hz']
    · refine Zj ?_
      have e : i = ms.length := by omega
      subst e
      refine thn_next ⟨S, ⟨hnd, fun x => (hS x).trans ⟨fun ⟨j, m, h1, _, h3⟩ => ⟨j, m, h1, h3⟩, fun ⟨j, m, h1, h3, h4⟩ => ⟨j, m, h1, (List.getElem?_eq_some_iff.1 h3).1, h3, h4⟩⟩⟩, Ko.go, ent.gc⟩
  rintro S ⟨hnd, hS⟩
  have hW := WkOk.start (temp := temp) (sf := sf) (S := S) (by omega) (fun m hm => (hG.to m (hsub.subset hm)).2) ((hsub.map Mv.to).nodup hG.nd) hsf.st hsf.sf hnd hS
  have hn0 : (ms.map fun m => (m, false)).length = ms.length := by simp
  refine WP.via (Γ' := [workP b23 (msL (ms.map (·, false))) (dsL (ms.map (·, false))) (fun p => readsOf ms p) sf S [], blk b3 (lcv temp) 44]) ?_ ?_
  · rw [ms_start]
    exact ent.trans ent.go (workP_shut (S := S) (out := []) (Ms := ms) (ds := dsL (ms.map (·, false))) ⟨lv, dv, nilS, b20, b21, f, g⟩ hf hg [blk b3 (lcv temp) 44])
  generalize ms.map (·, false) = L at hW hn0
  generalize (fun p => (readsOf ms p : Int)) = rf at hW
  refine WP.trim [3, 5, 7] [0, 1] ?_
  refine Zp ?_
  refine Zm ?_
  refine Ze ?_
  refine WP.seq ?_
  refine WP.label ?_; refine thn_next ?_
  refine WP.trim [3, 5, 7, 12] [0, 1] ?_
  refine WP.meetC (α := Nat × List (Mv × Bool) × (Lc → Int) × List Int × List Mv) (fun z => Ord temp ms z.2.2.2.2 ∧ z.2.2.2.2.length ≤ 2 * ms.length) (fun z => [(12, vI (z.1 : Int))]) (fun z => [(0, workP b23 (msL z.2.1) (dsL z.2.1) z.2.2.1 sf z.2.2.2.1 z.2.2.2.2)]) ?_ ?_
  · refine WP.block ?_
    refine WP.loopC (α := Nat × List (Mv × Bool) × (Lc → Int) × List Int × List Mv) (fun z => WkOk temp ms z.2.1 z.2.2.1 sf z.2.2.2.1 z.2.2.2.2 ∧ z.2.1.length = ms.length ∧ z.1 ≤ ms.length ∧ ∀ (j : Nat) (x : Mv) (b : Bool), j < z.1 → z.2.1[j]? = some (x, b) → b = true) (fun z => [(12, vI (z.1 : Int))]) (fun z => [(0, workP b23 (msL z.2.1) (dsL z.2.1) z.2.2.1 sf z.2.2.2.1 z.2.2.2.2)]) (fun z => muL temp z.2.1) (0, L, rf, S, []) ⟨hW, hn0, Nat.zero_le _, fun j x b h => by omega⟩ ?_
    rintro ⟨at0, L0, rf0, S0, out0⟩ ⟨hW0, hn0, hat0, hd0⟩
    simp only at hW0 hn0 hat0 hd0 ⊢
    refine WP.trim [3, 5, 7, 12] [0, 1] ?_
    refine WP.block ?_
    -- all that are ready
    refine WP.meetC (α := List (Mv × Bool) × (Lc → Int) × List Mv) (fun z => WkOk temp ms z.1 z.2.1 sf [] z.2.2 ∧ z.1.length = ms.length ∧ muL temp z.1 ≤ muL temp L0 ∧ ∀ (j : Nat) (x : Mv) (b : Bool), j < at0 → z.1[j]? = some (x, b) → b = true) (fun _ => []) (fun z => [(0, workP b23 (msL z.1) (dsL z.1) z.2.1 sf [] z.2.2)]) ?_ ?_
    · refine WP.block ?_
      refine WP.loopC (α := List (Mv × Bool) × (Lc → Int) × List Int × List Mv) (fun z => WkOk temp ms z.1 z.2.1 sf z.2.2.1 z.2.2.2 ∧ z.1.length = ms.length ∧ muL temp z.1 ≤ muL temp L0 ∧ ∀ (j : Nat) (x : Mv) (b : Bool), j < at0 → z.1[j]? = some (x, b) → b = true) (fun _ => []) (fun z => [(0, workP b23 (msL z.1) (dsL z.1) z.2.1 sf z.2.2.1 z.2.2.2)]) (fun z => muL temp z.1) (L0, rf0, S0, out0) ⟨hW0, hn0, Nat.le_refl _, hd0⟩ ?_
      clear hW0 hn0 hd0
      rintro ⟨L, rf, S, out⟩ ⟨hW, hn, hmu, hd⟩
      simp only at hW hn hmu hd ⊢
      have hSl := hW.len
      have hol := hW.mu
      have hlnL := hW.ln
      refine WP.trim [3, 5, 7, 12] [0, 1] ?_
      refine WP.seq ?_
      refine WP.openX 0 ?_
      rintro ⟨lv, dv, ov, rm, sm, f, g⟩ ⟨hf, hg⟩
      simp only at hf hg
      refine WP.seq ?_
      refine WP.openX 0 ?_
      rintro ⟨rv, xs⟩ ⟨hp, hh⟩
      simp only at hp hh
      have hxl := hp.length_eq
      refine Zc ?_
      refine Zm ?_
      refine Zn ?_
      refine Zf fo_134_4 ?_
      refine Zl 0 ag_132 ?_
      refine Run.lenO 1 rfl rfl sl_132 rfl rfl rfl ?_
      refine Zi ?_
      refine Ze ?_
      refine WP.via (Γ' := [hpP b23 lv.val dv.val (.map (some rm)) (.map (some sm)) ov.val S, slA 82 encMv lv.val (msL L), slA 3 encI dv.val (dsL L), mpK encL rm f, mpK encL sm g, slA 82 encMv ov.val out, blk b3 (lcv temp) 44]) (hpP_shut rv xs hp hh _) ?_
      refine WP.ite rfl (fun hgt => ?_) (fun hle => ?_)
      · have hgt' : (xs.length : Int) > 0 := hgt
        refine Zb ?_
        refine WP.block ?_
        refine Zc ?_
        refine Zm ?_
        refine Zm ?_
        refine Zn ?_
        refine Zf fo_134_4 ?_
        refine Run.mkIface rfl rfl if_136 rfl rfl ?_
        refine Run.callP [0] ok_69 (hPopH_ok hR b23 _ _ _ _ _ S (by omega) (by omega)) ?_; rintro _ _ ⟨y, rfl, hyS, hmin, rfl⟩
        refine Run.typeAssert rfl rfl if_3 rfl rfl ?_
        obtain ⟨k, hk⟩ : ∃ k : Nat, (k : Int) = y := ⟨y.toNat, by have := hW.nn y hyS; omega⟩; subst hk; obtain ⟨m, gm, hW2, hmu2⟩ := hW.put hyS hmin; refine Run.via (Γ' := [workP b23 (msL L) (dsL L) rf sf (S.erase (k : Int)) out, blk b3 (lcv temp) 44]) (workP_shut (S := S.erase (k : Int)) ⟨lv, dv, ov, rm, sm, f, g⟩ hf hg [blk b3 (lcv temp) 44]) ?_; refine Run.callP [0] ok_68 (mvPut_ok hR b23 L rf sf (S.erase (k : Int)) out k m gm (by rw [List.length_erase_of_mem hyS]; omega) (by omega) (by omega) (fun p => by have := hW.bd p; omega) (fun p => ⟨(hW.st p).1, (hW.st p).2.1⟩)) ?_; rintro _ _ rfl
        refine Run.nil ?_
        refine blk_norm ?_
        refine thn_next ⟨(L.set k (m, true), decF rf m.from_, rdyF (dsL (L.set k (m, true))) rf sf (S.erase (k : Int)) m.from_, out ++ [m]), ⟨hW2, by simp only [List.length_set]; exact hn, by simp only; omega, fun j x b hj hx => ?_⟩, hmu2, Ko.go, by simp only [ms_same gm]; exact ent.gc⟩
        simp only at hx
        rw [List.getElem?_set] at hx
        split at hx
        · split at hx
          · simp only [Option.some.injEq, Prod.mk.injEq] at hx; exact hx.2.symm
          · cases hx
        · exact hd j x b hj hx
      · have hle' : ¬ (xs.length : Int) > 0 := hle
        refine Zj ?_
        have e : S = [] := List.length_eq_zero_iff.1 (by omega)
        subst e
        refine thn_next ⟨(L, rf, out), ⟨hW, hn, hmu, hd⟩, Ko.go, ?_⟩
        exact workP_shut ⟨lv, dv, ov, rm, sm, f, g⟩ hf hg [blk b3 (lcv temp) 44]
    clear hW0 hd0
    rintro ⟨L, rf, out⟩ ⟨hW, hn, hmu, hd⟩
    simp only at hW hn hmu hd ⊢
    have hol := hW.mu
    have hlnL := hW.ln
    have hML : (msL L).length = L.length := by simp [msL]
    have hDL : (dsL L).length = L.length := by simp [dsL]
    refine WP.openX 0 ?_
    rintro ⟨lv, dv, ov, rm, sm, f, g⟩ ⟨hf, hg⟩
    simp only at hf hg
    refine WP.openX 0 ?_
    rintro ⟨rv, xs⟩ ⟨hp, hh⟩
    simp only at hp hh
    obtain rfl : xs = [] := List.length_eq_zero_iff.1 hp.length_eq
    refine WP.trim [3, 5, 7, 12] [0, 1, 2, 3, 4, 5, 6, 7] ?_
    -- the first one that is not put
    refine WP.meetC (α := Nat) (fun a => a ≤ ms.length ∧ (∀ (j : Nat) (x : Mv) (b : Bool), j < a → L[j]? = some (x, b) → b = true) ∧ (a < ms.length → ∃ m, L[a]? = some (m, false))) (fun a => [(12, vI (a : Int))]) (fun _ => []) ?_ ?_
    · refine WP.block ?_
      refine WP.loopC (α := Nat) (fun a => a ≤ ms.length ∧ ∀ (j : Nat) (x : Mv) (b : Bool), j < a → L[j]? = some (x, b) → b = true) (fun a => [(12, vI (a : Int))]) (fun _ => []) (fun a => ms.length - a) at0 ⟨hat0, hd⟩ ?_
      rintro a ⟨ha, hda⟩
      refine WP.trim [3, 5, 7, 12] [0, 1, 2, 3, 4, 5, 6, 7] ?_
      refine WP.seq ?_
      refine WP.seqCut [(3, ptrV b3), (5, vI 0), (7, ptrV b23), (12, vI (a : Int)), (132, .bool (decide (doneB L a = true)))] [wkB b23 lv.val dv.val (.map (some rm)) (.map (some sm)) rv.val ov.val, slA 3 encI rv.val [], slA 82 encMv lv.val (msL L), slA 3 encI dv.val (dsL L), mpK encL rm f, mpK encL sm g, slA 82 encMv ov.val out, blk b3 (lcv temp) 44] ?_ ?_
      · by_cases hlt : a < ms.length
        · obtain ⟨⟨m, bb⟩, gm⟩ : ∃ p, L[a]? = some p := ⟨_, List.getElem?_eq_getElem (by omega)⟩
          have gD := ds_get gm
          refine Zc ?_
          all_goals (first | refine Zm ?_)
          all_goals (first | refine Zm ?_)
          all_goals (first | refine Zn ?_)
          all_goals (first | refine Zf fo_134_0 ?_)
          all_goals (first | refine Zl 0 ag_80 ?_)
          all_goals (first | refine Run.lenO 2 rfl rfl sl_80 rfl rfl rfl ?_)
          all_goals (first | refine Zi ?_)
          all_goals (first | refine Run.tt (by first | assumption | omega) ?_ | refine Run.ff (by first | assumption | omega) ?_ | refine Run.split (fun hc122 => ?_) (fun hc122 => ?_) | refine Run.splitB (fun hc122 => ?_) (fun hc122 => ?_) | skip)
          all_goals (first | refine Zm ?_)
          all_goals (first | refine Zv ?_ | refine Zm ?_)
          all_goals (first | refine Zv ?_ | refine Zn ?_)
          all_goals (first | refine Zv ?_ | refine Zf fo_134_1 ?_)
          all_goals (first | refine Zv ?_ | refine Zl 0 ag_45 ?_)
          all_goals (first | refine Zv ?_ | refine Zm ?_)
          all_goals (first | refine Zv ?_ | refine Run.idxO 3 rfl rfl rfl sl_45 rfl rfl rfl rfl (by omega) (by omega) ?_)
          all_goals (first | refine Zv ?_ | refine Run.loadO 3 a 0 rfl rfl ag_3 rfl rfl rfl rfl gD rfl ?_)
          all_goals (first | refine Zv ?_ | refine Zi ?_)
          all_goals (first | refine Zq ?_)
          all_goals (refine Run.nil ?_)
          all_goals refine thn_next ⟨⟨rfl, rfl, rfl, rfl, ?_, trivial⟩, ent.go⟩
          all_goals first | (cases bb <;> simp [Env.get, gm, dI, doneB]; done) | (exfalso; omega)
        · refine Zc ?_
          all_goals (first | refine Zm ?_)
          all_goals (first | refine Zm ?_)
          all_goals (first | refine Zn ?_)
          all_goals (first | refine Zf fo_134_0 ?_)
          all_goals (first | refine Zl 0 ag_80 ?_)
          all_goals (first | refine Run.lenO 2 rfl rfl sl_80 rfl rfl rfl ?_)
          all_goals (first | refine Zi ?_)
          all_goals (first | refine Run.tt (by first | assumption | omega) ?_ | refine Run.ff (by first | assumption | omega) ?_ | refine Run.split (fun hc122 => ?_) (fun hc122 => ?_) | refine Run.splitB (fun hc122 => ?_) (fun hc122 => ?_) | skip)
          all_goals (first | refine Zm ?_)
          all_goals (first | refine Zv ?_ | refine Zm ?_)
          all_goals (first | refine Zv ?_ | refine Zn ?_)
          all_goals (first | refine Zv ?_ | refine Zf fo_134_1 ?_)
          all_goals (first | refine Zv ?_ | refine Zl 0 ag_45 ?_ | refine Run.loadO 0 _ 0 rfl rfl ag_45 rfl rfl rfl rfl (by assumption) rfl ?_ | refine Run.loadO 0 _ _ rfl rfl ag_45 rfl rfl rfl rfl (by assumption) rfl ?_ | refine Zl 1 ag_45 ?_ | refine Run.loadO 1 _ 0 rfl rfl ag_45 rfl rfl rfl rfl (by assumption) rfl ?_ | refine Run.loadO 1 _ _ rfl rfl ag_45 rfl rfl rfl rfl (by assumption) rfl ?_ | refine Zl 2 ag_45 ?_ | refine Run.loadO 2 _ 0 rfl rfl ag_45 rfl rfl rfl rfl (by assumption) rfl ?_ | refine Run.loadO 2 _ _ rfl rfl ag_45 rfl rfl rfl rfl (by assumption) rfl ?_ | refine Zl 3 ag_45 ?_ | refine Run.loadO 3 _ 0 rfl rfl ag_45 rfl rfl rfl rfl (by assumption) rfl ?_ | refine Run.loadO 3 _ _ rfl rfl ag_45 rfl rfl rfl rfl (by assumption) rfl ?_ | refine Zl 4 ag_45 ?_ | refine Run.loadO 4 _ 0 rfl rfl ag_45 rfl rfl rfl rfl (by assumption) rfl ?_ | refine Run.loadO 4 _ _ rfl rfl ag_45 rfl rfl rfl rfl (by assumption) rfl ?_ | refine Zl 5 ag_45 ?_ | refine Run.loadO 5 _ 0 rfl rfl ag_45 rfl rfl rfl rfl (by assumption) rfl ?_ | refine Run.loadO 5 _ _ rfl rfl ag_45 rfl rfl rfl rfl (by assumption) rfl ?_ | refine Zl 6 ag_45 ?_ | refine Run.loadO 6 _ 0 rfl rfl ag_45 rfl rfl rfl rfl (by assumption) rfl ?_ | refine Run.loadO 6 _ _ rfl rfl ag_45 rfl rfl rfl rfl (by assumption) rfl ?_ | refine Zl 7 ag_45 ?_ | refine Run.loadO 7 _ 0 rfl rfl ag_45 rfl rfl rfl rfl (by assumption) rfl ?_ | refine Run.loadO 7 _ _ rfl rfl ag_45 rfl rfl rfl rfl (by assumption) rfl ?_ | refine Run.loadR rfl rfl ag_45 rfl rfl (by first | assumption | exact SlR.cell0 (by assumption) (by assumption) rfl | exact SlR.cell (by assumption) (by assumption) rfl) ?_)
          all_goals (first | refine Zv ?_ | refine Zm ?_)
          all_goals (first | refine Zv ?_ | fail)
          all_goals (first | refine Zv ?_ | fail)
          all_goals (first | refine Zv ?_ | refine Zi ?_)
          all_goals (first | refine Zq ?_)
          all_goals (refine Run.nil ?_)
          all_goals refine thn_next ⟨⟨rfl, rfl, rfl, rfl, ?_, trivial⟩, ent.go⟩
          have : L[a]? = none := List.getElem?_eq_none (by omega)
          simp [Env.get, this, doneB]
      refine WP.ite rfl (fun hy => ?_) (fun hn' => ?_)
      · refine Zb ?_
        obtain ⟨m, gm⟩ : ∃ m, L[a]? = some (m, true) := by
          unfold doneB at hy
          split at hy
          · exact ⟨_, by assumption⟩
          · cases hy
        have hlt := (List.getElem?_eq_some_iff.1 gm).1
        refine WP.block ?_
        refine Zc ?_
        refine Zm ?_
        refine Za ?_
        refine Zm ?_
        refine Run.nil ?_
        refine blk_norm ?_
        refine thn_next ⟨a + 1, ⟨by omega, fun j x b hj hx => ?_⟩, by omega, Ko.go, ent.gc⟩
        by_cases e : j = a
        · subst e; rw [gm] at hx; simp only [Option.some.injEq, Prod.mk.injEq] at hx; exact hx.2.symm
        · exact hda j x b (by omega) hx
      · refine Zj ?_
        refine thn_next ⟨a, ⟨ha, hda, fun hlt => ?_⟩, Ko.go, ent.gc⟩
        obtain ⟨⟨m, bb⟩, gm⟩ : ∃ p, L[a]? = some p := ⟨_, List.getElem?_eq_getElem (by omega)⟩
        cases bb with
        | false => exact ⟨m, gm⟩
        | true => exact absurd (by simp [doneB, gm]) hn'
    rintro a ⟨ha, hda, hnext⟩
    refine WP.trim [3, 5, 7, 12] [0, 1, 2, 3, 4, 5, 6, 7] ?_
    refine WP.seq ?_
    refine Zp ?_
    refine Zm ?_
    refine Zm ?_
    refine Zn ?_
    refine Zf fo_134_0 ?_
    refine Zl 0 ag_80 ?_
    refine Run.lenO 2 rfl rfl sl_80 rfl rfl rfl ?_
    refine Zi ?_
    refine Ze ?_
    refine WP.ite rfl (fun hend => ?_) (fun hgo => ?_)
    · refine WP.exit ?_; refine thn_exit ?_; refine blk_miss rfl ?_; refine thn_exit ?_; refine blk_hit ?_
      have hall := hW.mv.done fun j x b hx => hda j x b (by have := (List.getElem?_eq_some_iff.1 hx).1; omega) hx
      refine thn_next ⟨(a, L, rf, [], out), ⟨hall, by simp only; omega⟩, Ko.go, ?_⟩
      exact (hpP_shut rv [] hp hh _).trans (workP_shut ⟨lv, dv, ov, rm, sm, f, g⟩ hf hg [blk b3 (lcv temp) 44])
    refine Zb ?_
    obtain ⟨m, gm⟩ := hnext (by omega)
    have hlt := (List.getElem?_eq_some_iff.1 gm).1
    have gM := ms_get gm
    obtain ⟨hW2, hmu2⟩ := hW.brk gm hda
    refine WP.trim [3, 5, 7, 12] [0, 1, 2, 3, 4, 5, 6, 7] ?_
    refine Zp ?_
    refine Zm ?_
    refine Zn ?_
    refine Zf fo_134_0 ?_
    refine Zl 0 ag_80 ?_
    refine Zm ?_
    refine Run.idxO 2 rfl rfl rfl sl_80 rfl rfl rfl rfl (by omega) (by omega) ?_
    refine Zf fo_82_1 ?_
    refine Run.loadOsub 2 a 2 rfl rfl ag_44 rfl rfl rfl rfl gM rfl ?_
    refine Run.alloc rfl zr_44 rfl rfl rfl ?_
    intro b13
    refine Run.storeB 8 rfl rfl rfl rfl ag_44 rfl rfl rfl rfl rfl ?_
    refine Ze ?_
    refine WP.trim [3, 5, 7, 12, 13] [0, 1, 2, 3, 4, 5, 6, 7, 8] ?_
    refine WP.seq ?_
    refine WP.drawn0 cf0 mixed rfl (by kernel_rfl) ?_
    refine Zm ?_
    refine Zm ?_
    refine Zn ?_
    refine Zf fo_134_5 ?_
    refine Zl 0 ag_80 ?_
    refine Run.loadBagg 7 rfl rfl ag_44 rfl rfl rfl rfl rfl ?_
    refine Run.loadBagg 8 rfl rfl ag_44 rfl rfl rfl rfl rfl ?_
    refine Run.build rfl bd_82 rfl rfl rfl rfl ?_
    refine Run.buildSlice (E := encMv) rfl sl_80 zr_82 ([(⟨temp, m.from_⟩ : Mv)]) rfl rfl rfl (by decide) rfl rfl ?_
    intro b158
    refine Run.append 6 rfl rfl rfl rfl rfl rfl sl_80 zr_82 rfl (src_own 9 rfl) (by first | omega | (simp <;> omega)) (by first | omega | (simp <;> omega)) ?_
    intro sv159 hv159
    refine Zn ?_
    refine Zf fo_134_5 ?_
    refine Run.storeB 0 rfl rfl rfl rfl ag_80 rfl rfl rfl rfl rfl ?_
    refine Ze ?_
    refine WP.trim [3, 5, 7, 12, 13] [0, 1, 2, 3, 4, 5, 6, 7, 8] ?_
    refine WP.seq ?_
    refine WP.drawn0 cf0 mixed rfl (by kernel_rfl) ?_
    refine Zm ?_
    refine Zn ?_
    refine Zf fo_134_0 ?_
    refine Zl 0 ag_80 ?_
    refine Zm ?_
    refine Run.loadBagg 7 rfl rfl ag_44 rfl rfl rfl rfl rfl ?_
    refine Run.idxO 2 rfl rfl rfl sl_80 rfl rfl rfl rfl (by omega) (by omega) ?_
    refine Zf fo_82_1 ?_
    refine Run.storeO 2 a 2 rfl rfl rfl rfl ag_44 rfl rfl rfl rfl gM (y' := (⟨m.to, temp⟩ : Mv)) rfl rfl ?_
    refine Ze ?_
    rw [← ms_set (L := L) (⟨m.to, temp⟩ : Mv) false]
    have hds : dsL (L.set a (⟨m.to, temp⟩, false)) = dsL L := ds_same gm
    refine WP.trim [3, 5, 7, 12, 13] [0, 1, 2, 3, 4, 5, 6, 7, 8] ?_
    have hcall := free_ok hR b23 (msL (L.set a (⟨m.to, temp⟩, false))) (dsL L) rf sf [] (out ++ [(⟨temp, m.from_⟩ : Mv)]) m.from_ (by simp) (by have := hW.bd m.from_; omega) (fun h0 => by
      have h1 := hW.st m.from_
      exact ⟨_, List.getElem?_eq_getElem (show (sf m.from_ - 1).toNat < (dsL L).length by omega)⟩) (by have := hW.st m.from_; omega) (hW.st _).1
    refine Zc ?_
    refine Zm ?_
    refine Run.loadBagg 8 rfl rfl ag_44 rfl rfl rfl rfl rfl ?_
    refine Run.via (Γ' := [workP b23 (msL (L.set a (⟨m.to, temp⟩, false))) (dsL L) rf sf [] (out ++ [(⟨temp, m.from_⟩ : Mv)]), blk b3 (lcv temp) 44, blk b13 (lcv m.from_) 44]) ((hpP_shut rv [] hp hh _).trans (workP_shut ⟨lv, dv, sv159, rm, sm, f, g⟩ hf hg [blk b3 (lcv temp) 44, blk b13 (lcv m.from_) 44])) ?_; refine Run.callP [0] ok_70 hcall ?_; rintro _ _ rfl
    refine Run.nil ?_
    refine blk_norm ?_
    refine thn_next ⟨(a, L.set a (⟨m.to, temp⟩, false), decF rf m.from_, rdyF (dsL L) rf sf [] m.from_, out ++ [(⟨temp, m.from_⟩ : Mv)]), ⟨hW2, by simp only [List.length_set]; exact hn, ha, fun j x b hj hx => ?_⟩, ?_, Ko.go, by simp only [hds]; exact ent.gc⟩
    · simp only at hj hx
      rw [List.getElem?_set_ne (by omega)] at hx
      exact hda j x b hj hx
    · simp only; omega
  rintro ⟨aa, L, rf, S, out⟩ ⟨hO, hlo⟩
  simp only at hO hlo ⊢
  refine WP.openX 0 ?_
  rintro ⟨lv, dv, ov, rm, sm, f, g⟩ ⟨hf, hg⟩
  simp only at hf hg
  refine WP.openX 0 ?_
  rintro ⟨rv, xs⟩ ⟨hp, hh⟩
  simp only at hp hh
  refine Zp ?_
  refine Zm ?_
  refine Zn ?_
  refine Zf fo_134_5 ?_
  refine Zl 0 ag_80 ?_
  refine Zm ?_
  refine Zm ?_
  refine Ze ?_
  refine WP.ret ?_
  refine scp_ret ?_
  exact retT [4, 5] _ rfl rfl ⟨_, ent.go, ov, out, rfl, rfl, hO, by omega⟩
end Go.Proofs.Ytfaokbjpinlcaaa
end
