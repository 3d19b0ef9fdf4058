/- ALIR's check: calls, instructions, ends of blocks; walked. -/
import Derived.Test.YtfaokbjpinlcaaaGA4
import Derived.Test.YtfaokbjpinlcaaaGA9
section
/- ALIR's check: calls, instructions, ends of blocks; walked. -/
namespace Go.Proofs.Ytfaokbjpinlcaaa
open Go.Sep
set_option linter.unusedSimpArgs false
set_option linter.unusedVariables false
set_option maxRecDepth 100000
attribute [local irreducible] blk slA mp mpF rows rowsBut many mpK mpE
theorem ub_4 : Try.prog.underlying 4 = some .bool := by kernel_rfl
theorem noneB_eq (l : Lc) : (decide (l.kind = 0) && (decide (l.n = 0) && true)) = noneB l := by
  unfold noneB
  by_cases h1 : l.kind = 0 <;> by_cases h2 : l.n = 0 <;> simp [h1, h2]
theorem rising_iff : ∀ (l : List Int), risingB l = true ↔ ∀ (i : Nat) (a b : Int), l[i]? = some a → l[i + 1]? = some b → a < b
  | [] => by simp [risingB]
  | [x] => by simp [risingB]
  | x :: y :: l => by
    have ih := rising_iff (y :: l)
    simp only [risingB, Bool.and_eq_true, decide_eq_true_eq]
    rw [ih]
    constructor
    · rintro ⟨h1, h2⟩ i a b ha hb
      cases i with
      | zero => simp at ha hb; omega
      | succ i => exact h2 i a b (by simpa using ha) (by simpa using hb)
    · intro h
      exact ⟨h 0 x y rfl rfl, fun i a b ha hb => h (i + 1) a b (by simpa using ha) (by simpa using hb)⟩
abbrev alv (A : AL) (fv : SV) : List Value := [fv.val, .int .i64 A.main]
set_option maxHeartbeats 2000000 in
theorem chkCall_ok (hR : Heap) (A : AL) (fv : SV) (x : AI) (u v : SV) (hA : SlR rdAF hR fv.val A.funcs) (hx : AIv hR x u.val v.val) (hl1 : A.funcs.length ≤ 1000000) (hl2 : x.args.length ≤ 1000000) (hl3 : x.saves.length ≤ 1000000) (hl4 : ∀ F ∈ A.funcs, F.params.length ≤ 1000000) :
    Tri Try.prog hR 36 #[.agg ⟨alv A fv⟩, .agg ⟨aiv x u.val v.val⟩, .bool (noneB x.dst)] [] fun r Γ' => r = .bool (callB A x) ∧ Γ' = [] := by
  have hu := hx.hu
  have hv := hx.hv
  refine Tri.ent (Tri.of (args := [.agg ⟨alv A fv⟩, .agg ⟨aiv x u.val v.val⟩, .bool (noneB x.dst)]) Try.func36 rfl Try.ntmps36 (by simp) ?_)
  refine Zp ?_
  refine Run.box rfl rfl rfl rfl rfl ?_
  intro b3
  refine Run.box rfl rfl rfl rfl rfl ?_
  intro b4
  refine Zm ?_
  refine Ze ?_
  refine WP.seq ?_
  refine WP.seqCut [(2, .bool (noneB x.dst)), (3, .pointer (some ⟨b3, 0, none⟩)), (4, .pointer (some ⟨b4, 0, none⟩)), (6, .bool false), (20, .bool (decide (¬ (0 ≤ x.imm ∧ x.imm < (A.funcs.length : Int)))))] [blk b3 (alv A fv) 24, blk b4 (aiv x u.val v.val) 51] ?_ ?_
  · refine Zc ?_
    all_goals (first | refine Zf fo_51_1 ?_)
    all_goals (first | refine Zl 1 ag_3 ?_)
    all_goals (first | refine Zi ?_)
    all_goals (first | refine Run.tt (by first | assumption | omega) ?_ | refine Run.ff (by first | assumption | omega) ?_ | refine Run.split (fun hc12 => ?_) (fun hc12 => ?_) | refine Run.splitB (fun hc12 => ?_) (fun hc12 => ?_) | skip)
    all_goals (first | refine Zm ?_)
    all_goals (first | refine Zv ?_ | refine Zf fo_51_1 ?_)
    all_goals (first | refine Zv ?_ | refine Zl 1 ag_3 ?_)
    all_goals (first | refine Zv ?_ | refine Zf fo_24_0 ?_)
    all_goals (first | refine Zv ?_ | refine Zl 0 ag_22 ?_)
    all_goals (first | refine Zv ?_ | refine Zh sl_22 hA ?_)
    all_goals (first | refine Zv ?_ | refine Zi ?_)
    all_goals (first | refine Zq ?_)
    all_goals (refine Run.nil ?_)
    all_goals refine thn_next ⟨⟨rfl, rfl, rfl, rfl, ?_, trivial⟩, ent.go⟩
    all_goals simp [Env.get]
    all_goals omega
  refine WP.ite rfl (fun hbad => ?_) (fun hgood => ?_)
  · refine Zp ?_
    refine Zm ?_
    refine Ze ?_
    refine WP.ret ?_; refine thn_ret ?_
    refine retT [6] _ rfl rfl ⟨_, ent.none _, ?_, rfl⟩
    unfold callB; rw [decide_eq_false hbad]; rfl
  refine Zb ?_
  have him : 0 ≤ x.imm ∧ x.imm < (A.funcs.length : Int) := Decidable.not_not.1 hgood
  obtain ⟨G, gG⟩ : ∃ G, A.funcs[x.imm.toNat]? = some G := ⟨_, List.getElem?_eq_getElem (by omega)⟩
  have hGl := hl4 G (List.mem_of_getElem? gG)
  obtain ⟨_, ⟨gu0, gv0, rfl, hgu, hgv⟩, hrow⟩ := hA.at gG
  obtain ⟨gu, rfl, _, _⟩ := SlR.sv hgu
  obtain ⟨gv, rfl, _, _⟩ := SlR.sv hgv
  have eC : callB A x = (decide (x.args.length = G.params.length) && (decide (G.result ≠ 0) || noneB x.dst) && x.saves.all (fun r => decide (0 ≤ r ∧ r < 8)) && risingB x.saves) := by
    unfold callB; rw [decide_eq_true him, gG]; rfl
  refine Zp ?_
  refine Zf fo_24_0 ?_
  refine Zl 0 ag_22 ?_
  refine Zf fo_51_1 ?_
  refine Zl 1 ag_3 ?_
  refine Zx sl_22 hA ?_
  refine Run.loadRagg rfl rfl ag_41 rfl rfl hrow (by rfl) ?_
  refine Run.alloc rfl zr_41 rfl rfl rfl ?_
  intro b7
  refine Run.storeB 2 rfl rfl rfl rfl ag_41 rfl rfl rfl rfl rfl ?_
  refine Ze ?_
  refine WP.trim [2, 4, 6, 7] [1, 2] ?_
  refine WP.seq ?_
  refine WP.seqCut [(4, .pointer (some ⟨b4, 0, none⟩)), (6, .bool false), (42, .bool (decide (¬ (x.args.length = G.params.length ∧ (G.result ≠ 0 ∨ noneB x.dst = true)))))] [blk b4 (aiv x u.val v.val) 51] ?_ ?_
  · cases hn : noneB x.dst
    all_goals
      refine Zc ?_
      all_goals (first | refine Zf fo_51_3 ?_)
      all_goals (first | refine Zl 0 ag_38 ?_)
      all_goals (first | refine Zh sl_38 hu ?_)
      all_goals (first | refine Zf fo_41_1 ?_)
      all_goals (first | refine Zl 1 ag_38 ?_)
      all_goals (first | refine Zh sl_38 hgu ?_)
      all_goals (first | refine Zi ?_)
      all_goals (first | refine Run.tt (by first | assumption | omega) ?_ | refine Run.ff (by first | assumption | omega) ?_ | refine Run.split (fun hc33 => ?_) (fun hc33 => ?_) | refine Run.splitB (fun hc33 => ?_) (fun hc33 => ?_) | skip)
      all_goals (first | refine Zm ?_)
      all_goals (first | refine Zv ?_ | refine Zf fo_41_2 ?_)
      all_goals (first | refine Zv ?_ | refine Zl 1 ag_3 ?_)
      all_goals (first | refine Zv ?_ | refine Zi ?_)
      all_goals (first | refine Run.tt (by first | assumption | omega) ?_ | refine Run.ff (by first | assumption | omega) ?_ | refine Run.split (fun hc37 => ?_) (fun hc37 => ?_) | refine Run.splitB (fun hc37 => ?_) (fun hc37 => ?_) | skip)
      all_goals (first | refine Zv ?_ | refine Zm ?_)
      all_goals (first | refine Zv ?_ | refine Zm ?_)
      all_goals (first | refine Zv ?_ | refine Run.bnotB rfl rfl rfl rfl ?_)
      all_goals (first | refine Zv ?_ | refine Zq ?_)
      all_goals (first | refine Zq ?_)
      all_goals (refine Run.nil ?_)
      all_goals refine thn_next ⟨⟨rfl, rfl, ?_, trivial⟩, ent.go⟩
      all_goals simp [Env.get]
      all_goals omega
  refine WP.ite rfl (fun hbad => ?_) (fun hgood2 => ?_)
  · refine Zp ?_
    refine Zm ?_
    refine Ze ?_
    refine WP.ret ?_; refine thn_ret ?_
    refine retT [6] _ rfl rfl ⟨_, ent.none _, ?_, rfl⟩
    rw [eC]
    have e : (decide (x.args.length = G.params.length) && (decide (G.result ≠ 0) || noneB x.dst)) = false := by
      cases hh : (decide (x.args.length = G.params.length) && (decide (G.result ≠ 0) || noneB x.dst)) with
      | false => rfl
      | true => exact absurd (by simpa using hh) hbad
    rw [e]; rfl
  refine Zb ?_
  have e1 : (decide (x.args.length = G.params.length) && (decide (G.result ≠ 0) || noneB x.dst)) = true := by simpa using Decidable.not_not.1 hgood2
  rw [e1, Bool.true_and] at eC
  refine WP.trim [4, 6] [0] ?_
  refine WP.meetC (α := Unit) (fun _ => callB A x = true) (fun _ => []) (fun _ => []) ?_ ?_
  · refine Zp ?_
    refine Zf fo_51_4 ?_
    refine Zl 0 ag_45 ?_
    refine Zh sl_45 hv ?_
    refine Zm ?_
    refine Ze ?_
    refine WP.block ?_
    refine WP.trim [4, 6, 44, 45, 46] [0] ?_
    refine WP.loopC (α := Nat) (fun i => i ≤ x.saves.length ∧ ∀ (j : Nat) (r : Int), j < i → x.saves[j]? = some r → (0 ≤ r ∧ r < 8) ∧ (0 < j → x.saves.getD (j - 1) 0 < r)) (fun i => [(46, .int .i64 (i : Int))]) (fun _ => []) (fun i => x.saves.length - i) 0 ⟨Nat.zero_le _, fun j r h => by omega⟩ ?_
    rintro i ⟨hi, hok⟩
    refine WP.trim [4, 6, 44, 45, 46] [0] ?_
    refine Zp ?_
    refine Zi ?_
    refine Ze ?_
    refine WP.seq ?_
    refine WP.ite rfl (fun hlt => ?_) (fun hge => ?_)
    · refine Zb ?_
      obtain ⟨r, gr⟩ : ∃ y, x.saves[(i : Int).toNat]? = some y := ⟨_, List.getElem?_eq_getElem (by omega)⟩
      have gr' : x.saves[i]? = some r := gr
      refine WP.seq ?_
      refine WP.block ?_
      refine Zp ?_
      refine Zm ?_
      refine Zx sl_45 hv ?_
      refine Zr ag_3 (SlR.cell0 hv gr rfl) ?_
      refine Zm ?_
      refine Zm ?_
      refine Ze ?_
      refine WP.seqCut [(4, .pointer (some ⟨b4, 0, none⟩)), (6, .bool false), (44, v.val), (45, .int .i64 (x.saves.length : Int)), (46, .int .i64 (i : Int)), (70, .bool (decide (¬ ((0 ≤ r ∧ r < 8) ∧ (0 < i → x.saves.getD (i - 1) 0 < r)))))] [blk b4 (aiv x u.val v.val) 51] ?_ ?_
      · by_cases h0 : 0 < i
        · obtain ⟨q, gq⟩ : ∃ y, x.saves[((i : Int) - 1).toNat]? = some y := ⟨_, List.getElem?_eq_getElem (by omega)⟩
          have gq' : x.saves.getD (i - 1) 0 = q := by rw [List.getD_eq_getElem?_getD, show i - 1 = ((i : Int) - 1).toNat by omega, gq]; rfl
          rw [gq']
          refine Zc ?_
          all_goals (first | refine Zm ?_)
          all_goals (first | refine Zi ?_)
          all_goals (first | refine Run.tt (by first | assumption | omega) ?_ | refine Run.ff (by first | assumption | omega) ?_ | refine Run.split (fun hc52 => ?_) (fun hc52 => ?_) | refine Run.splitB (fun hc52 => ?_) (fun hc52 => ?_) | skip)
          all_goals (first | refine Zm ?_)
          all_goals (first | refine Zv ?_ | refine Zm ?_)
          all_goals (first | refine Zv ?_ | refine Zi ?_)
          all_goals (first | refine Run.tt (by first | assumption | omega) ?_ | refine Run.ff (by first | assumption | omega) ?_ | refine Run.split (fun hc55 => ?_) (fun hc55 => ?_) | refine Run.splitB (fun hc55 => ?_) (fun hc55 => ?_) | skip)
          all_goals (first | refine Zq ?_)
          all_goals (first | refine Zm ?_)
          all_goals (first | refine Zv ?_ | refine Zm ?_)
          all_goals (first | refine Zv ?_ | refine Zi ?_)
          all_goals (first | refine Run.tt (by first | assumption | omega) ?_ | refine Run.ff (by first | assumption | omega) ?_ | refine Run.split (fun hc59 => ?_) (fun hc59 => ?_) | refine Run.splitB (fun hc59 => ?_) (fun hc59 => ?_) | skip)
          all_goals (first | refine Zv ?_ | refine Zm ?_)
          all_goals (first | refine Zv ?_ | refine Zf fo_51_4 ?_)
          all_goals (first | refine Zv ?_ | refine Zl 0 ag_45 ?_)
          all_goals (first | refine Zv ?_ | refine Zm ?_)
          all_goals (first | refine Zv ?_ | refine Zs ?_)
          all_goals (first | refine Zv ?_ | refine Zx sl_45 hv ?_)
          all_goals (first | refine Zv ?_ | refine Zr ag_3 (SlR.cell0 hv gq rfl) ?_)
          all_goals (first | refine Zv ?_ | refine Zm ?_)
          all_goals (first | refine Zv ?_ | refine Zi ?_)
          all_goals (first | refine Zv ?_ | refine Zq ?_)
          all_goals (first | refine Zq ?_)
          all_goals (refine Run.nil ?_)
          all_goals refine thn_next ⟨⟨rfl, rfl, rfl, rfl, rfl, ?_, trivial⟩, ent.go⟩
          all_goals simp [Env.get]
          all_goals (first | omega | (rw [decide_eq_true (show 0 ≤ r by omega), decide_eq_true (show r < 8 by omega), decide_eq_true h0]; rfl))
        · obtain rfl : i = 0 := by omega
          refine Zc ?_
          all_goals (first | refine Zm ?_)
          all_goals (first | refine Zi ?_)
          all_goals (first | refine Run.tt (by first | assumption | omega) ?_ | refine Run.ff (by first | assumption | omega) ?_ | refine Run.split (fun hc52 => ?_) (fun hc52 => ?_) | refine Run.splitB (fun hc52 => ?_) (fun hc52 => ?_) | skip)
          all_goals (first | refine Zm ?_)
          all_goals (first | refine Zv ?_ | refine Zm ?_)
          all_goals (first | refine Zv ?_ | refine Zi ?_)
          all_goals (first | refine Run.tt (by first | assumption | omega) ?_ | refine Run.ff (by first | assumption | omega) ?_ | refine Run.split (fun hc55 => ?_) (fun hc55 => ?_) | refine Run.splitB (fun hc55 => ?_) (fun hc55 => ?_) | skip)
          all_goals (first | refine Zq ?_)
          all_goals (first | refine Zm ?_)
          all_goals (first | refine Zv ?_ | refine Zm ?_)
          all_goals (first | refine Zv ?_ | refine Zi ?_)
          all_goals (first | refine Run.tt (by first | assumption | omega) ?_ | refine Run.ff (by first | assumption | omega) ?_ | refine Run.split (fun hc59 => ?_) (fun hc59 => ?_) | refine Run.splitB (fun hc59 => ?_) (fun hc59 => ?_) | skip)
          all_goals (first | refine Zv ?_ | refine Zm ?_)
          all_goals (first | refine Zv ?_ | refine Zf fo_51_4 ?_)
          all_goals (first | refine Zv ?_ | refine Zl 0 ag_45 ?_ | refine Run.loadO 0 _ 0 rfl rfl ag_45 rfl rfl rfl rfl (by assumption) rfl ?_ | refine Run.loadO 0 _ _ rfl rfl ag_45 rfl rfl rfl rfl (by assumption) rfl ?_ | refine Zl 1 ag_45 ?_ | refine Run.loadO 1 _ 0 rfl rfl ag_45 rfl rfl rfl rfl (by assumption) rfl ?_ | refine Run.loadO 1 _ _ rfl rfl ag_45 rfl rfl rfl rfl (by assumption) rfl ?_ | refine Zl 2 ag_45 ?_ | refine Run.loadO 2 _ 0 rfl rfl ag_45 rfl rfl rfl rfl (by assumption) rfl ?_ | refine Run.loadO 2 _ _ rfl rfl ag_45 rfl rfl rfl rfl (by assumption) rfl ?_ | refine Zl 3 ag_45 ?_ | refine Run.loadO 3 _ 0 rfl rfl ag_45 rfl rfl rfl rfl (by assumption) rfl ?_ | refine Run.loadO 3 _ _ rfl rfl ag_45 rfl rfl rfl rfl (by assumption) rfl ?_ | refine Zl 4 ag_45 ?_ | refine Run.loadO 4 _ 0 rfl rfl ag_45 rfl rfl rfl rfl (by assumption) rfl ?_ | refine Run.loadO 4 _ _ rfl rfl ag_45 rfl rfl rfl rfl (by assumption) rfl ?_ | refine Zl 5 ag_45 ?_ | refine Run.loadO 5 _ 0 rfl rfl ag_45 rfl rfl rfl rfl (by assumption) rfl ?_ | refine Run.loadO 5 _ _ rfl rfl ag_45 rfl rfl rfl rfl (by assumption) rfl ?_ | refine Run.loadR rfl rfl ag_45 rfl rfl (by first | assumption | exact SlR.cell0 (by assumption) (by assumption) rfl | exact SlR.cell (by assumption) (by assumption) rfl) ?_)
          all_goals (first | refine Zv ?_ | refine Zm ?_)
          all_goals (first | refine Zv ?_ | refine Zs ?_)
          all_goals (first | refine Zv ?_ | fail)
          all_goals (first | refine Zv ?_ | fail)
          all_goals (first | refine Zv ?_ | refine Zm ?_)
          all_goals (first | refine Zv ?_ | refine Zi ?_)
          all_goals (first | refine Zv ?_ | refine Zq ?_)
          all_goals (first | refine Zq ?_)
          all_goals (refine Run.nil ?_)
          all_goals refine thn_next ⟨⟨rfl, rfl, rfl, rfl, rfl, ?_, trivial⟩, ent.go⟩
          all_goals simp [Env.get]
          all_goals omega
      refine WP.ite rfl (fun hbad => ?_) (fun hg => ?_)
      · refine Zp ?_
        refine Zm ?_
        refine Ze ?_
        refine WP.ret ?_; refine blk_ret ?_; refine thn_ret ?_; refine thn_ret ?_; refine blk_ret ?_; refine thn_ret ?_
        refine retT [6] _ rfl rfl ⟨_, ent.none _, ?_, rfl⟩
        rw [eC]
        cases h1 : x.saves.all (fun r => decide (0 ≤ r ∧ r < 8)) with
        | false => rfl
        | true =>
          cases h2 : risingB x.saves with
          | false => rfl
          | true =>
            exfalso; apply hbad
            refine ⟨by simpa using List.all_eq_true.1 h1 r (List.mem_of_getElem? gr'), fun h0 => ?_⟩
            obtain ⟨q, gq⟩ : ∃ y, x.saves[i - 1]? = some y := ⟨_, List.getElem?_eq_getElem (by omega)⟩
            have := (rising_iff _).1 h2 (i - 1) q r gq (by rw [show i - 1 + 1 = i by omega]; exact gr')
            rw [List.getD_eq_getElem?_getD, gq]; exact this
      · refine WP.skip ?_; refine blk_norm ?_; refine thn_next ?_
        refine Zc ?_
        refine Za ?_
        refine Zm ?_
        refine Run.nil ?_
        refine thn_next ⟨i + 1, ⟨by omega, fun j z hj hz => ?_⟩, by omega, Ko.go, ent.gc⟩
        by_cases e : j = i
        · subst e; rw [gr'] at hz; cases hz; exact Decidable.not_not.1 hg
        · exact hok j z (by omega) hz
    · refine Zj ?_
      refine thn_next ⟨(), ?_, Ko.go, ent.gc⟩
      rw [eC, Bool.and_eq_true]
      refine ⟨all_of fun j r hj hr => ?_, (rising_iff _).2 fun j a b ha hb => ?_⟩
      · exact decide_eq_true (hok j r (by omega) hr).1
      · have := (List.getElem?_eq_some_iff.1 hb).1
        have h2 := (hok (j + 1) b (by omega) hb).2 (by omega)
        rw [Nat.add_sub_cancel, List.getD_eq_getElem?_getD, ha] at h2; exact h2
  intro _ hT
  refine Zp ?_
  refine Zm ?_
  refine Ze ?_
  refine WP.ret ?_
  exact retT [6] _ rfl rfl ⟨_, ent.none _, by rw [hT]; rfl, rfl⟩
end Go.Proofs.Ytfaokbjpinlcaaa
end
section
/- ALIR's check: instructions, ends of blocks; walked. -/
namespace Go.Proofs.Ytfaokbjpinlcaaa
open Go.Sep
set_option linter.unusedSimpArgs false
set_option linter.unusedVariables false
set_option maxRecDepth 100000
attribute [local irreducible] blk slA mp mpF rows rowsBut many mpK mpE placeB noneB
theorem btrue {b : Bool} (h : ¬ b = false) : b = true := by cases b <;> simp_all
set_option maxHeartbeats 4000000 in
theorem chkIns_ok (hR : Heap) (A : AL) (fv : SV) (F : AF) (su sv : SV) (x : AI) (u v : SV) (hA : SlR rdAF hR fv.val A.funcs) (hx : AIv hR x u.val v.val) (hl1 : A.funcs.length ≤ 1000000) (hl2 : x.args.length ≤ 1000000) (hl3 : x.saves.length ≤ 1000000) (hl4 : ∀ F ∈ A.funcs, F.params.length ≤ 1000000) :
    Tri Try.prog hR 20 #[.agg ⟨alv A fv⟩, .agg ⟨afv F su.val sv.val⟩, .agg ⟨aiv x u.val v.val⟩] [] fun r Γ' => r = .bool (insB A F x) ∧ Γ' = [] := by
  have hu := hx.hu
  have hv := hx.hv
  refine Tri.ent (Tri.of (args := [.agg ⟨alv A fv⟩, .agg ⟨afv F su.val sv.val⟩, .agg ⟨aiv x u.val v.val⟩]) Try.func20 rfl Try.ntmps20 (by simp) ?_)
  refine Zp ?_
  refine Run.box rfl rfl rfl rfl rfl ?_
  intro b3
  refine Run.box rfl rfl rfl rfl rfl ?_
  intro b4
  refine Run.box rfl rfl rfl rfl rfl ?_
  intro b5
  refine Zm ?_
  refine Ze ?_
  refine Zp ?_
  refine Zf fo_51_2 ?_
  refine Run.loadBagg 2 rfl rfl ag_44 rfl rfl rfl rfl rfl ?_
  refine Run.build rfl bd_44 rfl rfl rfl rfl ?_
  refine Run.eqS rfl rfl rfl is_44 nf_44 rfl rfl rfl rfl ?_
  refine Run.eqv (v' := .bool (noneB x.dst)) (by rw [← noneB_eq]) ?_
  refine Zm ?_
  refine Ze ?_
  refine WP.seq ?_
  refine WP.seqCut [(3, .pointer (some ⟨b3, 0, none⟩)), (4, .pointer (some ⟨b4, 0, none⟩)), (5, .pointer (some ⟨b5, 0, none⟩)), (6, .bool false), (7, .bool (noneB x.dst)), (28, .bool (decide (((noneB x.dst || placeB F x.dst) && x.args.all (placeB F)) = false)))] [blk b3 (alv A fv) 24, blk b4 (afv F su.val sv.val) 41, blk b5 (aiv x u.val v.val) 51] ?_ ?_
  · cases hn : noneB x.dst
    · refine Zc ?_
      all_goals (first | refine Zm ?_)
      all_goals (first | refine Run.bnotB rfl rfl rfl rfl ?_)
      all_goals (first | refine Zm ?_)
      all_goals (first | refine Zv ?_ | refine Run.loadBagg 1 rfl rfl ag_41 rfl rfl rfl rfl rfl ?_)
      all_goals (first | refine Zv ?_ | refine Zf fo_51_2 ?_)
      all_goals (first | refine Zv ?_ | refine Run.loadBagg 2 rfl rfl ag_44 rfl rfl rfl rfl rfl ?_)
      all_goals (first | refine Zv ?_ | refine Run.callP [] ok_18 (isPlace_ok hR F su sv x.dst) ?_; rintro _ _ ⟨rfl, rfl⟩)
      all_goals (first | refine Run.tt (by first | assumption | omega) ?_ | refine Run.ff (by first | assumption | omega) ?_ | refine Run.split (fun hc20 => ?_) (fun hc20 => ?_) | refine Run.splitB (fun hc20 => ?_) (fun hc20 => ?_) | skip)
      all_goals (first | refine Zv ?_ | refine Run.bnotB rfl rfl rfl rfl ?_)
      all_goals (first | refine Zq ?_)
      all_goals (first | refine Zm ?_)
      all_goals (first | refine Zv ?_ | refine Zf fo_51_3 ?_)
      all_goals (first | refine Zv ?_ | refine Zl 2 ag_38 ?_)
      all_goals (first | refine Zv ?_ | refine Run.makeFunc rfl (fs := _) rfl (cs := _) rfl rfl rfl ?_)
      all_goals (first | refine Zv ?_ | refine Run.callP [1] ok_34 (containsF_ok hR b4 F su sv u.val x.args hu hl2) ?_; rintro _ _ ⟨rfl, rfl⟩)
      all_goals (first | refine Zq ?_)
      all_goals (refine Run.nil ?_)
      all_goals refine thn_next ⟨⟨rfl, rfl, rfl, rfl, rfl, ?_, trivial⟩, ent.go⟩
      all_goals simp [Env.get, *]
    · refine Zc ?_
      all_goals (first | refine Zm ?_)
      all_goals (first | refine Run.bnotB rfl rfl rfl rfl ?_)
      all_goals (first | refine Zm ?_)
      all_goals (first | refine Zv ?_ | refine Run.loadOagg 0 _ rfl rfl ag_41 rfl rfl rfl rfl rfl (by assumption) ?_ | refine Run.loadBagg 0 rfl rfl ag_41 rfl rfl rfl rfl rfl ?_ | refine Run.loadOagg 1 _ rfl rfl ag_41 rfl rfl rfl rfl rfl (by assumption) ?_ | refine Run.loadBagg 1 rfl rfl ag_41 rfl rfl rfl rfl rfl ?_ | refine Run.loadOagg 2 _ rfl rfl ag_41 rfl rfl rfl rfl rfl (by assumption) ?_ | refine Run.loadBagg 2 rfl rfl ag_41 rfl rfl rfl rfl rfl ?_ | refine Run.loadOagg 3 _ rfl rfl ag_41 rfl rfl rfl rfl rfl (by assumption) ?_ | refine Run.loadBagg 3 rfl rfl ag_41 rfl rfl rfl rfl rfl ?_ | refine Run.loadOagg 4 _ rfl rfl ag_41 rfl rfl rfl rfl rfl (by assumption) ?_ | refine Run.loadBagg 4 rfl rfl ag_41 rfl rfl rfl rfl rfl ?_ | refine Run.loadOagg 5 _ rfl rfl ag_41 rfl rfl rfl rfl rfl (by assumption) ?_ | refine Run.loadBagg 5 rfl rfl ag_41 rfl rfl rfl rfl rfl ?_ | refine Run.loadRagg rfl rfl ag_41 rfl rfl (by first | assumption | exact SlR.row (by assumption) (by assumption)) (by rfl) ?_)
      all_goals (first | refine Zv ?_ | refine Zf fo_51_2 ?_)
      all_goals (first | refine Zv ?_ | refine Run.loadOagg 0 _ rfl rfl ag_44 rfl rfl rfl rfl rfl (by assumption) ?_ | refine Run.loadBagg 0 rfl rfl ag_44 rfl rfl rfl rfl rfl ?_ | refine Run.loadOagg 1 _ rfl rfl ag_44 rfl rfl rfl rfl rfl (by assumption) ?_ | refine Run.loadBagg 1 rfl rfl ag_44 rfl rfl rfl rfl rfl ?_ | refine Run.loadOagg 2 _ rfl rfl ag_44 rfl rfl rfl rfl rfl (by assumption) ?_ | refine Run.loadBagg 2 rfl rfl ag_44 rfl rfl rfl rfl rfl ?_ | refine Run.loadOagg 3 _ rfl rfl ag_44 rfl rfl rfl rfl rfl (by assumption) ?_ | refine Run.loadBagg 3 rfl rfl ag_44 rfl rfl rfl rfl rfl ?_ | refine Run.loadOagg 4 _ rfl rfl ag_44 rfl rfl rfl rfl rfl (by assumption) ?_ | refine Run.loadBagg 4 rfl rfl ag_44 rfl rfl rfl rfl rfl ?_ | refine Run.loadOagg 5 _ rfl rfl ag_44 rfl rfl rfl rfl rfl (by assumption) ?_ | refine Run.loadBagg 5 rfl rfl ag_44 rfl rfl rfl rfl rfl ?_ | refine Run.loadRagg rfl rfl ag_44 rfl rfl (by first | assumption | exact SlR.row (by assumption) (by assumption)) (by rfl) ?_)
      all_goals (first | refine Zv ?_ | refine Zv ?_)
      all_goals (first | refine Run.tt (by first | assumption | omega) ?_ | refine Run.ff (by first | assumption | omega) ?_ | refine Run.split (fun hc20 => ?_) (fun hc20 => ?_) | refine Run.splitB (fun hc20 => ?_) (fun hc20 => ?_) | skip)
      all_goals (first | refine Zv ?_ | refine Run.bnot rfl rfl rfl rfl ?_ | refine Run.bnotB rfl rfl rfl rfl ?_ | refine Run.neg rfl rfl rfl rfl ?_)
      all_goals (first | refine Zq ?_)
      all_goals (first | refine Zm ?_)
      all_goals (first | refine Zv ?_ | refine Zf fo_51_3 ?_)
      all_goals (first | refine Zv ?_ | refine Zl 2 ag_38 ?_)
      all_goals (first | refine Zv ?_ | refine Run.makeFunc rfl (fs := _) rfl (cs := _) rfl rfl rfl ?_)
      all_goals (first | refine Zv ?_ | refine Run.callP [1] ok_34 (containsF_ok hR b4 F su sv u.val x.args hu hl2) ?_; rintro _ _ ⟨rfl, rfl⟩)
      all_goals (first | refine Zq ?_)
      all_goals (refine Run.nil ?_)
      all_goals refine thn_next ⟨⟨rfl, rfl, rfl, rfl, rfl, ?_, trivial⟩, ent.go⟩
      all_goals simp [Env.get]
  refine WP.ite rfl (fun hbad => ?_) (fun hgood => ?_)
  · refine Zp ?_
    refine Zm ?_
    refine Ze ?_
    refine WP.ret ?_; refine thn_ret ?_
    refine retT [6] _ rfl rfl ⟨_, ent.none _, ?_, rfl⟩
    unfold insB; rw [hbad]; rfl
  refine Zb ?_
  have hP : ((noneB x.dst || placeB F x.dst) && x.args.all (placeB F)) = true := btrue hgood
  have eI : insB A F x = (if x.op = 25 then callB A x else decide ((x.args.length : Int) = argsN x.op) && (setsB x.op != noneB x.dst) && x.saves.isEmpty && if 28 ≤ x.op ∧ x.op ≤ 30 then decide (1 ≤ x.imm ∧ x.imm ≤ 5) else decide (x.op = 1 ∨ x.imm = 0)) := by
    unfold insB; rw [hP]; rfl
  refine WP.seq ?_
  refine Zp ?_
  refine Zf fo_51_0 ?_
  refine Zl 2 ag_3 ?_
  refine Zi ?_
  refine Ze ?_
  refine WP.ite rfl (fun h25 => ?_) (fun h25 => ?_)
  · refine Zp ?_
    refine Run.loadBagg 0 rfl rfl ag_24 rfl rfl rfl rfl rfl ?_
    refine Run.loadBagg 2 rfl rfl ag_51 rfl rfl rfl rfl rfl ?_
    refine Zm ?_
    refine Run.callP [] ok_36 (chkCall_ok hR A fv x u v hA hx hl1 hl2 hl3 hl4) ?_; rintro _ _ ⟨rfl, rfl⟩
    refine Zm ?_
    refine Ze ?_
    refine WP.ret ?_; refine thn_ret ?_
    exact retT [6] _ rfl rfl ⟨_, ent.none _, by rw [eI, if_pos h25]; rfl, rfl⟩
  refine Zb ?_
  rw [if_neg h25] at eI
  refine WP.trim [5, 6, 7] [2] ?_
  refine Zp ?_
  refine Zf fo_51_0 ?_
  refine Zl 0 ag_3 ?_
  refine Run.callP [] ok_37 (shapeOf_ok hR x.op) ?_; rintro _ _ ⟨⟨a, s, ok, rfl, hok, has⟩, rfl⟩
  refine Zm ?_
  refine Run.extract rfl rfl rfl rfl rfl ?_
  refine Run.extract rfl rfl rfl rfl rfl ?_
  refine Run.alloc rfl zr_99 rfl rfl rfl ?_
  intro b8
  refine Run.storeB 1 rfl rfl rfl rfl ag_99 rfl rfl rfl rfl rfl ?_
  refine Zm ?_
  refine Ze ?_
  refine WP.seq ?_
  refine WP.seqCut [(5, .pointer (some ⟨b5, 0, none⟩)), (6, .bool false), (63, .bool (decide ((decide ((x.args.length : Int) = argsN x.op) && (setsB x.op != noneB x.dst) && x.saves.isEmpty) = false)))] [blk b5 (aiv x u.val v.val) 51] ?_ ?_
  · have hsl : x.saves.isEmpty = decide ((x.saves.length : Int) = 0) := by cases x.saves <;> simp; omega
    cases ok with
    | false =>
      have hneg : ¬ (x.args.length : Int) = argsN x.op := fun e => by
        have h0 : ¬ 0 ≤ argsN x.op := by simpa using hok.symm
        omega
      refine Zc ?_
      all_goals (first | refine Zm ?_)
      all_goals (first | refine Run.bnotB rfl rfl rfl rfl ?_)
      all_goals (first | refine Zm ?_)
      all_goals (first | refine Zv ?_ | refine Zf fo_51_3 ?_)
      all_goals (first | refine Zv ?_ | refine Zl 0 ag_38 ?_ | refine Run.loadO 0 _ 0 rfl rfl ag_38 rfl rfl rfl rfl (by assumption) rfl ?_ | refine Run.loadO 0 _ _ rfl rfl ag_38 rfl rfl rfl rfl (by assumption) rfl ?_ | refine Zl 1 ag_38 ?_ | refine Run.loadO 1 _ 0 rfl rfl ag_38 rfl rfl rfl rfl (by assumption) rfl ?_ | refine Run.loadO 1 _ _ rfl rfl ag_38 rfl rfl rfl rfl (by assumption) rfl ?_ | refine Zl 2 ag_38 ?_ | refine Run.loadO 2 _ 0 rfl rfl ag_38 rfl rfl rfl rfl (by assumption) rfl ?_ | refine Run.loadO 2 _ _ rfl rfl ag_38 rfl rfl rfl rfl (by assumption) rfl ?_ | refine Zl 3 ag_38 ?_ | refine Run.loadO 3 _ 0 rfl rfl ag_38 rfl rfl rfl rfl (by assumption) rfl ?_ | refine Run.loadO 3 _ _ rfl rfl ag_38 rfl rfl rfl rfl (by assumption) rfl ?_ | refine Zl 4 ag_38 ?_ | refine Run.loadO 4 _ 0 rfl rfl ag_38 rfl rfl rfl rfl (by assumption) rfl ?_ | refine Run.loadO 4 _ _ rfl rfl ag_38 rfl rfl rfl rfl (by assumption) rfl ?_ | refine Zl 5 ag_38 ?_ | refine Run.loadO 5 _ 0 rfl rfl ag_38 rfl rfl rfl rfl (by assumption) rfl ?_ | refine Run.loadO 5 _ _ rfl rfl ag_38 rfl rfl rfl rfl (by assumption) rfl ?_ | refine Run.loadR rfl rfl ag_38 rfl rfl (by first | assumption | exact SlR.cell0 (by assumption) (by assumption) rfl | exact SlR.cell (by assumption) (by assumption) rfl) ?_)
      all_goals (first | refine Zv ?_ | refine Zv ?_)
      all_goals (first | refine Zv ?_ | refine Zf fo_99_0 ?_)
      all_goals (first | refine Zv ?_ | refine Zl 0 ag_3 ?_ | refine Run.loadO 0 _ 0 rfl rfl ag_3 rfl rfl rfl rfl (by assumption) rfl ?_ | refine Run.loadO 0 _ _ rfl rfl ag_3 rfl rfl rfl rfl (by assumption) rfl ?_ | refine Zl 1 ag_3 ?_ | refine Run.loadO 1 _ 0 rfl rfl ag_3 rfl rfl rfl rfl (by assumption) rfl ?_ | refine Run.loadO 1 _ _ rfl rfl ag_3 rfl rfl rfl rfl (by assumption) rfl ?_ | refine Zl 2 ag_3 ?_ | refine Run.loadO 2 _ 0 rfl rfl ag_3 rfl rfl rfl rfl (by assumption) rfl ?_ | refine Run.loadO 2 _ _ rfl rfl ag_3 rfl rfl rfl rfl (by assumption) rfl ?_ | refine Zl 3 ag_3 ?_ | refine Run.loadO 3 _ 0 rfl rfl ag_3 rfl rfl rfl rfl (by assumption) rfl ?_ | refine Run.loadO 3 _ _ rfl rfl ag_3 rfl rfl rfl rfl (by assumption) rfl ?_ | refine Zl 4 ag_3 ?_ | refine Run.loadO 4 _ 0 rfl rfl ag_3 rfl rfl rfl rfl (by assumption) rfl ?_ | refine Run.loadO 4 _ _ rfl rfl ag_3 rfl rfl rfl rfl (by assumption) rfl ?_ | refine Zl 5 ag_3 ?_ | refine Run.loadO 5 _ 0 rfl rfl ag_3 rfl rfl rfl rfl (by assumption) rfl ?_ | refine Run.loadO 5 _ _ rfl rfl ag_3 rfl rfl rfl rfl (by assumption) rfl ?_ | refine Run.loadR rfl rfl ag_3 rfl rfl (by first | assumption | exact SlR.cell0 (by assumption) (by assumption) rfl | exact SlR.cell (by assumption) (by assumption) rfl) ?_)
      all_goals (first | refine Zv ?_ | refine Zi ?_)
      all_goals (first | refine Run.tt (by first | assumption | omega) ?_ | refine Run.ff (by first | assumption | omega) ?_ | refine Run.split (fun hc50 => ?_) (fun hc50 => ?_) | refine Run.splitB (fun hc50 => ?_) (fun hc50 => ?_) | skip)
      all_goals (first | refine Zq ?_)
      all_goals (first | refine Zm ?_)
      all_goals (first | refine Zv ?_ | refine Zf fo_99_1 ?_)
      all_goals (first | refine Zv ?_ | refine Zl 0 ag_4 ?_ | refine Run.loadO 0 _ 0 rfl rfl ag_4 rfl rfl rfl rfl (by assumption) rfl ?_ | refine Run.loadO 0 _ _ rfl rfl ag_4 rfl rfl rfl rfl (by assumption) rfl ?_ | refine Zl 1 ag_4 ?_ | refine Run.loadO 1 _ 0 rfl rfl ag_4 rfl rfl rfl rfl (by assumption) rfl ?_ | refine Run.loadO 1 _ _ rfl rfl ag_4 rfl rfl rfl rfl (by assumption) rfl ?_ | refine Zl 2 ag_4 ?_ | refine Run.loadO 2 _ 0 rfl rfl ag_4 rfl rfl rfl rfl (by assumption) rfl ?_ | refine Run.loadO 2 _ _ rfl rfl ag_4 rfl rfl rfl rfl (by assumption) rfl ?_ | refine Zl 3 ag_4 ?_ | refine Run.loadO 3 _ 0 rfl rfl ag_4 rfl rfl rfl rfl (by assumption) rfl ?_ | refine Run.loadO 3 _ _ rfl rfl ag_4 rfl rfl rfl rfl (by assumption) rfl ?_ | refine Zl 4 ag_4 ?_ | refine Run.loadO 4 _ 0 rfl rfl ag_4 rfl rfl rfl rfl (by assumption) rfl ?_ | refine Run.loadO 4 _ _ rfl rfl ag_4 rfl rfl rfl rfl (by assumption) rfl ?_ | refine Zl 5 ag_4 ?_ | refine Run.loadO 5 _ 0 rfl rfl ag_4 rfl rfl rfl rfl (by assumption) rfl ?_ | refine Run.loadO 5 _ _ rfl rfl ag_4 rfl rfl rfl rfl (by assumption) rfl ?_ | refine Run.loadR rfl rfl ag_4 rfl rfl (by first | assumption | exact SlR.cell0 (by assumption) (by assumption) rfl | exact SlR.cell (by assumption) (by assumption) rfl) ?_)
      all_goals (first | refine Zv ?_ | refine Zm ?_)
      all_goals (first | refine Zv ?_ | refine Zv ?_)
      all_goals (first | refine Run.tt (by first | assumption | omega) ?_ | refine Run.ff (by first | assumption | omega) ?_ | refine Run.split (fun hc56 => ?_) (fun hc56 => ?_) | refine Run.splitB (fun hc56 => ?_) (fun hc56 => ?_) | skip)
      all_goals (first | refine Zq ?_)
      all_goals (first | refine Zm ?_)
      all_goals (first | refine Zv ?_ | refine Zf fo_51_4 ?_)
      all_goals (first | refine Zv ?_ | refine Zl 0 ag_45 ?_ | refine Run.loadO 0 _ 0 rfl rfl ag_45 rfl rfl rfl rfl (by assumption) rfl ?_ | refine Run.loadO 0 _ _ rfl rfl ag_45 rfl rfl rfl rfl (by assumption) rfl ?_ | refine Zl 1 ag_45 ?_ | refine Run.loadO 1 _ 0 rfl rfl ag_45 rfl rfl rfl rfl (by assumption) rfl ?_ | refine Run.loadO 1 _ _ rfl rfl ag_45 rfl rfl rfl rfl (by assumption) rfl ?_ | refine Zl 2 ag_45 ?_ | refine Run.loadO 2 _ 0 rfl rfl ag_45 rfl rfl rfl rfl (by assumption) rfl ?_ | refine Run.loadO 2 _ _ rfl rfl ag_45 rfl rfl rfl rfl (by assumption) rfl ?_ | refine Zl 3 ag_45 ?_ | refine Run.loadO 3 _ 0 rfl rfl ag_45 rfl rfl rfl rfl (by assumption) rfl ?_ | refine Run.loadO 3 _ _ rfl rfl ag_45 rfl rfl rfl rfl (by assumption) rfl ?_ | refine Zl 4 ag_45 ?_ | refine Run.loadO 4 _ 0 rfl rfl ag_45 rfl rfl rfl rfl (by assumption) rfl ?_ | refine Run.loadO 4 _ _ rfl rfl ag_45 rfl rfl rfl rfl (by assumption) rfl ?_ | refine Zl 5 ag_45 ?_ | refine Run.loadO 5 _ 0 rfl rfl ag_45 rfl rfl rfl rfl (by assumption) rfl ?_ | refine Run.loadO 5 _ _ rfl rfl ag_45 rfl rfl rfl rfl (by assumption) rfl ?_ | refine Run.loadR rfl rfl ag_45 rfl rfl (by first | assumption | exact SlR.cell0 (by assumption) (by assumption) rfl | exact SlR.cell (by assumption) (by assumption) rfl) ?_)
      all_goals (first | refine Zv ?_ | refine Zv ?_)
      all_goals (first | refine Zv ?_ | refine Zi ?_)
      all_goals (first | refine Zq ?_)
      all_goals (refine Run.nil ?_)
      all_goals refine thn_next ⟨⟨rfl, rfl, ?_, trivial⟩, ent.go⟩
      all_goals simp [Env.get, hneg]
    | true =>
      obtain ⟨rfl, rfl⟩ := has rfl
      clear hok has
      rw [hsl]
      refine Zc ?_
      all_goals (first | refine Zm ?_)
      all_goals (first | refine Run.bnotB rfl rfl rfl rfl ?_)
      all_goals (first | refine Zm ?_)
      all_goals (first | refine Zv ?_ | refine Zf fo_51_3 ?_)
      all_goals (first | refine Zv ?_ | refine Zl 0 ag_38 ?_)
      all_goals (first | refine Zv ?_ | refine Zh sl_38 hu ?_)
      all_goals (first | refine Zv ?_ | refine Zf fo_99_0 ?_)
      all_goals (first | refine Zv ?_ | refine Zl 1 ag_3 ?_)
      all_goals (first | refine Zv ?_ | refine Zi ?_)
      all_goals (first | refine Run.tt (by first | assumption | omega) ?_ | refine Run.ff (by first | assumption | omega) ?_ | refine Run.split (fun hc50 => ?_) (fun hc50 => ?_) | refine Run.splitB (fun hc50 => ?_) (fun hc50 => ?_) | skip)
      all_goals (first | refine Zq ?_)
      all_goals (first | refine Zm ?_)
      all_goals (first | refine Zv ?_ | refine Zf fo_99_1 ?_)
      all_goals (first | refine Zv ?_ | refine Zl 1 ag_4 ?_)
      all_goals (first | refine Zv ?_ | refine Zm ?_)
      all_goals (first | refine Zv ?_ | refine Run.eqB rfl rfl rfl ub_4 rfl rfl ?_)
      all_goals (first | refine Run.tt (by first | assumption | omega) ?_ | refine Run.ff (by first | assumption | omega) ?_ | refine Run.split (fun hc56 => ?_) (fun hc56 => ?_) | refine Run.splitB (fun hc56 => ?_) (fun hc56 => ?_) | skip)
      all_goals (first | refine Zq ?_)
      all_goals (first | refine Zm ?_)
      all_goals (first | refine Zv ?_ | refine Zf fo_51_4 ?_)
      all_goals (first | refine Zv ?_ | refine Zl 0 ag_45 ?_)
      all_goals (first | refine Zv ?_ | refine Zh sl_45 hv ?_)
      all_goals (first | refine Zv ?_ | refine Zi ?_)
      all_goals (first | refine Zq ?_)
      all_goals (refine Run.nil ?_)
      all_goals refine thn_next ⟨⟨rfl, rfl, ?_, trivial⟩, ent.go⟩
      all_goals simp [Env.get, *]
      all_goals (first | omega | (have e : (x.args.length : Int) = argsN x.op := by omega); by_cases hz : x.saves = [] <;> simp [hz, e, List.length_pos_iff])
  refine WP.ite rfl (fun hbad => ?_) (fun hgood2 => ?_)
  · refine Zp ?_
    refine Zm ?_
    refine Ze ?_
    refine WP.ret ?_; refine thn_ret ?_
    exact retT [6] _ rfl rfl ⟨_, ent.none _, by rw [eI, hbad]; rfl, rfl⟩
  refine Zb ?_
  rw [show (decide ((x.args.length : Int) = argsN x.op) && (setsB x.op != noneB x.dst) && x.saves.isEmpty) = true from btrue hgood2, Bool.true_and] at eI
  refine WP.trim [5, 6] [0] ?_
  refine WP.meetC (α := Unit) (fun _ => insB A F x = decide (x.imm = 0)) (fun _ => []) (fun _ => []) ?_ ?_
  · refine Zp ?_
    refine Zf fo_51_0 ?_
    refine Zl 0 ag_3 ?_
    refine Ze ?_
    refine WP.block ?_
    refine Zp ?_
    refine Zi ?_
    refine Zm ?_
    refine Ze ?_
    refine WP.ite rfl (fun h1 => ?_) (fun h1 => ?_)
    · refine Zp ?_
      refine Zm ?_
      refine Ze ?_
      refine WP.ret ?_; refine blk_ret ?_; refine thn_ret ?_
      exact retT [6] _ rfl rfl ⟨_, ent.none _, by rw [eI, if_neg (by omega)]; simp [h1, tupV], rfl⟩
    refine WP.seqCut [(5, .pointer (some ⟨b5, 0, none⟩)), (6, .bool false), (68, .bool (decide (28 ≤ x.op ∧ x.op ≤ 30)))] [blk b5 (aiv x u.val v.val) 51] ?_ ?_
    · refine Zp ?_
      refine Zi ?_
      refine Zm ?_
      refine Ze ?_
      refine WP.ite rfl (fun h28 => ?_) (fun h28 => ?_)
      · refine WP.skip ?_
        refine thn_next ⟨⟨rfl, rfl, ?_, trivial⟩, ent.go⟩
        simp [Env.get, h28]
      refine Zp ?_
      refine Zi ?_
      refine Zm ?_
      refine Ze ?_
      refine WP.ite rfl (fun h29 => ?_) (fun h29 => ?_)
      · refine WP.skip ?_
        refine thn_next ⟨⟨rfl, rfl, ?_, trivial⟩, ent.go⟩
        simp [Env.get, h29]
      refine Zc ?_
      refine Zi ?_
      refine Zm ?_
      refine Run.nil ?_
      refine thn_next ⟨⟨rfl, rfl, ?_, trivial⟩, ent.go⟩
      show some (Value.bool (decide (x.op = 30))) = some (Value.bool (decide (28 ≤ x.op ∧ x.op ≤ 30)))
      congr 2
      exact decide_eq_decide.2 ⟨fun _ => by omega, fun _ => by omega⟩
    refine WP.ite rfl (fun h28 => ?_) (fun h28 => ?_)
    · refine WP.seqCut [(6, .bool (decide (1 ≤ x.imm ∧ x.imm ≤ 5)))] [] ?_ ?_
      · refine Zc ?_
        all_goals (first | refine Zf fo_51_1 ?_)
        all_goals (first | refine Zl 0 ag_3 ?_)
        all_goals (first | refine Zi ?_)
        all_goals (first | refine Run.tt (by first | assumption | omega) ?_ | refine Run.ff (by first | assumption | omega) ?_ | refine Run.split (fun hc74 => ?_) (fun hc74 => ?_) | refine Run.splitB (fun hc74 => ?_) (fun hc74 => ?_) | skip)
        all_goals (first | refine Zm ?_)
        all_goals (first | refine Zv ?_ | refine Zf fo_51_1 ?_)
        all_goals (first | refine Zv ?_ | refine Zl 0 ag_3 ?_)
        all_goals (first | refine Zv ?_ | refine Zi ?_)
        all_goals (first | refine Zq ?_)
        all_goals (first | refine Zm ?_)
        all_goals (refine Run.nil ?_)
        all_goals refine thn_next ⟨⟨?_, trivial⟩, ent.none _⟩
        all_goals simp [Env.get]
        all_goals omega
      refine WP.ret ?_; refine blk_ret ?_; refine thn_ret ?_
      exact retT [6] _ rfl rfl ⟨_, ent.none _, by rw [eI, if_pos h28]; rfl, rfl⟩
    · refine WP.skip ?_; refine blk_norm ?_
      refine thn_next ⟨(), ?_, Ko.go, ent.gc⟩
      rw [eI, if_neg h28]; simp [h1]
  intro _ hT
  refine Zp ?_
  refine Zf fo_51_1 ?_
  refine Zl 0 ag_3 ?_
  refine Zi ?_
  refine Zm ?_
  refine Ze ?_
  refine WP.ret ?_
  exact retT [6] _ rfl rfl ⟨_, ent.none _, by rw [hT]; rfl, rfl⟩
set_option maxHeartbeats 4000000 in
theorem chkTerm_ok (hR : Heap) (F : AF) (su sv : SV) (t : AT) (v : SV) (hb : SlR rdAB hR sv.val F.blocks) (hv : SlR rdI hR v.val t.to) (hl1 : F.blocks.length ≤ 1000000) (hl2 : t.to.length ≤ 1000000) :
    Tri Try.prog hR 21 #[.agg ⟨afv F su.val sv.val⟩, .agg ⟨atv t v.val⟩] [] fun r Γ' => r = .bool (termB F t) ∧ Γ' = [] := by
  refine Tri.ent (Tri.of (args := [.agg ⟨afv F su.val sv.val⟩, .agg ⟨atv t v.val⟩]) Try.func21 rfl Try.ntmps21 (by simp) ?_)
  refine Zp ?_
  refine Run.box rfl rfl rfl rfl rfl ?_
  intro b2
  refine Run.box rfl rfl rfl rfl rfl ?_
  intro b3
  refine Zm ?_
  refine Ze ?_
  refine Zp ?_
  refine Zf fo_47_1 ?_
  refine Run.loadBagg 1 rfl rfl ag_44 rfl rfl rfl rfl rfl ?_
  refine Run.build rfl bd_44 rfl rfl rfl rfl ?_
  refine Run.eqS rfl rfl rfl is_44 nf_44 rfl rfl rfl rfl ?_
  refine Run.eqv (v' := .bool (noneB t.value)) (by rw [← noneB_eq]) ?_
  refine Zm ?_
  refine Ze ?_
  refine WP.seq ?_
  refine WP.seqCut [(2, .pointer (some ⟨b2, 0, none⟩)), (3, .pointer (some ⟨b3, 0, none⟩)), (4, .bool false), (5, .bool (noneB t.value)), (20, .bool (decide ((noneB t.value || placeB F t.value) = false)))] [blk b2 (afv F su.val sv.val) 41, blk b3 (atv t v.val) 47] ?_ ?_
  · cases hn : noneB t.value
    · refine Zc ?_
      all_goals (first | refine Zm ?_)
      all_goals (first | refine Run.bnotB rfl rfl rfl rfl ?_)
      all_goals (first | refine Zm ?_)
      all_goals (first | refine Zv ?_ | refine Run.loadBagg 0 rfl rfl ag_41 rfl rfl rfl rfl rfl ?_)
      all_goals (first | refine Zv ?_ | refine Zf fo_47_1 ?_)
      all_goals (first | refine Zv ?_ | refine Run.loadBagg 1 rfl rfl ag_44 rfl rfl rfl rfl rfl ?_)
      all_goals (first | refine Zv ?_ | refine Run.callP [] ok_18 (isPlace_ok hR F su sv t.value) ?_; rintro _ _ ⟨rfl, rfl⟩)
      all_goals (first | refine Zv ?_ | refine Run.bnotB rfl rfl rfl rfl ?_)
      all_goals (first | refine Zq ?_)
      all_goals (refine Run.nil ?_)
      all_goals refine thn_next ⟨⟨rfl, rfl, rfl, rfl, ?_, trivial⟩, ent.go⟩
      all_goals simp [Env.get, *]
    · refine Zc ?_
      all_goals (first | refine Zm ?_)
      all_goals (first | refine Run.bnotB rfl rfl rfl rfl ?_)
      all_goals (first | refine Zm ?_)
      all_goals (first | refine Zv ?_ | refine Run.loadOagg 0 _ rfl rfl ag_41 rfl rfl rfl rfl rfl (by assumption) ?_ | refine Run.loadBagg 0 rfl rfl ag_41 rfl rfl rfl rfl rfl ?_ | refine Run.loadOagg 1 _ rfl rfl ag_41 rfl rfl rfl rfl rfl (by assumption) ?_ | refine Run.loadBagg 1 rfl rfl ag_41 rfl rfl rfl rfl rfl ?_ | refine Run.loadOagg 2 _ rfl rfl ag_41 rfl rfl rfl rfl rfl (by assumption) ?_ | refine Run.loadBagg 2 rfl rfl ag_41 rfl rfl rfl rfl rfl ?_ | refine Run.loadOagg 3 _ rfl rfl ag_41 rfl rfl rfl rfl rfl (by assumption) ?_ | refine Run.loadBagg 3 rfl rfl ag_41 rfl rfl rfl rfl rfl ?_ | refine Run.loadOagg 4 _ rfl rfl ag_41 rfl rfl rfl rfl rfl (by assumption) ?_ | refine Run.loadBagg 4 rfl rfl ag_41 rfl rfl rfl rfl rfl ?_ | refine Run.loadOagg 5 _ rfl rfl ag_41 rfl rfl rfl rfl rfl (by assumption) ?_ | refine Run.loadBagg 5 rfl rfl ag_41 rfl rfl rfl rfl rfl ?_ | refine Run.loadRagg rfl rfl ag_41 rfl rfl (by first | assumption | exact SlR.row (by assumption) (by assumption)) (by rfl) ?_)
      all_goals (first | refine Zv ?_ | refine Zf fo_47_1 ?_)
      all_goals (first | refine Zv ?_ | refine Run.loadOagg 0 _ rfl rfl ag_44 rfl rfl rfl rfl rfl (by assumption) ?_ | refine Run.loadBagg 0 rfl rfl ag_44 rfl rfl rfl rfl rfl ?_ | refine Run.loadOagg 1 _ rfl rfl ag_44 rfl rfl rfl rfl rfl (by assumption) ?_ | refine Run.loadBagg 1 rfl rfl ag_44 rfl rfl rfl rfl rfl ?_ | refine Run.loadOagg 2 _ rfl rfl ag_44 rfl rfl rfl rfl rfl (by assumption) ?_ | refine Run.loadBagg 2 rfl rfl ag_44 rfl rfl rfl rfl rfl ?_ | refine Run.loadOagg 3 _ rfl rfl ag_44 rfl rfl rfl rfl rfl (by assumption) ?_ | refine Run.loadBagg 3 rfl rfl ag_44 rfl rfl rfl rfl rfl ?_ | refine Run.loadOagg 4 _ rfl rfl ag_44 rfl rfl rfl rfl rfl (by assumption) ?_ | refine Run.loadBagg 4 rfl rfl ag_44 rfl rfl rfl rfl rfl ?_ | refine Run.loadOagg 5 _ rfl rfl ag_44 rfl rfl rfl rfl rfl (by assumption) ?_ | refine Run.loadBagg 5 rfl rfl ag_44 rfl rfl rfl rfl rfl ?_ | refine Run.loadRagg rfl rfl ag_44 rfl rfl (by first | assumption | exact SlR.row (by assumption) (by assumption)) (by rfl) ?_)
      all_goals (first | refine Zv ?_ | fail)
      all_goals (first | refine Zv ?_ | refine Run.bnot rfl rfl rfl rfl ?_ | refine Run.bnotB rfl rfl rfl rfl ?_ | refine Run.neg rfl rfl rfl rfl ?_)
      all_goals (first | refine Zq ?_)
      all_goals (refine Run.nil ?_)
      all_goals refine thn_next ⟨⟨rfl, rfl, rfl, rfl, ?_, trivial⟩, ent.go⟩
      all_goals simp [Env.get]
  refine WP.ite rfl (fun hbad => ?_) (fun hgood => ?_)
  · refine Zp ?_
    refine Zm ?_
    refine Ze ?_
    refine WP.ret ?_; refine thn_ret ?_
    refine retT [4] _ rfl rfl ⟨_, ent.none _, ?_, rfl⟩
    unfold termB; rw [hbad]; rfl
  refine Zb ?_
  have hP : (noneB t.value || placeB F t.value) = true := btrue hgood
  refine WP.meetC (α := Unit) (fun _ => t.to.all (fun b => decide (0 ≤ b ∧ b < F.blocks.length)) = true) (fun _ => []) (fun _ => []) ?_ ?_
  · refine Zp ?_
    refine Zf fo_47_2 ?_
    refine Zl 1 ag_45 ?_
    refine Zh sl_45 hv ?_
    refine Zm ?_
    refine Ze ?_
    refine WP.block ?_
    refine WP.trim [2, 3, 4, 5, 20, 22, 23, 24] [0, 1] ?_
    refine WP.loopC (α := Nat) (fun i => i ≤ t.to.length ∧ ∀ (j : Nat) (r : Int), j < i → t.to[j]? = some r → 0 ≤ r ∧ r < (F.blocks.length : Int)) (fun i => [(24, .int .i64 (i : Int))]) (fun _ => []) (fun i => t.to.length - i) 0 ⟨Nat.zero_le _, fun j r h => by omega⟩ ?_
    rintro i ⟨hi, hok⟩
    refine WP.trim [2, 3, 4, 5, 20, 22, 23, 24] [0, 1] ?_
    refine Zp ?_
    refine Zi ?_
    refine Ze ?_
    refine WP.seq ?_
    refine WP.ite rfl (fun hlt => ?_) (fun hge => ?_)
    · refine Zb ?_
      obtain ⟨r, gr⟩ : ∃ y, t.to[(i : Int).toNat]? = some y := ⟨_, List.getElem?_eq_getElem (by omega)⟩
      have gr' : t.to[i]? = some r := gr
      refine WP.seq ?_
      refine WP.block ?_
      refine Zp ?_
      refine Zx sl_45 hv ?_
      refine Zr ag_3 (SlR.cell0 hv gr rfl) ?_
      refine Zm ?_
      refine Ze ?_
      refine WP.seqCut [(2, .pointer (some ⟨b2, 0, none⟩)), (3, .pointer (some ⟨b3, 0, none⟩)), (4, .bool false), (5, .bool (noneB t.value)), (20, .bool (decide ((noneB t.value || placeB F t.value) = false))), (22, v.val), (23, .int .i64 (t.to.length : Int)), (24, .int .i64 (i : Int)), (36, .bool (decide (¬ (0 ≤ r ∧ r < (F.blocks.length : Int)))))] [blk b2 (afv F su.val sv.val) 41, blk b3 (atv t v.val) 47] ?_ ?_
      · refine Zc ?_
        all_goals (first | refine Zm ?_)
        all_goals (first | refine Zi ?_)
        all_goals (first | refine Run.tt (by first | assumption | omega) ?_ | refine Run.ff (by first | assumption | omega) ?_ | refine Run.split (fun hc29 => ?_) (fun hc29 => ?_) | refine Run.splitB (fun hc29 => ?_) (fun hc29 => ?_) | skip)
        all_goals (first | refine Zm ?_)
        all_goals (first | refine Zv ?_ | refine Zm ?_)
        all_goals (first | refine Zv ?_ | refine Zf fo_41_4 ?_)
        all_goals (first | refine Zv ?_ | refine Zl 0 ag_39 ?_)
        all_goals (first | refine Zv ?_ | refine Zh sl_39 hb ?_)
        all_goals (first | refine Zv ?_ | refine Zi ?_)
        all_goals (first | refine Zq ?_)
        all_goals (refine Run.nil ?_)
        all_goals refine thn_next ⟨⟨rfl, rfl, rfl, rfl, rfl, rfl, rfl, rfl, ?_, trivial⟩, ent.go⟩
        all_goals simp [Env.get]
        all_goals omega
      refine WP.ite rfl (fun hbad => ?_) (fun hg => ?_)
      · refine Zp ?_
        refine Zm ?_
        refine Ze ?_
        refine WP.ret ?_; refine blk_ret ?_; refine thn_ret ?_; refine thn_ret ?_; refine blk_ret ?_; refine thn_ret ?_
        refine retT [4] _ rfl rfl ⟨_, ent.none _, ?_, rfl⟩
        unfold termB; rw [hP, all_not gr' (decide_eq_false hbad)]; rfl
      · refine WP.skip ?_; refine blk_norm ?_; refine thn_next ?_
        refine Zc ?_
        refine Za ?_
        refine Zm ?_
        refine Run.nil ?_
        refine thn_next ⟨i + 1, ⟨by omega, fun j z hj hz => ?_⟩, by omega, Ko.go, ent.gc⟩
        by_cases e : j = i
        · subst e; rw [gr'] at hz; cases hz; exact Decidable.not_not.1 hg
        · exact hok j z (by omega) hz
    · refine Zj ?_
      exact thn_next ⟨(), all_of fun j r hj hr => decide_eq_true (hok j r (by omega) hr), Ko.go, ent.gc⟩
  intro _ hall
  have eT : termB F t = (if t.kind = 1 then noneB t.value && decide (t.to.length = 1)
      else if t.kind = 2 then !noneB t.value && decide (t.to.length = 2)
      else if t.kind = 3 then (noneB t.value == decide (F.result = 0)) && t.to.isEmpty
      else if t.kind = 4 then !noneB t.value && t.to.isEmpty else false) := by unfold termB; rw [hP, hall]; rfl
  have hte : t.to.isEmpty = decide (t.to.length = 0) := by cases t.to <;> simp
  rw [hte] at eT
  refine WP.trim [2, 3, 4, 5] [0, 1] ?_
  refine WP.meetC (α := Unit) (fun _ => termB F t = false) (fun _ => []) (fun _ => []) ?_ ?_
  · refine Zp ?_
    refine Zf fo_47_0 ?_
    refine Zl 1 ag_3 ?_
    refine Ze ?_
    refine WP.block ?_
    refine Zp ?_
    refine Zi ?_
    refine Zm ?_
    refine Ze ?_
    refine WP.ite rfl (fun h1 => ?_) (fun h1 => ?_)
    · refine WP.seqCut [(4, .bool (termB F t))] [] ?_ ?_
      · rw [eT, if_pos h1]
        cases hn : noneB t.value
        all_goals
          refine Zc ?_
          all_goals (first | refine Zm ?_)
          all_goals (first | refine Zm ?_)
          all_goals (first | refine Zv ?_ | refine Zf fo_47_2 ?_)
          all_goals (first | refine Zv ?_ | refine Zl 1 ag_45 ?_)
          all_goals (first | refine Zv ?_ | refine Zh sl_45 hv ?_)
          all_goals (first | refine Zv ?_ | refine Zi ?_)
          all_goals (first | refine Zq ?_)
          all_goals (first | refine Zm ?_)
          all_goals (refine Run.nil ?_)
          all_goals refine thn_next ⟨⟨?_, trivial⟩, ent.none _⟩
          all_goals simp [Env.get]
          all_goals omega
      refine WP.ret ?_; refine blk_ret ?_; refine thn_ret ?_
      exact retT [4] _ rfl rfl ⟨_, ent.none _, rfl, rfl⟩
    refine Zp ?_
    refine Zi ?_
    refine Zm ?_
    refine Ze ?_
    refine WP.ite rfl (fun h2 => ?_) (fun h2 => ?_)
    · refine WP.seqCut [(4, .bool (termB F t))] [] ?_ ?_
      · rw [eT, if_neg h1, if_pos h2]
        cases hn : noneB t.value
        all_goals
          refine Zc ?_
          all_goals (first | refine Zm ?_)
          all_goals (first | refine Run.bnotB rfl rfl rfl rfl ?_)
          all_goals (first | refine Zm ?_)
          all_goals (first | refine Zv ?_ | refine Zf fo_47_2 ?_)
          all_goals (first | refine Zv ?_ | refine Zl 1 ag_45 ?_)
          all_goals (first | refine Zv ?_ | refine Zh sl_45 hv ?_)
          all_goals (first | refine Zv ?_ | refine Zi ?_)
          all_goals (first | refine Zq ?_)
          all_goals (first | refine Zm ?_)
          all_goals (refine Run.nil ?_)
          all_goals refine thn_next ⟨⟨?_, trivial⟩, ent.none _⟩
          all_goals simp [Env.get]
          all_goals omega
      refine WP.ret ?_; refine blk_ret ?_; refine thn_ret ?_
      exact retT [4] _ rfl rfl ⟨_, ent.none _, rfl, rfl⟩
    refine Zp ?_
    refine Zi ?_
    refine Zm ?_
    refine Ze ?_
    refine WP.ite rfl (fun h3 => ?_) (fun h3 => ?_)
    · refine WP.seqCut [(4, .bool (termB F t))] [] ?_ ?_
      · rw [eT, if_neg h1, if_neg h2, if_pos h3]
        cases hn : noneB t.value
        all_goals
          refine Zc ?_
          all_goals (first | refine Zm ?_)
          all_goals (first | refine Zf fo_41_2 ?_)
          all_goals (first | refine Zl 0 ag_3 ?_)
          all_goals (first | refine Zi ?_)
          all_goals (first | refine Run.eqB rfl rfl rfl ub_4 rfl rfl ?_)
          all_goals (first | refine Run.tt (by first | assumption | omega) ?_ | refine Run.ff (by first | assumption | omega) ?_ | refine Run.split (fun hc65 => ?_) (fun hc65 => ?_) | refine Run.splitB (fun hc65 => ?_) (fun hc65 => ?_) | skip)
          all_goals (first | refine Zm ?_)
          all_goals (first | refine Zv ?_ | refine Zf fo_47_2 ?_)
          all_goals (first | refine Zv ?_ | refine Zl 1 ag_45 ?_)
          all_goals (first | refine Zv ?_ | refine Zh sl_45 hv ?_)
          all_goals (first | refine Zv ?_ | refine Zi ?_)
          all_goals (first | refine Zq ?_)
          all_goals (first | refine Zm ?_)
          all_goals (refine Run.nil ?_)
          all_goals refine thn_next ⟨⟨?_, trivial⟩, ent.none _⟩
          all_goals simp [Env.get] at *
          all_goals (first | omega | simp [*])
      refine WP.ret ?_; refine blk_ret ?_; refine thn_ret ?_
      exact retT [4] _ rfl rfl ⟨_, ent.none _, rfl, rfl⟩
    refine Zp ?_
    refine Zi ?_
    refine Zm ?_
    refine Ze ?_
    refine WP.ite rfl (fun h4 => ?_) (fun h4 => ?_)
    · refine WP.seqCut [(4, .bool (termB F t))] [] ?_ ?_
      · rw [eT, if_neg h1, if_neg h2, if_neg h3, if_pos h4]
        cases hn : noneB t.value
        all_goals
          refine Zc ?_
          all_goals (first | refine Zm ?_)
          all_goals (first | refine Run.bnotB rfl rfl rfl rfl ?_)
          all_goals (first | refine Zm ?_)
          all_goals (first | refine Zv ?_ | refine Zf fo_47_2 ?_)
          all_goals (first | refine Zv ?_ | refine Zl 1 ag_45 ?_)
          all_goals (first | refine Zv ?_ | refine Zh sl_45 hv ?_)
          all_goals (first | refine Zv ?_ | refine Zi ?_)
          all_goals (first | refine Zq ?_)
          all_goals (first | refine Zm ?_)
          all_goals (refine Run.nil ?_)
          all_goals refine thn_next ⟨⟨?_, trivial⟩, ent.none _⟩
          all_goals simp [Env.get]
          all_goals omega
      refine WP.ret ?_; refine blk_ret ?_; refine thn_ret ?_
      exact retT [4] _ rfl rfl ⟨_, ent.none _, rfl, rfl⟩
    refine WP.skip ?_; refine blk_norm ?_
    refine thn_next ⟨(), ?_, Ko.go, ent.gc⟩
    rw [eT, if_neg h1, if_neg h2, if_neg h3, if_neg h4]
  intro _ hF
  refine Zp ?_
  refine Zm ?_
  refine Ze ?_
  refine WP.ret ?_
  exact retT [4] _ rfl rfl ⟨_, ent.none _, by rw [hF]; rfl, rfl⟩
end Go.Proofs.Ytfaokbjpinlcaaa
end
section
/- ALIR's check: functions, all; walked. -/
namespace Go.Proofs.Ytfaokbjpinlcaaa
open Go.Sep
set_option linter.unusedSimpArgs false
set_option linter.unusedVariables false
set_option maxRecDepth 100000
attribute [local irreducible] blk slA mp mpF rows rowsBut many mpK mpE placeB noneB funB insB termB callB
theorem sl_cap {A : Type} {E : Rd A} {h : Heap} {sv : SV} {xs : List A} (H : SlR E h sv.val xs) : sv.n = xs.length ∧ xs.length ≤ sv.c := by
  obtain ⟨a, c, e, hc, _⟩ := H
  simp only [SV.val, Value.slice.injEq] at e
  exact ⟨e.2.1, by rw [e.2.2]; exact hc⟩
theorem nodup_take {A : Type} {l : List A} (h : ∀ (j : Nat) (x : A), l[j]? = some x → x ∉ l.take j) : l.Nodup := by
  rw [List.nodup_iff_pairwise_ne, List.pairwise_iff_getElem]
  intro i j hi hj hij e
  refine h j l[j] (List.getElem?_eq_getElem hj) ?_
  rw [← e, List.mem_take_iff_getElem]
  exact ⟨i, by omega, rfl⟩
theorem not_nodup {A : Type} {l : List A} {j : Nat} {x : A} (h : l[j]? = some x) (hm : x ∈ l.take j) : ¬ l.Nodup := fun hn => by
  rw [List.nodup_iff_pairwise_ne, List.pairwise_iff_getElem] at hn
  obtain ⟨i, hi, e⟩ := List.mem_take_iff_getElem.1 hm
  obtain ⟨hj, e2⟩ := List.getElem?_eq_some_iff.1 h
  exact hn i j (by omega) hj (by omega) (by rw [e, e2])
set_option maxHeartbeats 4000000 in
theorem chkFun_ok (hR : Heap) (A : AL) (fv : SV) (F : AF) (su sv : SV) (hA : SlR rdAF hR fv.val A.funcs) (hF : AFv hR F su.val sv.val) (hl1 : A.funcs.length ≤ 1000000) (hl4 : ∀ F ∈ A.funcs, F.params.length ≤ 1000000) (hs : SmallF F) :
    Tri Try.prog hR 12 #[.agg ⟨alv A fv⟩, .agg ⟨afv F su.val sv.val⟩] [] fun r Γ' => r = .bool (funB A F) ∧ Γ' = [] := by
  have hu := hF.hu
  have hb := hF.hv
  have hsp := hs.sp
  have hsb := hs.sb
  refine Tri.ent (Tri.of (args := [.agg ⟨alv A fv⟩, .agg ⟨afv F su.val sv.val⟩]) Try.func12 rfl Try.ntmps12 (by simp) ?_)
  refine Zp ?_
  refine Run.box rfl rfl rfl rfl rfl ?_
  intro b2
  refine Run.box rfl rfl rfl rfl rfl ?_
  intro b3
  refine Zm ?_
  refine Ze ?_
  have eF : funB A F = (decide (0 ≤ F.slots ∧ F.slots ≤ 262144 ∧ F.params.length ≤ 8 ∧ 0 ≤ F.result ∧ F.result ≤ 3 ∧ F.blocks ≠ []) && F.params.all (placeB F) && decide F.params.Nodup && F.blocks.all fun b => b.body.all (insB A F) && termB F b.term) := by unfold funB; rfl
  refine WP.seq ?_
  refine WP.seqCut [(2, .pointer (some ⟨b2, 0, none⟩)), (3, .pointer (some ⟨b3, 0, none⟩)), (4, .bool false), (40, .bool (decide (¬ (0 ≤ F.slots ∧ F.slots ≤ 262144 ∧ F.params.length ≤ 8 ∧ 0 ≤ F.result ∧ F.result ≤ 3 ∧ F.blocks ≠ []))))] [blk b2 (alv A fv) 24, blk b3 (afv F su.val sv.val) 41] ?_ ?_
  · have hne : F.blocks ≠ [] ↔ ¬ (F.blocks.length : Int) = 0 := by cases F.blocks <;> simp; omega
    rw [show decide (¬ (0 ≤ F.slots ∧ F.slots ≤ 262144 ∧ F.params.length ≤ 8 ∧ 0 ≤ F.result ∧ F.result ≤ 3 ∧ F.blocks ≠ [])) = decide (¬ (0 ≤ F.slots ∧ F.slots ≤ 262144 ∧ F.params.length ≤ 8 ∧ 0 ≤ F.result ∧ F.result ≤ 3 ∧ ¬ (F.blocks.length : Int) = 0)) from decide_eq_decide.2 (by rw [hne])]
    refine Zc ?_
    all_goals (first | refine Zf fo_41_3 ?_)
    all_goals (first | refine Zl 1 ag_3 ?_)
    all_goals (first | refine Zi ?_)
    all_goals (first | refine Run.tt (by first | assumption | omega) ?_ | refine Run.ff (by first | assumption | omega) ?_ | refine Run.split (fun hc13 => ?_) (fun hc13 => ?_) | refine Run.splitB (fun hc13 => ?_) (fun hc13 => ?_) | skip)
    all_goals (first | refine Zm ?_)
    all_goals (first | refine Zv ?_ | refine Zf fo_41_3 ?_)
    all_goals (first | refine Zv ?_ | refine Zl 1 ag_3 ?_)
    all_goals (first | refine Zv ?_ | refine Zi ?_)
    all_goals (first | refine Run.tt (by first | assumption | omega) ?_ | refine Run.ff (by first | assumption | omega) ?_ | refine Run.split (fun hc17 => ?_) (fun hc17 => ?_) | refine Run.splitB (fun hc17 => ?_) (fun hc17 => ?_) | skip)
    all_goals (first | refine Zq ?_)
    all_goals (first | refine Zm ?_)
    all_goals (first | refine Zv ?_ | refine Zf fo_41_1 ?_)
    all_goals (first | refine Zv ?_ | refine Zl 1 ag_38 ?_)
    all_goals (first | refine Zv ?_ | refine Zh sl_38 hu ?_)
    all_goals (first | refine Zv ?_ | refine Zi ?_)
    all_goals (first | refine Run.tt (by first | assumption | omega) ?_ | refine Run.ff (by first | assumption | omega) ?_ | refine Run.split (fun hc23 => ?_) (fun hc23 => ?_) | refine Run.splitB (fun hc23 => ?_) (fun hc23 => ?_) | skip)
    all_goals (first | refine Zq ?_)
    all_goals (first | refine Zm ?_)
    all_goals (first | refine Zv ?_ | refine Zf fo_41_2 ?_)
    all_goals (first | refine Zv ?_ | refine Zl 1 ag_3 ?_)
    all_goals (first | refine Zv ?_ | refine Zi ?_)
    all_goals (first | refine Run.tt (by first | assumption | omega) ?_ | refine Run.ff (by first | assumption | omega) ?_ | refine Run.split (fun hc28 => ?_) (fun hc28 => ?_) | refine Run.splitB (fun hc28 => ?_) (fun hc28 => ?_) | skip)
    all_goals (first | refine Zq ?_)
    all_goals (first | refine Zm ?_)
    all_goals (first | refine Zv ?_ | refine Zf fo_41_2 ?_)
    all_goals (first | refine Zv ?_ | refine Zl 1 ag_3 ?_)
    all_goals (first | refine Zv ?_ | refine Zi ?_)
    all_goals (first | refine Run.tt (by first | assumption | omega) ?_ | refine Run.ff (by first | assumption | omega) ?_ | refine Run.split (fun hc33 => ?_) (fun hc33 => ?_) | refine Run.splitB (fun hc33 => ?_) (fun hc33 => ?_) | skip)
    all_goals (first | refine Zq ?_)
    all_goals (first | refine Zm ?_)
    all_goals (first | refine Zv ?_ | refine Zf fo_41_4 ?_)
    all_goals (first | refine Zv ?_ | refine Zl 1 ag_39 ?_)
    all_goals (first | refine Zv ?_ | refine Zh sl_39 hb ?_)
    all_goals (first | refine Zv ?_ | refine Zi ?_)
    all_goals (first | refine Zq ?_)
    all_goals (refine Run.nil ?_)
    all_goals refine thn_next ⟨⟨rfl, rfl, rfl, ?_, trivial⟩, ent.go⟩
    all_goals simp [Env.get]
    all_goals (first | omega | (have a1 : 0 ≤ F.slots := (by omega); have a2 : F.slots ≤ 262144 := (by omega); have a3 : F.params.length ≤ 8 := (by omega); have a4 : 0 ≤ F.result := (by omega); have a5 : F.result ≤ 3 := (by omega); simp [a1, a2, a3, a4, a5]))
  refine WP.ite rfl (fun hbad => ?_) (fun hgood => ?_)
  · refine Zp ?_
    refine Zm ?_
    refine Ze ?_
    refine WP.ret ?_; refine thn_ret ?_
    exact retT [4] _ rfl rfl ⟨_, ent.none _, by rw [eF, decide_eq_false hbad]; rfl, rfl⟩
  refine Zb ?_
  rw [decide_eq_true (Decidable.not_not.1 hgood), Bool.true_and] at eF
  refine WP.trim [2, 3, 4] [0, 1] ?_
  refine WP.meetC (α := Unit) (fun _ => F.params.all (placeB F) = true ∧ F.params.Nodup) (fun _ => []) (fun _ => []) ?_ ?_
  · refine Zp ?_
    refine Zf fo_41_1 ?_
    refine Zl 1 ag_38 ?_
    refine Zh sl_38 hu ?_
    refine Zm ?_
    refine Ze ?_
    refine WP.block ?_
    refine WP.trim [2, 3, 4, 42, 43, 44] [0, 1] ?_
    refine WP.loopC (α := Nat) (fun i => i ≤ F.params.length ∧ ∀ (j : Nat) (x : Lc), j < i → F.params[j]? = some x → placeB F x = true ∧ x ∉ F.params.take j) (fun i => [(44, .int .i64 (i : Int))]) (fun _ => []) (fun i => F.params.length - i) 0 ⟨Nat.zero_le _, fun j r h => by omega⟩ ?_
    rintro i ⟨hi, hok⟩
    refine WP.trim [2, 3, 4, 42, 43, 44] [0, 1] ?_
    refine Zp ?_
    refine Zi ?_
    refine Ze ?_
    refine WP.seq ?_
    refine WP.ite rfl (fun hlt => ?_) (fun hge => ?_)
    · refine Zb ?_
      obtain ⟨x, gx⟩ : ∃ y, F.params[(i : Int).toNat]? = some y := ⟨_, List.getElem?_eq_getElem (by omega)⟩
      have gx' : F.params[i]? = some x := gx
      obtain ⟨hsun, hsuc⟩ := sl_cap hu
      have hcut : SlR rdLc hR (su.cut 2 0 i).val (F.params.take i) := by
        have := SlR_cut hu (lo := 0) (hi := i) (Nat.zero_le _) (by omega)
        rw [List.drop_zero] at this
        exact this
      refine WP.seq ?_
      refine WP.block ?_
      refine Zp ?_
      refine Zm ?_
      refine Zx sl_38 hu ?_
      refine Run.loadRagg rfl rfl ag_44 rfl rfl (SlR.row hu gx) rfl ?_
      refine Run.alloc rfl zr_44 rfl rfl rfl ?_
      intro b6
      refine Zm ?_
      refine Run.storeB 2 rfl rfl rfl rfl ag_44 rfl rfl rfl rfl rfl ?_
      refine Ze ?_
      refine WP.trim [2, 3, 4, 5, 6, 42, 43, 44] [0, 1, 2] ?_
      refine WP.seqCut [(2, .pointer (some ⟨b2, 0, none⟩)), (3, .pointer (some ⟨b3, 0, none⟩)), (4, .bool false), (42, su.val), (43, .int .i64 (F.params.length : Int)), (44, .int .i64 (i : Int)), (60, .bool (decide (¬ (placeB F x = true ∧ x ∉ F.params.take i))))] [blk b2 (alv A fv) 24, blk b3 (afv F su.val sv.val) 41] ?_ ?_
      · refine WP.drawn0 cf0 mixed rfl (by kernel_rfl) ?_
        all_goals (first | refine Run.loadBagg 1 rfl rfl ag_41 rfl rfl rfl rfl rfl ?_)
        all_goals (first | refine Run.loadBagg 2 rfl rfl ag_44 rfl rfl rfl rfl rfl ?_)
        all_goals (first | refine Run.callP [] ok_18 (isPlace_ok hR F su sv x) ?_; rintro _ _ ⟨rfl, rfl⟩)
        all_goals (first | refine Run.tt (by first | assumption | omega) ?_ | refine Run.ff (by first | assumption | omega) ?_ | refine Run.split (fun hc51 => ?_) (fun hc51 => ?_) | refine Run.splitB (fun hc51 => ?_) (fun hc51 => ?_) | skip)
        all_goals (first | refine Run.bnotB rfl rfl rfl rfl ?_)
        all_goals (first | refine Zm ?_)
        all_goals (first | refine Zv ?_ | refine Zf fo_41_1 ?_)
        all_goals (first | refine Zv ?_ | refine Zl 1 ag_38 ?_)
        all_goals (first | refine Zv ?_ | refine Zm ?_)
        all_goals (first | refine Zv ?_ | refine Run.sliceV (sv := su) (ih := (i : Int)) rfl rfl sl_38 rfl rfl rfl rfl (by omega) (by omega) (by omega) ?_)
        all_goals (first | refine Zv ?_ | refine Run.loadBagg 2 rfl rfl ag_44 rfl rfl rfl rfl rfl ?_)
        all_goals (first | refine Zv ?_ | refine Run.callP [] ok_19 (containsL_ok hR (su.cut 2 0 i).val (F.params.take i) x hcut (by rw [List.length_take]; omega)) ?_; rintro _ _ ⟨rfl, rfl⟩)
        all_goals (first | refine Zq ?_)
        all_goals (refine Run.nil ?_)
        all_goals refine thn_next ⟨⟨rfl, rfl, rfl, rfl, rfl, rfl, ?_, trivial⟩, ent.go⟩
        all_goals simp [Env.get, *]
      refine WP.ite rfl (fun hbad => ?_) (fun hg => ?_)
      · refine Zp ?_
        refine Zm ?_
        refine Ze ?_
        refine WP.ret ?_; refine blk_ret ?_; refine thn_ret ?_; refine thn_ret ?_; refine blk_ret ?_; refine thn_ret ?_
        refine retT [4] _ rfl rfl ⟨_, ent.none _, ?_, rfl⟩
        rw [eF]
        cases h1 : F.params.all (placeB F) with
        | false => rfl
        | true =>
          rw [decide_eq_false (not_nodup gx' (by
            refine Decidable.by_contra fun hm => hbad ⟨List.all_eq_true.1 h1 x (List.mem_of_getElem? gx'), hm⟩))]; rfl
      · refine WP.skip ?_; refine blk_norm ?_; refine thn_next ?_
        refine Zc ?_
        refine Za ?_
        refine Zm ?_
        refine Run.nil ?_
        refine thn_next ⟨i + 1, ⟨by omega, fun j z hj hz => ?_⟩, by omega, Ko.go, ent.gc⟩
        by_cases e : j = i
        · subst e; rw [gx'] at hz; cases hz; exact Decidable.not_not.1 hg
        · exact hok j z (by omega) hz
    · refine Zj ?_
      exact thn_next ⟨(), ⟨all_of fun j r hj hr => (hok j r (by omega) hr).1, nodup_take fun j x hx => (hok j x (by have := (List.getElem?_eq_some_iff.1 hx).1; omega) hx).2⟩, Ko.go, ent.gc⟩
  rintro _ ⟨hp1, hp2⟩
  rw [hp1, decide_eq_true hp2, Bool.true_and, Bool.true_and] at eF
  refine WP.meetC (α := Unit) (fun _ => funB A F = true) (fun _ => []) (fun _ => []) ?_ ?_
  · refine Zp ?_
    refine Zf fo_41_4 ?_
    refine Zl 1 ag_39 ?_
    refine Zh sl_39 hb ?_
    refine Zm ?_
    refine Ze ?_
    refine WP.block ?_
    refine WP.trim [2, 3, 4, 63, 64, 65] [0, 1] ?_
    refine WP.loopC (α := Nat) (fun i => i ≤ F.blocks.length ∧ ∀ (j : Nat) (b : AB), j < i → F.blocks[j]? = some b → (b.body.all (insB A F) && termB F b.term) = true) (fun i => [(65, .int .i64 (i : Int))]) (fun _ => []) (fun i => F.blocks.length - i) 0 ⟨Nat.zero_le _, fun j r h => by omega⟩ ?_
    rintro i ⟨hi, hok⟩
    refine WP.trim [2, 3, 4, 63, 64, 65] [0, 1] ?_
    refine Zp ?_
    refine Zi ?_
    refine Ze ?_
    refine WP.seq ?_
    refine WP.ite rfl (fun hlt => ?_) (fun hge => ?_)
    · refine Zb ?_
      obtain ⟨b, gb⟩ : ∃ b, F.blocks[(i : Int).toNat]? = some b := ⟨_, List.getElem?_eq_getElem (by omega)⟩
      have gb' : F.blocks[i]? = some b := gb
      obtain ⟨hbs1, hbs2, hbs3⟩ := hs.si b (List.mem_of_getElem? gb)
      obtain ⟨_, ⟨bu0, bt0, rfl, hbu, hbt⟩, hrow⟩ := hb.at gb
      obtain ⟨bu, rfl, _, _⟩ := SlR.sv hbu
      obtain ⟨bt, rfl, _, _⟩ := SlR.sv hbt
      refine WP.seq ?_
      refine WP.block ?_
      refine Zp ?_
      refine Zx sl_39 hb ?_
      refine Run.loadRagg rfl rfl ag_49 rfl rfl hrow (by rfl) ?_
      refine Run.alloc rfl zr_49 rfl rfl rfl ?_
      intro b8
      refine Run.storeB 2 rfl rfl rfl rfl ag_49 rfl rfl rfl rfl rfl ?_
      refine Ze ?_
      refine WP.trim [2, 3, 4, 8, 63, 64, 65] [0, 1, 2] ?_
      refine WP.meetC (α := Unit) (fun _ => b.body.all (insB A F) = true) (fun _ => []) (fun _ => []) ?_ ?_
      · refine Zp ?_
        refine Zf fo_49_0 ?_
        refine Zl 2 ag_42 ?_
        refine Zh sl_42 hbu ?_
        refine Zm ?_
        refine Ze ?_
        refine WP.block ?_
        refine WP.trim [2, 3, 4, 8, 63, 64, 65, 70, 71, 72] [0, 1, 2] ?_
        refine WP.loopC (α := Nat) (fun k => k ≤ b.body.length ∧ ∀ (j : Nat) (x : AI), j < k → b.body[j]? = some x → insB A F x = true) (fun k => [(72, .int .i64 (k : Int))]) (fun _ => []) (fun k => b.body.length - k) 0 ⟨Nat.zero_le _, fun j r h => by omega⟩ ?_
        rintro k ⟨hk, hok2⟩
        refine WP.trim [2, 3, 4, 8, 63, 64, 65, 70, 71, 72] [0, 1, 2] ?_
        refine Zp ?_
        refine Zi ?_
        refine Ze ?_
        refine WP.seq ?_
        refine WP.ite rfl (fun hlt2 => ?_) (fun hge2 => ?_)
        · refine Zb ?_
          obtain ⟨x, gx⟩ : ∃ x, b.body[(k : Int).toNat]? = some x := ⟨_, List.getElem?_eq_getElem (by omega)⟩
          have gx' : b.body[k]? = some x := gx
          obtain ⟨hx1, hx2⟩ := hbs3 x (List.mem_of_getElem? gx)
          obtain ⟨_, ⟨xu0, xs0, rfl, hxu, hxv⟩, hxrow⟩ := hbu.at gx
          obtain ⟨xv, rfl, _, _⟩ := SlR.sv hxv
          obtain ⟨xu, rfl, _, _⟩ := SlR.sv hxu
          refine WP.seq ?_
          refine WP.block ?_
          refine Zp ?_
          refine Zx sl_42 hbu ?_
          refine Run.loadRagg rfl rfl ag_51 rfl rfl hxrow (by rfl) ?_
          refine Run.alloc rfl zr_51 rfl rfl rfl ?_
          intro b10
          refine Run.storeB 3 rfl rfl rfl rfl ag_51 rfl rfl rfl rfl rfl ?_
          refine Ze ?_
          refine WP.trim [2, 3, 4, 8, 10, 63, 64, 65, 70, 71, 72] [0, 1, 2, 3] ?_
          refine Zp ?_
          refine Run.loadBagg 0 rfl rfl ag_24 rfl rfl rfl rfl rfl ?_
          refine Run.loadBagg 1 rfl rfl ag_41 rfl rfl rfl rfl rfl ?_
          refine Run.loadBagg 3 rfl rfl ag_51 rfl rfl rfl rfl rfl ?_
          refine Run.callP [] ok_20 (chkIns_ok hR A fv F su sv x xu xv hA ⟨hxu, hxv⟩ hl1 (by omega) (by omega) hl4) ?_; rintro _ _ ⟨rfl, rfl⟩
          refine Run.bnotB rfl rfl rfl rfl ?_
          refine Run.eqv (v' := .bool (decide (insB A F x = false))) (by cases insB A F x <;> rfl) ?_
          refine Ze ?_
          refine WP.ite rfl (fun hbad => ?_) (fun hg => ?_)
          · refine Zp ?_
            refine Zm ?_
            refine Ze ?_
            refine WP.ret ?_; refine blk_ret ?_; refine thn_ret ?_; refine thn_ret ?_; refine blk_ret ?_; refine thn_ret ?_; refine blk_ret ?_; refine thn_ret ?_; refine thn_ret ?_; refine blk_ret ?_; refine thn_ret ?_
            exact retT [4] _ rfl rfl ⟨_, ent.none _, by rw [eF, all_not gb' (by rw [all_not gx' hbad]; rfl)]; rfl, rfl⟩
          · refine WP.skip ?_; refine blk_norm ?_; refine thn_next ?_
            refine Zc ?_
            refine Za ?_
            refine Zm ?_
            refine Run.nil ?_
            refine thn_next ⟨k + 1, ⟨by omega, fun j z hj hz => ?_⟩, by omega, Ko.go, ent.gc⟩
            by_cases e : j = k
            · subst e; rw [gx'] at hz; cases hz; exact btrue hg
            · exact hok2 j z (by omega) hz
        · refine Zj ?_
          exact thn_next ⟨(), all_of fun j x hj hx => hok2 j x (by omega) hx, Ko.go, ent.gc⟩
      intro _ hbody
      refine Zp ?_
      refine Run.loadBagg 1 rfl rfl ag_41 rfl rfl rfl rfl rfl ?_
      refine Zf fo_49_1 ?_
      refine Run.loadBagg 2 rfl rfl ag_47 rfl rfl rfl rfl rfl ?_
      refine Run.callP [] ok_21 (chkTerm_ok hR F su sv b.term bt hb hbt (by omega) (by omega)) ?_; rintro _ _ ⟨rfl, rfl⟩
      refine Run.bnotB rfl rfl rfl rfl ?_
      refine Run.eqv (v' := .bool (decide (termB F b.term = false))) (by cases termB F b.term <;> rfl) ?_
      refine Ze ?_
      refine WP.ite rfl (fun hbad => ?_) (fun hg => ?_)
      · refine Zp ?_
        refine Zm ?_
        refine Ze ?_
        refine WP.ret ?_; refine blk_ret ?_; refine thn_ret ?_; refine thn_ret ?_; refine blk_ret ?_; refine thn_ret ?_
        exact retT [4] _ rfl rfl ⟨_, ent.none _, by rw [eF, all_not gb' (by rw [hbody, hbad]; rfl)]; rfl, rfl⟩
      · refine WP.skip ?_; refine blk_norm ?_; refine thn_next ?_
        refine Zc ?_
        refine Za ?_
        refine Zm ?_
        refine Run.nil ?_
        refine thn_next ⟨i + 1, ⟨by omega, fun j z hj hz => ?_⟩, by omega, Ko.go, ent.gc⟩
        by_cases e : j = i
        · subst e; rw [gb'] at hz; cases hz; rw [hbody, btrue hg]; rfl
        · exact hok j z (by omega) hz
    · refine Zj ?_
      exact thn_next ⟨(), by rw [eF]; exact all_of fun j b hj hb => hok j b (by omega) hb, Ko.go, ent.gc⟩
  intro _ hT
  refine Zp ?_
  refine Zm ?_
  refine Ze ?_
  refine WP.ret ?_
  exact retT [4] _ rfl rfl ⟨_, ent.none _, by rw [hT]; rfl, rfl⟩
end Go.Proofs.Ytfaokbjpinlcaaa
end
section
/- What the check tells of a function, as its code needs it; plain. -/
namespace Go.Proofs.Ytfaokbjpinlcaaa
open Go.Sep
set_option linter.unusedVariables false
theorem rising_len : ∀ (l : List Int) (x : Int), risingB (x :: l) = true → (∀ r ∈ x :: l, r < 8) → ((x :: l).length : Int) ≤ 8 - x
  | [], x, _, h => by have := h x (by simp); simp only [List.length_singleton]; omega
  | y :: l, x, hr, h => by
    simp only [risingB, Bool.and_eq_true, decide_eq_true_eq] at hr
    have := rising_len l y hr.2 fun r hm => h r (List.mem_cons_of_mem _ hm)
    rw [List.length_cons, Int.natCast_add]
    omega
theorem rising_eight {l : List Int} (h1 : risingB l = true) (h2 : ∀ r ∈ l, 0 ≤ r ∧ r < 8) : l.length ≤ 8 := by
  cases l with
  | nil => simp
  | cons x l =>
    have := rising_len l x h1 fun r hm => (h2 r hm).2
    have := (h2 x (by simp)).1
    omega
theorem funB_spec {A : AL} {F : AF} (h : funB A F = true) : (0 ≤ F.slots ∧ F.slots ≤ 262144 ∧ F.params.length ≤ 8 ∧ 0 ≤ F.result ∧ F.result ≤ 3 ∧ F.blocks ≠ []) ∧ (∀ l ∈ F.params, placeB F l = true) ∧ F.params.Nodup ∧ ∀ b ∈ F.blocks, (∀ x ∈ b.body, insB A F x = true) ∧ termB F b.term = true := by
  unfold funB at h
  simp only [Bool.and_eq_true, decide_eq_true_eq, List.all_eq_true] at h
  obtain ⟨⟨⟨h1, h2⟩, h3⟩, h4⟩ := h
  exact ⟨h1, h2, h3, h4⟩
theorem callB_spec {A : AL} {x : AI} (h : callB A x = true) : ∃ G, A.funcs[x.imm.toNat]? = some G ∧ x.args.length = G.params.length ∧ (∀ r ∈ x.saves, 0 ≤ r ∧ r < 8) ∧ risingB x.saves = true := by
  unfold callB at h
  rw [Bool.and_eq_true] at h
  cases gG : A.funcs[x.imm.toNat]? with
  | none => rw [gG] at h; exact absurd h.2 (by simp)
  | some G =>
    rw [gG] at h
    simp only [Bool.and_eq_true, decide_eq_true_eq, List.all_eq_true] at h
    obtain ⟨_, ⟨⟨h1, _⟩, h2⟩, h3⟩ := h
    exact ⟨G, rfl, h1, h2, h3⟩
theorem argsN_le (op : Int) : argsN op ≤ 3 := by
  unfold argsN
  split
  · decide
  · split
    · decide
    · split
      · decide
      · split <;> decide
/-- one instruction -/
theorem insB_spec {A : AL} {F : AF} {x : AI} (hG : ∀ G ∈ A.funcs, G.params.length ≤ 8) (h : insB A F x = true) :
    (noneB x.dst = true ∨ placeB F x.dst = true) ∧ (∀ l ∈ x.args, placeB F l = true) ∧ (∀ r ∈ x.saves, 0 ≤ r ∧ r < 8) ∧ x.args.length ≤ 8 ∧ x.saves.length ≤ 8 ∧ (x.op ≠ 25 → (x.args.length : Int) = argsN x.op ∧ setsB x.op = !noneB x.dst ∧ ((28 ≤ x.op ∧ x.op ≤ 30) ∨ x.op = 1 ∨ x.imm = 0)) := by
  unfold insB at h
  rw [Bool.and_eq_true, Bool.and_eq_true, Bool.or_eq_true, List.all_eq_true] at h
  obtain ⟨⟨h1, h2⟩, h3⟩ := h
  by_cases h25 : x.op = 25
  · rw [if_pos h25] at h3
    obtain ⟨G, gG, q1, q2, q3⟩ := callB_spec h3
    exact ⟨h1, h2, q2, by rw [q1]; exact hG G (List.mem_of_getElem? gG), rising_eight q3 q2, fun h => absurd h25 h⟩
  · rw [if_neg h25] at h3
    simp only [Bool.and_eq_true, decide_eq_true_eq, bne_iff_ne, ne_eq] at h3
    obtain ⟨⟨⟨q1, q2⟩, q3⟩, q4⟩ := h3
    have hs : x.saves = [] := List.isEmpty_iff.1 q3
    have := argsN_le x.op
    refine ⟨h1, h2, by rw [hs]; simp, by omega, by rw [hs]; simp, fun _ => ⟨q1, ?_, ?_⟩⟩
    · revert q2; cases setsB x.op <;> cases noneB x.dst <;> simp
    · by_cases hr : 28 ≤ x.op ∧ x.op ≤ 30
      · exact .inl hr
      · rw [if_neg hr] at q4; exact .inr (by simpa using q4)
theorem noneB_near {l : Lc} (h : noneB l = true) : near l := by
  unfold noneB at h
  simp only [decide_eq_true_eq] at h
  unfold near; omega
theorem termB_spec {F : AF} {t : AT} (hF : F.slots ≤ 262144) (h : termB F t = true) : TermOk t ∧ ∀ b ∈ t.to, 0 ≤ b ∧ b < (F.blocks.length : Int) := by
  unfold termB at h
  rw [Bool.and_eq_true, Bool.and_eq_true, Bool.or_eq_true, List.all_eq_true] at h
  obtain ⟨⟨h1, h2⟩, h3⟩ := h
  refine ⟨⟨?_, ?_⟩, fun b hb => by simpa using h2 b hb⟩
  · rcases h1 with h1 | h1
    · exact noneB_near h1
    · exact (place_near hF h1).1
  · by_cases e1 : t.kind = 1
    · rw [if_pos e1] at h3
      simp only [Bool.and_eq_true, decide_eq_true_eq] at h3
      exact .inl ⟨e1, List.length_eq_one_iff.1 h3.2⟩
    · rw [if_neg e1] at h3
      by_cases e2 : t.kind = 2
      · rw [if_pos e2] at h3
        simp only [Bool.and_eq_true, decide_eq_true_eq] at h3
        refine .inr (.inl ⟨e2, ?_⟩)
        match ht : t.to, h3.2 with
        | [b, c], _ => exact ⟨b, c, rfl⟩
      · rw [if_neg e2] at h3
        by_cases e3 : t.kind = 3
        · exact .inr (.inr (.inl e3))
        · rw [if_neg e3] at h3
          by_cases e4 : t.kind = 4
          · exact .inr (.inr (.inr e4))
          · rw [if_neg e4] at h3; cases h3
/-- what is well formed can be made code of -/
theorem okA_fun {nm : ByteArray → Bool} {A : AL} (h : okA nm A = true) (hs : SmallA A) {F : AF} (hF : F ∈ A.funcs) : FunOk F := by
  have hall : ∀ G ∈ A.funcs, funB A G = true := fun G hG => by
    unfold okA at h
    rw [Bool.and_eq_true, Bool.and_eq_true, Bool.and_eq_true] at h
    have := List.all_eq_true.1 h.1.1.1 G hG
    rw [Bool.and_eq_true] at this; exact this.2
  have hG : ∀ G ∈ A.funcs, G.params.length ≤ 8 := fun G hG => (funB_spec (hall G hG)).1.2.2.1
  obtain ⟨h1, h2, h3, h4⟩ := funB_spec (hall F hF)
  have hsv : ∀ r ∈ allS F, 0 ≤ r ∧ r < 8 := fun r hr => by
    unfold allS at hr
    obtain ⟨b, hb, hr⟩ := List.mem_flatMap.1 hr
    obtain ⟨x, hx, hr⟩ := List.mem_flatMap.1 hr
    exact (insB_spec hG ((h4 b hb).1 x hx)).2.2.1 r hr
  refine ⟨hs.sa F hF, ⟨h1.1, h1.2.1⟩, h1.2.2.1, h2, h3, fun b hb x hx => ?_, fun b hb => termB_spec h1.2.1 (h4 b hb).2, hsv⟩
  obtain ⟨q1, q2, q3, q4, q5, q6⟩ := insB_spec hG ((h4 b hb).1 x hx)
  refine ⟨q2, q1, fun r hr => (savS_mem hsv r).2 ?_, q4, q5, q6⟩
  unfold allS
  exact List.mem_flatMap.2 ⟨b, hb, List.mem_flatMap.2 ⟨x, hx, hr⟩⟩
end Go.Proofs.Ytfaokbjpinlcaaa
end
