/- The document's own check of ALIR, all of it, if a name's check is known; walked. -/
import Derived.Test.YtfaokbjpinlcaaaGreatGA4
import Derived.Test.YtfaokbjpinlcaaaGreatGB3
import Derived.Test.YtfaokbjpinlcaaaGreatGB1
import Derived.Test.YtfaokbjpinlcaaaGreatGB2
import Derived.Test.YtfaokbjpinlcaaaGreatGB0
import Derived.Test.YtfaokbjpinlcaaaGreatGA5
import Derived.Test.YtfaokbjpinlcaaaGreatGA6
import Derived.Test.YtfaokbjpinlcaaaGreatGA8
section
/- The document's own check of ALIR, all of it, if a name's check is known; walked. -/
namespace Go.Proofs.YtfaokbjpinlcaaaGreat
open Go.Sep
set_option linter.unusedSimpArgs false
set_option linter.unusedVariables false
set_option maxRecDepth 100000
attribute [local irreducible] blk slA mp mpF rows rowsBut many mpK mpE placeB noneB funB insB termB callB
set_option maxHeartbeats 4000000 in
theorem rcheck_ok (nm : ByteArray → Bool) (hN : ∀ (hR : Heap) (s : ByteArray), s.size ≤ 2000000 → Tri Tryz.prog hR 50 #[.string s] [] fun v Γ' => v = .bool (nm s) ∧ Γ' = []) (hR : Heap) (A : AL) (fv : SV) (hA' : ALv hR A fv) :
    Tri Tryz.prog hR 26 #[.agg ⟨alv A fv⟩] [] fun r Γ' => r = .int .i64 (if okA nm A then 0 else 190) ∧ Γ' = [] := by
  have hA := hA'.hf
  have hl1 := hA'.sm.sf
  have hl4 : ∀ F ∈ A.funcs, F.params.length ≤ 1000000 := fun F hF => by have := (hA'.sm.sa F hF).sp; omega
  refine Tri.ent (Tri.of (args := [.agg ⟨alv A fv⟩]) Tryz.func26 rfl Tryz.ntmps26 (by simp) ?_)
  refine Zp ?_
  refine Run.box rfl rfl rfl rfl rfl ?_
  intro b1
  refine Zm ?_
  refine Ze ?_
  refine WP.trim [1, 2] [0] ?_
  refine WP.meetC (α := Unit) (fun _ => A.funcs.all (fun F => nm F.name && funB A F) = true ∧ (A.funcs.map AF.name).Nodup) (fun _ => []) (fun _ => []) ?_ ?_
  · refine Zp ?_
    refine Zm ?_
    refine Ze ?_
    refine WP.block ?_
    refine WP.trim [1, 2, 3] [0] ?_
    refine WP.loopC (α := Nat) (fun i => i ≤ A.funcs.length ∧ ∀ (j : Nat) (F : AF), j < i → A.funcs[j]? = some F → (nm F.name && funB A F) = true ∧ F.name ∉ (A.funcs.map AF.name).take j) (fun i => [(3, .int .i64 (i : Int))]) (fun _ => []) (fun i => A.funcs.length - i) 0 ⟨Nat.zero_le _, fun j F h => by omega⟩ ?_
    rintro i ⟨hi, hok⟩
    refine WP.trim [1, 2, 3] [0] ?_
    refine WP.seq ?_
    refine Zp ?_
    refine Zm ?_
    refine Zf fo_24_0 ?_
    refine Zl 0 ag_22 ?_
    refine Zh sl_22 hA ?_
    refine Zi ?_
    refine Ze ?_
    refine WP.ite rfl (fun hlt => ?_) (fun hge => ?_)
    · refine Zb ?_
      obtain ⟨F, gF⟩ : ∃ b, A.funcs[(i : Int).toNat]? = some b := ⟨_, List.getElem?_eq_getElem (by omega)⟩
      have gF' : A.funcs[i]? = some F := gF
      have gN : (A.funcs.map AF.name)[i]? = some F.name := by rw [List.getElem?_map, gF']; rfl
      have hFs := hA'.sm.sa F (List.mem_of_getElem? gF)
      obtain ⟨_, ⟨fu0, fv0, rfl, hfu, hfv⟩, hrow⟩ := hA.at gF
      obtain ⟨fu, rfl, _, _⟩ := SlR.sv hfu
      obtain ⟨fw, rfl, _, _⟩ := SlR.sv hfv
      refine WP.seq ?_
      refine WP.block ?_
      refine Zp ?_
      refine Zf fo_24_0 ?_
      refine Zl 0 ag_22 ?_
      refine Zm ?_
      refine Zx sl_22 hA ?_
      refine Zf fo_51_0 ?_
      refine Zr ag_9 (hrow 0 _ rfl) ?_
      refine Run.callP [] ok_50 (hN hR F.name hFs.sn) ?_; rintro _ _ ⟨rfl, rfl⟩
      refine Zm ?_
      refine Ze ?_
      refine WP.trim [1, 2, 3, 4] [0] ?_
      refine WP.seq ?_
      refine WP.drawn0 cf0 mixed rfl (by kernel_rfl) ?_
      refine Run.loadBagg 0 rfl rfl ag_24 rfl rfl rfl rfl rfl ?_
      refine Zf fo_24_0 ?_
      refine Zl 0 ag_22 ?_
      refine Zm ?_
      refine Zx sl_22 hA ?_
      refine Run.loadRagg rfl rfl ag_51 rfl rfl hrow (by rfl) ?_
      refine Run.callP [] ok_51 (rfun_ok hR A fv F fu fw hA ⟨hfu, hfv⟩ (by omega) hl4 hFs) ?_; rintro _ _ ⟨rfl, rfl⟩
      refine Zm ?_
      refine Ze ?_
      refine WP.seq ?_
      refine WP.seqCut [(1, .pointer (some ⟨b1, 0, none⟩)), (2, .int .i64 0), (3, .int .i64 (i : Int)), (33, .bool (decide (nm F.name = false ∨ funB A F = false)))] [blk b1 (alv A fv) 24] ?_ ?_
      · cases hn1 : nm F.name
        all_goals
          cases hn2 : funB A F
          all_goals
            refine Zc ?_
            all_goals (first | refine Zm ?_)
            all_goals (first | refine Run.bnotB rfl rfl rfl rfl ?_)
            all_goals (first | refine Zm ?_)
            all_goals (first | refine Zv ?_ | refine Zm ?_)
            all_goals (first | refine Zv ?_ | refine Run.bnotB rfl rfl rfl rfl ?_)
            all_goals (first | refine Zq ?_)
            all_goals (refine Run.nil ?_)
            all_goals refine thn_next ⟨⟨rfl, rfl, rfl, ?_, trivial⟩, ent.go⟩
            all_goals simp [Env.get]
      refine WP.ite rfl (fun hbad => ?_) (fun hg => ?_)
      · refine Zp ?_
        refine Zm ?_
        refine Ze ?_
        refine WP.ret ?_; refine thn_ret ?_; refine blk_ret ?_; refine thn_ret ?_; refine thn_ret ?_; refine blk_ret ?_; refine thn_ret ?_
        refine retT [2] _ rfl rfl ⟨_, ent.none _, ?_, rfl⟩
        have hf : okA nm A = false := by
          unfold okA
          rw [all_not gF' (by rcases hbad with q | q <;> simp [q])]; rfl
        rw [hf]; rfl
      refine Zb ?_
      have g2 : nm F.name = true := btrue fun q => hg (Or.inl q)
      have g3 : funB A F = true := btrue fun q => hg (Or.inr q)
      refine Zp ?_
      refine Zm ?_
      refine Ze ?_
      refine WP.block ?_
      refine WP.trim [1, 2, 3, 6] [0] ?_
      refine WP.loopC (α := Nat) (fun k => k ≤ i ∧ F.name ∉ (A.funcs.map AF.name).take k) (fun k => [(6, .int .i64 (k : Int))]) (fun _ => []) (fun k => i - k) 0 ⟨Nat.zero_le _, by simp⟩ ?_
      rintro k ⟨hk, hno⟩
      refine WP.trim [1, 2, 3, 6] [0] ?_
      refine WP.seq ?_
      refine Zp ?_
      refine Zm ?_
      refine Zm ?_
      refine Zi ?_
      refine Ze ?_
      refine WP.ite rfl (fun hlt2 => ?_) (fun hge2 => ?_)
      · refine Zb ?_
        obtain ⟨G, gG⟩ : ∃ y, A.funcs[(k : Int).toNat]? = some y := ⟨_, List.getElem?_eq_getElem (by omega)⟩
        have gG' : A.funcs[k]? = some G := gG
        have gM : (A.funcs.map AF.name)[k]? = some G.name := by rw [List.getElem?_map, gG']; rfl
        obtain ⟨_, ⟨gu0, gv0, rfl, hgu, hgv⟩, hrowG⟩ := hA.at gG
        refine WP.seq ?_
        refine WP.block ?_
        refine WP.seq ?_
        refine WP.drawn0 cf0 mixed rfl (by kernel_rfl) ?_
        refine Zf fo_24_0 ?_
        refine Zl 0 ag_22 ?_
        refine Zm ?_
        refine Zx sl_22 hA ?_
        refine Zf fo_51_0 ?_
        refine Zr ag_9 (hrowG 0 _ rfl) ?_
        refine Zf fo_24_0 ?_
        refine Zl 0 ag_22 ?_
        refine Zm ?_
        refine Zx sl_22 hA ?_
        refine Zf fo_51_0 ?_
        refine Zr ag_9 (hrow 0 _ rfl) ?_
        refine Run.eqStr rfl rfl rfl rfl rfl ?_
        refine Ze ?_
        refine WP.ite rfl (fun hy => ?_) (fun hy => ?_)
        · refine Zp ?_
          refine Zm ?_
          refine Ze ?_
          refine WP.ret ?_; refine blk_ret ?_; refine thn_ret ?_; refine thn_ret ?_; refine blk_ret ?_; refine blk_ret ?_; refine thn_ret ?_; refine thn_ret ?_; refine blk_ret ?_; refine thn_ret ?_
          refine retT [2] _ rfl rfl ⟨_, ent.none _, ?_, rfl⟩
          have hf : okA nm A = false := by
            unfold okA
            rw [decide_eq_false (not_nodup gN (List.mem_take_iff_getElem.2 ⟨k, by rw [List.length_map]; omega, by rw [(List.getElem?_eq_some_iff.1 gM).2, hy]⟩)), Bool.and_false]; rfl
          rw [hf]; rfl
        · refine WP.skip ?_; refine blk_norm ?_; refine thn_next ?_
          refine Zc ?_
          refine Zm ?_
          refine Za ?_
          refine Zm ?_
          refine Run.nil ?_
          refine thn_next ⟨k + 1, ⟨by omega, ?_⟩, by omega, Ko.go, ent.gc⟩
          rw [List.take_add_one, gM, List.mem_append]
          rintro (h | h)
          · exact hno h
          · simp at h; exact hy h.symm
      · refine Zj ?_; refine blk_norm ?_; refine thn_next ?_
        refine Zc ?_
        refine Zm ?_
        refine Za ?_
        refine Zm ?_
        refine Run.nil ?_
        refine thn_next ⟨i + 1, ⟨by omega, fun j z hj hz => ?_⟩, by omega, Ko.go, ent.gc⟩
        by_cases e : j = i
        · subst e; rw [gF'] at hz; cases hz
          obtain rfl : k = j := by omega
          exact ⟨by rw [g2, g3]; rfl, hno⟩
        · exact hok j z (by omega) hz
    · refine Zj ?_
      refine thn_next ⟨(), ⟨all_of fun j F hj hF => (hok j F (by omega) hF).1, nodup_take fun j s hs => ?_⟩, Ko.go, ent.gc⟩
      rw [List.getElem?_map] at hs
      cases hF : A.funcs[j]? with
      | none => rw [hF] at hs; cases hs
      | some F =>
        rw [hF] at hs; simp only [Option.map_some, Option.some.injEq] at hs
        subst hs
        exact (hok j F (by have := (List.getElem?_eq_some_iff.1 hF).1; omega) hF).2
  rintro _ ⟨hall, hnd⟩
  have eA : okA nm A = (decide (0 ≤ A.main ∧ A.main < A.funcs.length) && match A.funcs[A.main.toNat]? with
    | some F => F.params.isEmpty && decide (F.result = 0)
    | none => false) := by unfold okA; rw [hall, decide_eq_true hnd]; rfl
  refine WP.trim [1, 2] [0] ?_
  refine WP.seq ?_
  refine WP.seqCut [(2, .int .i64 0), (83, .bool (decide (okA nm A = false)))] [] ?_ ?_
  · by_cases hm : 0 ≤ A.main ∧ A.main < (A.funcs.length : Int)
    · obtain ⟨F, gF⟩ : ∃ b, A.funcs[A.main.toNat]? = some b := ⟨_, List.getElem?_eq_getElem (by omega)⟩
      obtain ⟨_, ⟨fu0, fv0, rfl, hfu, hfv⟩, hrow⟩ := hA.at gF
      rw [decide_eq_true hm, gF, Bool.true_and] at eA
      simp only at eA
      have hpe : F.params.isEmpty = decide (¬ (0 < F.params.length)) := by cases F.params <;> simp
      rw [hpe] at eA
      rw [eA]
      refine Zc ?_
      all_goals (first | refine Zf fo_24_1 ?_)
      all_goals (first | refine Zl 0 ag_3 ?_)
      all_goals (first | refine Zi ?_)
      all_goals (first | refine Run.tt (by first | assumption | omega) ?_ | refine Run.ff (by first | assumption | omega) ?_ | refine Run.split (fun hc54 => ?_) (fun hc54 => ?_) | refine Run.splitB (fun hc54 => ?_) (fun hc54 => ?_) | skip)
      all_goals (first | refine Zm ?_)
      all_goals (first | refine Zv ?_ | refine Zf fo_24_1 ?_)
      all_goals (first | refine Zv ?_ | refine Zl 0 ag_3 ?_)
      all_goals (first | refine Zv ?_ | refine Zf fo_24_0 ?_)
      all_goals (first | refine Zv ?_ | refine Zl 0 ag_22 ?_)
      all_goals (first | refine Zv ?_ | refine Zh sl_22 hA ?_)
      all_goals (first | refine Zv ?_ | refine Zi ?_)
      all_goals (first | refine Run.tt (by first | assumption | omega) ?_ | refine Run.ff (by first | assumption | omega) ?_ | refine Run.split (fun hc61 => ?_) (fun hc61 => ?_) | refine Run.splitB (fun hc61 => ?_) (fun hc61 => ?_) | skip)
      all_goals (first | refine Zq ?_)
      all_goals (first | refine Zm ?_)
      all_goals (first | refine Zv ?_ | refine Zf fo_24_0 ?_)
      all_goals (first | refine Zv ?_ | refine Zl 0 ag_22 ?_)
      all_goals (first | refine Zv ?_ | refine Zf fo_24_1 ?_)
      all_goals (first | refine Zv ?_ | refine Zl 0 ag_3 ?_)
      all_goals (first | refine Zv ?_ | refine Zx sl_22 hA ?_)
      all_goals (first | refine Zv ?_ | refine Zf fo_51_1 ?_)
      all_goals (first | refine Zv ?_ | refine Zr ag_48 (hrow 1 _ rfl) ?_)
      all_goals (first | refine Zv ?_ | refine Zh sl_48 hfu ?_)
      all_goals (first | refine Zv ?_ | refine Zi ?_)
      all_goals (first | refine Run.tt (by first | assumption | omega) ?_ | refine Run.ff (by first | assumption | omega) ?_ | refine Run.split (fun hc72 => ?_) (fun hc72 => ?_) | refine Run.splitB (fun hc72 => ?_) (fun hc72 => ?_) | skip)
      all_goals (first | refine Zq ?_)
      all_goals (first | refine Zm ?_)
      all_goals (first | refine Zv ?_ | refine Zf fo_24_0 ?_)
      all_goals (first | refine Zv ?_ | refine Zl 0 ag_22 ?_)
      all_goals (first | refine Zv ?_ | refine Zf fo_24_1 ?_)
      all_goals (first | refine Zv ?_ | refine Zl 0 ag_3 ?_)
      all_goals (first | refine Zv ?_ | refine Zx sl_22 hA ?_)
      all_goals (first | refine Zv ?_ | refine Zf fo_51_2 ?_)
      all_goals (first | refine Zv ?_ | refine Zr ag_3 (hrow 2 _ rfl) ?_)
      all_goals (first | refine Zv ?_ | refine Zi ?_)
      all_goals (first | refine Zq ?_)
      all_goals (refine Run.nil ?_)
      all_goals refine thn_next ⟨⟨rfl, ?_, trivial⟩, ent.none _⟩
      all_goals clear hpe
      all_goals (first
        | (simp [Env.get, *]; done)
        | (have q : F.params ≠ [] := (fun e => absurd (show (F.params.length : Int) > 0 by assumption) (by rw [e]; decide)); simp [Env.get, *]; done)
        | (have q : F.params = [] := (List.eq_nil_of_length_eq_zero (by have := (show ¬ (F.params.length : Int) > 0 by assumption); omega)); simp [Env.get, *]; done))
    · rw [decide_eq_false hm] at eA
      rw [eA]
      refine Zc ?_
      all_goals (first | refine Zf fo_24_1 ?_)
      all_goals (first | refine Zl 0 ag_3 ?_)
      all_goals (first | refine Zi ?_)
      all_goals (first | refine Run.tt (by first | assumption | omega) ?_ | refine Run.ff (by first | assumption | omega) ?_ | refine Run.split (fun hc54 => ?_) (fun hc54 => ?_) | refine Run.splitB (fun hc54 => ?_) (fun hc54 => ?_) | skip)
      all_goals (first | refine Zm ?_)
      all_goals (first | refine Zv ?_ | refine Zf fo_24_1 ?_)
      all_goals (first | refine Zv ?_ | refine Zl 0 ag_3 ?_)
      all_goals (first | refine Zv ?_ | refine Zf fo_24_0 ?_)
      all_goals (first | refine Zv ?_ | refine Zl 0 ag_22 ?_)
      all_goals (first | refine Zv ?_ | refine Zh sl_22 hA ?_)
      all_goals (first | refine Zv ?_ | refine Zi ?_)
      all_goals (first | refine Run.tt (by first | assumption | omega) ?_ | refine Run.ff (by first | assumption | omega) ?_ | refine Run.split (fun hc61 => ?_) (fun hc61 => ?_) | refine Run.splitB (fun hc61 => ?_) (fun hc61 => ?_) | skip)
      all_goals (first | refine Zq ?_)
      all_goals (first | refine Zm ?_)
      all_goals (first | refine Zv ?_ | refine Zf fo_24_0 ?_)
      all_goals (first | refine Zv ?_ | refine Zl 0 ag_22 ?_ | refine Run.loadO 0 _ 0 rfl rfl ag_22 rfl rfl rfl rfl (by assumption) rfl ?_ | refine Run.loadO 0 _ _ rfl rfl ag_22 rfl rfl rfl rfl (by assumption) rfl ?_ | refine Zl 1 ag_22 ?_ | refine Run.loadO 1 _ 0 rfl rfl ag_22 rfl rfl rfl rfl (by assumption) rfl ?_ | refine Run.loadO 1 _ _ rfl rfl ag_22 rfl rfl rfl rfl (by assumption) rfl ?_ | refine Zl 2 ag_22 ?_ | refine Run.loadO 2 _ 0 rfl rfl ag_22 rfl rfl rfl rfl (by assumption) rfl ?_ | refine Run.loadO 2 _ _ rfl rfl ag_22 rfl rfl rfl rfl (by assumption) rfl ?_ | refine Zl 3 ag_22 ?_ | refine Run.loadO 3 _ 0 rfl rfl ag_22 rfl rfl rfl rfl (by assumption) rfl ?_ | refine Run.loadO 3 _ _ rfl rfl ag_22 rfl rfl rfl rfl (by assumption) rfl ?_ | refine Zl 4 ag_22 ?_ | refine Run.loadO 4 _ 0 rfl rfl ag_22 rfl rfl rfl rfl (by assumption) rfl ?_ | refine Run.loadO 4 _ _ rfl rfl ag_22 rfl rfl rfl rfl (by assumption) rfl ?_ | refine Zl 5 ag_22 ?_ | refine Run.loadO 5 _ 0 rfl rfl ag_22 rfl rfl rfl rfl (by assumption) rfl ?_ | refine Run.loadO 5 _ _ rfl rfl ag_22 rfl rfl rfl rfl (by assumption) rfl ?_ | refine Run.loadR rfl rfl ag_22 rfl rfl (by first | assumption | exact SlR.cell0 (by assumption) (by assumption) rfl | exact SlR.cell (by assumption) (by assumption) rfl) ?_)
      all_goals (first | refine Zv ?_ | refine Zf fo_24_1 ?_)
      all_goals (first | refine Zv ?_ | refine Zl 0 ag_3 ?_ | refine Run.loadO 0 _ 0 rfl rfl ag_3 rfl rfl rfl rfl (by assumption) rfl ?_ | refine Run.loadO 0 _ _ rfl rfl ag_3 rfl rfl rfl rfl (by assumption) rfl ?_ | refine Zl 1 ag_3 ?_ | refine Run.loadO 1 _ 0 rfl rfl ag_3 rfl rfl rfl rfl (by assumption) rfl ?_ | refine Run.loadO 1 _ _ rfl rfl ag_3 rfl rfl rfl rfl (by assumption) rfl ?_ | refine Zl 2 ag_3 ?_ | refine Run.loadO 2 _ 0 rfl rfl ag_3 rfl rfl rfl rfl (by assumption) rfl ?_ | refine Run.loadO 2 _ _ rfl rfl ag_3 rfl rfl rfl rfl (by assumption) rfl ?_ | refine Zl 3 ag_3 ?_ | refine Run.loadO 3 _ 0 rfl rfl ag_3 rfl rfl rfl rfl (by assumption) rfl ?_ | refine Run.loadO 3 _ _ rfl rfl ag_3 rfl rfl rfl rfl (by assumption) rfl ?_ | refine Zl 4 ag_3 ?_ | refine Run.loadO 4 _ 0 rfl rfl ag_3 rfl rfl rfl rfl (by assumption) rfl ?_ | refine Run.loadO 4 _ _ rfl rfl ag_3 rfl rfl rfl rfl (by assumption) rfl ?_ | refine Zl 5 ag_3 ?_ | refine Run.loadO 5 _ 0 rfl rfl ag_3 rfl rfl rfl rfl (by assumption) rfl ?_ | refine Run.loadO 5 _ _ rfl rfl ag_3 rfl rfl rfl rfl (by assumption) rfl ?_ | refine Run.loadR rfl rfl ag_3 rfl rfl (by first | assumption | exact SlR.cell0 (by assumption) (by assumption) rfl | exact SlR.cell (by assumption) (by assumption) rfl) ?_)
      all_goals (first | refine Zv ?_ | fail)
      all_goals (first | refine Zv ?_ | refine Zf fo_51_1 ?_)
      all_goals (first | refine Zv ?_ | fail)
      all_goals (first | refine Zv ?_ | fail)
      all_goals (first | refine Zv ?_ | refine Zi ?_)
      all_goals (first | refine Run.tt (by first | assumption | omega) ?_ | refine Run.ff (by first | assumption | omega) ?_ | refine Run.split (fun hc72 => ?_) (fun hc72 => ?_) | refine Run.splitB (fun hc72 => ?_) (fun hc72 => ?_) | skip)
      all_goals (first | refine Zq ?_)
      all_goals (first | refine Zm ?_)
      all_goals (first | refine Zv ?_ | refine Zf fo_24_0 ?_)
      all_goals (first | refine Zv ?_ | refine Zl 0 ag_22 ?_ | refine Run.loadO 0 _ 0 rfl rfl ag_22 rfl rfl rfl rfl (by assumption) rfl ?_ | refine Run.loadO 0 _ _ rfl rfl ag_22 rfl rfl rfl rfl (by assumption) rfl ?_ | refine Zl 1 ag_22 ?_ | refine Run.loadO 1 _ 0 rfl rfl ag_22 rfl rfl rfl rfl (by assumption) rfl ?_ | refine Run.loadO 1 _ _ rfl rfl ag_22 rfl rfl rfl rfl (by assumption) rfl ?_ | refine Zl 2 ag_22 ?_ | refine Run.loadO 2 _ 0 rfl rfl ag_22 rfl rfl rfl rfl (by assumption) rfl ?_ | refine Run.loadO 2 _ _ rfl rfl ag_22 rfl rfl rfl rfl (by assumption) rfl ?_ | refine Zl 3 ag_22 ?_ | refine Run.loadO 3 _ 0 rfl rfl ag_22 rfl rfl rfl rfl (by assumption) rfl ?_ | refine Run.loadO 3 _ _ rfl rfl ag_22 rfl rfl rfl rfl (by assumption) rfl ?_ | refine Zl 4 ag_22 ?_ | refine Run.loadO 4 _ 0 rfl rfl ag_22 rfl rfl rfl rfl (by assumption) rfl ?_ | refine Run.loadO 4 _ _ rfl rfl ag_22 rfl rfl rfl rfl (by assumption) rfl ?_ | refine Zl 5 ag_22 ?_ | refine Run.loadO 5 _ 0 rfl rfl ag_22 rfl rfl rfl rfl (by assumption) rfl ?_ | refine Run.loadO 5 _ _ rfl rfl ag_22 rfl rfl rfl rfl (by assumption) rfl ?_ | refine Run.loadR rfl rfl ag_22 rfl rfl (by first | assumption | exact SlR.cell0 (by assumption) (by assumption) rfl | exact SlR.cell (by assumption) (by assumption) rfl) ?_)
      all_goals (first | refine Zv ?_ | refine Zf fo_24_1 ?_)
      all_goals (first | refine Zv ?_ | refine Zl 0 ag_3 ?_ | refine Run.loadO 0 _ 0 rfl rfl ag_3 rfl rfl rfl rfl (by assumption) rfl ?_ | refine Run.loadO 0 _ _ rfl rfl ag_3 rfl rfl rfl rfl (by assumption) rfl ?_ | refine Zl 1 ag_3 ?_ | refine Run.loadO 1 _ 0 rfl rfl ag_3 rfl rfl rfl rfl (by assumption) rfl ?_ | refine Run.loadO 1 _ _ rfl rfl ag_3 rfl rfl rfl rfl (by assumption) rfl ?_ | refine Zl 2 ag_3 ?_ | refine Run.loadO 2 _ 0 rfl rfl ag_3 rfl rfl rfl rfl (by assumption) rfl ?_ | refine Run.loadO 2 _ _ rfl rfl ag_3 rfl rfl rfl rfl (by assumption) rfl ?_ | refine Zl 3 ag_3 ?_ | refine Run.loadO 3 _ 0 rfl rfl ag_3 rfl rfl rfl rfl (by assumption) rfl ?_ | refine Run.loadO 3 _ _ rfl rfl ag_3 rfl rfl rfl rfl (by assumption) rfl ?_ | refine Zl 4 ag_3 ?_ | refine Run.loadO 4 _ 0 rfl rfl ag_3 rfl rfl rfl rfl (by assumption) rfl ?_ | refine Run.loadO 4 _ _ rfl rfl ag_3 rfl rfl rfl rfl (by assumption) rfl ?_ | refine Zl 5 ag_3 ?_ | refine Run.loadO 5 _ 0 rfl rfl ag_3 rfl rfl rfl rfl (by assumption) rfl ?_ | refine Run.loadO 5 _ _ rfl rfl ag_3 rfl rfl rfl rfl (by assumption) rfl ?_ | refine Run.loadR rfl rfl ag_3 rfl rfl (by first | assumption | exact SlR.cell0 (by assumption) (by assumption) rfl | exact SlR.cell (by assumption) (by assumption) rfl) ?_)
      all_goals (first | refine Zv ?_ | fail)
      all_goals (first | refine Zv ?_ | refine Zf fo_51_2 ?_)
      all_goals (first | refine Zv ?_ | fail)
      all_goals (first | refine Zv ?_ | refine Zi ?_)
      all_goals (first | refine Zq ?_)
      all_goals (refine Run.nil ?_)
      all_goals refine thn_next ⟨⟨rfl, ?_, trivial⟩, ent.none _⟩
      all_goals (simp [Env.get, *] <;> omega)
  refine WP.ite rfl (fun hbad => ?_) (fun hg => ?_)
  · refine Zp ?_
    refine Zm ?_
    refine Ze ?_
    refine WP.ret ?_; refine thn_ret ?_
    exact retT [2] _ rfl rfl ⟨_, ent.none _, by rw [hbad]; rfl, rfl⟩
  refine Zb ?_
  refine Zp ?_
  refine Zm ?_
  refine Ze ?_
  refine WP.ret ?_
  exact retT [2] _ rfl rfl ⟨_, ent.none _, by rw [btrue hg]; rfl, rfl⟩
end Go.Proofs.YtfaokbjpinlcaaaGreat
end
section
/- The document's lexer: all tokens; a function's name; walked. -/
namespace Go.Proofs.YtfaokbjpinlcaaaGreat
open Go.Sep
set_option linter.unusedSimpArgs false
set_option linter.unusedVariables false
set_option maxRecDepth 100000
attribute [local irreducible] blk slA mp mpF rows rowsBut many mpK mpE nameL roP
set_option maxHeartbeats 4000000 in
theorem refTokens_ok (hR : Heap) (sv : SV) (xs : List Int) (H : TxV hR sv xs) :
    Tri Tryz.prog hR 106 #[sv.val] [] fun v Γ' => ∃ (lv : SV) (T : List TK) (p e : Int), v = .tuple #[lv.val, .int .i64 p, .int .i64 e] ∧ TokRes xs T e ∧ Γ' = [slA 142 encTok lv.val T] := by
  have hl := H.hl
  have hs := H.hs
  refine Tri.ent (Tri.of (args := [sv.val]) Tryz.func106 rfl Tryz.ntmps106 (by simp) ?_)
  refine Zp ?_
  iterate 3 refine Zm ?_
  refine Ze ?_
  refine Zp ?_
  refine Zm ?_
  refine Ze ?_
  refine Zp ?_
  refine Zm ?_
  refine Ze ?_
  refine WP.block ?_
  refine WP.trim [0, 2, 3, 4, 5, 6] [] ?_
  refine WP.via (Γ' := [slA 142 encTok nilS.val []]) (slA_nil 142 encTok _) ?_
  refine WP.loopC (α := Nat × SV × List TK) (fun z => TokGo xs z.2.2 z.1) (fun z => [(5, z.2.1.val), (6, .int .i64 (z.1 : Int))]) (fun z => [(0, slA 142 encTok z.2.1.val z.2.2)]) (fun z => xs.length - z.1) (0, nilS, []) ⟨Nat.zero_le _, fun x hx => by simp at hx, Nat.zero_le _, fun _ => .inl ⟨rfl, rfl⟩⟩ ?_
  rintro ⟨a, ov, T⟩ hg
  simp only at hg ⊢
  have ha := hg.1
  refine WP.block ?_
  refine WP.trim [0, 2, 3, 4, 5, 6] [0] ?_
  refine Zp ?_
  refine Zm ?_
  refine Zm ?_
  refine Run.callP [] ok_152 (blank_ok hR sv xs a H ha) ?_; rintro _ _ ⟨bb, a1, rfl, h1, h2, h3, rfl⟩
  refine Zm ?_
  refine Run.extract rfl rfl rfl rfl rfl ?_
  refine Run.extract rfl rfl rfl rfl rfl ?_
  refine Zm ?_
  refine Zm ?_
  refine Ze ?_
  refine WP.seq ?_
  refine Zp ?_
  refine Zm ?_
  refine Run.bnotB rfl rfl rfl rfl ?_
  refine Run.eqv (v' := .bool (decide (bb = false))) (by cases bb <;> rfl) ?_
  refine Ze ?_
  refine WP.ite rfl (fun hb => ?_) (fun hb => ?_)
  · refine Zp ?_
    iterate 5 refine Zm ?_
    refine Ze ?_
    refine WP.ret ?_; refine thn_ret ?_; refine blk_ret ?_; refine thn_ret ?_; refine blk_ret ?_
    exact retT [2, 3, 4] _ rfl rfl ⟨[slA 142 encTok ov.val T], ent.go, ov, T, _, _, rfl, hg.err (fun hn => by have := (h3 (hg.stop hn)).1; rw [hb] at this; cases this), rfl⟩
  refine Zb ?_
  refine WP.seq ?_
  refine Zp ?_
  refine Zm ?_
  refine Zm ?_
  refine Zh sl_140 hs ?_
  refine Zi ?_
  refine Ze ?_
  refine WP.ite rfl (fun he => ?_) (fun he => ?_)
  · refine Zp ?_
    iterate 4 refine Zm ?_
    refine Ze ?_
    refine WP.ret ?_; refine thn_ret ?_; refine blk_ret ?_; refine thn_ret ?_; refine blk_ret ?_
    exact retT [2, 3, 4] _ rfl rfl ⟨[slA 142 encTok ov.val T], ent.go, ov, T, _, _, rfl, hg.fin (fun hn => by have := (h3 (hg.stop hn)).2; omega), rfl⟩
  refine Zb ?_
  have hlt : a1 < xs.length := by omega
  refine WP.trim [0, 2, 3, 4, 5, 6, 7] [0] ?_
  refine Zp ?_
  refine Zm ?_
  refine Zm ?_
  refine Run.callP [] ok_153 (token153_ok hR sv xs a1 H hlt) ?_; rintro _ _ ⟨_, e, a2, rfl, ⟨q1, q2, k, t, v, nm, rfl, q3, q4⟩, rfl⟩
  refine Zm ?_
  refine Run.extract rfl rfl rfl rfl rfl ?_
  refine Run.extract rfl rfl rfl rfl rfl ?_
  refine Run.extract rfl rfl rfl rfl rfl ?_
  refine Run.alloc rfl zr_142 rfl rfl rfl ?_
  intro b9
  refine Run.storeB 1 rfl rfl rfl rfl ag_142 rfl rfl rfl rfl rfl ?_
  refine Zm ?_
  refine Zm ?_
  refine Ze ?_
  refine WP.trim [0, 2, 3, 4, 5, 6, 7, 9, 10, 11] [0, 1] ?_
  refine WP.seq ?_
  refine Zp ?_
  refine Zm ?_
  refine Zi ?_
  refine Ze ?_
  refine WP.ite rfl (fun he => ?_) (fun he => ?_)
  · have hne : nameL xs = true → False := fun hn => by
      have e1 := (h3 (hg.stop hn)).2
      rcases hg.2.2.2 hn with ⟨e0, _⟩ | ⟨e0, _⟩
      · exact he (q4 (by omega) hn).1
      · omega
    refine Zp ?_
    iterate 6 refine Zm ?_
    refine Ze ?_
    refine WP.ret ?_; refine thn_ret ?_; refine blk_ret ?_; refine thn_ret ?_; refine blk_ret ?_
    exact retT [2, 3, 4] _ rfl rfl ⟨[slA 142 encTok ov.val T], ent.go, ov, T, _, _, rfl, hg.err hne, rfl⟩
  refine Zb ?_
  have he0 : e = 0 := Decidable.not_not.1 he
  have hgT := hg.2.2.1
  refine Zp ?_
  refine Zm ?_
  refine Run.loadBagg 1 rfl rfl ag_142 rfl rfl rfl rfl rfl ?_
  refine Run.buildSlice (E := encTok) rfl sl_137 zr_142 ([(⟨k, t, v, nm⟩ : TK)]) rfl rfl rfl (by decide) rfl rfl ?_
  intro b41
  refine Run.append (E := encTok) (xs := T) (ys := [(⟨k, t, v, nm⟩ : TK)]) 0 rfl rfl rfl rfl rfl rfl sl_137 zr_142 rfl (src_own 2 rfl) (by simp only [List.length_singleton]; omega) (by simp only [List.length_singleton]; omega) ?_
  intro sv9 hsv9
  refine Zm ?_
  refine Ze ?_
  refine Zc ?_
  refine Zm ?_
  refine Zm ?_
  refine Run.nil ?_
  refine blk_norm ?_
  exact thn_next ⟨(a2, sv9, T ++ [⟨k, t, v, nm⟩]), hg.snoc (fun h => (h3 h).2) hlt q2 h1 (q3 he0) (fun h0 hn => (q4 h0 hn).2), by have := (q3 he0).1; simp only; omega, Ko.go, ent.gc⟩
set_option maxHeartbeats 4000000 in
theorem rnamed_ok (hR : Heap) (s : ByteArray) (hl : s.size ≤ 2000000) : Tri Tryz.prog hR 50 #[.string s] [] fun v Γ' => v = .bool (nmB s) ∧ Γ' = [] := by
  refine Tri.ent (Tri.of (args := [.string s]) Tryz.func50 rfl Tryz.ntmps50 (by simp) ?_)
  refine Zp ?_
  refine Zm ?_
  refine Ze ?_
  refine Zp ?_
  refine Zm ?_
  refine Run.toBytes rfl rfl rfl rfl rfl rfl rfl ?_; intro bq cq
  refine Run.callL [] [0] ok_106 (fun g hg hd => refTokens_ok (un hR g) ⟨some ⟨bq, 0, none⟩, s.size, cq⟩ (bts s) (txv_bts (roP_lend hg hR hd) hl)) ?_; rintro _ _ ⟨lv, T, p, e, rfl, hT, rfl⟩
  refine Zm ?_
  refine Run.extract rfl rfl rfl rfl rfl ?_
  refine Run.extract rfl rfl rfl rfl rfl ?_
  refine Run.extract rfl rfl rfl rfl rfl ?_
  iterate 3 refine Zm ?_
  refine Ze ?_
  refine WP.trim [0, 2, 3, 5] [0] ?_
  have hTl := hT.2.1
  rw [bts_len] at hTl
  refine WP.seqCut [(2, .bool (nmB s))] [] ?_ ?_
  · by_cases h1 : T.length = 1
    · obtain ⟨x, rfl⟩ : ∃ x, T = [x] := List.length_eq_one_iff.1 h1
      rw [hT.one]
      refine Zc ?_
      all_goals (first | refine Zm ?_)
      all_goals (first | refine Zi ?_)
      all_goals (first | refine Run.tt (by first | assumption | omega) ?_ | refine Run.ff (by first | assumption | omega) ?_ | refine Run.split (fun hc14 => ?_) (fun hc14 => ?_) | refine Run.splitB (fun hc14 => ?_) (fun hc14 => ?_) | skip)
      all_goals (first | refine Zm ?_)
      all_goals (first | refine Zv ?_ | refine Zm ?_)
      all_goals (first | refine Zv ?_ | refine Run.lenO 0 rfl rfl sl_137 rfl rfl rfl ?_)
      all_goals (first | refine Zv ?_ | refine Zi ?_)
      all_goals (first | refine Run.tt (by first | assumption | omega) ?_ | refine Run.ff (by first | assumption | omega) ?_ | refine Run.split (fun hc18 => ?_) (fun hc18 => ?_) | refine Run.splitB (fun hc18 => ?_) (fun hc18 => ?_) | skip)
      all_goals (first | refine Zq ?_)
      all_goals (first | refine Zm ?_)
      all_goals (first | refine Zv ?_ | refine Zm ?_)
      all_goals (first | refine Zv ?_ | refine Run.idxO 0 rfl rfl rfl sl_137 rfl rfl rfl rfl (by omega) (by simp) ?_)
      all_goals (first | refine Zv ?_ | refine Zf fo_142_0 ?_)
      all_goals (first | refine Zv ?_ | refine Run.loadO 0 0 0 (y := x) rfl rfl ag_3 rfl rfl rfl rfl rfl rfl ?_)
      all_goals (first | refine Zv ?_ | refine Zi ?_)
      all_goals (first | refine Run.tt (by first | assumption | omega) ?_ | refine Run.ff (by first | assumption | omega) ?_ | refine Run.split (fun hc25 => ?_) (fun hc25 => ?_) | refine Run.splitB (fun hc25 => ?_) (fun hc25 => ?_) | skip)
      all_goals (first | refine Zq ?_)
      all_goals (first | refine Zm ?_)
      all_goals (first | refine Zv ?_ | refine Zm ?_)
      all_goals (first | refine Zv ?_ | refine Run.idxO 0 rfl rfl rfl sl_137 rfl rfl rfl rfl (by omega) (by simp) ?_)
      all_goals (first | refine Zv ?_ | refine Zf fo_142_3 ?_)
      all_goals (first | refine Zv ?_ | refine Run.loadO 0 0 3 (y := x) rfl rfl ag_9 rfl rfl rfl rfl rfl rfl ?_)
      all_goals (first | refine Zv ?_ | refine Zm ?_)
      all_goals (first | refine Zv ?_ | refine Run.eqStr rfl rfl rfl rfl rfl ?_)
      all_goals (first | refine Zq ?_)
      all_goals (first | refine Zm ?_)
      all_goals (refine Run.nil ?_)
      all_goals refine thn_next ⟨⟨?_, trivial⟩, ent.none _⟩
      all_goals simp [Env.get, *]
    · rw [hT.many h1]
      have h1' : ¬ (T.length : Int) = 1 := by omega
      refine Zc ?_
      all_goals (first | refine Zm ?_)
      all_goals (first | refine Zi ?_)
      all_goals (first | refine Run.tt (by first | assumption | omega) ?_ | refine Run.ff (by first | assumption | omega) ?_ | refine Run.split (fun hc14 => ?_) (fun hc14 => ?_) | refine Run.splitB (fun hc14 => ?_) (fun hc14 => ?_) | skip)
      all_goals (first | refine Zm ?_)
      all_goals (first | refine Zv ?_ | refine Zm ?_)
      all_goals (first | refine Zv ?_ | refine Run.lenO 0 rfl rfl sl_137 rfl rfl rfl ?_)
      all_goals (first | refine Zv ?_ | refine Zi ?_)
      all_goals (first | refine Run.tt (by first | assumption | omega) ?_ | refine Run.ff (by first | assumption | omega) ?_ | refine Run.split (fun hc18 => ?_) (fun hc18 => ?_) | refine Run.splitB (fun hc18 => ?_) (fun hc18 => ?_) | skip)
      all_goals (first | refine Zq ?_)
      all_goals (first | refine Zm ?_)
      all_goals (first | refine Zv ?_ | refine Zm ?_)
      all_goals (first | refine Zv ?_ | fail)
      all_goals (first | refine Zv ?_ | refine Zf fo_142_0 ?_)
      all_goals (first | refine Zv ?_ | fail)
      all_goals (first | refine Zv ?_ | refine Zi ?_)
      all_goals (first | refine Run.tt (by first | assumption | omega) ?_ | refine Run.ff (by first | assumption | omega) ?_ | refine Run.split (fun hc25 => ?_) (fun hc25 => ?_) | refine Run.splitB (fun hc25 => ?_) (fun hc25 => ?_) | skip)
      all_goals (first | refine Zq ?_)
      all_goals (first | refine Zm ?_)
      all_goals (first | refine Zv ?_ | refine Zm ?_)
      all_goals (first | refine Zv ?_ | fail)
      all_goals (first | refine Zv ?_ | refine Zf fo_142_3 ?_)
      all_goals (first | refine Zv ?_ | fail)
      all_goals (first | refine Zv ?_ | refine Zm ?_)
      all_goals (first | refine Zv ?_ | refine Run.eqStr rfl rfl rfl rfl rfl ?_)
      all_goals (first | refine Zq ?_)
      all_goals (first | refine Zm ?_)
      all_goals (refine Run.nil ?_)
      all_goals refine thn_next ⟨⟨?_, trivial⟩, ent.none _⟩
      all_goals simp [Env.get, *]
  refine WP.ret ?_
  exact retT [2] _ rfl rfl ⟨_, ent.none _, rfl, rfl⟩
/-- the program's check -/
theorem check23_ok (hR : Heap) (A : AL) (fv : SV) (hA : ALv hR A fv) : Tri Tryz.prog hR 23 #[.agg ⟨alv A fv⟩] [] fun r Γ' => r = .int .i64 (if okA nmB A then 0 else 190) ∧ Γ' = [] :=
  check_ok nmB (fun hR s hs => named_ok hR s hs) hR A fv hA
/-- the document's check -/
theorem check26_ok (hR : Heap) (A : AL) (fv : SV) (hA : ALv hR A fv) : Tri Tryz.prog hR 26 #[.agg ⟨alv A fv⟩] [] fun r Γ' => r = .int .i64 (if okA nmB A then 0 else 190) ∧ Γ' = [] :=
  rcheck_ok nmB (fun hR s hs => rnamed_ok hR s hs) hR A fv hA
end Go.Proofs.YtfaokbjpinlcaaaGreat
end
section
/- A program's code; walked. -/
namespace Go.Proofs.YtfaokbjpinlcaaaGreat
open Go.Sep
set_option linter.unusedSimpArgs false
set_option linter.unusedVariables false
set_option maxRecDepth 100000
attribute [local irreducible] blk slA mp mpF rows rowsBut many mpK mpE nameL
noncomputable def emS (st : List RI × List RF) (F : AF) : List RI × List RF :=
  (st.1 ++ codeC (savS F) F st.1.length, st.2 ++ [⟨F.name, slotW (savS F) F.slots, st.1.length, (codeC (savS F) F st.1.length).length, F.params.length⟩])
noncomputable def emL (l : List AF) : List RI × List RF := l.foldl emS ([], [])
theorem emL_step {l : List AF} {i : Nat} {F : AF} (h : l[i]? = some F) : emL (l.take (i + 1)) = emS (emL (l.take i)) F := by
  unfold emL
  rw [List.take_add_one, h, List.foldl_append]; rfl
theorem wordR_ok (hR : Heap) (bm : Nat) (S : List Int) (sv : SV) (s : Int) (hs : -1000000 ≤ s ∧ s ≤ 1000000) (hl : S.length ≤ 1000000) (hc : cellH hR ⟨bm, 7, none⟩ sv.val) (hS : SlR rdI hR sv.val S) :
    Tri Tryz.prog hR 25 #[ptrV bm, vI s] [] fun v Γ' => v = vI (slotW S s) ∧ Γ' = [] := by
  refine Tri.ent (Tri.of (args := [ptrV bm, vI s]) Tryz.func25 rfl Tryz.ntmps25 (by simp) ?_)
  refine Zp ?_
  refine Zm ?_
  refine Ze ?_
  refine Zp ?_
  refine Zm ?_
  refine Zn ?_
  refine Zf fo_85_3 ?_
  refine Zr ag_44 hc ?_
  refine Zh sl_44 hS ?_
  refine Za ?_
  refine Zm ?_
  refine Za ?_
  refine Zm ?_
  refine Ze ?_
  refine WP.ret ?_
  exact retT [4] _ rfl rfl ⟨_, ent.none _, rfl, rfl⟩
set_option maxHeartbeats 4000000 in
theorem emit_ok (hR : Heap) (A : AL) (fv : SV) (hA : ALv hR A fv) :
    Tri Tryz.prog hR 9 #[.agg ⟨alv A fv⟩] [] fun v Γ' => (okA nmB A = true ∧ ∃ iv gv : SV, v = .tuple #[.agg ⟨[iv.val, gv.val, vI A.main]⟩, vI 0] ∧ Γ' = [slA 38 encRI iv.val (emL A.funcs).1, slA 77 encRF gv.val (emL A.funcs).2]) ∨
      (okA nmB A = false ∧ v = .tuple #[.agg ⟨[nilS.val, nilS.val, vI 0]⟩, vI 190] ∧ Γ' = []) := by
  have hf := hA.hf
  have hl1 := hA.sm.sf
  refine Tri.ent (Tri.of (args := [.agg ⟨alv A fv⟩]) Tryz.func9 rfl Tryz.ntmps9 (by simp) ?_)
  refine Zp ?_
  refine Run.box rfl rfl rfl rfl rfl ?_
  intro b1
  refine Run.alloc rfl zr_32 rfl rfl rfl ?_
  intro b2
  refine Zm ?_
  refine Ze ?_
  refine WP.seq ?_
  refine Zp ?_
  refine Run.loadBagg 0 rfl rfl ag_24 rfl rfl rfl rfl rfl ?_
  refine Run.callP [] ok_23 (check23_ok hR A fv hA) ?_; rintro _ _ ⟨rfl, rfl⟩
  refine Zm ?_
  refine Ze ?_
  refine Zp ?_
  refine Zm ?_
  refine Zi ?_
  refine Run.eqv (v' := .bool (decide (okA nmB A = false))) (by cases okA nmB A <;> rfl) ?_
  refine Ze ?_
  refine WP.ite rfl (fun hbad => ?_) (fun hgood => ?_)
  · rw [hbad]
    refine Zp ?_
    refine Run.build rfl bd_32 rfl rfl rfl rfl ?_
    refine Zm ?_
    refine Run.storeB 1 rfl rfl rfl rfl ag_32 rfl rfl rfl rfl rfl ?_
    refine Zm ?_
    refine Ze ?_
    refine WP.ret ?_; refine thn_ret ?_
    exact retCT 2 1 3 ag_32 rfl rfl rfl rfl rfl ⟨_, ent.none _, .inr ⟨rfl, rfl, rfl⟩⟩
  refine Zb ?_
  have hok := btrue hgood
  rw [hok]
  refine WP.trim [1, 2, 3] [0, 1] ?_
  refine Zp ?_
  refine Zf fo_24_1 ?_
  refine Zl 0 ag_3 ?_
  refine Run.build rfl bd_32 rfl rfl rfl rfl ?_
  refine Run.alloc rfl zr_32 rfl rfl rfl ?_
  intro b5
  refine Run.storeB 2 rfl rfl rfl rfl ag_32 rfl rfl rfl rfl rfl ?_
  refine Ze ?_
  refine WP.trim [1, 2, 3, 5] [0, 1, 2] ?_
  refine WP.via (Γ' := [blk b1 (alv A fv) 24, blk b2 [nilS.val, nilS.val, vI 0] 32, blk b5 [nilS.val, nilS.val, vI A.main] 32, slA 38 encRI nilS.val [], slA 77 encRF nilS.val []]) ((slA_nil 38 encRI _).trans (slA_nil 77 encRF _)) ?_
  refine WP.meetC (α := SV × SV) (fun _ => True) (fun _ => []) (fun z => [(2, blk b5 [z.1.val, z.2.val, vI A.main] 32), (3, slA 38 encRI z.1.val (emL A.funcs).1), (4, slA 77 encRF z.2.val (emL A.funcs).2)]) ?_ ?_
  · refine Zp ?_
    refine Zf fo_24_0 ?_
    refine Zl 0 ag_22 ?_
    refine Zh sl_22 hf ?_
    refine Zm ?_
    refine Ze ?_
    refine WP.block ?_
    refine WP.trim [1, 2, 3, 5, 19, 20, 21] [0, 1, 2, 3, 4] ?_
    refine WP.loopC (α := Nat × SV × SV) (fun z => z.1 ≤ A.funcs.length ∧ (emL (A.funcs.take z.1)).1.length ≤ 3000000 * z.1 ∧ (emL (A.funcs.take z.1)).2.length = z.1) (fun z => [(21, vI (z.1 : Int))]) (fun z => [(2, blk b5 [z.2.1.val, z.2.2.val, vI A.main] 32), (3, slA 38 encRI z.2.1.val (emL (A.funcs.take z.1)).1), (4, slA 77 encRF z.2.2.val (emL (A.funcs.take z.1)).2)]) (fun z => A.funcs.length - z.1) (0, nilS, nilS) ⟨Nat.zero_le _, Nat.zero_le _, rfl⟩ ?_
    rintro ⟨i, iv, gv⟩ ⟨hi, hlI, hlF⟩
    simp only at hi hlI hlF ⊢
    refine WP.trim [1, 2, 3, 5, 19, 20, 21] [0, 1, 2, 3, 4] ?_
    refine Zp ?_
    refine Zi ?_
    refine Ze ?_
    refine WP.seq ?_
    refine WP.ite rfl (fun hlt => ?_) (fun hge => ?_)
    · refine Zb ?_
      obtain ⟨F, gF⟩ : ∃ b, A.funcs[(i : Int).toNat]? = some b := ⟨_, List.getElem?_eq_getElem (by omega)⟩
      have gF' : A.funcs[i]? = some F := gF
      have hstep := emL_step gF'
      have hFo := okA_fun hok hA.sm (List.mem_of_getElem? gF)
      obtain ⟨_, ⟨fu0, fv0, rfl, hfu, hfv⟩, hrow⟩ := hf.at gF
      obtain ⟨fu, rfl, _, _⟩ := SlR.sv hfu
      obtain ⟨fw, rfl, _, _⟩ := SlR.sv hfv
      generalize emL (A.funcs.take i) = st at hlI hlF hstep ⊢
      obtain ⟨is, gs⟩ := st
      simp only at hlI hlF ⊢
      refine WP.seq ?_
      refine WP.block ?_
      refine Zp ?_
      refine Zx sl_22 hf ?_
      refine Run.loadRagg rfl rfl ag_51 rfl rfl hrow (by rfl) ?_
      refine Run.alloc rfl zr_51 rfl rfl rfl ?_
      intro b7
      refine Run.storeB 5 rfl rfl rfl rfl ag_51 rfl rfl rfl rfl rfl ?_
      refine Ze ?_
      refine WP.trim [1, 2, 3, 5, 7, 19, 20, 21] [0, 1, 2, 3, 4, 5] ?_
      refine Zp ?_
      refine Run.loadBagg 5 rfl rfl ag_51 rfl rfl rfl rfl rfl ?_
      refine Zf fo_32_0 ?_
      refine Zl 2 ag_29 ?_
      refine Run.lenO 3 rfl rfl sl_29 rfl rfl rfl ?_
      refine Run.makeMapF rfl rfl rfl ?_
      intro b29
      refine Run.build rfl bd_85 rfl rfl rfl rfl ?_
      refine Run.box rfl rfl rfl rfl rfl ?_
      intro b31
      refine Zm ?_
      refine Ze ?_
      refine WP.trim [1, 2, 3, 5, 7, 8, 19, 20, 21] [0, 1, 2, 3, 4, 5, 6, 7] ?_
      refine WP.via (Γ' := [blk b31 [.string F.name, fu.val, vI F.result, vI F.slots, fw.val, vI (is.length : Int), nilS.val, nilS.val, .map (some b29), nilS.val] 85, slA 38 encRI nilS.val [], slA 3 encI nilS.val [], mpF b29 (fun _ => none), slA 3 encI nilS.val [], blk b1 (alv A fv) 24, blk b2 [nilS.val, nilS.val, vI 0] 32, blk b5 [iv.val, gv.val, vI A.main] 32, slA 38 encRI iv.val is, slA 77 encRF gv.val gs, blk b7 (afv F fu.val fw.val) 51]) (((slA_nil 38 encRI _).trans ((slA_nil 3 encI _).trans (slA_nil 3 encI _))).trans ent.go) ?_
      refine WP.via (Γ' := [mkP b31 ⟨F, fu.val, fw.val, (is.length : Int), b29⟩ [] [] (fun _ => none) [], blk b1 (alv A fv) 24, blk b2 [nilS.val, nilS.val, vI 0] 32, blk b5 [iv.val, gv.val, vI A.main] 32, slA 38 encRI iv.val is, slA 77 encRF gv.val gs, blk b7 (afv F fu.val fw.val) 51]) (mkP_shut (M := ⟨F, fu.val, fw.val, (is.length : Int), b29⟩) ⟨nilS, nilS, nilS⟩ [blk b1 (alv A fv) 24, blk b2 [nilS.val, nilS.val, vI 0] 32, blk b5 [iv.val, gv.val, vI A.main] 32, slA 38 encRI iv.val is, slA 77 encRF gv.val gs, blk b7 (afv F fu.val fw.val) 51]) ?_
      refine Zp ?_
      refine Zm ?_
      refine Run.callP [0] ok_24 (function_ok hR b31 ⟨F, fu.val, fw.val, (is.length : Int), b29⟩ fu fw rfl rfl ⟨hfu, hfv⟩ hFo ⟨by simp only; omega, by simp only; omega⟩) ?_; rintro _ _ ⟨⟨pl, js, rfl⟩, hcl⟩
      refine Ze ?_
      simp only at hcl ⊢
      have hS8 := savS_len F
      have hsl := hFo.sl
      have e2 : emS (is, gs) F = (is ++ codeC (savS F) F (is.length : Int), gs ++ [⟨F.name, slotW (savS F) F.slots, is.length, (codeC (savS F) F (is.length : Int)).length, F.params.length⟩]) := rfl
      generalize savS F = S at hS8 hcl e2 ⊢
      generalize codeC S F (is.length : Int) = code at hcl e2 ⊢
      refine WP.openX 0 ?_
      rintro ⟨cv, sv, jv⟩ _
      refine WP.trim [1, 2, 3, 5, 7, 8, 19, 20, 21] [5, 6, 8, 9, 1, 7, 10, 0, 2] ?_
      refine WP.seq ?_
      refine WP.via (Γ' := [blk b1 (alv A fv) 24, blk b2 [nilS.val, nilS.val, vI 0] 32, slA 38 encRI iv.val is, slA 77 encRF gv.val gs, slA 38 encRI cv.val code] ++ [blk b5 [iv.val, gv.val, vI A.main] 32, blk b7 (afv F fu.val fw.val) 51, blk b31 [.string F.name, fu.val, vI F.result, vI F.slots, fw.val, vI (is.length : Int), cv.val, sv.val, .map (some b29), jv.val] 85, slA 3 encI sv.val S]) (ent.refl _) ?_
      refine WP.drawnF cfF [0, 1, 2, 3, 4, 5, 6, 7, 8, 9, 10, 11, 12, 13, 14, 15, 16, 17, 18, 19, 20, 21, 22, 23] [24] ([blk b5 [iv.val, gv.val, vI A.main] 32, blk b7 (afv F fu.val fw.val) 51, blk b31 [.string F.name, fu.val, vI F.result, vI F.slots, fw.val, vI (is.length : Int), cv.val, sv.val, .map (some b29), jv.val] 85, slA 3 encI sv.val S]) mixed rfl rfl (by kernel_rfl) (fun gF hgF hdF => ?_)
      refine Zf fo_32_1 ?_
      refine Run.loadF rfl rfl ag_30 rfl rfl (lent_blk (v := gv.val) 0 1 rfl rfl hgF hdF) ?_
      refine Zf fo_51_0 ?_
      refine Run.loadF rfl rfl ag_9 rfl rfl (lent_blk (v := .string F.name) 1 0 rfl rfl hgF hdF) ?_
      refine Zm ?_
      refine Zf fo_51_3 ?_
      refine Run.loadF rfl rfl ag_3 rfl rfl (lent_blk (v := vI F.slots) 1 3 rfl rfl hgF hdF) ?_
      refine Run.callP [] ok_25 (wordR_ok (un hR gF) b31 S sv F.slots (by omega) (by omega) (lent_blk (v := sv.val) 2 7 rfl rfl hgF hdF) (lent_at 3 rfl hgF hdF)) ?_; rintro _ _ ⟨rfl, rfl⟩
      refine Zm ?_
      refine Zn ?_
      refine Zf fo_85_1 ?_
      refine Run.loadF rfl rfl ag_3 rfl rfl (lent_blk (v := vI (is.length : Int)) 2 5 rfl rfl hgF hdF) ?_
      refine Zm ?_
      refine Zn ?_
      refine Zf fo_85_2 ?_
      refine Run.loadF rfl rfl ag_29 rfl rfl (lent_blk (v := cv.val) 2 6 rfl rfl hgF hdF) ?_
      refine Run.lenO 4 rfl rfl sl_29 rfl rfl rfl ?_
      refine Zf fo_51_1 ?_
      refine Run.loadF rfl rfl ag_48 rfl rfl (lent_blk (v := fu.val) 1 1 rfl rfl hgF hdF) ?_
      refine Zh sl_48 (hfu.mono (Sub.un_left _ _)) ?_
      refine Run.build rfl bd_77 rfl rfl rfl rfl ?_
      refine Run.buildSlice (E := encRF) rfl sl_30 zr_77 ([(⟨F.name, slotW S F.slots, is.length, code.length, F.params.length⟩ : RF)]) rfl rfl rfl (by decide) rfl rfl ?_
      intro b55
      refine Run.append (E := encRF) (xs := gs) (ys := [(⟨F.name, slotW S F.slots, is.length, code.length, F.params.length⟩ : RF)]) 3 rfl rfl rfl rfl rfl rfl sl_30 zr_77 rfl (src_own 5 rfl) (by simp only [List.length_singleton]; omega) (by simp only [List.length_singleton]; omega) ?_
      intro gv2 hgv2
      refine Zf fo_32_1 ?_
      refine Run.nil ?_
      refine Run.storeB 6 rfl rfl rfl rfl ag_30 rfl rfl rfl rfl rfl ?_
      refine Ze ?_
      refine WP.trim [1, 2, 3, 5, 7, 8, 19, 20, 21] [0, 1, 2, 3, 4, 6, 8] ?_
      refine WP.drawn0 cf0 mixed rfl (by kernel_rfl) ?_
      refine Zf fo_32_0 ?_
      refine Zl 5 ag_29 ?_
      refine Zm ?_
      refine Zn ?_
      refine Zf fo_85_2 ?_
      refine Zl 6 ag_29 ?_
      refine Run.append (E := encRI) (xs := is) (ys := code) 2 rfl rfl rfl rfl rfl rfl sl_29 zr_38 rfl (src_own 4 rfl) (by omega) (by omega) ?_
      intro iv2 hiv2
      refine Zf fo_32_0 ?_
      refine Run.storeB 5 rfl rfl rfl rfl ag_29 rfl rfl rfl rfl rfl ?_
      refine Run.nil ?_
      refine blk_norm ?_; refine thn_next ?_
      refine Zc ?_
      refine Za ?_
      refine Zm ?_
      refine Run.nil ?_
      refine thn_next ⟨(i + 1, iv2, gv2), ⟨by simp only; omega, ?_, ?_⟩, by simp only; omega, Ko.go, ?_⟩
      · simp only; rw [hstep, e2, List.length_append]; omega
      · simp only; rw [hstep, e2, List.length_append, List.length_singleton, hlF]
      · simp only [hstep, e2]; exact ent.gc
    · refine Zj ?_
      obtain rfl : i = A.funcs.length := by omega
      rw [List.take_length]
      exact thn_next ⟨(iv, gv), trivial, Ko.go, ent.gc⟩
  rintro ⟨iv, gv⟩ _
  simp only
  refine Zp ?_
  refine Run.loadBagg 2 rfl rfl ag_32 rfl rfl rfl rfl rfl ?_
  refine Run.storeB 1 rfl rfl rfl rfl ag_32 rfl rfl rfl rfl rfl ?_
  refine Zm ?_
  refine Ze ?_
  refine WP.ret ?_
  exact retCT 2 1 3 ag_32 rfl rfl rfl rfl rfl ⟨[slA 38 encRI iv.val (emL A.funcs).1, slA 77 encRF gv.val (emL A.funcs).2], ent.go, .inl ⟨trivial, iv, gv, rfl, rfl⟩⟩
end Go.Proofs.YtfaokbjpinlcaaaGreat
end
section
/- The chapter's example: a small program, and what is made of it; plain. -/
namespace Go.Sep
def All2 {R A : Type} (q : R → A → Prop) : List R → List A → Prop
  | [], [] => True
  | r :: rs, x :: xs => q r x ∧ All2 q rs xs
  | _, _ => False
theorem All2.get {R A : Type} {q : R → A → Prop} : ∀ {rs : List R} {xs : List A}, All2 q rs xs → rs.length = xs.length ∧ ∀ (i : Nat) (r : R) (x : A), rs[i]? = some r → xs[i]? = some x → q r x
  | [], [], _ => ⟨rfl, fun i r x h => by simp at h⟩
  | r :: rs, x :: xs, ⟨h1, h2⟩ => ⟨by simp [h2.get.1], fun i r' x' hr hx => by
    cases i with
    | zero => simp at hr hx; subst hr hx; exact h1
    | succ i => exact h2.get.2 i r' x' hr hx⟩
theorem SlR.of2 {R A : Type} {E : Enc R} {F : Rd A} {h : Heap} {v : Value} {rs : List R} {xs : List A} (H : SlR E.rd h v rs) (hsz : F.sz = E.sz) (hq : All2 (fun r x => F.rel h x (E.cells r)) rs xs) : SlR F h v xs :=
  SlR.turn (E := E.rd) hq.get.1.symm hsz (fun i r x hr hx cs hc => by
    have : cs = E.cells r := hc
    rw [this]; exact hq.get.2 i r x hr hx) H
theorem nil_read {A : Type} (E : Rd A) (h : Heap) : SlR E h (SV.mk none 0 0).val [] := ⟨none, 0, rfl, Nat.le_refl _, fun h => absurd rfl h⟩
end Go.Sep
namespace Go.Proofs.YtfaokbjpinlcaaaGreat
open Go.Sep
set_option linter.unusedVariables false
def sI1 : AI := ⟨1, 7, ⟨1, 0⟩, [], []⟩
def sB1 : AB := ⟨[sI1], ⟨3, ⟨1, 0⟩, []⟩⟩
def sevenF : AF := ⟨⟨#[115, 101, 118, 101, 110]⟩, [], 1, 0, [sB1]⟩
def mI1 : AI := ⟨24, 0, ⟨1, 0⟩, [], []⟩
def mI2 : AI := ⟨25, 0, ⟨1, 1⟩, [], [0]⟩
def mI3 : AI := ⟨26, 0, ⟨0, 0⟩, [⟨1, 0⟩], []⟩
def mI4 : AI := ⟨26, 0, ⟨0, 0⟩, [⟨1, 1⟩], []⟩
def mI5 : AI := ⟨31, 0, ⟨2, 0⟩, [⟨1, 1⟩], []⟩
def mI6 : AI := ⟨25, 0, ⟨0, 0⟩, [], []⟩
def mI7 : AI := ⟨26, 0, ⟨0, 0⟩, [⟨2, 0⟩], []⟩
def sB2 : AB := ⟨[mI1, mI2, mI3, mI4, mI5, mI6, mI7], ⟨3, ⟨0, 0⟩, []⟩⟩
def mainF : AF := ⟨⟨#[109, 97, 105, 110]⟩, [], 0, 1, [sB2]⟩
def sampA : AL := ⟨[sevenF, mainF], 1⟩
theorem samp_small : SmallA sampA := by
  refine ⟨by decide, fun F hF => ?_⟩
  rcases List.mem_cons.1 hF with rfl | hF
  · exact ⟨by decide, by decide, by decide, by decide, by decide⟩
  · obtain rfl := List.mem_singleton.1 hF
    exact ⟨by decide, by decide, by decide, by decide, by decide⟩
theorem samp_ok : okA nmB sampA = true := by decide
theorem movesC_nil (S : List Int) : movesC S [] = [] := by
  unfold movesC
  rw [List.filter_nil, ordF_eq Ord.nil]; rfl
theorem sv_seven : savS sevenF = [] := by decide
theorem sv_main : savS mainF = [0] := by decide
theorem code_seven (first : Int) : codeC [] sevenF first = [⟨1, 0, 0, 0, 7⟩, ⟨27, 0, 0, 0, 0⟩] := by
  simp [codeC, rawC, preC, sevenF, sB1, sI1, numbered, movesC_nil, blkC, insC, readsC, opC, dstR, termC, noneB, loadC]
theorem code_main (first : Int) : codeC [0] mainF first = [⟨36, 0, 0, 0, 0⟩, ⟨25, 0, 0, 0, 2⟩, ⟨26, 0, 0, 0, 0⟩, ⟨2, 8, 0, 0, 0⟩, ⟨24, 0, 0, 0, 2⟩, ⟨2, 1, 8, 0, 0⟩, ⟨37, 0, 0, 0, 0⟩, ⟨37, 1, 0, 0, 0⟩, ⟨25, 1, 0, 0, 3⟩, ⟨26, 0, 0, 0, 0⟩, ⟨24, 8, 0, 0, 3⟩, ⟨37, 8, 0, 0, 0⟩, ⟨27, 0, 0, 0, 0⟩] := by
  simp [codeC, rawC, preC, mainF, sB2, mI1, mI2, mI3, mI4, mI5, mI6, mI7, numbered, movesC_nil, blkC, insC, callC, moveC, readsC, opC, dstR, argR, regOf, termC, noneB, loadC, storeC, slotW, homeW]
theorem samp_code : emL sampA.funcs = ([⟨1, 0, 0, 0, 7⟩, ⟨27, 0, 0, 0, 0⟩, ⟨36, 0, 0, 0, 0⟩, ⟨25, 0, 0, 0, 2⟩, ⟨26, 0, 0, 0, 0⟩, ⟨2, 8, 0, 0, 0⟩, ⟨24, 0, 0, 0, 2⟩, ⟨2, 1, 8, 0, 0⟩, ⟨37, 0, 0, 0, 0⟩, ⟨37, 1, 0, 0, 0⟩, ⟨25, 1, 0, 0, 3⟩, ⟨26, 0, 0, 0, 0⟩, ⟨24, 8, 0, 0, 3⟩, ⟨37, 8, 0, 0, 0⟩, ⟨27, 0, 0, 0, 0⟩], [⟨sevenF.name, 2, 0, 2, 0⟩, ⟨mainF.name, 4, 2, 13, 0⟩]) := by
  have e : emL sampA.funcs = emS (emS ([], []) sevenF) mainF := rfl
  rw [e]
  unfold emS
  rw [sv_seven, sv_main, code_seven, code_main]
  rfl
end Go.Proofs.YtfaokbjpinlcaaaGreat
end
section
/- The chapter's example, built; walked. -/
namespace Go.Proofs.YtfaokbjpinlcaaaGreat
open Go.Sep
set_option linter.unusedSimpArgs false
set_option linter.unusedVariables false
set_option maxRecDepth 100000
attribute [local irreducible] blk slA mp mpF rows rowsBut many mpK mpE
theorem ok_38 : calleeOk Tryz.prog 38 = true := by kernel_rfl
theorem loc38_ok (hR : Heap) (n : Int) : Tri Tryz.prog hR 38 #[vI n] [] fun r Γ' => r = .agg ⟨lcv ⟨1, n⟩⟩ ∧ Γ' = [] := by
  refine Tri.ent (Tri.of (args := [vI n]) Tryz.func38 rfl Tryz.ntmps38 (by simp) ?_)
  refine Zp ?_
  refine Run.alloc rfl zr_46 rfl rfl rfl ?_
  intro b2
  refine Ze ?_
  refine Zp ?_
  refine Zm ?_
  refine Run.build rfl bd_46 rfl rfl rfl rfl ?_
  refine Run.storeB 0 rfl rfl rfl rfl ag_46 rfl rfl rfl rfl rfl ?_
  refine Ze ?_
  refine WP.ret ?_
  exact retC 2 0 ag_46 rfl rfl rfl rfl ⟨_, ent.none _, rfl, rfl⟩
abbrev sampΓ (w1 w2 w3 w4 w5 w6 w7 w8 w9 w10 : SV) : List HProp := [slA 53 encXI w1.val [((sI1, nilS, nilS) : XI)], slA 58 encXB w2.val [((sB1, w1, nilS) : XB)], slA 3 encI w3.val [(0 : Int)], slA 46 encLc w4.val [(⟨1, 0⟩ : Lc)], slA 46 encLc w5.val [(⟨1, 1⟩ : Lc)], slA 46 encLc w6.val [(⟨1, 1⟩ : Lc)], slA 46 encLc w7.val [(⟨2, 0⟩ : Lc)],
  slA 53 encXI w8.val [((mI1, nilS, nilS) : XI), (mI2, nilS, w3), (mI3, w4, nilS), (mI4, w5, nilS), (mI5, w6, nilS), (mI6, nilS, nilS), (mI7, w7, nilS)], slA 58 encXB w9.val [((sB2, w8, nilS) : XB)], slA 51 encXF w10.val [((sevenF, nilS, w2) : XF), (mainF, nilS, w9)]]
theorem samp_reads {hR g : Heap} {w1 w2 w3 w4 w5 w6 w7 w8 w9 w10 : SV} (hg : sat (sampΓ w1 w2 w3 w4 w5 w6 w7 w8 w9 w10) g) (hd : Disj hR g) : ALv (un hR g) sampA w10 := by
  have l1 := lent_at 0 rfl hg hd
  have l2 := lent_at 1 rfl hg hd
  have l3 := lent_at 2 rfl hg hd
  have l4 := lent_at 3 rfl hg hd
  have l5 := lent_at 4 rfl hg hd
  have l6 := lent_at 5 rfl hg hd
  have l7 := lent_at 6 rfl hg hd
  have l8 := lent_at 7 rfl hg hd
  have l9 := lent_at 8 rfl hg hd
  have l10 := lent_at 9 rfl hg hd
  have nL := nil_read rdLc (un hR g)
  have nI := nil_read rdI (un hR g)
  have r1 : SlR rdAI (un hR g) w1.val sB1.body := SlR.of2 l1 rfl ⟨⟨_, _, rfl, nL, nI⟩, trivial⟩
  have r2 : SlR rdAB (un hR g) w2.val sevenF.blocks := SlR.of2 l2 rfl ⟨⟨_, _, rfl, r1, nI⟩, trivial⟩
  have r8 : SlR rdAI (un hR g) w8.val sB2.body := SlR.of2 l8 rfl ⟨⟨_, _, rfl, nL, nI⟩, ⟨_, _, rfl, nL, l3⟩, ⟨_, _, rfl, l4, nI⟩, ⟨_, _, rfl, l5, nI⟩, ⟨_, _, rfl, l6, nI⟩, ⟨_, _, rfl, nL, nI⟩, ⟨_, _, rfl, l7, nI⟩, trivial⟩
  have r9 : SlR rdAB (un hR g) w9.val mainF.blocks := SlR.of2 l9 rfl ⟨⟨_, _, rfl, r8, nI⟩, trivial⟩
  exact ⟨SlR.of2 l10 rfl ⟨⟨_, _, rfl, nL, r2⟩, ⟨_, _, rfl, nL, r9⟩, trivial⟩, samp_small⟩
theorem ent.cdr (A : HProp) (Γ : List HProp) : ent (A :: Γ) Γ := ent.drop A Γ
set_option maxHeartbeats 4000000 in
theorem sample_ok (hR : Heap) : Tri Tryz.prog hR 18 #[] [] fun r Γ' => ∃ w1 w2 w3 w4 w5 w6 w7 w8 w9 w10 : SV, r = .agg ⟨alv sampA w10⟩ ∧ Γ' = sampΓ w1 w2 w3 w4 w5 w6 w7 w8 w9 w10 := by
  refine Tri.ent (Tri.of (args := []) Tryz.func18 rfl Tryz.ntmps18 (by simp) ?_)
  refine Zp ?_
  refine Run.alloc rfl zr_24 rfl rfl rfl ?_
  intro b0
  refine Ze ?_
  refine Zp ?_
  refine Zm ?_
  refine Ze ?_
  refine Zp ?_
  refine Run.build rfl bd_46 rfl rfl rfl rfl ?_
  refine Run.alloc rfl zr_46 rfl rfl rfl ?_
  intro b2
  refine Run.storeB 1 rfl rfl rfl rfl ag_46 rfl rfl rfl rfl rfl ?_
  refine Ze ?_
  refine Zp ?_
  refine Zm ?_
  refine Run.callP [] ok_38 (loc38_ok hR 0) ?_; rintro _ _ ⟨rfl, rfl⟩
  refine Run.build rfl bd_53 rfl rfl rfl rfl ?_
  refine Run.buildSlice (E := encXI) rfl sl_54 zr_53 ([((sI1, nilS, nilS) : XI)]) rfl rfl rfl (by decide) rfl rfl ?_
  intro b10
  refine Zm ?_
  refine Run.callP [] ok_38 (loc38_ok hR 0) ?_; rintro _ _ ⟨rfl, rfl⟩
  refine Run.build rfl bd_56 rfl rfl rfl rfl ?_
  refine Run.build rfl bd_58 rfl rfl rfl rfl ?_
  refine Run.buildSlice (E := encXB) rfl sl_49 zr_58 ([((sB1, ⟨some ⟨b10, 0, none⟩, 1, 1⟩, nilS) : XB)]) rfl rfl rfl (by decide) rfl rfl ?_
  intro b15
  refine Run.build rfl bd_51 rfl rfl rfl rfl ?_
  refine Run.alloc rfl zr_51 rfl rfl rfl ?_
  intro b3
  refine Run.storeB 4 rfl rfl rfl rfl ag_51 rfl rfl rfl rfl rfl ?_
  refine Ze ?_
  refine WP.trim [0, 1, 2, 3] [0, 4, 2, 3, 1] ?_
  refine WP.seq ?_
  refine WP.via (Γ' := [blk b0 [nilS.val, vI 0] 24, blk b3 (afv sevenF nilS.val (⟨some ⟨b15, 0, none⟩, 1, 1⟩ : SV).val) 51, slA 53 encXI (⟨some ⟨b10, 0, none⟩, 1, 1⟩ : SV).val [((sI1, nilS, nilS) : XI)], slA 58 encXB (⟨some ⟨b15, 0, none⟩, 1, 1⟩ : SV).val [((sB1, ⟨some ⟨b10, 0, none⟩, 1, 1⟩, nilS) : XB)]] ++ [blk b2 (lcv ⟨2, 0⟩) 46]) (ent.refl _) ?_
  refine WP.drawnF cfF [0, 1, 3, 4, 7, 8, 11, 12, 16, 17, 2, 5, 6, 9, 10, 13, 14, 15, 18, 19, 20, 21, 22, 23, 24] [25] ([blk b2 (lcv ⟨2, 0⟩) 46]) mixed rfl rfl (by kernel_rfl) (fun gF hgF hdF => ?_)
  refine Zm ?_
  refine Run.callP [] ok_38 (loc38_ok (un hR gF) 0) ?_; rintro _ _ ⟨rfl, rfl⟩
  refine Zm ?_
  refine Run.callP [] ok_38 (loc38_ok (un hR gF) 1) ?_; rintro _ _ ⟨rfl, rfl⟩
  refine Zm ?_
  refine Run.callP [] ok_38 (loc38_ok (un hR gF) 0) ?_; rintro _ _ ⟨rfl, rfl⟩
  refine Zm ?_
  refine Run.callP [] ok_38 (loc38_ok (un hR gF) 1) ?_; rintro _ _ ⟨rfl, rfl⟩
  refine Zm ?_
  refine Run.callP [] ok_38 (loc38_ok (un hR gF) 1) ?_; rintro _ _ ⟨rfl, rfl⟩
  refine Run.build rfl bd_53 rfl rfl rfl rfl ?_
  refine Run.buildSlice (E := encI) rfl sl_44 zr_3 ([(0 : Int)]) rfl rfl rfl (by decide) rfl rfl ?_
  intro b22
  refine Run.build rfl bd_53 rfl rfl rfl rfl ?_
  refine Run.buildSlice (E := encLc) rfl sl_48 zr_46 ([(⟨1, 0⟩ : Lc)]) rfl rfl rfl (by decide) rfl rfl ?_
  intro b26
  refine Run.build rfl bd_53 rfl rfl rfl rfl ?_
  refine Run.buildSlice (E := encLc) rfl sl_48 zr_46 ([(⟨1, 1⟩ : Lc)]) rfl rfl rfl (by decide) rfl rfl ?_
  intro b30
  refine Run.build rfl bd_53 rfl rfl rfl rfl ?_
  refine Run.loadFagg rfl rfl ag_46 rfl rfl (lent_row 0 0 2 hgF hdF) rfl ?_
  refine Run.buildSlice (E := encLc) rfl sl_48 zr_46 ([(⟨1, 1⟩ : Lc)]) rfl rfl rfl (by decide) rfl rfl ?_
  intro b35
  refine Run.build rfl bd_53 rfl rfl rfl rfl ?_
  refine Run.build rfl bd_53 rfl rfl rfl rfl ?_
  refine Run.loadFagg rfl rfl ag_46 rfl rfl (lent_row 0 0 2 hgF hdF) rfl ?_
  refine Run.buildSlice (E := encLc) rfl sl_48 zr_46 ([(⟨2, 0⟩ : Lc)]) rfl rfl rfl (by decide) rfl rfl ?_
  intro b39
  refine Run.build rfl bd_53 rfl rfl rfl rfl ?_
  refine Run.buildSlice (E := encXI) rfl sl_54 zr_53 ([((mI1, nilS, nilS) : XI), (mI2, nilS, ⟨some ⟨b22, 0, none⟩, 1, 1⟩), (mI3, ⟨some ⟨b26, 0, none⟩, 1, 1⟩, nilS), (mI4, ⟨some ⟨b30, 0, none⟩, 1, 1⟩, nilS), (mI5, ⟨some ⟨b35, 0, none⟩, 1, 1⟩, nilS), (mI6, nilS, nilS), (mI7, ⟨some ⟨b39, 0, none⟩, 1, 1⟩, nilS)]) rfl rfl rfl (by decide) rfl rfl ?_
  intro b41
  refine Run.nil ?_
  refine Zm ?_
  refine Ze ?_
  refine Zp ?_
  refine Zm ?_
  refine Run.build rfl bd_56 rfl rfl rfl rfl ?_
  refine Run.build rfl bd_58 rfl rfl rfl rfl ?_
  refine Run.buildSlice (E := encXB) rfl sl_49 zr_58 ([((sB2, ⟨some ⟨b41, 0, none⟩, 7, 7⟩, nilS) : XB)]) rfl rfl rfl (by decide) rfl rfl ?_
  intro b45
  refine Run.build rfl bd_51 rfl rfl rfl rfl ?_
  refine Run.alloc rfl zr_51 rfl rfl rfl ?_
  intro b5
  refine Run.storeB 12 rfl rfl rfl rfl ag_51 rfl rfl rfl rfl rfl ?_
  refine Ze ?_
  refine WP.trim [0, 3, 5] [0, 1, 2, 3, 4, 5, 6, 7, 8, 9, 11, 12] ?_
  refine Zp ?_
  refine Run.loadBagg 1 rfl rfl ag_51 rfl rfl rfl rfl rfl ?_
  refine Run.loadBagg 11 rfl rfl ag_51 rfl rfl rfl rfl rfl ?_
  refine Run.buildSlice (E := encXF) rfl sl_22 zr_51 ([((sevenF, nilS, ⟨some ⟨b15, 0, none⟩, 1, 1⟩) : XF), (mainF, nilS, ⟨some ⟨b45, 0, none⟩, 1, 1⟩)]) rfl rfl rfl (by decide) rfl rfl ?_
  intro b49
  refine Run.build rfl bd_24 rfl rfl rfl rfl ?_
  refine Run.storeB 0 rfl rfl rfl rfl ag_24 rfl rfl rfl rfl rfl ?_
  refine Ze ?_
  refine WP.trim [0] [0, 2, 3, 4, 5, 6, 7, 8, 9, 10, 12] ?_
  refine WP.ret ?_
  exact retC 0 0 ag_24 rfl rfl rfl rfl ⟨sampΓ ⟨some ⟨b10, 0, none⟩, 1, 1⟩ ⟨some ⟨b15, 0, none⟩, 1, 1⟩ ⟨some ⟨b22, 0, none⟩, 1, 1⟩ ⟨some ⟨b26, 0, none⟩, 1, 1⟩ ⟨some ⟨b30, 0, none⟩, 1, 1⟩ ⟨some ⟨b35, 0, none⟩, 1, 1⟩ ⟨some ⟨b39, 0, none⟩, 1, 1⟩ ⟨some ⟨b41, 0, none⟩, 7, 7⟩ ⟨some ⟨b45, 0, none⟩, 1, 1⟩ ⟨some ⟨b49, 0, none⟩, 2, 2⟩, ent.cdr _ _, _, _, _, _, _, _, _, _, _, _, rfl, rfl⟩
end Go.Proofs.YtfaokbjpinlcaaaGreat
end
section
/- same: two codes that are one; num; walked. -/
namespace Go.Proofs.YtfaokbjpinlcaaaGreat
open Go.Sep
set_option linter.unusedSimpArgs false
set_option linter.unusedVariables false
set_option maxRecDepth 100000
attribute [local irreducible] blk slA mp mpF rows rowsBut many mpK mpE
theorem mix_38 : mixS Tryz.prog 38 = some [true, true, true, true, true] := by kernel_rfl
theorem mix_77 : mixS Tryz.prog 77 = some [false, true, true, true, true] := by kernel_rfl
theorem num_ok (hR : Heap) (e : Int) : Tri Tryz.prog hR 16 #[vI e] [] fun r Γ' => r = vI e ∧ Γ' = [] := by
  refine Tri.ent (Tri.of (args := [vI e]) Tryz.func16 rfl Tryz.ntmps16 (by simp) ?_)
  refine Zp ?_
  refine Zm ?_
  refine Ze ?_
  refine Zp ?_
  refine Zm ?_
  refine Zm ?_
  refine Ze ?_
  refine WP.ret ?_
  exact retT [2] _ rfl rfl ⟨_, ent.none _, rfl, rfl⟩
set_option maxHeartbeats 2000000 in
theorem same_ok (hR : Heap) (iv gv iv2 gv2 : SV) (m : Int) (is : List RI) (gs : List RF) (h1 : SlR encRI.rd hR iv.val is) (h2 : SlR encRF.rd hR gv.val gs) (h3 : SlR encRI.rd hR iv2.val is) (h4 : SlR encRF.rd hR gv2.val gs) (hi : is.length ≤ 2000000000) (hg : gs.length ≤ 2000000000) :
    Tri Tryz.prog hR 10 #[.agg ⟨[iv.val, gv.val, vI m]⟩, .agg ⟨[iv2.val, gv2.val, vI m]⟩] [] fun r Γ' => r = .bool true ∧ Γ' = [] := by
  refine Tri.ent (Tri.of (args := [.agg ⟨[iv.val, gv.val, vI m]⟩, .agg ⟨[iv2.val, gv2.val, vI m]⟩]) Tryz.func10 rfl Tryz.ntmps10 (by simp) ?_)
  refine Zp ?_
  refine Run.box rfl rfl rfl rfl rfl ?_
  intro b2
  refine Run.box rfl rfl rfl rfl rfl ?_
  intro b3
  refine Zm ?_
  refine Ze ?_
  refine WP.seq ?_
  refine Zp ?_
  refine Zf fo_32_2 ?_
  refine Zl 0 ag_3 ?_
  refine Zf fo_32_2 ?_
  refine Zl 1 ag_3 ?_
  refine Zi ?_
  refine Run.ff (fun h => h rfl) ?_
  refine Zm ?_
  refine Zf fo_32_0 ?_
  refine Zl 0 ag_29 ?_
  refine Zh sl_29 h1 ?_
  refine Zf fo_32_0 ?_
  refine Zl 1 ag_29 ?_
  refine Zh sl_29 h3 ?_
  refine Zi ?_
  refine Run.ff (fun h => h rfl) ?_
  refine Zq ?_
  refine Zm ?_
  refine Zf fo_32_1 ?_
  refine Zl 0 ag_30 ?_
  refine Zh sl_30 h2 ?_
  refine Zf fo_32_1 ?_
  refine Zl 1 ag_30 ?_
  refine Zh sl_30 h4 ?_
  refine Zi ?_
  refine Run.ff (fun h => h rfl) ?_
  refine Zq ?_
  refine Ze ?_
  refine Zno ?_
  refine Zb ?_
  refine WP.trim [2, 3, 4] [0, 1] ?_
  refine WP.meetC (α := Unit) (fun _ => True) (fun _ => []) (fun _ => []) ?_ ?_
  · refine Zp ?_
    refine Zm ?_
    refine Ze ?_
    refine WP.block ?_
    refine WP.trim [2, 3, 4, 5] [0, 1] ?_
    refine WP.loopC (α := Nat) (fun i => i ≤ is.length) (fun i => [(5, vI (i : Int))]) (fun i => []) (fun i => is.length - i) 0 (Nat.zero_le _) ?_
    intro i hi'
    refine WP.trim [2, 3, 4, 5] [0, 1] ?_
    refine WP.seq ?_
    refine Zp ?_
    refine Zm ?_
    refine Zf fo_32_0 ?_
    refine Zl 0 ag_29 ?_
    refine Zh sl_29 h1 ?_
    refine Zi ?_
    refine Ze ?_
    refine WP.ite rfl (fun hlt => ?_) (fun hge => ?_)
    · refine Zb ?_
      obtain ⟨x, gx⟩ : ∃ x, is[(i : Int).toNat]? = some x := ⟨_, List.getElem?_eq_getElem (by omega)⟩
      refine WP.seq ?_
      refine WP.block ?_
      refine WP.seq ?_
      refine WP.drawn0 cf0 mixed rfl (by kernel_rfl) ?_
      refine Zf fo_32_0 ?_
      refine Zl 0 ag_29 ?_
      refine Zm ?_
      refine Zx sl_29 h1 ?_
      refine Run.loadRagg rfl rfl ag_38 rfl rfl (SlR.row h1 gx) rfl ?_
      refine Zf fo_32_0 ?_
      refine Zl 1 ag_29 ?_
      refine Zm ?_
      refine Zx sl_29 h3 ?_
      refine Run.loadRagg rfl rfl ag_38 rfl rfl (SlR.row h3 gx) rfl ?_
      refine Run.neRefl rfl rfl rfl mix_38 rfl rfl rfl ?_
      refine Ze ?_
      refine Zno ?_
      refine WP.skip ?_; refine blk_norm ?_; refine thn_next ?_
      refine Zc ?_
      refine Zm ?_
      refine Za ?_
      refine Zm ?_
      refine Run.nil ?_
      exact thn_next ⟨i + 1, by omega, by omega, Ko.go, ent.gc⟩
    · refine Zj ?_
      exact thn_next ⟨(), trivial, Ko.go, ent.gc⟩
  intro _ _
  refine WP.trim [2, 3, 4] [0, 1] ?_
  refine WP.meetC (α := Unit) (fun _ => True) (fun _ => []) (fun _ => []) ?_ ?_
  · refine Zp ?_
    refine Zm ?_
    refine Ze ?_
    refine WP.block ?_
    refine WP.trim [2, 3, 4, 6] [0, 1] ?_
    refine WP.loopC (α := Nat) (fun i => i ≤ gs.length) (fun i => [(6, vI (i : Int))]) (fun i => []) (fun i => gs.length - i) 0 (Nat.zero_le _) ?_
    intro i hi'
    refine WP.trim [2, 3, 4, 6] [0, 1] ?_
    refine WP.seq ?_
    refine Zp ?_
    refine Zm ?_
    refine Zf fo_32_1 ?_
    refine Zl 0 ag_30 ?_
    refine Zh sl_30 h2 ?_
    refine Zi ?_
    refine Ze ?_
    refine WP.ite rfl (fun hlt => ?_) (fun hge => ?_)
    · refine Zb ?_
      obtain ⟨x, gx⟩ : ∃ x, gs[(i : Int).toNat]? = some x := ⟨_, List.getElem?_eq_getElem (by omega)⟩
      refine WP.seq ?_
      refine WP.block ?_
      refine WP.seq ?_
      refine WP.drawn0 cf0 mixed rfl (by kernel_rfl) ?_
      refine Zf fo_32_1 ?_
      refine Zl 0 ag_30 ?_
      refine Zm ?_
      refine Zx sl_30 h2 ?_
      refine Run.loadRagg rfl rfl ag_77 rfl rfl (SlR.row h2 gx) rfl ?_
      refine Zf fo_32_1 ?_
      refine Zl 1 ag_30 ?_
      refine Zm ?_
      refine Zx sl_30 h4 ?_
      refine Run.loadRagg rfl rfl ag_77 rfl rfl (SlR.row h4 gx) rfl ?_
      refine Run.neRefl rfl rfl rfl mix_77 rfl rfl rfl ?_
      refine Ze ?_
      refine Zno ?_
      refine WP.skip ?_; refine blk_norm ?_; refine thn_next ?_
      refine Zc ?_
      refine Zm ?_
      refine Za ?_
      refine Zm ?_
      refine Run.nil ?_
      exact thn_next ⟨i + 1, by omega, by omega, Ko.go, ent.gc⟩
    · refine Zj ?_
      exact thn_next ⟨(), trivial, Ko.go, ent.gc⟩
  intro _ _
  refine WP.trim [2, 3, 4] [0, 1] ?_
  refine Zp ?_
  refine Zm ?_
  refine Ze ?_
  refine WP.ret ?_
  exact retT [4] _ rfl rfl ⟨_, ent.none _, rfl, rfl⟩
end Go.Proofs.YtfaokbjpinlcaaaGreat
end
