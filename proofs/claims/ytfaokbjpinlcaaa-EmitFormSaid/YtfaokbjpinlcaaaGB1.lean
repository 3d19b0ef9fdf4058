/- ALIR's check, all of it, if a name's check is known; walked. -/
import Derived.Test.YtfaokbjpinlcaaaGA4
import Derived.Test.YtfaokbjpinlcaaaGB0
import Derived.Test.YtfaokbjpinlcaaaGA5
import Derived.Test.YtfaokbjpinlcaaaGA6
section
/- ALIR's check, all of it, if a name's check is known; walked. -/
namespace Go.Proofs.Ytfaokbjpinlcaaa
open Go.Sep
set_option linter.unusedSimpArgs false
set_option linter.unusedVariables false
set_option maxRecDepth 100000
attribute [local irreducible] blk slA mp mpF rows rowsBut many mpK mpE placeB noneB funB insB termB callB
abbrev encS : ByteArray → Value := fun s => .string s
/-- which are seen -/
def Seen (f : ByteArray → Option Value) (l : List ByteArray) : Prop := ∀ s, ∃ c : Int, (f s).getD (.int .i64 0) = .int .i64 c ∧ (0 < c ↔ s ∈ l)
theorem Seen.snoc {f : ByteArray → Option Value} {l : List ByteArray} (h : Seen f l) (s : ByteArray) : Seen (updK f s (.int .i64 1)) (l ++ [s]) := fun q => by
  unfold updK
  by_cases e : q = s
  · subst e; exact ⟨1, by simp, by simp⟩
  · obtain ⟨c, h1, h2⟩ := h q
    refine ⟨c, by simp only [e, if_false]; exact h1, h2.trans ?_⟩
    simp [e]
/-- ALIR as it is handed in -/
structure ALv (h : Heap) (A : AL) (fv : SV) : Prop where
  hf : SlR rdAF h fv.val A.funcs
  sm : SmallA A
set_option maxHeartbeats 4000000 in
theorem check_ok (nm : ByteArray → Bool) (hN : ∀ (hR : Heap) (s : ByteArray), s.size ≤ 2000000 → Tri Try.prog hR 11 #[.string s] [] fun v Γ' => v = .bool (nm s) ∧ Γ' = []) (hR : Heap) (A : AL) (fv : SV) (hA' : ALv hR A fv) :
    Tri Try.prog hR 6 #[.agg ⟨alv A fv⟩] [] fun r Γ' => r = .int .i64 (if okA nm A then 0 else 190) ∧ Γ' = [] := by
  have hA := hA'.hf
  have hl1 := hA'.sm.sf
  have hl4 : ∀ F ∈ A.funcs, F.params.length ≤ 1000000 := fun F hF => by have := (hA'.sm.sa F hF).sp; omega
  refine Tri.ent (Tri.of (args := [.agg ⟨alv A fv⟩]) Try.func6 rfl Try.ntmps6 (by simp) ?_)
  refine Zp ?_
  refine Run.box rfl rfl rfl rfl rfl ?_
  intro b1
  refine Zm ?_
  refine Ze ?_
  refine Zp ?_
  refine Run.makeMapK (fun s : ByteArray => Value.string s) rfl rfl rfl ?_
  intro b6
  refine Zm ?_
  refine Ze ?_
  refine WP.trim [1, 2, 3] [0, 1] ?_
  refine WP.meetC (α := ByteArray → Option Value) (fun _ => A.funcs.all (fun F => nm F.name && funB A F) = true ∧ (A.funcs.map AF.name).Nodup) (fun _ => []) (fun f => [(1, mpK encS b6 f)]) ?_ ?_
  · refine Zp ?_
    refine Zf fo_24_0 ?_
    refine Zl 0 ag_22 ?_
    refine Zh sl_22 hA ?_
    refine Zm ?_
    refine Ze ?_
    refine WP.block ?_
    refine WP.trim [1, 2, 3, 8, 9, 10] [0, 1] ?_
    refine WP.loopC (α := Nat × (ByteArray → Option Value)) (fun z => z.1 ≤ A.funcs.length ∧ Seen z.2 ((A.funcs.map AF.name).take z.1) ∧ ∀ (j : Nat) (F : AF), j < z.1 → A.funcs[j]? = some F → (nm F.name && funB A F) = true ∧ F.name ∉ (A.funcs.map AF.name).take j) (fun z => [(10, .int .i64 (z.1 : Int))]) (fun z => [(1, mpK encS b6 z.2)]) (fun z => A.funcs.length - z.1) (0, fun _ => none) ⟨Nat.zero_le _, fun s => ⟨0, rfl, by simp⟩, fun j F h => by omega⟩ ?_
    rintro ⟨i, f⟩ ⟨hi, hseen, hok⟩
    simp only at hi hseen hok ⊢
    refine WP.trim [1, 2, 3, 8, 9, 10] [0, 1] ?_
    refine Zp ?_
    refine Zi ?_
    refine Ze ?_
    refine WP.seq ?_
    refine WP.ite rfl (fun hlt => ?_) (fun hge => ?_)
    · refine Zb ?_
      obtain ⟨F, gF⟩ : ∃ b, A.funcs[(i : Int).toNat]? = some b := ⟨_, List.getElem?_eq_getElem (by omega)⟩
      have gF' : A.funcs[i]? = some F := gF
      have gN : (A.funcs.map AF.name)[i]? = some F.name := by rw [List.getElem?_map, gF']; rfl
      have hFs := hA'.sm.sa F (List.mem_of_getElem? gF)
      obtain ⟨c, hc1, hc2⟩ := hseen F.name
      obtain ⟨_, ⟨fu0, fv0, rfl, hfu, hfv⟩, hrow⟩ := hA.at gF
      obtain ⟨fu, rfl, _, _⟩ := SlR.sv hfu
      obtain ⟨fw, rfl, _, _⟩ := SlR.sv hfv
      refine WP.seq ?_
      refine WP.block ?_
      refine Zp ?_
      refine Zx sl_22 hA ?_
      refine Run.loadRagg rfl rfl ag_41 rfl rfl hrow (by rfl) ?_
      refine Run.alloc rfl zr_41 rfl rfl rfl ?_
      intro b5
      refine Run.storeB 2 rfl rfl rfl rfl ag_41 rfl rfl rfl rfl rfl ?_
      refine Ze ?_
      refine WP.trim [1, 2, 3, 5, 8, 9, 10] [0, 1, 2] ?_
      refine WP.seq ?_
      refine WP.seqCut [(1, .pointer (some ⟨b1, 0, none⟩)), (2, .int .i64 0), (3, .map (some b6)), (5, .pointer (some ⟨b5, 0, none⟩)), (8, fv.val), (9, .int .i64 (A.funcs.length : Int)), (10, .int .i64 (i : Int)), (30, .bool (decide (0 < c ∨ nm F.name = false ∨ funB A F = false)))] [blk b1 (alv A fv) 24, mpK encS b6 f, blk b5 (afv F fu.val fw.val) 41] ?_ ?_
      · refine Zc ?_
        all_goals (first | refine Zm ?_)
        all_goals (first | refine Zf fo_41_0 ?_)
        all_goals (first | refine Zl 2 ag_9 ?_)
        all_goals (first | refine Run.lookupK kok_9 1 (k := F.name) rfl rfl rfl mt_57 zr_3 rfl rfl rfl ?_; refine Run.eqv hc1 ?_)
        all_goals (first | refine Zi ?_)
        all_goals (first | refine Run.tt (by first | assumption | omega) ?_ | refine Run.ff (by first | assumption | omega) ?_ | refine Run.split (fun hc18 => ?_) (fun hc18 => ?_) | refine Run.splitB (fun hc18 => ?_) (fun hc18 => ?_) | skip)
        all_goals (first | refine Zm ?_)
        all_goals (first | refine Zv ?_ | refine Zf fo_41_0 ?_)
        all_goals (first | refine Zv ?_ | refine Zl 2 ag_9 ?_)
        all_goals (first | refine Zv ?_ | refine Run.callP [] ok_11 (hN hR F.name hFs.sn) ?_; rintro _ _ ⟨rfl, rfl⟩)
        all_goals (first | refine Run.tt (by first | assumption | omega) ?_ | refine Run.ff (by first | assumption | omega) ?_ | refine Run.split (fun hc22 => ?_) (fun hc22 => ?_) | refine Run.splitB (fun hc22 => ?_) (fun hc22 => ?_) | skip)
        all_goals (first | refine Zv ?_ | refine Run.bnotB rfl rfl rfl rfl ?_)
        all_goals (first | refine Zq ?_)
        all_goals (first | refine Zm ?_)
        all_goals (first | refine Zv ?_ | refine Run.loadBagg 0 rfl rfl ag_24 rfl rfl rfl rfl rfl ?_)
        all_goals (first | refine Zv ?_ | refine Run.loadBagg 2 rfl rfl ag_41 rfl rfl rfl rfl rfl ?_)
        all_goals (first | refine Zv ?_ | refine Run.callP [] ok_12 (chkFun_ok hR A fv F fu fw hA ⟨hfu, hfv⟩ (by omega) hl4 hFs) ?_; rintro _ _ ⟨rfl, rfl⟩)
        all_goals (first | refine Zv ?_ | refine Run.bnotB rfl rfl rfl rfl ?_)
        all_goals (first | refine Zq ?_)
        all_goals (refine Run.nil ?_)
        all_goals refine thn_next ⟨⟨rfl, rfl, rfl, rfl, rfl, rfl, rfl, ?_, trivial⟩, ent.go⟩
        all_goals clear hc2
        all_goals (simp [Env.get, *] <;> omega)
      refine WP.ite rfl (fun hbad => ?_) (fun hg => ?_)
      · refine Zp ?_
        refine Zm ?_
        refine Ze ?_
        refine WP.ret ?_; refine thn_ret ?_; refine blk_ret ?_; refine thn_ret ?_; refine thn_ret ?_; refine blk_ret ?_; refine thn_ret ?_
        refine retT [2] _ rfl rfl ⟨_, ent.none _, ?_, rfl⟩
        have hf : okA nm A = false := by
          cases hh : okA nm A with
          | false => rfl
          | true =>
            exfalso
            unfold okA at hh
            simp only [Bool.and_eq_true, decide_eq_true_eq] at hh
            obtain ⟨⟨⟨h1, h2⟩, _⟩, _⟩ := hh
            have h3 := List.all_eq_true.1 h1 F (List.mem_of_getElem? gF')
            simp only [Bool.and_eq_true] at h3
            rcases hbad with q | q | q
            · exact not_nodup gN (hc2.1 q) h2
            · rw [q] at h3; exact Bool.noConfusion h3.1
            · rw [q] at h3; exact Bool.noConfusion h3.2
        rw [hf]; rfl
      refine Zb ?_
      have hg' := hg
      have g1 : F.name ∉ (A.funcs.map AF.name).take i := fun hm => hg' (Or.inl (hc2.2 hm))
      have g2 : nm F.name = true := btrue fun q => hg' (Or.inr (Or.inl q))
      have g3 : funB A F = true := btrue fun q => hg' (Or.inr (Or.inr q))
      refine Zc ?_
      refine Zm ?_
      refine Zf fo_41_0 ?_
      refine Zl 2 ag_9 ?_
      refine Run.mapUpdateK kok_9 1 (k := F.name) (v := .int .i64 1) rfl rfl rfl rfl mt_57 rfl rfl ?_
      refine Run.nil ?_
      refine blk_norm ?_; refine thn_next ?_
      refine Zc ?_
      refine Za ?_
      refine Zm ?_
      refine Run.nil ?_
      refine thn_next ⟨(i + 1, updK f F.name (.int .i64 1)), ⟨by simp only; omega, ?_, fun j z hj hz => ?_⟩, by simp only; omega, Ko.go, ent.gc⟩
      · simp only
        rw [List.take_add_one, gN]
        exact hseen.snoc F.name
      · simp only at hj
        by_cases e : j = i
        · subst e; rw [gF'] at hz; cases hz; exact ⟨by rw [g2, g3]; rfl, g1⟩
        · exact hok j z (by omega) hz
    · refine Zj ?_
      refine thn_next ⟨f, ⟨all_of fun j F hj hF => (hok j F (by omega) hF).1, nodup_take fun j s hs => ?_⟩, Ko.go, ent.gc⟩
      rw [List.getElem?_map] at hs
      cases hF : A.funcs[j]? with
      | none => rw [hF] at hs; cases hs
      | some F =>
        rw [hF] at hs; simp only [Option.map_some, Option.some.injEq] at hs
        subst hs
        exact (hok j F (by have := (List.getElem?_eq_some_iff.1 hF).1; omega) hF).2
  rintro f ⟨hall, hnd⟩
  have eA : okA nm A = (decide (0 ≤ A.main ∧ A.main < A.funcs.length) && match A.funcs[A.main.toNat]? with
    | some F => F.params.isEmpty && decide (F.result = 0)
    | none => false) := by unfold okA; rw [hall, decide_eq_true hnd]; rfl
  refine WP.trim [1, 2] [0] ?_
  refine WP.seq ?_
  refine WP.seqCut [(2, .int .i64 0), (66, .bool (decide (okA nm A = false)))] [] ?_ ?_
  · by_cases hm : 0 ≤ A.main ∧ A.main < (A.funcs.length : Int)
    · obtain ⟨F, gF⟩ : ∃ b, A.funcs[A.main.toNat]? = some b := ⟨_, List.getElem?_eq_getElem (by omega)⟩
      obtain ⟨_, ⟨fu0, fv0, rfl, hfu, hfv⟩, hrow⟩ := hA.at gF
      rw [decide_eq_true hm, gF, Bool.true_and] at eA
      simp only at eA
      have hpe : F.params.isEmpty = decide (¬ (0 < F.params.length)) := by cases F.params <;> simp
      rw [hpe] at eA
      rw [eA]
      refine Zc ?_
      all_goals (first | refine Zf fo_24_1 ?_)
      all_goals (first | refine Zl 0 ag_3 ?_)
      all_goals (first | refine Zi ?_)
      all_goals (first | refine Run.tt (by first | assumption | omega) ?_ | refine Run.ff (by first | assumption | omega) ?_ | refine Run.split (fun hc37 => ?_) (fun hc37 => ?_) | refine Run.splitB (fun hc37 => ?_) (fun hc37 => ?_) | skip)
      all_goals (first | refine Zm ?_)
      all_goals (first | refine Zv ?_ | refine Zf fo_24_1 ?_)
      all_goals (first | refine Zv ?_ | refine Zl 0 ag_3 ?_)
      all_goals (first | refine Zv ?_ | refine Zf fo_24_0 ?_)
      all_goals (first | refine Zv ?_ | refine Zl 0 ag_22 ?_)
      all_goals (first | refine Zv ?_ | refine Zh sl_22 hA ?_)
      all_goals (first | refine Zv ?_ | refine Zi ?_)
      all_goals (first | refine Run.tt (by first | assumption | omega) ?_ | refine Run.ff (by first | assumption | omega) ?_ | refine Run.split (fun hc44 => ?_) (fun hc44 => ?_) | refine Run.splitB (fun hc44 => ?_) (fun hc44 => ?_) | skip)
      all_goals (first | refine Zq ?_)
      all_goals (first | refine Zm ?_)
      all_goals (first | refine Zv ?_ | refine Zf fo_24_0 ?_)
      all_goals (first | refine Zv ?_ | refine Zl 0 ag_22 ?_)
      all_goals (first | refine Zv ?_ | refine Zf fo_24_1 ?_)
      all_goals (first | refine Zv ?_ | refine Zl 0 ag_3 ?_)
      all_goals (first | refine Zv ?_ | refine Zx sl_22 hA ?_)
      all_goals (first | refine Zv ?_ | refine Zf fo_41_1 ?_)
      all_goals (first | refine Zv ?_ | refine Zr ag_38 (hrow 1 _ rfl) ?_)
      all_goals (first | refine Zv ?_ | refine Zh sl_38 hfu ?_)
      all_goals (first | refine Zv ?_ | refine Zi ?_)
      all_goals (first | refine Run.tt (by first | assumption | omega) ?_ | refine Run.ff (by first | assumption | omega) ?_ | refine Run.split (fun hc55 => ?_) (fun hc55 => ?_) | refine Run.splitB (fun hc55 => ?_) (fun hc55 => ?_) | skip)
      all_goals (first | refine Zq ?_)
      all_goals (first | refine Zm ?_)
      all_goals (first | refine Zv ?_ | refine Zf fo_24_0 ?_)
      all_goals (first | refine Zv ?_ | refine Zl 0 ag_22 ?_)
      all_goals (first | refine Zv ?_ | refine Zf fo_24_1 ?_)
      all_goals (first | refine Zv ?_ | refine Zl 0 ag_3 ?_)
      all_goals (first | refine Zv ?_ | refine Zx sl_22 hA ?_)
      all_goals (first | refine Zv ?_ | refine Zf fo_41_2 ?_)
      all_goals (first | refine Zv ?_ | refine Zr ag_3 (hrow 2 _ rfl) ?_)
      all_goals (first | refine Zv ?_ | refine Zi ?_)
      all_goals (first | refine Zq ?_)
      all_goals (refine Run.nil ?_)
      all_goals refine thn_next ⟨⟨rfl, ?_, trivial⟩, ent.none _⟩
      all_goals clear hpe
      all_goals (first
        | (simp [Env.get, *]; done)
        | (have q : F.params ≠ [] := (fun e => absurd (show (F.params.length : Int) > 0 by assumption) (by rw [e]; decide)); simp [Env.get, *]; done)
        | (have q : F.params = [] := (List.eq_nil_of_length_eq_zero (by have := (show ¬ (F.params.length : Int) > 0 by assumption); omega)); simp [Env.get, *]; done))
    · rw [decide_eq_false hm] at eA
      rw [eA]
      refine Zc ?_
      all_goals (first | refine Zf fo_24_1 ?_)
      all_goals (first | refine Zl 0 ag_3 ?_)
      all_goals (first | refine Zi ?_)
      all_goals (first | refine Run.tt (by first | assumption | omega) ?_ | refine Run.ff (by first | assumption | omega) ?_ | refine Run.split (fun hc37 => ?_) (fun hc37 => ?_) | refine Run.splitB (fun hc37 => ?_) (fun hc37 => ?_) | skip)
      all_goals (first | refine Zm ?_)
      all_goals (first | refine Zv ?_ | refine Zf fo_24_1 ?_)
      all_goals (first | refine Zv ?_ | refine Zl 0 ag_3 ?_)
      all_goals (first | refine Zv ?_ | refine Zf fo_24_0 ?_)
      all_goals (first | refine Zv ?_ | refine Zl 0 ag_22 ?_)
      all_goals (first | refine Zv ?_ | refine Zh sl_22 hA ?_)
      all_goals (first | refine Zv ?_ | refine Zi ?_)
      all_goals (first | refine Run.tt (by first | assumption | omega) ?_ | refine Run.ff (by first | assumption | omega) ?_ | refine Run.split (fun hc44 => ?_) (fun hc44 => ?_) | refine Run.splitB (fun hc44 => ?_) (fun hc44 => ?_) | skip)
      all_goals (first | refine Zq ?_)
      all_goals (first | refine Zm ?_)
      all_goals (first | refine Zv ?_ | refine Zf fo_24_0 ?_)
      all_goals (first | refine Zv ?_ | refine Zl 0 ag_22 ?_ | refine Run.loadO 0 _ 0 rfl rfl ag_22 rfl rfl rfl rfl (by assumption) rfl ?_ | refine Run.loadO 0 _ _ rfl rfl ag_22 rfl rfl rfl rfl (by assumption) rfl ?_ | refine Zl 1 ag_22 ?_ | refine Run.loadO 1 _ 0 rfl rfl ag_22 rfl rfl rfl rfl (by assumption) rfl ?_ | refine Run.loadO 1 _ _ rfl rfl ag_22 rfl rfl rfl rfl (by assumption) rfl ?_ | refine Zl 2 ag_22 ?_ | refine Run.loadO 2 _ 0 rfl rfl ag_22 rfl rfl rfl rfl (by assumption) rfl ?_ | refine Run.loadO 2 _ _ rfl rfl ag_22 rfl rfl rfl rfl (by assumption) rfl ?_ | refine Zl 3 ag_22 ?_ | refine Run.loadO 3 _ 0 rfl rfl ag_22 rfl rfl rfl rfl (by assumption) rfl ?_ | refine Run.loadO 3 _ _ rfl rfl ag_22 rfl rfl rfl rfl (by assumption) rfl ?_ | refine Zl 4 ag_22 ?_ | refine Run.loadO 4 _ 0 rfl rfl ag_22 rfl rfl rfl rfl (by assumption) rfl ?_ | refine Run.loadO 4 _ _ rfl rfl ag_22 rfl rfl rfl rfl (by assumption) rfl ?_ | refine Zl 5 ag_22 ?_ | refine Run.loadO 5 _ 0 rfl rfl ag_22 rfl rfl rfl rfl (by assumption) rfl ?_ | refine Run.loadO 5 _ _ rfl rfl ag_22 rfl rfl rfl rfl (by assumption) rfl ?_ | refine Run.loadR rfl rfl ag_22 rfl rfl (by first | assumption | exact SlR.cell0 (by assumption) (by assumption) rfl | exact SlR.cell (by assumption) (by assumption) rfl) ?_)
      all_goals (first | refine Zv ?_ | refine Zf fo_24_1 ?_)
      all_goals (first | refine Zv ?_ | refine Zl 0 ag_3 ?_ | refine Run.loadO 0 _ 0 rfl rfl ag_3 rfl rfl rfl rfl (by assumption) rfl ?_ | refine Run.loadO 0 _ _ rfl rfl ag_3 rfl rfl rfl rfl (by assumption) rfl ?_ | refine Zl 1 ag_3 ?_ | refine Run.loadO 1 _ 0 rfl rfl ag_3 rfl rfl rfl rfl (by assumption) rfl ?_ | refine Run.loadO 1 _ _ rfl rfl ag_3 rfl rfl rfl rfl (by assumption) rfl ?_ | refine Zl 2 ag_3 ?_ | refine Run.loadO 2 _ 0 rfl rfl ag_3 rfl rfl rfl rfl (by assumption) rfl ?_ | refine Run.loadO 2 _ _ rfl rfl ag_3 rfl rfl rfl rfl (by assumption) rfl ?_ | refine Zl 3 ag_3 ?_ | refine Run.loadO 3 _ 0 rfl rfl ag_3 rfl rfl rfl rfl (by assumption) rfl ?_ | refine Run.loadO 3 _ _ rfl rfl ag_3 rfl rfl rfl rfl (by assumption) rfl ?_ | refine Zl 4 ag_3 ?_ | refine Run.loadO 4 _ 0 rfl rfl ag_3 rfl rfl rfl rfl (by assumption) rfl ?_ | refine Run.loadO 4 _ _ rfl rfl ag_3 rfl rfl rfl rfl (by assumption) rfl ?_ | refine Zl 5 ag_3 ?_ | refine Run.loadO 5 _ 0 rfl rfl ag_3 rfl rfl rfl rfl (by assumption) rfl ?_ | refine Run.loadO 5 _ _ rfl rfl ag_3 rfl rfl rfl rfl (by assumption) rfl ?_ | refine Run.loadR rfl rfl ag_3 rfl rfl (by first | assumption | exact SlR.cell0 (by assumption) (by assumption) rfl | exact SlR.cell (by assumption) (by assumption) rfl) ?_)
      all_goals (first | refine Zv ?_ | fail)
      all_goals (first | refine Zv ?_ | refine Zf fo_41_1 ?_)
      all_goals (first | refine Zv ?_ | fail)
      all_goals (first | refine Zv ?_ | fail)
      all_goals (first | refine Zv ?_ | refine Zi ?_)
      all_goals (first | refine Run.tt (by first | assumption | omega) ?_ | refine Run.ff (by first | assumption | omega) ?_ | refine Run.split (fun hc55 => ?_) (fun hc55 => ?_) | refine Run.splitB (fun hc55 => ?_) (fun hc55 => ?_) | skip)
      all_goals (first | refine Zq ?_)
      all_goals (first | refine Zm ?_)
      all_goals (first | refine Zv ?_ | refine Zf fo_24_0 ?_)
      all_goals (first | refine Zv ?_ | refine Zl 0 ag_22 ?_ | refine Run.loadO 0 _ 0 rfl rfl ag_22 rfl rfl rfl rfl (by assumption) rfl ?_ | refine Run.loadO 0 _ _ rfl rfl ag_22 rfl rfl rfl rfl (by assumption) rfl ?_ | refine Zl 1 ag_22 ?_ | refine Run.loadO 1 _ 0 rfl rfl ag_22 rfl rfl rfl rfl (by assumption) rfl ?_ | refine Run.loadO 1 _ _ rfl rfl ag_22 rfl rfl rfl rfl (by assumption) rfl ?_ | refine Zl 2 ag_22 ?_ | refine Run.loadO 2 _ 0 rfl rfl ag_22 rfl rfl rfl rfl (by assumption) rfl ?_ | refine Run.loadO 2 _ _ rfl rfl ag_22 rfl rfl rfl rfl (by assumption) rfl ?_ | refine Zl 3 ag_22 ?_ | refine Run.loadO 3 _ 0 rfl rfl ag_22 rfl rfl rfl rfl (by assumption) rfl ?_ | refine Run.loadO 3 _ _ rfl rfl ag_22 rfl rfl rfl rfl (by assumption) rfl ?_ | refine Zl 4 ag_22 ?_ | refine Run.loadO 4 _ 0 rfl rfl ag_22 rfl rfl rfl rfl (by assumption) rfl ?_ | refine Run.loadO 4 _ _ rfl rfl ag_22 rfl rfl rfl rfl (by assumption) rfl ?_ | refine Zl 5 ag_22 ?_ | refine Run.loadO 5 _ 0 rfl rfl ag_22 rfl rfl rfl rfl (by assumption) rfl ?_ | refine Run.loadO 5 _ _ rfl rfl ag_22 rfl rfl rfl rfl (by assumption) rfl ?_ | refine Run.loadR rfl rfl ag_22 rfl rfl (by first | assumption | exact SlR.cell0 (by assumption) (by assumption) rfl | exact SlR.cell (by assumption) (by assumption) rfl) ?_)
      all_goals (first | refine Zv ?_ | refine Zf fo_24_1 ?_)
      all_goals (first | refine Zv ?_ | refine Zl 0 ag_3 ?_ | refine Run.loadO 0 _ 0 rfl rfl ag_3 rfl rfl rfl rfl (by assumption) rfl ?_ | refine Run.loadO 0 _ _ rfl rfl ag_3 rfl rfl rfl rfl (by assumption) rfl ?_ | refine Zl 1 ag_3 ?_ | refine Run.loadO 1 _ 0 rfl rfl ag_3 rfl rfl rfl rfl (by assumption) rfl ?_ | refine Run.loadO 1 _ _ rfl rfl ag_3 rfl rfl rfl rfl (by assumption) rfl ?_ | refine Zl 2 ag_3 ?_ | refine Run.loadO 2 _ 0 rfl rfl ag_3 rfl rfl rfl rfl (by assumption) rfl ?_ | refine Run.loadO 2 _ _ rfl rfl ag_3 rfl rfl rfl rfl (by assumption) rfl ?_ | refine Zl 3 ag_3 ?_ | refine Run.loadO 3 _ 0 rfl rfl ag_3 rfl rfl rfl rfl (by assumption) rfl ?_ | refine Run.loadO 3 _ _ rfl rfl ag_3 rfl rfl rfl rfl (by assumption) rfl ?_ | refine Zl 4 ag_3 ?_ | refine Run.loadO 4 _ 0 rfl rfl ag_3 rfl rfl rfl rfl (by assumption) rfl ?_ | refine Run.loadO 4 _ _ rfl rfl ag_3 rfl rfl rfl rfl (by assumption) rfl ?_ | refine Zl 5 ag_3 ?_ | refine Run.loadO 5 _ 0 rfl rfl ag_3 rfl rfl rfl rfl (by assumption) rfl ?_ | refine Run.loadO 5 _ _ rfl rfl ag_3 rfl rfl rfl rfl (by assumption) rfl ?_ | refine Run.loadR rfl rfl ag_3 rfl rfl (by first | assumption | exact SlR.cell0 (by assumption) (by assumption) rfl | exact SlR.cell (by assumption) (by assumption) rfl) ?_)
      all_goals (first | refine Zv ?_ | fail)
      all_goals (first | refine Zv ?_ | refine Zf fo_41_2 ?_)
      all_goals (first | refine Zv ?_ | fail)
      all_goals (first | refine Zv ?_ | refine Zi ?_)
      all_goals (first | refine Zq ?_)
      all_goals (refine Run.nil ?_)
      all_goals refine thn_next ⟨⟨rfl, ?_, trivial⟩, ent.none _⟩
      all_goals (simp [Env.get, *] <;> omega)
  refine WP.ite rfl (fun hbad => ?_) (fun hg => ?_)
  · refine Zp ?_
    refine Zm ?_
    refine Ze ?_
    refine WP.ret ?_; refine thn_ret ?_
    exact retT [2] _ rfl rfl ⟨_, ent.none _, by rw [hbad]; rfl, rfl⟩
  refine Zb ?_
  refine Zp ?_
  refine Zm ?_
  refine Ze ?_
  refine WP.ret ?_
  exact retT [2] _ rfl rfl ⟨_, ent.none _, by rw [btrue hg]; rfl, rfl⟩
end Go.Proofs.Ytfaokbjpinlcaaa
end
section
/- Names: classes of bytes, the words; plain. -/
namespace Go.Proofs.Ytfaokbjpinlcaaa
open Go.Sep
set_option linter.unusedVariables false
def clsN (c : Int) : Int := if c = 95 ∨ (97 ≤ c ∧ c ≤ 122) ∨ (65 ≤ c ∧ c ≤ 90) then 3 else if 48 ≤ c ∧ c ≤ 57 then 2 else if c = 9 ∨ c = 10 ∨ c = 13 ∨ c = 32 then 1 else if 32 < c ∧ c < 127 then 4 else 0
def wordL : List ByteArray := [⟨#[102, 117, 110, 99]⟩, ⟨#[118, 97, 114]⟩, ⟨#[105, 102]⟩, ⟨#[101, 108, 115, 101]⟩, ⟨#[102, 111, 114]⟩, ⟨#[114, 101, 116, 117, 114, 110]⟩, ⟨#[98, 114, 101, 97, 107]⟩, ⟨#[99, 111, 110, 116, 105, 110, 117, 101]⟩, ⟨#[112, 114, 105, 110, 116]⟩, ⟨#[112, 97, 110, 105, 99]⟩, ⟨#[105, 110, 112, 117, 116]⟩, ⟨#[108, 101, 110]⟩, ⟨#[109, 97, 107, 101]⟩, ⟨#[105, 110, 116]⟩, ⟨#[98, 111, 111, 108]⟩, ⟨#[116, 114, 117, 101]⟩, ⟨#[102, 97, 108, 115, 101]⟩, ⟨#[110, 105, 108]⟩]
def ltr (letters : Bool) (c : Int) : Bool := decide (clsN c = 2) || (letters && decide (clsN c = 3))
/-- may these bytes be a name? -/
def nameL (xs : List Int) : Bool := decide (1 ≤ xs.length ∧ xs.length ≤ 64) && (match xs with | c :: _ => decide (clsN c = 3) | [] => false) && xs.all (ltr true) && wordL.all (fun w => !decide (strOf xs = w))
def nmB (s : ByteArray) : Bool := nameL (bts s)
/-- how many bytes from `a` on are letters (if they count) and digits -/
def strN (letters : Bool) (xs : List Int) (a : Nat) : Nat := ((xs.drop a).takeWhile (ltr letters)).length
theorem strN_le (letters : Bool) (xs : List Int) (a : Nat) : strN letters xs a ≤ xs.length - a := by
  unfold strN
  have := (List.takeWhile_sublist (ltr letters) (l := xs.drop a)).length_le
  simpa using this
theorem strN_eq {letters : Bool} {xs : List Int} {a n : Nat} (h1 : ∀ (j : Nat) (c : Int), j < n → xs[a + j]? = some c → ltr letters c = true) (h2 : a + n ≤ xs.length) (h3 : ∀ c, xs[a + n]? = some c → ltr letters c = false) : strN letters xs a = n := by
  induction n generalizing a with
  | zero =>
    unfold strN
    cases h : xs[a]? with
    | none => rw [List.drop_eq_nil_of_le (by simpa using h)]; rfl
    | some c =>
      obtain ⟨hl, e⟩ := List.getElem?_eq_some_iff.1 h
      rw [List.drop_eq_getElem_cons hl, List.takeWhile_cons, e, h3 c (by simpa using h)]; simp
  | succ n ih =>
    have hl : a < xs.length := by omega
    have e1 := h1 0 xs[a] (by omega) (by simp)
    have e2 := ih (a := a + 1) (fun j c hj hc => h1 (j + 1) c (by omega) (by rw [← hc]; congr 1; omega)) (by omega) (fun c hc => h3 c (by rw [← hc]; congr 1; omega))
    unfold strN at e2 ⊢
    rw [List.drop_eq_getElem_cons hl, List.takeWhile_cons, if_pos e1, List.length_cons, e2]
theorem strN_all {letters : Bool} {xs : List Int} {a : Nat} (h : ∀ (j : Nat) (c : Int), xs[a + j]? = some c → ltr letters c = true) (ha : a ≤ xs.length) : strN letters xs a = xs.length - a :=
  strN_eq (fun j c _ hc => h j c hc) (by omega) (fun c hc => by rw [List.getElem?_eq_none (by omega)] at hc; cases hc)
theorem mem_tw {p : Int → Bool} {c : Int} : ∀ {l : List Int}, c ∈ l.takeWhile p → p c = true
  | [], h => by simp at h
  | x :: l, h => by
    rw [List.takeWhile_cons] at h
    split at h
    · rcases List.mem_cons.1 h with e | h
      · rw [e]; assumption
      · exact mem_tw h
    · simp at h
theorem strN_mem {letters : Bool} {xs : List Int} {a : Nat} {c : Int} (h : c ∈ (xs.drop a).take (strN letters xs a)) : ltr letters c = true := by
  unfold strN at h
  have e : (xs.drop a).take ((xs.drop a).takeWhile (ltr letters)).length = (xs.drop a).takeWhile (ltr letters) := by
    generalize xs.drop a = l
    have e := List.takeWhile_append_dropWhile (p := ltr letters) (l := l)
    exact (congrArg (List.take (l.takeWhile (ltr letters)).length) e.symm).trans (by rw [List.take_append_of_le_length (Nat.le_refl _), List.take_length])
  rw [e] at h
  exact mem_tw h
theorem strN_pos {letters : Bool} {xs : List Int} {a : Nat} {c : Int} (h : xs[a]? = some c) (hc : ltr letters c = true) : 1 ≤ strN letters xs a := by
  obtain ⟨hl, e⟩ := List.getElem?_eq_some_iff.1 h
  unfold strN
  rw [List.drop_eq_getElem_cons hl, List.takeWhile_cons, e, if_pos hc, List.length_cons]; omega
/-! bytes and their string -/
theorem strOf_data (xs : List Int) (s : ByteArray) : (xs.foldl (fun r n => r.push (UInt8.ofNat n.toNat)) s).data.toList = s.data.toList ++ xs.map fun n => UInt8.ofNat n.toNat := by
  induction xs generalizing s with
  | nil => simp
  | cons x xs ih =>
    rw [List.foldl_cons, ih]
    show (s.data.push (UInt8.ofNat x.toNat)).toList ++ _ = _
    simp
theorem strOf_list (xs : List Int) : (strOf xs).data.toList = xs.map fun n => UInt8.ofNat n.toNat := by
  unfold strOf; rw [strOf_data]; rfl
theorem strOf_bts (s : ByteArray) : strOf (bts s) = s := by
  refine ByteArray.ext (Array.toList_inj.1 ?_)
  rw [strOf_list, bts, List.map_map]
  refine (List.map_congr_left (g := id) fun b _ => ?_).trans (List.map_id _)
  simp
theorem bts_strOf {xs : List Int} (h : ∀ x ∈ xs, 0 ≤ x ∧ x < 256) : bts (strOf xs) = xs := by
  unfold bts
  rw [strOf_list, List.map_map]
  refine (List.map_congr_left (g := id) fun b hb => ?_).trans (List.map_id _)
  obtain ⟨h1, h2⟩ := h b hb
  simp only [Function.comp, id]
  rw [UInt8.toNat_ofNat']
  omega
theorem bts_lt {s : ByteArray} {x : Int} (h : x ∈ bts s) : 0 ≤ x ∧ x < 256 := by
  obtain ⟨b, _, rfl⟩ := List.mem_map.1 h
  have := b.toNat_lt
  omega
/-! the name's tokens -/
theorem nameL_spec {xs : List Int} : nameL xs = true ↔ (1 ≤ xs.length ∧ xs.length ≤ 64) ∧ (∃ c, xs[0]? = some c ∧ clsN c = 3) ∧ (∀ c ∈ xs, ltr true c = true) ∧ strOf xs ∉ wordL := by
  unfold nameL
  cases xs with
  | nil => simp
  | cons x xs =>
    have e : (wordL.all fun w => !decide (strOf (x :: xs) = w)) = true ↔ strOf (x :: xs) ∉ wordL := by
      rw [List.all_eq_true]
      refine ⟨fun h hm => ?_, fun h w hw => ?_⟩
      · have := h _ hm; simp at this
      · simp only [Bool.not_eq_true', decide_eq_false_iff_not]; intro e; rw [e] at h; exact h hw
    simp only [Bool.and_eq_true, decide_eq_true_eq, e, List.all_eq_true, List.getElem?_cons_zero, Option.some.injEq, exists_eq_left', and_assoc]
end Go.Proofs.Ytfaokbjpinlcaaa
end
section
/- The program's lexer: classes, what is left, words, stretches; walked. (Printed by mklexa.py.) -/
namespace Go.Proofs.Ytfaokbjpinlcaaa
open Go.Sep
set_option linter.unusedSimpArgs false
set_option linter.unusedVariables false
set_option maxRecDepth 100000
attribute [local irreducible] blk slA mp mpF rows rowsBut many mpK mpE
theorem class_ok (hR : Heap) (c : Int) : Tri Try.prog hR 49 #[.int .u8 c] [] fun v Γ' => v = .int .i64 (clsN c) ∧ Γ' = [] := by
  refine Tri.ent (Tri.of (args := [.int .u8 c]) Try.func49 rfl Try.ntmps49 (by simp) ?_)
  refine Zp ?_
  refine Zm ?_
  refine Ze ?_
  refine WP.seq ?_
  refine WP.block ?_
  refine WP.seq ?_
  refine WP.block ?_
  refine WP.seq ?_
  refine WP.block ?_
  refine WP.block ?_
  refine WP.seq ?_
  refine WP.block ?_
  refine WP.seq ?_
  refine WP.block ?_
  refine WP.block ?_
  refine WP.block ?_
  refine WP.seq ?_
  refine WP.seq ?_
  refine WP.seqCut [(0, .int .u8 c), (3, .bool (decide (c = 95)))] [] ?_ ?_
  · refine Zc ?_
    refine Zm ?_
    refine Zi ?_
    refine Zm ?_
    refine Run.nil ?_
    refine thn_next ⟨⟨rfl, ?_, trivial⟩, ent.none _⟩
    simp [Env.get]
  refine WP.ite rfl (fun h1 => ?_) (fun h1 => ?_)
  · refine Zj ?_; refine blk_norm ?_; refine blk_norm ?_; refine thn_next ?_
    refine WP.seq ?_
    refine Zp ?_
    refine Zm ?_
    refine Ze ?_
    refine WP.ret ?_; refine thn_ret ?_; refine blk_ret ?_; refine thn_ret ?_; refine blk_ret ?_; refine blk_ret ?_; refine thn_ret ?_; refine blk_ret ?_; refine thn_ret ?_; refine blk_ret ?_; refine thn_ret ?_
    exact retT [2] _ rfl rfl ⟨_, ent.none _, by unfold clsN; simp [*, tupV], rfl⟩
  refine Zb ?_
  refine WP.seq ?_
  refine WP.seqCut [(0, .int .u8 c), (6, .bool (decide (97 ≤ c ∧ c ≤ 122)))] [] ?_ ?_
  · refine Zc ?_
    all_goals (first | refine Zm ?_)
    all_goals (first | refine Zi ?_)
    all_goals (first | refine Run.tt (by first | assumption | omega) ?_ | refine Run.ff (by first | assumption | omega) ?_ | refine Run.split (fun hc8 => ?_) (fun hc8 => ?_) | refine Run.splitB (fun hc8 => ?_) (fun hc8 => ?_) | skip)
    all_goals (first | refine Zm ?_)
    all_goals (first | refine Zv ?_ | refine Zm ?_)
    all_goals (first | refine Zv ?_ | refine Zi ?_)
    all_goals (first | refine Zq ?_)
    all_goals (first | refine Zm ?_)
    all_goals (refine Run.nil ?_)
    all_goals refine thn_next ⟨⟨rfl, ?_, trivial⟩, ent.none _⟩
    all_goals simp [Env.get]
    all_goals omega
  refine WP.ite rfl (fun h2 => ?_) (fun h2 => ?_)
  · refine WP.exit ?_; refine thn_exit ?_; refine thn_exit ?_; refine blk_miss rfl ?_; refine blk_hit ?_; refine blk_norm ?_; refine thn_next ?_
    refine WP.seq ?_
    refine Zp ?_
    refine Zm ?_
    refine Ze ?_
    refine WP.ret ?_; refine thn_ret ?_; refine blk_ret ?_; refine thn_ret ?_; refine blk_ret ?_; refine blk_ret ?_; refine thn_ret ?_; refine blk_ret ?_; refine thn_ret ?_; refine blk_ret ?_; refine thn_ret ?_
    exact retT [2] _ rfl rfl ⟨_, ent.none _, by unfold clsN; simp [*, tupV], rfl⟩
  refine Zb ?_
  refine WP.seq ?_
  refine WP.seqCut [(0, .int .u8 c), (13, .bool (decide (65 ≤ c ∧ c ≤ 90)))] [] ?_ ?_
  · refine Zc ?_
    all_goals (first | refine Zm ?_)
    all_goals (first | refine Zi ?_)
    all_goals (first | refine Run.tt (by first | assumption | omega) ?_ | refine Run.ff (by first | assumption | omega) ?_ | refine Run.split (fun hc15 => ?_) (fun hc15 => ?_) | refine Run.splitB (fun hc15 => ?_) (fun hc15 => ?_) | skip)
    all_goals (first | refine Zm ?_)
    all_goals (first | refine Zv ?_ | refine Zm ?_)
    all_goals (first | refine Zv ?_ | refine Zi ?_)
    all_goals (first | refine Zq ?_)
    all_goals (first | refine Zm ?_)
    all_goals (refine Run.nil ?_)
    all_goals refine thn_next ⟨⟨rfl, ?_, trivial⟩, ent.none _⟩
    all_goals simp [Env.get]
    all_goals omega
  refine WP.ite rfl (fun h3 => ?_) (fun h3 => ?_)
  · refine WP.exit ?_; refine thn_exit ?_; refine thn_exit ?_; refine blk_miss rfl ?_; refine blk_miss rfl ?_; refine blk_hit ?_; refine thn_next ?_
    refine WP.seq ?_
    refine Zp ?_
    refine Zm ?_
    refine Ze ?_
    refine WP.ret ?_; refine thn_ret ?_; refine blk_ret ?_; refine thn_ret ?_; refine blk_ret ?_; refine blk_ret ?_; refine thn_ret ?_; refine blk_ret ?_; refine thn_ret ?_; refine blk_ret ?_; refine thn_ret ?_
    exact retT [2] _ rfl rfl ⟨_, ent.none _, by unfold clsN; simp [*, tupV], rfl⟩
  refine Zb ?_
  refine WP.seq ?_
  refine WP.seqCut [(0, .int .u8 c), (20, .bool (decide (48 ≤ c ∧ c ≤ 57)))] [] ?_ ?_
  · refine Zc ?_
    all_goals (first | refine Zm ?_)
    all_goals (first | refine Zi ?_)
    all_goals (first | refine Run.tt (by first | assumption | omega) ?_ | refine Run.ff (by first | assumption | omega) ?_ | refine Run.split (fun hc22 => ?_) (fun hc22 => ?_) | refine Run.splitB (fun hc22 => ?_) (fun hc22 => ?_) | skip)
    all_goals (first | refine Zm ?_)
    all_goals (first | refine Zv ?_ | refine Zm ?_)
    all_goals (first | refine Zv ?_ | refine Zi ?_)
    all_goals (first | refine Zq ?_)
    all_goals (first | refine Zm ?_)
    all_goals (refine Run.nil ?_)
    all_goals refine thn_next ⟨⟨rfl, ?_, trivial⟩, ent.none _⟩
    all_goals simp [Env.get]
    all_goals omega
  refine WP.ite rfl (fun h4 => ?_) (fun h4 => ?_)
  · refine WP.exit ?_; refine thn_exit ?_; refine thn_exit ?_; refine blk_miss rfl ?_; refine blk_miss rfl ?_; refine blk_miss rfl ?_; refine thn_exit ?_; refine blk_hit ?_; refine thn_next ?_
    refine WP.seq ?_
    refine Zp ?_
    refine Zm ?_
    refine Ze ?_
    refine WP.ret ?_; refine thn_ret ?_; refine blk_ret ?_; refine blk_ret ?_; refine thn_ret ?_; refine blk_ret ?_; refine thn_ret ?_; refine blk_ret ?_; refine thn_ret ?_
    exact retT [2] _ rfl rfl ⟨_, ent.none _, by unfold clsN; simp [*, tupV], rfl⟩
  refine Zb ?_
  refine WP.seq ?_
  refine WP.seqCut [(0, .int .u8 c), (27, .bool (decide (c = 9 ∨ c = 10 ∨ c = 13)))] [] ?_ ?_
  · refine Zp ?_
    refine Zm ?_
    refine Zi ?_
    refine Zm ?_
    refine Ze ?_
    refine WP.ite rfl (fun h51 => ?_) (fun h51 => ?_)
    · refine WP.skip ?_
      refine thn_next ⟨⟨rfl, ?_, trivial⟩, ent.none _⟩
      simp [Env.get, h51]
    refine Zp ?_
    refine Zm ?_
    refine Zi ?_
    refine Zm ?_
    refine Ze ?_
    refine WP.ite rfl (fun h52 => ?_) (fun h52 => ?_)
    · refine WP.skip ?_
      refine thn_next ⟨⟨rfl, ?_, trivial⟩, ent.none _⟩
      simp [Env.get, h52]
    refine Zc ?_
    refine Zm ?_
    refine Zi ?_
    refine Zm ?_
    refine Run.nil ?_
    refine thn_next ⟨⟨rfl, ?_, trivial⟩, ent.none _⟩
    simp [Env.get, h51, h52]
  refine WP.ite rfl (fun h5 => ?_) (fun h5 => ?_)
  · refine WP.exit ?_; refine thn_exit ?_; refine thn_exit ?_; refine blk_miss rfl ?_; refine blk_miss rfl ?_; refine blk_miss rfl ?_; refine thn_exit ?_; refine blk_miss rfl ?_; refine thn_exit ?_; refine blk_hit ?_; refine blk_norm ?_; refine thn_next ?_
    refine WP.seq ?_
    refine Zp ?_
    refine Zm ?_
    refine Ze ?_
    refine WP.ret ?_; refine thn_ret ?_; refine blk_ret ?_; refine thn_ret ?_; refine blk_ret ?_; refine thn_ret ?_
    exact retT [2] _ rfl rfl ⟨_, ent.none _, by rcases h5 with rfl | rfl | rfl <;> rfl, rfl⟩
  refine Zb ?_
  refine WP.seq ?_
  refine WP.seqCut [(0, .int .u8 c), (34, .bool (decide (c = 32)))] [] ?_ ?_
  · refine Zc ?_
    refine Zm ?_
    refine Zi ?_
    refine Zm ?_
    refine Run.nil ?_
    refine thn_next ⟨⟨rfl, ?_, trivial⟩, ent.none _⟩
    simp [Env.get]
  refine WP.ite rfl (fun h8 => ?_) (fun h8 => ?_)
  · refine WP.exit ?_; refine thn_exit ?_; refine thn_exit ?_; refine blk_miss rfl ?_; refine blk_miss rfl ?_; refine blk_miss rfl ?_; refine thn_exit ?_; refine blk_miss rfl ?_; refine thn_exit ?_; refine blk_miss rfl ?_; refine blk_hit ?_; refine thn_next ?_
    refine WP.seq ?_
    refine Zp ?_
    refine Zm ?_
    refine Ze ?_
    refine WP.ret ?_; refine thn_ret ?_; refine blk_ret ?_; refine thn_ret ?_; refine blk_ret ?_; refine thn_ret ?_
    exact retT [2] _ rfl rfl ⟨_, ent.none _, by unfold clsN; simp [*, tupV], rfl⟩
  refine Zb ?_
  refine WP.seqCut [(0, .int .u8 c), (37, .bool (decide (32 < c ∧ c < 127)))] [] ?_ ?_
  · refine Zc ?_
    all_goals (first | refine Zm ?_)
    all_goals (first | refine Zi ?_)
    all_goals (first | refine Run.tt (by first | assumption | omega) ?_ | refine Run.ff (by first | assumption | omega) ?_ | refine Run.split (fun hc39 => ?_) (fun hc39 => ?_) | refine Run.splitB (fun hc39 => ?_) (fun hc39 => ?_) | skip)
    all_goals (first | refine Zm ?_)
    all_goals (first | refine Zv ?_ | refine Zm ?_)
    all_goals (first | refine Zv ?_ | refine Zi ?_)
    all_goals (first | refine Zq ?_)
    all_goals (first | refine Zm ?_)
    all_goals (refine Run.nil ?_)
    all_goals refine thn_next ⟨⟨rfl, ?_, trivial⟩, ent.none _⟩
    all_goals simp [Env.get]
    all_goals omega
  refine WP.ite rfl (fun h9 => ?_) (fun h9 => ?_)
  · refine WP.exit ?_; refine thn_exit ?_; refine blk_miss rfl ?_; refine blk_miss rfl ?_; refine blk_miss rfl ?_; refine thn_exit ?_; refine blk_miss rfl ?_; refine thn_exit ?_; refine blk_miss rfl ?_; refine blk_miss rfl ?_; refine thn_exit ?_; refine blk_hit ?_; refine thn_next ?_
    refine WP.seq ?_
    refine Zp ?_
    refine Zm ?_
    refine Ze ?_
    refine WP.ret ?_; refine thn_ret ?_; refine blk_ret ?_; refine thn_ret ?_
    exact retT [2] _ rfl rfl ⟨_, ent.none _, by unfold clsN; simp [*, tupV], rfl⟩
  refine Zb ?_
  refine WP.exit ?_; refine blk_miss rfl ?_; refine blk_miss rfl ?_; refine blk_miss rfl ?_; refine thn_exit ?_; refine blk_miss rfl ?_; refine thn_exit ?_; refine blk_miss rfl ?_; refine blk_miss rfl ?_; refine thn_exit ?_; refine blk_miss rfl ?_; refine thn_exit ?_; refine blk_hit ?_; refine thn_next ?_
  refine Zp ?_
  refine Zm ?_
  refine Ze ?_
  refine WP.ret ?_
  exact retT [2] _ rfl rfl ⟨_, ent.none _, by unfold clsN; simp [*, tupV], rfl⟩
theorem rest_ok (hR : Heap) (br : Nat) (sv : SV) (xs : List Int) (a : Nat) (hs : SlR rdB hR sv.val xs) (hn : sv.n = xs.length) (hc : xs.length ≤ sv.c) (ha : a ≤ xs.length) :
    Tri Try.prog hR 50 #[.pointer (some ⟨br, 0, none⟩)] [blk br [sv.val, .int .i64 (a : Int)] 91] fun v Γ' => v = (sv.cut 1 a xs.length).val ∧ Γ' = [blk br [sv.val, .int .i64 (a : Int)] 91] := by
  refine Tri.ent (Tri.of (args := [.pointer (some ⟨br, 0, none⟩)]) Try.func50 rfl Try.ntmps50 (by simp) ?_)
  refine Zp ?_
  refine Zm ?_
  refine Ze ?_
  refine WP.seq ?_
  refine WP.drawn0 cf0 mixed rfl (by kernel_rfl) ?_
  refine Zm ?_
  refine Zn ?_
  refine Zf fo_91_0 ?_
  refine Zl 0 ag_71 ?_
  refine Zm ?_
  refine Zn ?_
  refine Zf fo_91_1 ?_
  refine Zl 0 ag_3 ?_
  refine Run.sliceV (sv := sv) (il := (a : Int)) (ih := (sv.n : Int)) rfl rfl sl_71 rfl rfl rfl rfl (by omega) (by omega) (by omega) ?_
  refine Zm ?_
  refine Ze ?_
  refine WP.ret ?_
  exact retT [2] _ rfl rfl ⟨_, ent.go, by rw [← hn]; rfl, rfl⟩
theorem ba_158 : baT Try.prog 158 = some (List.replicate 18 (.string ⟨#[]⟩), 1) := by kernel_rfl
theorem word_at {k : Nat} {w : ByteArray} (h : wordL[k]? = some w) : (wordL.map Value.string)[k]? = some (.string w) := by rw [List.getElem?_map, h]; rfl
theorem lexWord_ok (hR : Heap) (s : ByteArray) : Tri Try.prog hR 73 #[.string s] [] fun v Γ' => ∃ k : Int, v = .int .i64 k ∧ (k = 1 ↔ s ∉ wordL) ∧ Γ' = [] := by
  refine Tri.ent (Tri.of (args := [.string s]) Try.func73 rfl Try.ntmps73 (by simp) ?_)
  refine Zp ?_
  refine Zm ?_
  refine Ze ?_
  refine Zp ?_
  refine Run.buildA rfl ba_158 rfl rfl rfl rfl ?_
  refine Run.alloc rfl zr_158 rfl rfl rfl ?_
  intro b3
  refine Run.storeB 0 rfl rfl rfl rfl ag_158 rfl rfl rfl rfl rfl ?_
  refine Ze ?_
  refine WP.trim [0, 2, 3] [0] ?_
  refine WP.meetC (α := Unit) (fun _ => s ∉ wordL) (fun _ => []) (fun _ => []) ?_ ?_
  · refine Zp ?_
    refine Run.loadBagg 0 rfl rfl ag_158 rfl rfl rfl rfl rfl ?_
    refine Zm ?_
    refine Ze ?_
    refine WP.block ?_
    refine WP.trim [0, 2, 3, 7, 8] [0] ?_
    refine WP.loopC (α := Nat) (fun i => i ≤ 18 ∧ s ∉ wordL.take i) (fun i => [(8, .int .i64 (i : Int))]) (fun _ => []) (fun i => 18 - i) 0 ⟨Nat.zero_le _, by simp⟩ ?_
    rintro i ⟨hi, hno⟩
    refine WP.trim [0, 2, 3, 7, 8] [0] ?_
    refine Zp ?_
    refine Zi ?_
    refine Ze ?_
    refine WP.seq ?_
    refine WP.ite rfl (fun hlt => ?_) (fun hge => ?_)
    · refine Zb ?_
      obtain ⟨w, gw⟩ : ∃ w, wordL[(i : Int).toNat]? = some w := ⟨_, List.getElem?_eq_getElem (by show _ < 18; omega)⟩
      have gw' : wordL[i]? = some w := gw
      refine WP.seq ?_
      refine WP.block ?_
      refine Zp ?_
      refine Zm ?_
      refine Run.idxVal (len := 18) (v := .string w) rfl rfl rfl rfl ag_9 rfl rfl (by omega) (by omega) (word_at gw) ?_
      refine Zm ?_
      refine Zm ?_
      refine Ze ?_
      refine Zp ?_
      refine Zm ?_
      refine Zm ?_
      refine Run.eqStr rfl rfl rfl rfl rfl ?_
      refine Ze ?_
      refine WP.ite rfl (fun hy => ?_) (fun hy => ?_)
      · refine Zp ?_
        refine Zm ?_
        refine Za ?_
        refine Zm ?_
        refine Ze ?_
        refine WP.ret ?_; refine blk_ret ?_; refine thn_ret ?_; refine thn_ret ?_; refine blk_ret ?_; refine thn_ret ?_
        exact retT [2] _ rfl rfl ⟨_, ent.none _, _, rfl, ⟨fun h => by omega, fun h => absurd (List.mem_of_getElem? gw') (by rw [← hy]; exact h)⟩, rfl⟩
      · refine WP.skip ?_; refine blk_norm ?_; refine thn_next ?_
        refine Zc ?_
        refine Za ?_
        refine Zm ?_
        refine Run.nil ?_
        refine thn_next ⟨i + 1, ⟨by omega, ?_⟩, by omega, Ko.go, ent.gc⟩
        rw [List.take_add_one, gw', List.mem_append]
        rintro (h | h)
        · exact hno h
        · simp at h; exact hy h
    · refine Zj ?_
      refine thn_next ⟨(), fun h => hno ?_, Ko.go, ent.gc⟩
      rw [List.take_of_length_le (by show 18 ≤ i; omega)]; exact h
  intro _ hno
  refine Zp ?_
  refine Zm ?_
  refine Ze ?_
  refine WP.ret ?_
  exact retT [2] _ rfl rfl ⟨_, ent.none _, _, rfl, ⟨fun _ => hno, fun _ => rfl⟩, rfl⟩
end Go.Proofs.Ytfaokbjpinlcaaa
end
section
/- The program's lexer: stretches, names; walked. -/
namespace Go.Proofs.Ytfaokbjpinlcaaa
open Go.Sep
set_option linter.unusedSimpArgs false
set_option linter.unusedVariables false
set_option maxRecDepth 100000
attribute [local irreducible] blk slA mp mpF rows rowsBut many mpK mpE nameL
/-- a text, where a lexer reads it -/
structure TxV (h : Heap) (sv : SV) (xs : List Int) : Prop where
  hs : SlR rdB h sv.val xs
  hn : sv.n = xs.length
  hc : xs.length ≤ sv.c
  hl : xs.length ≤ 2000000
  hb : ∀ x ∈ xs, 0 ≤ x ∧ x < 256
theorem TxV.mono {h h' : Heap} {sv : SV} {xs : List Int} (H : TxV h sv xs) (hh : Sub h h') : TxV h' sv xs := ⟨H.hs.mono hh, H.hn, H.hc, H.hl, H.hb⟩
theorem TxV.cut {h : Heap} {sv : SV} {xs : List Int} (H : TxV h sv xs) {a : Nat} (ha : a ≤ xs.length) : SlR rdB h (sv.cut 1 a xs.length).val (xs.drop a) := by
  have := SlR_cut H.hs (lo := a) (hi := xs.length) ha (Nat.le_refl _)
  rw [List.take_length] at this
  exact this
theorem TxV.cut2 {h : Heap} {sv : SV} {xs : List Int} (H : TxV h sv xs) {a n : Nat} (ha : a ≤ xs.length) (hn : n ≤ xs.length - a) : SlR rdB h ((sv.cut 1 a xs.length).cut 1 0 n).val ((xs.drop a).take n) := by
  have := SlR_cut (H.cut ha) (lo := 0) (hi := n) (Nat.zero_le _) (by rw [List.length_drop]; exact hn)
  rw [List.drop_zero] at this
  exact this
/-- a token, and where the lexer stands behind it -/
def TokOk (xs : List Int) (a : Nat) (tv : Value) (e : Int) (a' : Nat) : Prop :=
  a ≤ a' ∧ a' ≤ xs.length ∧ ∃ (k t v : Int) (nm : ByteArray), tv = .agg ⟨[.int .i64 k, .int .i64 t, .int .i64 v, .string nm]⟩ ∧ (e = 0 → a < a' ∧ (k = 1 → nmB nm = true)) ∧ (a = 0 → nameL xs = true → e = 0 ∧ a' = xs.length ∧ k = 1 ∧ nm = strOf xs)
theorem restR_ok (hR : Heap) (br : Nat) (sv : SV) (xs : List Int) (a : Nat) (H : TxV hR sv xs) (ha : a ≤ xs.length) (hr : rowH hR ⟨br, 0, none⟩ [sv.val, .int .i64 (a : Int)]) :
    Tri Try.prog hR 50 #[.pointer (some ⟨br, 0, none⟩)] [] fun v Γ' => v = (sv.cut 1 a xs.length).val ∧ Γ' = [] := by
  have hn := H.hn
  have hc := H.hc
  refine Tri.ent (Tri.of (args := [.pointer (some ⟨br, 0, none⟩)]) Try.func50 rfl Try.ntmps50 (by simp) ?_)
  refine Zp ?_
  refine Zm ?_
  refine Ze ?_
  refine WP.seq ?_
  refine WP.drawn0 cf0 mixed rfl (by kernel_rfl) ?_
  refine Zm ?_
  refine Zn ?_
  refine Zf fo_91_0 ?_
  refine Zr ag_71 (hr 0 _ rfl) ?_
  refine Zm ?_
  refine Zn ?_
  refine Zf fo_91_1 ?_
  refine Zr ag_3 (hr 1 _ rfl) ?_
  refine Run.sliceV (sv := sv) (il := (a : Int)) (ih := (sv.n : Int)) rfl rfl sl_71 rfl rfl rfl rfl (by omega) (by omega) (by omega) ?_
  refine Zm ?_
  refine Ze ?_
  refine WP.ret ?_
  exact retT [2] _ rfl rfl ⟨_, ent.none _, by rw [← hn]; rfl, rfl⟩
theorem btrueL {b : Bool} (h : ¬ b = false) : b = true := by cases b <;> simp_all
set_option maxHeartbeats 4000000 in
theorem stretch_ok (hR : Heap) (br : Nat) (sv : SV) (xs : List Int) (a : Nat) (L : Bool) (H : TxV hR sv xs) (ha : a ≤ xs.length) :
    Tri Try.prog hR 72 #[.pointer (some ⟨br, 0, none⟩), .bool L] [blk br [sv.val, .int .i64 (a : Int)] 91] fun v Γ' => v = .int .i64 (strN L xs a : Int) ∧ Γ' = [blk br [sv.val, .int .i64 (a : Int)] 91] := by
  have hl := H.hl
  have hcut := H.cut ha
  have hcl : (xs.drop a).length = xs.length - a := List.length_drop ..
  refine Tri.ent (Tri.of (args := [.pointer (some ⟨br, 0, none⟩), .bool L]) Try.func72 rfl Try.ntmps72 (by simp) ?_)
  refine Zp ?_
  refine Zm ?_
  refine Ze ?_
  refine WP.scope ?_
  refine Zp ?_
  refine Zm ?_
  refine Ze ?_
  refine WP.seq ?_
  refine WP.label ?_; refine thn_next ?_
  refine WP.trim [0, 1, 4, 5] [0] ?_
  refine WP.meetC (α := Nat) (fun z => strN L xs a = z) (fun z => [(5, .int .i64 (z : Int))]) (fun _ => []) ?_ ?_
  · refine Zp ?_
    refine Zm ?_
    refine Run.callP [0] ok_50 (rest_ok hR br sv xs a H.hs H.hn H.hc ha) ?_; rintro _ _ ⟨rfl, rfl⟩
    refine Zh sl_71 hcut ?_
    refine Zm ?_
    refine Ze ?_
    refine WP.block ?_
    refine WP.trim [0, 1, 4, 5, 9, 10, 11] [0] ?_
    refine WP.loopC (α := Nat) (fun i => i ≤ xs.length - a ∧ ∀ (j : Nat) (c : Int), j < i → xs[a + j]? = some c → ltr L c = true) (fun i => [(5, .int .i64 (i : Int)), (11, .int .i64 (i : Int))]) (fun _ => []) (fun i => xs.length - a - i) 0 ⟨Nat.zero_le _, fun j c h => by omega⟩ ?_
    rintro i ⟨hi, hok⟩
    refine WP.trim [0, 1, 4, 5, 9, 10, 11] [0] ?_
    refine Zp ?_
    refine Zi ?_
    refine Ze ?_
    refine WP.seq ?_
    refine WP.ite rfl (fun hlt => ?_) (fun hge => ?_)
    · refine Zb ?_
      rw [hcl] at hlt
      obtain ⟨c, gc⟩ : ∃ c, (xs.drop a)[(i : Int).toNat]? = some c := ⟨_, List.getElem?_eq_getElem (by rw [hcl]; omega)⟩
      have gc' : xs[a + i]? = some c := by rw [← List.getElem?_drop]; exact gc
      have hstep : ltr L c = true → ∀ (j : Nat) (d : Int), j < i + 1 → xs[a + j]? = some d → ltr L d = true := fun h j d hj hd => by
        by_cases e : j = i
        · subst e; rw [gc'] at hd; cases hd; exact h
        · exact hok j d (by omega) hd
      have hbrk : ltr L c = false → strN L xs a = i := fun h => strN_eq hok (by omega) fun d hd => by rw [gc'] at hd; cases hd; exact h
      refine WP.seq ?_
      refine WP.block ?_
      refine Zp ?_
      refine Run.idxR rfl rfl rfl sl_71 rfl rfl hcut (by rfl) (by omega) (by rw [hcl]; omega) ?_
      refine Zr ag_5 (SlR.cell0 hcut gc rfl) ?_
      refine Zm ?_
      refine Ze ?_
      refine Zp ?_
      refine Zm ?_
      refine Run.callP [] ok_49 (class_ok hR c) ?_; rintro _ _ ⟨rfl, rfl⟩
      refine Ze ?_
      refine WP.trim [0, 1, 4, 5, 9, 10, 11, 16] [0] ?_
      refine WP.block ?_
      refine WP.seq ?_
      refine WP.block ?_
      refine WP.seq ?_
      refine WP.block ?_
      refine WP.seq ?_
      refine WP.block ?_
      refine WP.seq ?_
      refine WP.seq ?_
      refine Zp ?_
      refine Zi ?_
      refine Zm ?_
      refine Ze ?_
      refine WP.ite rfl (fun h3 => ?_) (fun h3 => ?_)
      · refine Zj ?_; refine thn_next ?_
        refine Zp ?_
        refine Zm ?_
        refine Run.bnotB rfl rfl rfl rfl ?_
        refine Run.eqv (v' := .bool (decide (L = false))) (by cases L <;> rfl) ?_
        refine Ze ?_
        refine WP.ite rfl (fun hL => ?_) (fun hL => ?_)
        · refine WP.exit ?_; refine blk_miss rfl ?_; refine thn_exit ?_; refine blk_miss rfl ?_; refine thn_exit ?_; refine blk_miss rfl ?_; refine blk_miss rfl ?_; refine thn_exit ?_; refine thn_exit ?_; refine blk_hit ?_
          exact thn_next ⟨i, hbrk (by unfold ltr; rw [h3, hL]; rfl), Ko.go, ent.gc⟩
        · refine WP.skip ?_; refine blk_norm ?_; refine thn_next ?_
          refine Zp ?_
          refine Zm ?_
          refine Za ?_
          refine Zm ?_
          refine Ze ?_
          refine WP.exit ?_; refine blk_miss rfl ?_; refine thn_exit ?_; refine blk_hit ?_; refine blk_norm ?_; refine thn_next ?_
          refine Zc ?_
          refine Za ?_
          refine Zm ?_
          refine Run.nil ?_
          exact thn_next ⟨i + 1, ⟨by omega, hstep (by unfold ltr; rw [h3, btrueL hL]; rfl)⟩, by omega, Ko.go, ent.gc⟩
      refine Zb ?_
      refine Zp ?_
      refine Zi ?_
      refine Zm ?_
      refine Ze ?_
      refine WP.ite rfl (fun h2 => ?_) (fun h2 => ?_)
      · refine WP.exit ?_; refine thn_exit ?_; refine blk_miss rfl ?_; refine thn_exit ?_; refine blk_hit ?_; refine thn_next ?_
        refine Zp ?_
        refine Zm ?_
        refine Za ?_
        refine Zm ?_
        refine Ze ?_
        refine WP.exit ?_; refine blk_miss rfl ?_; refine thn_exit ?_; refine blk_hit ?_; refine blk_norm ?_; refine thn_next ?_
        refine Zc ?_
        refine Za ?_
        refine Zm ?_
        refine Run.nil ?_
        exact thn_next ⟨i + 1, ⟨by omega, hstep (by unfold ltr; rw [h2]; simp)⟩, by omega, Ko.go, ent.gc⟩
      refine Zb ?_
      refine WP.exit ?_; refine blk_miss rfl ?_; refine thn_exit ?_; refine blk_miss rfl ?_; refine thn_exit ?_; refine blk_hit ?_; refine thn_next ?_
      refine WP.seq ?_
      refine WP.exit ?_; refine thn_exit ?_; refine blk_miss rfl ?_; refine blk_miss rfl ?_; refine thn_exit ?_; refine thn_exit ?_; refine blk_hit ?_
      exact thn_next ⟨i, hbrk (by unfold ltr; simp [h2, h3]), Ko.go, ent.gc⟩
    · refine Zj ?_
      rw [hcl] at hge
      exact thn_next ⟨i, strN_eq hok (by omega) (fun d hd => by rw [List.getElem?_eq_none (by omega)] at hd; cases hd), Ko.go, ent.gc⟩
  intro z hz
  refine Zp ?_
  refine Zm ?_
  refine Zm ?_
  refine Ze ?_
  refine WP.ret ?_
  refine scp_ret ?_
  exact retT [4] _ rfl rfl ⟨_, ent.go, by rw [hz]; rfl, rfl⟩
theorem nameL_all {xs : List Int} (h : nameL xs = true) : strN true xs 0 = xs.length ∧ 1 ≤ xs.length ∧ xs.length ≤ 64 ∧ strOf xs ∉ wordL := by
  obtain ⟨⟨h1, h2⟩, _, h3, h4⟩ := nameL_spec.1 h
  exact ⟨strN_all (a := 0) (fun j c hc => h3 c (List.mem_of_getElem? hc)) (Nat.zero_le _), h1, h2, h4⟩
theorem name_mk {h : Heap} {sv : SV} {xs : List Int} {a : Nat} {c : Int} (H : TxV h sv xs) (gc : xs[a]? = some c) (h3 : clsN c = 3) (hn : strN true xs a ≤ 64) (hw : strOf ((xs.drop a).take (strN true xs a)) ∉ wordL) : nmB (strOf ((xs.drop a).take (strN true xs a))) = true := by
  unfold nmB
  have hmem : ∀ x ∈ (xs.drop a).take (strN true xs a), x ∈ xs := fun x hx => List.mem_of_mem_drop (List.mem_of_mem_take hx)
  rw [bts_strOf (fun x hx => H.hb x (hmem x hx))]
  have hp := strN_pos (letters := true) gc (by unfold ltr; rw [h3]; rfl)
  have hle := strN_le true xs a
  have hlen : ((xs.drop a).take (strN true xs a)).length = strN true xs a := by rw [List.length_take, List.length_drop]; omega
  exact nameL_spec.2 ⟨⟨by omega, by omega⟩, ⟨c, by rw [List.getElem?_take_of_lt (by omega), List.getElem?_drop]; exact gc, h3⟩, fun x hx => strN_mem hx, hw⟩
set_option maxHeartbeats 4000000 in
theorem name_ok (hR : Heap) (br : Nat) (sv : SV) (xs : List Int) (a : Nat) (c : Int) (H : TxV hR sv xs) (gc : xs[a]? = some c) (h3 : clsN c = 3) :
    Tri Try.prog hR 51 #[.pointer (some ⟨br, 0, none⟩)] [blk br [sv.val, .int .i64 (a : Int)] 91] fun v Γ' => ∃ (tv : Value) (e : Int) (a' : Nat), v = .tuple #[tv, .int .i64 e] ∧ TokOk xs a tv e a' ∧ Γ' = [blk br [sv.val, .int .i64 (a' : Int)] 91] := by
  have hl := H.hl
  have ha : a < xs.length := (List.getElem?_eq_some_iff.1 gc).1
  have hp := strN_pos (letters := true) gc (by unfold ltr; rw [h3]; rfl)
  have hle := strN_le true xs a
  have hcut2 := H.cut2 (a := a) (by omega) hle
  refine Tri.ent (Tri.of (args := [.pointer (some ⟨br, 0, none⟩)]) Try.func51 rfl Try.ntmps51 (by simp) ?_)
  refine Zp ?_
  refine Run.alloc rfl zr_73 rfl rfl rfl ?_
  intro b2
  refine Zm ?_
  refine Ze ?_
  refine Zp ?_
  refine Zm ?_
  refine Run.callP [0] ok_72 (stretch_ok hR br sv xs a true H (by omega)) ?_; rintro _ _ ⟨rfl, rfl⟩
  refine Zm ?_
  refine Ze ?_
  refine WP.trim [0, 2, 3, 4] [0, 1] ?_
  refine WP.seq ?_
  refine Zp ?_
  refine Zm ?_
  refine Zi ?_
  refine Ze ?_
  refine WP.ite rfl (fun h64 => ?_) (fun h64 => ?_)
  · refine Zp ?_
    refine Run.build rfl bd_73 rfl rfl rfl rfl ?_
    refine Run.storeB 1 rfl rfl rfl rfl ag_73 rfl rfl rfl rfl rfl ?_
    refine Zm ?_
    refine Ze ?_
    refine WP.ret ?_; refine thn_ret ?_
    refine retCT 2 1 3 ag_73 rfl rfl rfl rfl rfl ⟨_, ent.go, _, _, a, rfl, ⟨Nat.le_refl _, by omega, _, _, _, _, rfl, fun h => by simp at h, fun h0 hn => ?_⟩, rfl⟩
    subst h0
    obtain ⟨q1, q2, q3, q4⟩ := nameL_all hn
    omega
  refine Zb ?_
  have hsc : strN true xs a ≤ sv.c - a := by have := H.hc; omega
  refine WP.trim [0, 2, 3, 4] [1, 0] ?_
  refine WP.meetM (α := Nat) (fun _ => True) (fun z => [(5, .pointer (some ⟨z, 0, none⟩))]) (fun z => [blk b2 [.int .i64 0, .int .i64 0, .int .i64 0, .string ⟨#[]⟩] 73, blk br [sv.val, .int .i64 (a : Int)] 91, blk z [.int .i64 1, .int .i64 (a : Int), .int .i64 0, .string (strOf ((xs.drop a).take (strN true xs a)))] 73]) ?_ ?_
  · refine WP.via (Γ' := [blk b2 [.int .i64 0, .int .i64 0, .int .i64 0, .string ⟨#[]⟩] 73] ++ [blk br [sv.val, .int .i64 (a : Int)] 91]) (ent.refl _) ?_
    refine WP.freeze (Γ := [blk b2 [.int .i64 0, .int .i64 0, .int .i64 0, .string ⟨#[]⟩] 73]) [blk br [sv.val, .int .i64 (a : Int)] 91] fun gF hgF hdF => ?_
    refine WP.drawnX cfG [0, 1, 2, 3, 4, 5, 6, 7, 8, 9, 10, 11] [0, 1, 2, 3, 4, 10, 5, 6, 7, 8, 9, 11] 5 10 mixed rfl rfl (by kernel_rfl) ?_ ?_
    · refine Zm ?_
      refine Zn ?_
      refine Zf fo_91_1 ?_
      refine Run.loadF rfl rfl ag_3 rfl rfl (lent_blk (v := .int .i64 (a : Int)) 0 1 rfl rfl hgF hdF) ?_
      refine Zm ?_
      refine Run.callP [] ok_50 (restR_ok (un hR gF) br sv xs a (H.mono (Sub.un_left _ _)) (by omega) (lent_row 0 0 2 hgF hdF)) ?_; rintro _ _ ⟨rfl, rfl⟩
      refine Zm ?_
      refine Run.sliceV (sv := sv.cut 1 a xs.length) (il := 0) (ih := (strN true xs a : Int)) rfl rfl sl_71 rfl rfl rfl rfl (by omega) (by omega) (by show (strN true xs a : Int) ≤ ((sv.c - a : Nat) : Int); omega) ?_
      refine Run.toStrF rfl rfl rfl rfl rfl rfl rfl (hcut2.mono (Sub.un_left _ _)) ?_
      refine Run.build rfl bd_73 rfl rfl rfl rfl ?_
      refine Run.alloc rfl zr_73 rfl rfl rfl ?_
      intro b5
      refine Run.storeB 1 rfl rfl rfl rfl ag_73 rfl rfl rfl rfl rfl ?_
      refine Run.nil ?_
      exact thn_next ⟨b5, trivial, Ko.go, ent.go⟩
    · refine Zm ?_
      refine Zn ?_
      refine Zf fo_91_1 ?_
      refine Run.loadF rfl rfl ag_3 rfl rfl (lent_blk (v := .int .i64 (a : Int)) 0 1 rfl rfl hgF hdF) ?_
      refine Zm ?_
      refine Run.alloc rfl zr_73 rfl rfl rfl ?_
      intro b5
      refine Run.callP [] ok_50 (restR_ok (un hR gF) br sv xs a (H.mono (Sub.un_left _ _)) (by omega) (lent_row 0 0 2 hgF hdF)) ?_; rintro _ _ ⟨rfl, rfl⟩
      refine Zm ?_
      refine Run.sliceV (sv := sv.cut 1 a xs.length) (il := 0) (ih := (strN true xs a : Int)) rfl rfl sl_71 rfl rfl rfl rfl (by omega) (by omega) (by show (strN true xs a : Int) ≤ ((sv.c - a : Nat) : Int); omega) ?_
      refine Run.toStrF rfl rfl rfl rfl rfl rfl rfl (hcut2.mono (Sub.un_left _ _)) ?_
      refine Run.build rfl bd_73 rfl rfl rfl rfl ?_
      refine Run.storeB 1 rfl rfl rfl rfl ag_73 rfl rfl rfl rfl rfl ?_
      refine Run.nil ?_
      exact thn_next ⟨b5, trivial, Ko.go, ent.go⟩
  intro b5 _
  refine WP.seq ?_
  refine Zp ?_
  refine Zf fo_73_3 ?_
  refine Zl 2 ag_9 ?_
  refine Run.callP [] ok_73 (lexWord_ok hR _) ?_; rintro _ _ ⟨k, rfl, hk, rfl⟩
  refine Zm ?_
  refine Ze ?_
  refine Zp ?_
  refine Zm ?_
  refine Zi ?_
  refine Ze ?_
  refine WP.ite rfl (fun h1 => ?_) (fun h1 => ?_)
  · refine Zc ?_
    refine Zm ?_
    refine Zm ?_
    refine Zn ?_
    refine Zf fo_91_1 ?_
    refine Zl 1 ag_3 ?_
    refine Run.build rfl bd_73 rfl rfl rfl rfl ?_
    refine Run.storeB 2 rfl rfl rfl rfl ag_73 rfl rfl rfl rfl rfl ?_
    refine Ze ?_
    refine Zp ?_
    refine Zm ?_
    refine Zn ?_
    refine Zf fo_91_1 ?_
    refine Zl 1 ag_3 ?_
    refine Zm ?_
    refine Za ?_
    refine Zn ?_
    refine Zf fo_91_1 ?_
    refine Run.storeB 1 rfl rfl rfl rfl ag_3 rfl rfl rfl rfl rfl ?_
    refine Ze ?_
    refine Zp ?_
    refine Run.loadBagg 2 rfl rfl ag_73 rfl rfl rfl rfl rfl ?_
    refine Run.storeB 0 rfl rfl rfl rfl ag_73 rfl rfl rfl rfl rfl ?_
    refine Zm ?_
    refine Ze ?_
    refine WP.ret ?_
    refine retCT 2 0 3 ag_73 rfl rfl rfl rfl rfl ⟨[blk br [sv.val, .int .i64 ((a : Int) + (strN true xs a : Int))] 91], ent.go, _, _, a + strN true xs a, rfl, ⟨by omega, by omega, _, _, _, _, rfl, fun _ => ⟨by omega, fun hk' => absurd hk' h1⟩, fun h0 hn => absurd (hk.2 (by subst h0; obtain ⟨q1, q2, q3, q4⟩ := nameL_all hn; rw [q1, List.drop_zero, List.take_length]; exact q4)) h1⟩, by rw [Int.natCast_add]⟩
  refine Zb ?_
  refine Zp ?_
  refine Zm ?_
  refine Zn ?_
  refine Zf fo_91_1 ?_
  refine Zl 1 ag_3 ?_
  refine Zm ?_
  refine Za ?_
  refine Zn ?_
  refine Zf fo_91_1 ?_
  refine Run.storeB 1 rfl rfl rfl rfl ag_3 rfl rfl rfl rfl rfl ?_
  refine Ze ?_
  refine Zp ?_
  refine Run.loadBagg 2 rfl rfl ag_73 rfl rfl rfl rfl rfl ?_
  refine Run.storeB 0 rfl rfl rfl rfl ag_73 rfl rfl rfl rfl rfl ?_
  refine Zm ?_
  refine Ze ?_
  refine WP.ret ?_
  refine retCT 2 0 3 ag_73 rfl rfl rfl rfl rfl ⟨[blk br [sv.val, .int .i64 ((a : Int) + (strN true xs a : Int))] 91], ent.go, _, _, a + strN true xs a, rfl, ⟨by omega, by omega, _, _, _, _, rfl, fun _ => ⟨by omega, fun _ => name_mk H gc h3 (by omega) (hk.1 (Decidable.not_not.1 h1))⟩, fun h0 hn => by subst h0; obtain ⟨q1, q2, q3, q4⟩ := nameL_all hn; exact ⟨rfl, by omega, rfl, by rw [q1, List.drop_zero, List.take_length]⟩⟩, by rw [Int.natCast_add]⟩
end Go.Proofs.Ytfaokbjpinlcaaa
end
section
/- The program's lexer: numbers, signs, tokens; walked. (Printed by mklexc.py.) -/
namespace Go.Proofs.Ytfaokbjpinlcaaa
open Go.Sep
set_option linter.unusedSimpArgs false
set_option linter.unusedVariables false
set_option maxRecDepth 100000
attribute [local irreducible] blk slA mp mpF rows rowsBut many mpK mpE nameL
theorem tok_err {xs : List Int} {a : Nat} {c : Int} {e : Int} {t v : Int} {k : Int} {nm : ByteArray} (gc : xs[a]? = some c) (hc : clsN c ≠ 3) (he : e ≠ 0) : TokOk xs a (.agg ⟨[.int .i64 k, .int .i64 t, .int .i64 v, .string nm]⟩) e a := by
  have := (List.getElem?_eq_some_iff.1 gc).1
  refine ⟨Nat.le_refl _, by omega, _, _, _, _, rfl, fun h => absurd h he, fun h0 hn => ?_⟩
  subst h0
  obtain ⟨_, ⟨d, hd, hd3⟩, _⟩ := nameL_spec.1 hn
  rw [gc] at hd; cases hd; exact absurd hd3 hc
theorem tok_ok {xs : List Int} {a a' : Nat} {c : Int} {t v : Int} {k : Int} {nm : ByteArray} (gc : xs[a]? = some c) (hc : clsN c ≠ 3) (h1 : a < a') (h2 : a' ≤ xs.length) (hk : k ≠ 1) : TokOk xs a (.agg ⟨[.int .i64 k, .int .i64 t, .int .i64 v, .string nm]⟩) 0 a' := by
  refine ⟨by omega, h2, _, _, _, _, rfl, fun h => ⟨h1, fun e => absurd e hk⟩, fun h0 hn => ?_⟩
  subst h0
  obtain ⟨_, ⟨d, hd, hd3⟩, _⟩ := nameL_spec.1 hn
  rw [gc] at hd; cases hd; exact absurd hd3 hc
set_option maxHeartbeats 4000000 in
theorem number_ok (hR : Heap) (br : Nat) (sv : SV) (xs : List Int) (a : Nat) (c : Int) (H : TxV hR sv xs) (gc : xs[a]? = some c) (h2 : clsN c = 2) :
    Tri Try.prog hR 52 #[.pointer (some ⟨br, 0, none⟩)] [blk br [sv.val, .int .i64 (a : Int)] 91] fun v Γ' => ∃ (tv : Value) (e : Int) (a' : Nat), v = .tuple #[tv, .int .i64 e] ∧ TokOk xs a tv e a' ∧ Γ' = [blk br [sv.val, .int .i64 (a' : Int)] 91] := by
  have hl := H.hl
  have ha : a < xs.length := (List.getElem?_eq_some_iff.1 gc).1
  have hp := strN_pos (letters := false) gc (by unfold ltr; rw [h2]; rfl)
  have hle := strN_le false xs a
  have hcut2 := H.cut2 (a := a) (by omega) hle
  have hn3 : clsN c ≠ 3 := by omega
  have hlen : ((xs.drop a).take (strN false xs a)).length = strN false xs a := by rw [List.length_take, List.length_drop]; omega
  have hsc : strN false xs a ≤ sv.c - a := by have := H.hc; omega
  refine Tri.ent (Tri.of (args := [.pointer (some ⟨br, 0, none⟩)]) Try.func52 rfl Try.ntmps52 (by simp) ?_)
  refine Zp ?_
  refine Run.alloc rfl zr_73 rfl rfl rfl ?_
  intro b2
  refine Zm ?_
  refine Ze ?_
  refine Zp ?_
  refine Zm ?_
  refine Run.callP [0] ok_72 (stretch_ok hR br sv xs a false H (by omega)) ?_; rintro _ _ ⟨rfl, rfl⟩
  refine Zm ?_
  refine Ze ?_
  refine Zp ?_
  refine Zm ?_
  refine Run.callP [0] ok_50 (rest_ok hR br sv xs a H.hs H.hn H.hc (by omega)) ?_; rintro _ _ ⟨rfl, rfl⟩
  refine Zm ?_
  refine Run.sliceV (sv := sv.cut 1 a xs.length) (il := 0) (ih := (strN false xs a : Int)) rfl rfl sl_71 rfl rfl rfl rfl (by omega) (by omega) (by show (strN false xs a : Int) ≤ ((sv.c - a : Nat) : Int); omega) ?_
  refine Zm ?_
  refine Ze ?_
  refine WP.trim [0, 2, 3, 4, 5] [0, 1] ?_
  obtain ⟨d, gd⟩ : ∃ d, ((xs.drop a).take (strN false xs a))[(0 : Int).toNat]? = some d := ⟨_, List.getElem?_eq_getElem (by rw [hlen]; exact hp)⟩
  refine WP.seq ?_
  refine WP.seqCut [(0, .pointer (some ⟨br, 0, none⟩)), (2, .pointer (some ⟨b2, 0, none⟩)), (3, .int .i64 0), (4, .int .i64 (strN false xs a : Int)), (5, ((sv.cut 1 a xs.length).cut 1 0 (strN false xs a)).val), (24, .bool (decide ((1 : Int) < strN false xs a ∧ d = 48)))] [blk br [sv.val, .int .i64 (a : Int)] 91, blk b2 [.int .i64 0, .int .i64 0, .int .i64 0, .string ⟨#[]⟩] 73] ?_ ?_
  · refine Zc ?_
    all_goals (first | refine Zm ?_)
    all_goals (first | refine Zi ?_)
    all_goals (first | refine Run.tt (by first | assumption | omega) ?_ | refine Run.ff (by first | assumption | omega) ?_ | refine Run.split (fun hc18 => ?_) (fun hc18 => ?_) | refine Run.splitB (fun hc18 => ?_) (fun hc18 => ?_) | skip)
    all_goals (first | refine Zm ?_)
    all_goals (first | refine Zv ?_ | refine Zm ?_)
    all_goals (first | refine Zv ?_ | refine Run.idxR rfl rfl rfl sl_71 rfl rfl hcut2 (by rfl) (by omega) (by rw [hlen]; omega) ?_)
    all_goals (first | refine Zv ?_ | refine Zr ag_5 (SlR.cell0 hcut2 gd rfl) ?_)
    all_goals (first | refine Zv ?_ | refine Zi ?_)
    all_goals (first | refine Zq ?_)
    all_goals (refine Run.nil ?_)
    all_goals refine thn_next ⟨⟨rfl, rfl, rfl, rfl, rfl, ?_, trivial⟩, ent.go⟩
    all_goals simp [Env.get]
    all_goals omega
  refine WP.ite rfl (fun h0 => ?_) (fun h0 => ?_)
  · refine Zp ?_
    refine Run.build rfl bd_73 rfl rfl rfl rfl ?_
    refine Run.storeB 1 rfl rfl rfl rfl ag_73 rfl rfl rfl rfl rfl ?_
    refine Zm ?_
    refine Ze ?_
    refine WP.ret ?_; refine thn_ret ?_
    exact retCT 2 1 3 ag_73 rfl rfl rfl rfl rfl ⟨_, ent.go, _, _, a, rfl, tok_err gc hn3 (by decide), rfl⟩
  refine Zb ?_
  refine Zp ?_
  refine Zm ?_
  refine Ze ?_
  refine WP.trim [0, 2, 3, 4, 5, 6] [0, 1] ?_
  refine WP.meetC (α := Int) (fun _ => True) (fun z => [(6, .int .i64 z)]) (fun _ => []) ?_ ?_
  · refine Zp ?_
    refine Zm ?_
    refine Zh sl_71 hcut2 ?_
    refine Zm ?_
    refine Ze ?_
    refine WP.block ?_
    refine WP.trim [0, 2, 3, 4, 5, 6, 26, 27, 28] [0, 1] ?_
    refine WP.loopC (α := Nat × Int) (fun z => z.1 ≤ strN false xs a) (fun z => [(6, .int .i64 z.2), (28, .int .i64 (z.1 : Int))]) (fun _ => []) (fun z => strN false xs a - z.1) (0, 0) (Nat.zero_le _) ?_
    rintro ⟨i, v⟩ hi
    simp only at hi
    refine WP.trim [0, 2, 3, 4, 5, 6, 26, 27, 28] [0, 1] ?_
    refine Zp ?_
    refine Zi ?_
    refine Ze ?_
    refine WP.seq ?_
    refine WP.ite rfl (fun hlt => ?_) (fun hge => ?_)
    · refine Zb ?_
      rw [hlen] at hlt
      obtain ⟨y, gy⟩ : ∃ y, ((xs.drop a).take (strN false xs a))[(i : Int).toNat]? = some y := ⟨_, List.getElem?_eq_getElem (by rw [hlen]; omega)⟩
      refine WP.seq ?_
      refine WP.block ?_
      refine Zp ?_
      refine Run.idxR rfl rfl rfl sl_71 rfl rfl hcut2 (by rfl) (by omega) (by rw [hlen]; omega) ?_
      refine Zr ag_5 (SlR.cell0 hcut2 gy rfl) ?_
      refine Zm ?_
      refine Ze ?_
      refine Zp ?_
      refine Zm ?_
      refine Zi ?_
      refine Run.conv rfl rfl rfl rfl rfl rfl ?_
      refine Zm ?_
      refine Ze ?_
      refine WP.seq ?_
      refine Zp ?_
      refine Zm ?_
      refine Zm ?_
      refine Zi ?_
      refine Zi ?_
      refine Zi ?_
      refine Ze ?_
      refine WP.ite rfl (fun hbig => ?_) (fun hbig => ?_)
      · refine Zp ?_
        refine Run.build rfl bd_73 rfl rfl rfl rfl ?_
        refine Run.storeB 1 rfl rfl rfl rfl ag_73 rfl rfl rfl rfl rfl ?_
        refine Zm ?_
        refine Ze ?_
        refine WP.ret ?_; refine thn_ret ?_; refine blk_ret ?_; refine thn_ret ?_; refine thn_ret ?_; refine blk_ret ?_; refine thn_ret ?_
        exact retCT 2 1 3 ag_73 rfl rfl rfl rfl rfl ⟨_, ent.go, _, _, a, rfl, tok_err gc hn3 (by decide), rfl⟩
      refine Zb ?_
      refine Zc ?_
      refine Zm ?_
      refine Zi ?_
      refine Zm ?_
      refine Zi ?_
      refine Zm ?_
      refine Run.nil ?_
      refine blk_norm ?_; refine thn_next ?_
      refine Zc ?_
      refine Za ?_
      refine Zm ?_
      refine Run.nil ?_
      refine thn_next ⟨(i + 1, IntKind.i64.wrap (IntKind.i64.wrap (10 * v) + IntKind.i64.wrap (IntKind.u8.wrap (y - 48)))), by simp only; omega, by simp only; omega, Ko.go, ent.gc⟩
    · refine Zj ?_
      exact thn_next ⟨v, trivial, Ko.go, ent.gc⟩
  intro v _
  refine Zp ?_
  refine Zm ?_
  refine Zn ?_
  refine Zf fo_91_1 ?_
  refine Zl 0 ag_3 ?_
  refine Zm ?_
  refine Run.build rfl bd_73 rfl rfl rfl rfl ?_
  refine Run.alloc rfl zr_73 rfl rfl rfl ?_
  intro b10
  refine Run.storeB 2 rfl rfl rfl rfl ag_73 rfl rfl rfl rfl rfl ?_
  refine Ze ?_
  refine Zp ?_
  refine Zm ?_
  refine Zn ?_
  refine Zf fo_91_1 ?_
  refine Zl 0 ag_3 ?_
  refine Zm ?_
  refine Za ?_
  refine Zn ?_
  refine Zf fo_91_1 ?_
  refine Run.storeB 0 rfl rfl rfl rfl ag_3 rfl rfl rfl rfl rfl ?_
  refine Ze ?_
  refine Zp ?_
  refine Run.loadBagg 2 rfl rfl ag_73 rfl rfl rfl rfl rfl ?_
  refine Run.storeB 1 rfl rfl rfl rfl ag_73 rfl rfl rfl rfl rfl ?_
  refine Zm ?_
  refine Ze ?_
  refine WP.ret ?_
  exact retCT 2 1 3 ag_73 rfl rfl rfl rfl rfl ⟨[blk br [sv.val, .int .i64 ((a : Int) + (strN false xs a : Int))] 91], ent.go, _, _, a + strN false xs a, rfl, tok_ok gc hn3 (by omega) (by omega) (by decide), by rw [Int.natCast_add]⟩
theorem two_ok (hR : Heap) (s : ByteArray) : Tri Try.prog hR 74 #[.string s] [] fun v Γ' => ∃ k : Int, v = .int .i64 k ∧ k ≠ 1 ∧ Γ' = [] := by
  refine Tri.ent (Tri.of (args := [.string s]) Try.func74 rfl Try.ntmps74 (by simp) ?_)
  refine Zp ?_
  refine Zm ?_
  refine Ze ?_
  refine WP.seq ?_
  refine Zp ?_
  refine Zm ?_
  refine Ze ?_
  refine WP.block ?_
  refine Zp ?_
  refine Run.eqStr rfl rfl rfl rfl rfl ?_
  refine Zm ?_
  refine Ze ?_
  refine WP.ite rfl (fun h => ?_) (fun h => ?_)
  · refine Zp ?_
    refine Zm ?_
    refine Ze ?_
    refine WP.ret ?_; refine blk_ret ?_; refine thn_ret ?_
    exact retT [2] _ rfl rfl ⟨_, ent.none _, _, rfl, by decide, rfl⟩
  refine Zp ?_
  refine Run.eqStr rfl rfl rfl rfl rfl ?_
  refine Zm ?_
  refine Ze ?_
  refine WP.ite rfl (fun h => ?_) (fun h => ?_)
  · refine Zp ?_
    refine Zm ?_
    refine Ze ?_
    refine WP.ret ?_; refine blk_ret ?_; refine thn_ret ?_
    exact retT [2] _ rfl rfl ⟨_, ent.none _, _, rfl, by decide, rfl⟩
  refine Zp ?_
  refine Run.eqStr rfl rfl rfl rfl rfl ?_
  refine Zm ?_
  refine Ze ?_
  refine WP.ite rfl (fun h => ?_) (fun h => ?_)
  · refine Zp ?_
    refine Zm ?_
    refine Ze ?_
    refine WP.ret ?_; refine blk_ret ?_; refine thn_ret ?_
    exact retT [2] _ rfl rfl ⟨_, ent.none _, _, rfl, by decide, rfl⟩
  refine Zp ?_
  refine Run.eqStr rfl rfl rfl rfl rfl ?_
  refine Zm ?_
  refine Ze ?_
  refine WP.ite rfl (fun h => ?_) (fun h => ?_)
  · refine Zp ?_
    refine Zm ?_
    refine Ze ?_
    refine WP.ret ?_; refine blk_ret ?_; refine thn_ret ?_
    exact retT [2] _ rfl rfl ⟨_, ent.none _, _, rfl, by decide, rfl⟩
  refine Zp ?_
  refine Run.eqStr rfl rfl rfl rfl rfl ?_
  refine Zm ?_
  refine Ze ?_
  refine WP.ite rfl (fun h => ?_) (fun h => ?_)
  · refine Zp ?_
    refine Zm ?_
    refine Ze ?_
    refine WP.ret ?_; refine blk_ret ?_; refine thn_ret ?_
    exact retT [2] _ rfl rfl ⟨_, ent.none _, _, rfl, by decide, rfl⟩
  refine Zp ?_
  refine Run.eqStr rfl rfl rfl rfl rfl ?_
  refine Zm ?_
  refine Ze ?_
  refine WP.ite rfl (fun h => ?_) (fun h => ?_)
  · refine Zp ?_
    refine Zm ?_
    refine Ze ?_
    refine WP.ret ?_; refine blk_ret ?_; refine thn_ret ?_
    exact retT [2] _ rfl rfl ⟨_, ent.none _, _, rfl, by decide, rfl⟩
  refine Zp ?_
  refine Run.eqStr rfl rfl rfl rfl rfl ?_
  refine Zm ?_
  refine Ze ?_
  refine WP.ite rfl (fun h => ?_) (fun h => ?_)
  · refine Zp ?_
    refine Zm ?_
    refine Ze ?_
    refine WP.ret ?_; refine blk_ret ?_; refine thn_ret ?_
    exact retT [2] _ rfl rfl ⟨_, ent.none _, _, rfl, by decide, rfl⟩
  refine Zp ?_
  refine Run.eqStr rfl rfl rfl rfl rfl ?_
  refine Zm ?_
  refine Ze ?_
  refine WP.ite rfl (fun h => ?_) (fun h => ?_)
  · refine Zp ?_
    refine Zm ?_
    refine Ze ?_
    refine WP.ret ?_; refine blk_ret ?_; refine thn_ret ?_
    exact retT [2] _ rfl rfl ⟨_, ent.none _, _, rfl, by decide, rfl⟩
  refine Zp ?_
  refine Run.eqStr rfl rfl rfl rfl rfl ?_
  refine Zm ?_
  refine Ze ?_
  refine WP.ite rfl (fun h => ?_) (fun h => ?_)
  · refine Zp ?_
    refine Zm ?_
    refine Ze ?_
    refine WP.ret ?_; refine blk_ret ?_; refine thn_ret ?_
    exact retT [2] _ rfl rfl ⟨_, ent.none _, _, rfl, by decide, rfl⟩
  refine WP.skip ?_; refine blk_norm ?_; refine thn_next ?_
  refine Zp ?_
  refine Zm ?_
  refine Ze ?_
  refine WP.ret ?_
  exact retT [2] _ rfl rfl ⟨_, ent.none _, _, rfl, by decide, rfl⟩
def oneK : List Int := [40, 41, 42, 43, 44, 45, 46, 47, 48, 68, 51, 53, 55, 56, 57, 58, 59, 60, 61, 62]
theorem ba_159 : baT Try.prog 159 = some (List.replicate 20 (.int .i64 0), 1) := by kernel_rfl
theorem one_at {k : Nat} {w : Int} (h : oneK[k]? = some w) : (oneK.map (Value.int .i64))[k]? = some (.int .i64 w) := by rw [List.getElem?_map, h]; rfl
theorem one_ok (hR : Heap) (c : Int) : Tri Try.prog hR 75 #[.int .u8 c] [] fun v Γ' => ∃ k : Int, v = .int .i64 k ∧ k ≠ 1 ∧ Γ' = [] := by
  refine Tri.ent (Tri.of (args := [.int .u8 c]) Try.func75 rfl Try.ntmps75 (by simp) ?_)
  refine Zp ?_
  refine Zm ?_
  refine Ze ?_
  refine Zp ?_
  refine Run.buildA rfl ba_159 rfl rfl rfl rfl ?_
  refine Run.alloc rfl zr_159 rfl rfl rfl ?_
  intro b3
  refine Run.storeB 0 rfl rfl rfl rfl ag_159 rfl rfl rfl rfl rfl ?_
  refine Ze ?_
  refine WP.trim [0, 2, 3] [0] ?_
  refine WP.meetC (α := Unit) (fun _ => True) (fun _ => []) (fun _ => []) ?_ ?_
  · refine Zp ?_
    refine Run.loadBagg 0 rfl rfl ag_159 rfl rfl rfl rfl rfl ?_
    refine Zm ?_
    refine Ze ?_
    refine WP.block ?_
    refine WP.trim [0, 2, 3, 7, 8] [0] ?_
    refine WP.loopC (α := Nat) (fun i => i ≤ 20) (fun i => [(8, .int .i64 (i : Int))]) (fun _ => []) (fun i => 20 - i) 0 (Nat.zero_le _) ?_
    rintro i hi
    refine WP.trim [0, 2, 3, 7, 8] [0] ?_
    refine Zp ?_
    refine Zi ?_
    refine Ze ?_
    refine WP.seq ?_
    refine WP.ite rfl (fun hlt => ?_) (fun hge => ?_)
    · refine Zb ?_
      obtain ⟨w, gw⟩ : ∃ w, oneK[(i : Int).toNat]? = some w := ⟨_, List.getElem?_eq_getElem (by show _ < 20; omega)⟩
      have hw : w ≠ 1 := (by decide : ∀ w ∈ oneK, w ≠ 1) w (List.mem_of_getElem? gw)
      obtain ⟨s, gs⟩ : ∃ s, (⟨#[40, 41, 123, 125, 91, 93, 44, 59, 61, 33, 60, 62, 43, 45, 42, 47, 37, 38, 124, 94]⟩ : ByteArray)[(i : Int).toNat]? = some s := ⟨_, getElem?_pos _ _ (by show _ < 20; omega)⟩
      refine WP.seq ?_
      refine WP.block ?_
      refine Zp ?_
      refine Zm ?_
      refine Run.idxVal (len := 20) (v := .int .i64 w) rfl rfl rfl rfl ag_3 rfl rfl (by omega) (by omega) (one_at gw) ?_
      refine Zm ?_
      refine Zm ?_
      refine Ze ?_
      refine Zp ?_
      refine Zm ?_
      refine Run.idxStr rfl rfl rfl rfl rfl rfl (by omega) gs ?_
      refine Zm ?_
      refine Zi ?_
      refine Ze ?_
      refine WP.ite rfl (fun hy => ?_) (fun hy => ?_)
      · refine Zp ?_
        refine Zm ?_
        refine Zm ?_
        refine Ze ?_
        refine WP.ret ?_; refine blk_ret ?_; refine thn_ret ?_; refine thn_ret ?_; refine blk_ret ?_; refine thn_ret ?_
        exact retT [2] _ rfl rfl ⟨_, ent.none _, _, rfl, hw, rfl⟩
      · refine WP.skip ?_; refine blk_norm ?_; refine thn_next ?_
        refine Zc ?_
        refine Za ?_
        refine Zm ?_
        refine Run.nil ?_
        exact thn_next ⟨i + 1, by omega, by omega, Ko.go, ent.gc⟩
    · refine Zj ?_
      exact thn_next ⟨(), trivial, Ko.go, ent.gc⟩
  intro _ _
  refine Zp ?_
  refine Zm ?_
  refine Ze ?_
  refine WP.ret ?_
  exact retT [2] _ rfl rfl ⟨_, ent.none _, _, rfl, by decide, rfl⟩
end Go.Proofs.Ytfaokbjpinlcaaa
end
section
/- The program's lexer: signs, tokens; walked. -/
namespace Go.Proofs.Ytfaokbjpinlcaaa
open Go.Sep
set_option linter.unusedSimpArgs false
set_option linter.unusedVariables false
set_option maxRecDepth 100000
attribute [local irreducible] blk slA mp mpF rows rowsBut many mpK mpE nameL
set_option maxHeartbeats 4000000 in
theorem sign_ok (hR : Heap) (br : Nat) (sv : SV) (xs : List Int) (a : Nat) (c : Int) (H : TxV hR sv xs) (gc : xs[a]? = some c) (h4 : clsN c = 4) :
    Tri Try.prog hR 53 #[.pointer (some ⟨br, 0, none⟩)] [blk br [sv.val, .int .i64 (a : Int)] 91] fun v Γ' => ∃ (tv : Value) (e : Int) (a' : Nat), v = .tuple #[tv, .int .i64 e] ∧ TokOk xs a tv e a' ∧ Γ' = [blk br [sv.val, .int .i64 (a' : Int)] 91] := by
  have hl := H.hl
  have hs := H.hs
  have ha : a < xs.length := (List.getElem?_eq_some_iff.1 gc).1
  have gc' : xs[((a : Int)).toNat]? = some c := gc
  have hn3 : clsN c ≠ 3 := by omega
  have hcut := H.cut (a := a) (by omega)
  have hcl : (xs.drop a).length = xs.length - a := List.length_drop ..
  have hsc : xs.length - a ≤ sv.c - a := by have := H.hc; omega
  refine Tri.ent (Tri.of (args := [.pointer (some ⟨br, 0, none⟩)]) Try.func53 rfl Try.ntmps53 (by simp) ?_)
  refine Zp ?_
  refine Run.alloc rfl zr_73 rfl rfl rfl ?_
  intro b2
  refine Zm ?_
  refine Ze ?_
  refine Zp ?_
  refine Zm ?_
  refine Zn ?_
  refine Zf fo_91_1 ?_
  refine Zl 0 ag_3 ?_
  refine Run.build rfl bd_73 rfl rfl rfl rfl ?_
  refine Run.alloc rfl zr_73 rfl rfl rfl ?_
  intro b4
  refine Run.storeB 2 rfl rfl rfl rfl ag_73 rfl rfl rfl rfl rfl ?_
  refine Ze ?_
  refine Zp ?_
  refine Zm ?_
  refine Ze ?_
  refine WP.trim [0, 2, 3, 4, 5] [0, 1, 2] ?_
  refine WP.meetC (α := Int) (fun k => k ≠ 1 ∧ (k ≠ 0 → a + 2 ≤ xs.length)) (fun _ => []) (fun k => [(2, blk b4 [.int .i64 k, .int .i64 (a : Int), .int .i64 0, .string ⟨#[]⟩] 73)]) ?_ ?_
  · refine Zp ?_
    refine Zm ?_
    refine Run.callP [0] ok_50 (rest_ok hR br sv xs a H.hs H.hn H.hc (by omega)) ?_; rintro _ _ ⟨rfl, rfl⟩
    refine Zh sl_71 hcut ?_
    refine Zi ?_
    refine Ze ?_
    refine WP.ite rfl (fun h1 => ?_) (fun h1 => ?_)
    · rw [hcl] at h1
      have hcut2 := H.cut2 (a := a) (n := 2) (by omega) (by omega)
      refine Zc ?_
      refine Zm ?_
      refine Run.callP [0] ok_50 (rest_ok hR br sv xs a H.hs H.hn H.hc (by omega)) ?_; rintro _ _ ⟨rfl, rfl⟩
      refine Run.sliceV (sv := sv.cut 1 a xs.length) (il := 0) (ih := 2) rfl rfl sl_71 rfl rfl rfl rfl (by omega) (by omega) (by show (2 : Int) ≤ ((sv.c - a : Nat) : Int); omega) ?_
      refine Run.toStr rfl rfl rfl rfl rfl rfl rfl hcut2 ?_
      refine Run.callP [] ok_74 (two_ok hR _) ?_; rintro _ _ ⟨k, rfl, hk, rfl⟩
      refine Zf fo_73_0 ?_
      refine Run.storeB 2 rfl rfl rfl rfl ag_3 rfl rfl rfl rfl rfl ?_
      refine Run.nil ?_
      exact thn_next ⟨k, ⟨hk, fun _ => by omega⟩, Ko.go, ent.gc⟩
    · refine WP.skip ?_
      exact thn_next ⟨0, ⟨by decide, fun h => absurd rfl h⟩, Ko.go, ent.gc⟩
  rintro k ⟨hk1, hk2⟩
  refine WP.trim [0, 2, 3, 4, 5] [0, 1, 2] ?_
  refine WP.meetC (α := Int × Nat) (fun z => z.1 ≠ 1 ∧ 1 ≤ z.2 ∧ a + z.2 ≤ xs.length) (fun z => [(5, .int .i64 (z.2 : Int))]) (fun z => [(2, blk b4 [.int .i64 z.1, .int .i64 (a : Int), .int .i64 0, .string ⟨#[]⟩] 73)]) ?_ ?_
  · refine Zp ?_
    refine Zf fo_73_0 ?_
    refine Zl 2 ag_3 ?_
    refine Zi ?_
    refine Ze ?_
    refine WP.ite rfl (fun h1 => ?_) (fun h1 => ?_)
    · refine WP.drawn0 cf0 mixed rfl (by kernel_rfl) ?_
      refine Zm ?_
      refine Zn ?_
      refine Zf fo_91_0 ?_
      refine Zl 0 ag_71 ?_
      refine Zm ?_
      refine Zn ?_
      refine Zf fo_91_1 ?_
      refine Zl 0 ag_3 ?_
      refine Zx sl_71 hs ?_
      refine Zr ag_5 (SlR.cell0 hs gc' rfl) ?_
      refine Run.callP [] ok_75 (one_ok hR c) ?_; rintro _ _ ⟨k2, rfl, hk3, rfl⟩
      refine Zf fo_73_0 ?_
      refine Run.storeB 2 rfl rfl rfl rfl ag_3 rfl rfl rfl rfl rfl ?_
      refine Zm ?_
      refine Run.nil ?_
      exact thn_next ⟨(k2, 1), ⟨hk3, Nat.le_refl _, by simp only; omega⟩, Ko.go, ent.gc⟩
    · refine WP.skip ?_
      exact thn_next ⟨(k, 2), ⟨hk1, by show 1 ≤ 2; omega, hk2 h1⟩, Ko.go, ent.gc⟩
  rintro ⟨k2, n⟩ ⟨hk3, hn1, hn2⟩
  simp only at hk3 hn1 hn2 ⊢
  refine WP.trim [0, 2, 3, 4, 5] [0, 1, 2] ?_
  refine WP.seq ?_
  refine Zp ?_
  refine Zf fo_73_0 ?_
  refine Zl 2 ag_3 ?_
  refine Zi ?_
  refine Ze ?_
  refine WP.ite rfl (fun h1 => ?_) (fun h1 => ?_)
  · refine Zp ?_
    refine Run.build rfl bd_73 rfl rfl rfl rfl ?_
    refine Run.storeB 1 rfl rfl rfl rfl ag_73 rfl rfl rfl rfl rfl ?_
    refine Zm ?_
    refine Ze ?_
    refine WP.ret ?_; refine thn_ret ?_
    exact retCT 2 1 3 ag_73 rfl rfl rfl rfl rfl ⟨_, ent.go, _, _, a, rfl, tok_err gc hn3 (by decide), rfl⟩
  refine Zb ?_
  refine Zp ?_
  refine Zm ?_
  refine Zn ?_
  refine Zf fo_91_1 ?_
  refine Zl 0 ag_3 ?_
  refine Zm ?_
  refine Za ?_
  refine Zn ?_
  refine Zf fo_91_1 ?_
  refine Run.storeB 0 rfl rfl rfl rfl ag_3 rfl rfl rfl rfl rfl ?_
  refine Ze ?_
  refine Zp ?_
  refine Run.loadBagg 2 rfl rfl ag_73 rfl rfl rfl rfl rfl ?_
  refine Run.storeB 1 rfl rfl rfl rfl ag_73 rfl rfl rfl rfl rfl ?_
  refine Zm ?_
  refine Ze ?_
  refine WP.ret ?_
  exact retCT 2 1 3 ag_73 rfl rfl rfl rfl rfl ⟨[blk br [sv.val, .int .i64 ((a : Int) + (n : Int))] 91], ent.go, _, _, a + n, rfl, tok_ok gc hn3 (by omega) (by omega) hk3, by rw [Int.natCast_add]⟩
set_option maxHeartbeats 4000000 in
theorem token_ok (hR : Heap) (br : Nat) (sv : SV) (xs : List Int) (a : Nat) (H : TxV hR sv xs) (ha : a < xs.length) :
    Tri Try.prog hR 32 #[.pointer (some ⟨br, 0, none⟩)] [blk br [sv.val, .int .i64 (a : Int)] 91] fun v Γ' => ∃ (tv : Value) (e : Int) (a' : Nat), v = .tuple #[tv, .int .i64 e] ∧ TokOk xs a tv e a' ∧ Γ' = [blk br [sv.val, .int .i64 (a' : Int)] 91] := by
  have hl := H.hl
  have hs := H.hs
  obtain ⟨c, gc⟩ : ∃ c, xs[a]? = some c := ⟨_, List.getElem?_eq_getElem ha⟩
  have gc' : xs[((a : Int)).toNat]? = some c := gc
  refine Tri.ent (Tri.of (args := [.pointer (some ⟨br, 0, none⟩)]) Try.func32 rfl Try.ntmps32 (by simp) ?_)
  refine Zp ?_
  refine Run.alloc rfl zr_73 rfl rfl rfl ?_
  intro b2
  refine Zm ?_
  refine Ze ?_
  refine WP.seq ?_
  refine WP.seq ?_
  refine WP.drawn0 cf0 mixed rfl (by kernel_rfl) ?_
  refine Zm ?_
  refine Zn ?_
  refine Zf fo_91_0 ?_
  refine Zl 0 ag_71 ?_
  refine Zm ?_
  refine Zn ?_
  refine Zf fo_91_1 ?_
  refine Zl 0 ag_3 ?_
  refine Zx sl_71 hs ?_
  refine Zr ag_5 (SlR.cell0 hs gc' rfl) ?_
  refine Run.callP [] ok_49 (class_ok hR c) ?_; rintro _ _ ⟨rfl, rfl⟩
  refine Ze ?_
  refine WP.block ?_
  refine Zp ?_
  refine Zi ?_
  refine Zm ?_
  refine Ze ?_
  refine WP.ite rfl (fun h3 => ?_) (fun h3 => ?_)
  · refine Zp ?_
    refine Zm ?_
    refine Run.callP [0] ok_51 (name_ok hR br sv xs a c H gc h3) ?_; rintro _ _ ⟨_, e, a', rfl, ⟨q1, q2, k, t, v, nm, rfl, q3, q4⟩, rfl⟩
    refine Run.extract rfl rfl rfl rfl rfl ?_
    refine Run.extract rfl rfl rfl rfl rfl ?_
    refine Run.storeB 1 rfl rfl rfl rfl ag_73 rfl rfl rfl rfl rfl ?_
    refine Zm ?_
    refine Ze ?_
    refine WP.ret ?_; refine blk_ret ?_; refine thn_ret ?_
    exact retCT 2 1 3 ag_73 rfl rfl rfl rfl rfl ⟨_, ent.go, _, _, a', rfl, ⟨q1, q2, _, _, _, _, rfl, q3, q4⟩, rfl⟩
  refine Zp ?_
  refine Zi ?_
  refine Zm ?_
  refine Ze ?_
  refine WP.ite rfl (fun h2 => ?_) (fun h2 => ?_)
  · refine Zp ?_
    refine Zm ?_
    refine Run.callP [0] ok_52 (number_ok hR br sv xs a c H gc h2) ?_; rintro _ _ ⟨_, e, a', rfl, ⟨q1, q2, k, t, v, nm, rfl, q3, q4⟩, rfl⟩
    refine Run.extract rfl rfl rfl rfl rfl ?_
    refine Run.extract rfl rfl rfl rfl rfl ?_
    refine Run.storeB 1 rfl rfl rfl rfl ag_73 rfl rfl rfl rfl rfl ?_
    refine Zm ?_
    refine Ze ?_
    refine WP.ret ?_; refine blk_ret ?_; refine thn_ret ?_
    exact retCT 2 1 3 ag_73 rfl rfl rfl rfl rfl ⟨_, ent.go, _, _, a', rfl, ⟨q1, q2, _, _, _, _, rfl, q3, q4⟩, rfl⟩
  refine Zp ?_
  refine Zi ?_
  refine Zm ?_
  refine Ze ?_
  refine WP.ite rfl (fun h4 => ?_) (fun h4 => ?_)
  · refine Zp ?_
    refine Zm ?_
    refine Run.callP [0] ok_53 (sign_ok hR br sv xs a c H gc h4) ?_; rintro _ _ ⟨_, e, a', rfl, ⟨q1, q2, k, t, v, nm, rfl, q3, q4⟩, rfl⟩
    refine Run.extract rfl rfl rfl rfl rfl ?_
    refine Run.extract rfl rfl rfl rfl rfl ?_
    refine Run.storeB 1 rfl rfl rfl rfl ag_73 rfl rfl rfl rfl rfl ?_
    refine Zm ?_
    refine Ze ?_
    refine WP.ret ?_; refine blk_ret ?_; refine thn_ret ?_
    exact retCT 2 1 3 ag_73 rfl rfl rfl rfl rfl ⟨_, ent.go, _, _, a', rfl, ⟨q1, q2, _, _, _, _, rfl, q3, q4⟩, rfl⟩
  refine WP.skip ?_; refine blk_norm ?_; refine thn_next ?_
  refine Zp ?_
  refine Run.build rfl bd_73 rfl rfl rfl rfl ?_
  refine Run.storeB 1 rfl rfl rfl rfl ag_73 rfl rfl rfl rfl rfl ?_
  refine Zm ?_
  refine Ze ?_
  refine WP.ret ?_
  exact retCT 2 1 3 ag_73 rfl rfl rfl rfl rfl ⟨_, ent.go, _, _, a, rfl, tok_err gc h3 (by decide), rfl⟩
end Go.Proofs.Ytfaokbjpinlcaaa
end
