/- ALIR's check: functions, all; walked. -/
import Derived.Test.YtfaokbjpinlcaaaGreatGA4
import Derived.Test.YtfaokbjpinlcaaaGreatGA9
import Derived.Shelf.Sort.Plain
import Derived.Shelf.Slices.CompactI
import Derived.Shelf.Slices.In.SortNone
import Derived.Ground.NamesProg
import Derived.Ground.Names2Prog
import Derived.Test.YtfaokbjpinlcaaaGreatProg
section
/- ALIR's check: functions, all; walked. -/
namespace Go.Proofs.YtfaokbjpinlcaaaGreat
open Go.Sep
set_option linter.unusedSimpArgs false
set_option linter.unusedVariables false
set_option maxRecDepth 100000
attribute [local irreducible] blk slA mp mpF rows rowsBut many mpK mpE placeB noneB funB insB termB callB
theorem sl_cap {A : Type} {E : Rd A} {h : Heap} {sv : SV} {xs : List A} (H : SlR E h sv.val xs) : sv.n = xs.length ∧ xs.length ≤ sv.c := by
  obtain ⟨a, c, e, hc, _⟩ := H
  simp only [SV.val, Value.slice.injEq] at e
  exact ⟨e.2.1, by rw [e.2.2]; exact hc⟩
theorem nodup_take {A : Type} {l : List A} (h : ∀ (j : Nat) (x : A), l[j]? = some x → x ∉ l.take j) : l.Nodup := by
  rw [List.nodup_iff_pairwise_ne, List.pairwise_iff_getElem]
  intro i j hi hj hij e
  refine h j l[j] (List.getElem?_eq_getElem hj) ?_
  rw [← e, List.mem_take_iff_getElem]
  exact ⟨i, by omega, rfl⟩
theorem not_nodup {A : Type} {l : List A} {j : Nat} {x : A} (h : l[j]? = some x) (hm : x ∈ l.take j) : ¬ l.Nodup := fun hn => by
  rw [List.nodup_iff_pairwise_ne, List.pairwise_iff_getElem] at hn
  obtain ⟨i, hi, e⟩ := List.mem_take_iff_getElem.1 hm
  obtain ⟨hj, e2⟩ := List.getElem?_eq_some_iff.1 h
  exact hn i j (by omega) hj (by omega) (by rw [e, e2])
set_option maxHeartbeats 4000000 in
theorem chkFun_ok (hR : Heap) (A : AL) (fv : SV) (F : AF) (su sv : SV) (hA : SlR rdAF hR fv.val A.funcs) (hF : AFv hR F su.val sv.val) (hl1 : A.funcs.length ≤ 1000000) (hl4 : ∀ F ∈ A.funcs, F.params.length ≤ 1000000) (hs : SmallF F) :
    Tri Tryz.prog hR 44 #[.agg ⟨alv A fv⟩, .agg ⟨afv F su.val sv.val⟩] [] fun r Γ' => r = .bool (funB A F) ∧ Γ' = [] := by
  have hu := hF.hu
  have hb := hF.hv
  have hsp := hs.sp
  have hsb := hs.sb
  refine Tri.ent (Tri.of (args := [.agg ⟨alv A fv⟩, .agg ⟨afv F su.val sv.val⟩]) Tryz.func44 rfl Tryz.ntmps44 (by simp) ?_)
  refine Zp ?_
  refine Run.box rfl rfl rfl rfl rfl ?_
  intro b2
  refine Run.box rfl rfl rfl rfl rfl ?_
  intro b3
  refine Zm ?_
  refine Ze ?_
  have eF : funB A F = (decide (0 ≤ F.slots ∧ F.slots ≤ 262144 ∧ F.params.length ≤ 8 ∧ 0 ≤ F.result ∧ F.result ≤ 3 ∧ F.blocks ≠ []) && F.params.all (placeB F) && decide F.params.Nodup && F.blocks.all fun b => b.body.all (insB A F) && termB F b.term) := by unfold funB; rfl
  refine WP.seq ?_
  refine WP.seqCut [(2, .pointer (some ⟨b2, 0, none⟩)), (3, .pointer (some ⟨b3, 0, none⟩)), (4, .bool false), (40, .bool (decide (¬ (0 ≤ F.slots ∧ F.slots ≤ 262144 ∧ F.params.length ≤ 8 ∧ 0 ≤ F.result ∧ F.result ≤ 3 ∧ F.blocks ≠ []))))] [blk b2 (alv A fv) 24, blk b3 (afv F su.val sv.val) 51] ?_ ?_
  · have hne : F.blocks ≠ [] ↔ ¬ (F.blocks.length : Int) = 0 := by cases F.blocks <;> simp; omega
    rw [show decide (¬ (0 ≤ F.slots ∧ F.slots ≤ 262144 ∧ F.params.length ≤ 8 ∧ 0 ≤ F.result ∧ F.result ≤ 3 ∧ F.blocks ≠ [])) = decide (¬ (0 ≤ F.slots ∧ F.slots ≤ 262144 ∧ F.params.length ≤ 8 ∧ 0 ≤ F.result ∧ F.result ≤ 3 ∧ ¬ (F.blocks.length : Int) = 0)) from decide_eq_decide.2 (by rw [hne])]
    refine Zc ?_
    all_goals (first | refine Zf fo_51_3 ?_)
    all_goals (first | refine Zl 1 ag_3 ?_)
    all_goals (first | refine Zi ?_)
    all_goals (first | refine Run.tt (by first | assumption | omega) ?_ | refine Run.ff (by first | assumption | omega) ?_ | refine Run.split (fun hc13 => ?_) (fun hc13 => ?_) | refine Run.splitB (fun hc13 => ?_) (fun hc13 => ?_) | skip)
    all_goals (first | refine Zm ?_)
    all_goals (first | refine Zv ?_ | refine Zf fo_51_3 ?_)
    all_goals (first | refine Zv ?_ | refine Zl 1 ag_3 ?_)
    all_goals (first | refine Zv ?_ | refine Zi ?_)
    all_goals (first | refine Run.tt (by first | assumption | omega) ?_ | refine Run.ff (by first | assumption | omega) ?_ | refine Run.split (fun hc17 => ?_) (fun hc17 => ?_) | refine Run.splitB (fun hc17 => ?_) (fun hc17 => ?_) | skip)
    all_goals (first | refine Zq ?_)
    all_goals (first | refine Zm ?_)
    all_goals (first | refine Zv ?_ | refine Zf fo_51_1 ?_)
    all_goals (first | refine Zv ?_ | refine Zl 1 ag_48 ?_)
    all_goals (first | refine Zv ?_ | refine Zh sl_48 hu ?_)
    all_goals (first | refine Zv ?_ | refine Zi ?_)
    all_goals (first | refine Run.tt (by first | assumption | omega) ?_ | refine Run.ff (by first | assumption | omega) ?_ | refine Run.split (fun hc23 => ?_) (fun hc23 => ?_) | refine Run.splitB (fun hc23 => ?_) (fun hc23 => ?_) | skip)
    all_goals (first | refine Zq ?_)
    all_goals (first | refine Zm ?_)
    all_goals (first | refine Zv ?_ | refine Zf fo_51_2 ?_)
    all_goals (first | refine Zv ?_ | refine Zl 1 ag_3 ?_)
    all_goals (first | refine Zv ?_ | refine Zi ?_)
    all_goals (first | refine Run.tt (by first | assumption | omega) ?_ | refine Run.ff (by first | assumption | omega) ?_ | refine Run.split (fun hc28 => ?_) (fun hc28 => ?_) | refine Run.splitB (fun hc28 => ?_) (fun hc28 => ?_) | skip)
    all_goals (first | refine Zq ?_)
    all_goals (first | refine Zm ?_)
    all_goals (first | refine Zv ?_ | refine Zf fo_51_2 ?_)
    all_goals (first | refine Zv ?_ | refine Zl 1 ag_3 ?_)
    all_goals (first | refine Zv ?_ | refine Zi ?_)
    all_goals (first | refine Run.tt (by first | assumption | omega) ?_ | refine Run.ff (by first | assumption | omega) ?_ | refine Run.split (fun hc33 => ?_) (fun hc33 => ?_) | refine Run.splitB (fun hc33 => ?_) (fun hc33 => ?_) | skip)
    all_goals (first | refine Zq ?_)
    all_goals (first | refine Zm ?_)
    all_goals (first | refine Zv ?_ | refine Zf fo_51_4 ?_)
    all_goals (first | refine Zv ?_ | refine Zl 1 ag_49 ?_)
    all_goals (first | refine Zv ?_ | refine Zh sl_49 hb ?_)
    all_goals (first | refine Zv ?_ | refine Zi ?_)
    all_goals (first | refine Zq ?_)
    all_goals (refine Run.nil ?_)
    all_goals refine thn_next ⟨⟨rfl, rfl, rfl, ?_, trivial⟩, ent.go⟩
    all_goals simp [Env.get]
    all_goals (first | omega | (have a1 : 0 ≤ F.slots := (by omega); have a2 : F.slots ≤ 262144 := (by omega); have a3 : F.params.length ≤ 8 := (by omega); have a4 : 0 ≤ F.result := (by omega); have a5 : F.result ≤ 3 := (by omega); simp [a1, a2, a3, a4, a5]))
  refine WP.ite rfl (fun hbad => ?_) (fun hgood => ?_)
  · refine Zp ?_
    refine Zm ?_
    refine Ze ?_
    refine WP.ret ?_; refine thn_ret ?_
    exact retT [4] _ rfl rfl ⟨_, ent.none _, by rw [eF, decide_eq_false hbad]; rfl, rfl⟩
  refine Zb ?_
  rw [decide_eq_true (Decidable.not_not.1 hgood), Bool.true_and] at eF
  refine WP.trim [2, 3, 4] [0, 1] ?_
  refine WP.meetC (α := Unit) (fun _ => F.params.all (placeB F) = true ∧ F.params.Nodup) (fun _ => []) (fun _ => []) ?_ ?_
  · refine Zp ?_
    refine Zf fo_51_1 ?_
    refine Zl 1 ag_48 ?_
    refine Zh sl_48 hu ?_
    refine Zm ?_
    refine Ze ?_
    refine WP.block ?_
    refine WP.trim [2, 3, 4, 42, 43, 44] [0, 1] ?_
    refine WP.loopC (α := Nat) (fun i => i ≤ F.params.length ∧ ∀ (j : Nat) (x : Lc), j < i → F.params[j]? = some x → placeB F x = true ∧ x ∉ F.params.take j) (fun i => [(44, .int .i64 (i : Int))]) (fun _ => []) (fun i => F.params.length - i) 0 ⟨Nat.zero_le _, fun j r h => by omega⟩ ?_
    rintro i ⟨hi, hok⟩
    refine WP.trim [2, 3, 4, 42, 43, 44] [0, 1] ?_
    refine Zp ?_
    refine Zi ?_
    refine Ze ?_
    refine WP.seq ?_
    refine WP.ite rfl (fun hlt => ?_) (fun hge => ?_)
    · refine Zb ?_
      obtain ⟨x, gx⟩ : ∃ y, F.params[(i : Int).toNat]? = some y := ⟨_, List.getElem?_eq_getElem (by omega)⟩
      have gx' : F.params[i]? = some x := gx
      obtain ⟨hsun, hsuc⟩ := sl_cap hu
      have hcut : SlR rdLc hR (su.cut 2 0 i).val (F.params.take i) := by
        have := SlR_cut hu (lo := 0) (hi := i) (Nat.zero_le _) (by omega)
        rw [List.drop_zero] at this
        exact this
      refine WP.seq ?_
      refine WP.block ?_
      refine Zp ?_
      refine Zm ?_
      refine Zx sl_48 hu ?_
      refine Run.loadRagg rfl rfl ag_46 rfl rfl (SlR.row hu gx) rfl ?_
      refine Run.alloc rfl zr_46 rfl rfl rfl ?_
      intro b6
      refine Zm ?_
      refine Run.storeB 2 rfl rfl rfl rfl ag_46 rfl rfl rfl rfl rfl ?_
      refine Ze ?_
      refine WP.trim [2, 3, 4, 5, 6, 42, 43, 44] [0, 1, 2] ?_
      refine WP.seqCut [(2, .pointer (some ⟨b2, 0, none⟩)), (3, .pointer (some ⟨b3, 0, none⟩)), (4, .bool false), (42, su.val), (43, .int .i64 (F.params.length : Int)), (44, .int .i64 (i : Int)), (60, .bool (decide (¬ (placeB F x = true ∧ x ∉ F.params.take i))))] [blk b2 (alv A fv) 24, blk b3 (afv F su.val sv.val) 51] ?_ ?_
      · refine WP.drawn0 cf0 mixed rfl (by kernel_rfl) ?_
        all_goals (first | refine Run.loadBagg 1 rfl rfl ag_51 rfl rfl rfl rfl rfl ?_)
        all_goals (first | refine Run.loadBagg 2 rfl rfl ag_46 rfl rfl rfl rfl rfl ?_)
        all_goals (first | refine Run.callP [] ok_91 (isPlace_ok hR F su sv x) ?_; rintro _ _ ⟨rfl, rfl⟩)
        all_goals (first | refine Run.tt (by first | assumption | omega) ?_ | refine Run.ff (by first | assumption | omega) ?_ | refine Run.split (fun hc51 => ?_) (fun hc51 => ?_) | refine Run.splitB (fun hc51 => ?_) (fun hc51 => ?_) | skip)
        all_goals (first | refine Run.bnotB rfl rfl rfl rfl ?_)
        all_goals (first | refine Zm ?_)
        all_goals (first | refine Zv ?_ | refine Zf fo_51_1 ?_)
        all_goals (first | refine Zv ?_ | refine Zl 1 ag_48 ?_)
        all_goals (first | refine Zv ?_ | refine Zm ?_)
        all_goals (first | refine Zv ?_ | refine Run.sliceV (sv := su) (ih := (i : Int)) rfl rfl sl_48 rfl rfl rfl rfl (by omega) (by omega) (by omega) ?_)
        all_goals (first | refine Zv ?_ | refine Run.loadBagg 2 rfl rfl ag_46 rfl rfl rfl rfl rfl ?_)
        all_goals (first | refine Zv ?_ | refine Run.callP [] ok_92 (containsL_ok hR (su.cut 2 0 i).val (F.params.take i) x hcut (by rw [List.length_take]; omega)) ?_; rintro _ _ ⟨rfl, rfl⟩)
        all_goals (first | refine Zq ?_)
        all_goals (refine Run.nil ?_)
        all_goals refine thn_next ⟨⟨rfl, rfl, rfl, rfl, rfl, rfl, ?_, trivial⟩, ent.go⟩
        all_goals simp [Env.get, *]
      refine WP.ite rfl (fun hbad => ?_) (fun hg => ?_)
      · refine Zp ?_
        refine Zm ?_
        refine Ze ?_
        refine WP.ret ?_; refine blk_ret ?_; refine thn_ret ?_; refine thn_ret ?_; refine blk_ret ?_; refine thn_ret ?_
        refine retT [4] _ rfl rfl ⟨_, ent.none _, ?_, rfl⟩
        rw [eF]
        cases h1 : F.params.all (placeB F) with
        | false => rfl
        | true =>
          rw [decide_eq_false (not_nodup gx' (by
            refine Decidable.by_contra fun hm => hbad ⟨List.all_eq_true.1 h1 x (List.mem_of_getElem? gx'), hm⟩))]; rfl
      · refine WP.skip ?_; refine blk_norm ?_; refine thn_next ?_
        refine Zc ?_
        refine Za ?_
        refine Zm ?_
        refine Run.nil ?_
        refine thn_next ⟨i + 1, ⟨by omega, fun j z hj hz => ?_⟩, by omega, Ko.go, ent.gc⟩
        by_cases e : j = i
        · subst e; rw [gx'] at hz; cases hz; exact Decidable.not_not.1 hg
        · exact hok j z (by omega) hz
    · refine Zj ?_
      exact thn_next ⟨(), ⟨all_of fun j r hj hr => (hok j r (by omega) hr).1, nodup_take fun j x hx => (hok j x (by have := (List.getElem?_eq_some_iff.1 hx).1; omega) hx).2⟩, Ko.go, ent.gc⟩
  rintro _ ⟨hp1, hp2⟩
  rw [hp1, decide_eq_true hp2, Bool.true_and, Bool.true_and] at eF
  refine WP.meetC (α := Unit) (fun _ => funB A F = true) (fun _ => []) (fun _ => []) ?_ ?_
  · refine Zp ?_
    refine Zf fo_51_4 ?_
    refine Zl 1 ag_49 ?_
    refine Zh sl_49 hb ?_
    refine Zm ?_
    refine Ze ?_
    refine WP.block ?_
    refine WP.trim [2, 3, 4, 63, 64, 65] [0, 1] ?_
    refine WP.loopC (α := Nat) (fun i => i ≤ F.blocks.length ∧ ∀ (j : Nat) (b : AB), j < i → F.blocks[j]? = some b → (b.body.all (insB A F) && termB F b.term) = true) (fun i => [(65, .int .i64 (i : Int))]) (fun _ => []) (fun i => F.blocks.length - i) 0 ⟨Nat.zero_le _, fun j r h => by omega⟩ ?_
    rintro i ⟨hi, hok⟩
    refine WP.trim [2, 3, 4, 63, 64, 65] [0, 1] ?_
    refine Zp ?_
    refine Zi ?_
    refine Ze ?_
    refine WP.seq ?_
    refine WP.ite rfl (fun hlt => ?_) (fun hge => ?_)
    · refine Zb ?_
      obtain ⟨b, gb⟩ : ∃ b, F.blocks[(i : Int).toNat]? = some b := ⟨_, List.getElem?_eq_getElem (by omega)⟩
      have gb' : F.blocks[i]? = some b := gb
      obtain ⟨hbs1, hbs2, hbs3⟩ := hs.si b (List.mem_of_getElem? gb)
      obtain ⟨_, ⟨bu0, bt0, rfl, hbu, hbt⟩, hrow⟩ := hb.at gb
      obtain ⟨bu, rfl, _, _⟩ := SlR.sv hbu
      obtain ⟨bt, rfl, _, _⟩ := SlR.sv hbt
      refine WP.seq ?_
      refine WP.block ?_
      refine Zp ?_
      refine Zx sl_49 hb ?_
      refine Run.loadRagg rfl rfl ag_58 rfl rfl hrow (by rfl) ?_
      refine Run.alloc rfl zr_58 rfl rfl rfl ?_
      intro b8
      refine Run.storeB 2 rfl rfl rfl rfl ag_58 rfl rfl rfl rfl rfl ?_
      refine Ze ?_
      refine WP.trim [2, 3, 4, 8, 63, 64, 65] [0, 1, 2] ?_
      refine WP.meetC (α := Unit) (fun _ => b.body.all (insB A F) = true) (fun _ => []) (fun _ => []) ?_ ?_
      · refine Zp ?_
        refine Zf fo_58_0 ?_
        refine Zl 2 ag_54 ?_
        refine Zh sl_54 hbu ?_
        refine Zm ?_
        refine Ze ?_
        refine WP.block ?_
        refine WP.trim [2, 3, 4, 8, 63, 64, 65, 70, 71, 72] [0, 1, 2] ?_
        refine WP.loopC (α := Nat) (fun k => k ≤ b.body.length ∧ ∀ (j : Nat) (x : AI), j < k → b.body[j]? = some x → insB A F x = true) (fun k => [(72, .int .i64 (k : Int))]) (fun _ => []) (fun k => b.body.length - k) 0 ⟨Nat.zero_le _, fun j r h => by omega⟩ ?_
        rintro k ⟨hk, hok2⟩
        refine WP.trim [2, 3, 4, 8, 63, 64, 65, 70, 71, 72] [0, 1, 2] ?_
        refine Zp ?_
        refine Zi ?_
        refine Ze ?_
        refine WP.seq ?_
        refine WP.ite rfl (fun hlt2 => ?_) (fun hge2 => ?_)
        · refine Zb ?_
          obtain ⟨x, gx⟩ : ∃ x, b.body[(k : Int).toNat]? = some x := ⟨_, List.getElem?_eq_getElem (by omega)⟩
          have gx' : b.body[k]? = some x := gx
          obtain ⟨hx1, hx2⟩ := hbs3 x (List.mem_of_getElem? gx)
          obtain ⟨_, ⟨xu0, xs0, rfl, hxu, hxv⟩, hxrow⟩ := hbu.at gx
          obtain ⟨xv, rfl, _, _⟩ := SlR.sv hxv
          obtain ⟨xu, rfl, _, _⟩ := SlR.sv hxu
          refine WP.seq ?_
          refine WP.block ?_
          refine Zp ?_
          refine Zx sl_54 hbu ?_
          refine Run.loadRagg rfl rfl ag_53 rfl rfl hxrow (by rfl) ?_
          refine Run.alloc rfl zr_53 rfl rfl rfl ?_
          intro b10
          refine Run.storeB 3 rfl rfl rfl rfl ag_53 rfl rfl rfl rfl rfl ?_
          refine Ze ?_
          refine WP.trim [2, 3, 4, 8, 10, 63, 64, 65, 70, 71, 72] [0, 1, 2, 3] ?_
          refine Zp ?_
          refine Run.loadBagg 0 rfl rfl ag_24 rfl rfl rfl rfl rfl ?_
          refine Run.loadBagg 1 rfl rfl ag_51 rfl rfl rfl rfl rfl ?_
          refine Run.loadBagg 3 rfl rfl ag_53 rfl rfl rfl rfl rfl ?_
          refine Run.callP [] ok_93 (chkIns_ok hR A fv F su sv x xu xv hA ⟨hxu, hxv⟩ hl1 (by omega) (by omega) hl4) ?_; rintro _ _ ⟨rfl, rfl⟩
          refine Run.bnotB rfl rfl rfl rfl ?_
          refine Run.eqv (v' := .bool (decide (insB A F x = false))) (by cases insB A F x <;> rfl) ?_
          refine Ze ?_
          refine WP.ite rfl (fun hbad => ?_) (fun hg => ?_)
          · refine Zp ?_
            refine Zm ?_
            refine Ze ?_
            refine WP.ret ?_; refine blk_ret ?_; refine thn_ret ?_; refine thn_ret ?_; refine blk_ret ?_; refine thn_ret ?_; refine blk_ret ?_; refine thn_ret ?_; refine thn_ret ?_; refine blk_ret ?_; refine thn_ret ?_
            exact retT [4] _ rfl rfl ⟨_, ent.none _, by rw [eF, all_not gb' (by rw [all_not gx' hbad]; rfl)]; rfl, rfl⟩
          · refine WP.skip ?_; refine blk_norm ?_; refine thn_next ?_
            refine Zc ?_
            refine Za ?_
            refine Zm ?_
            refine Run.nil ?_
            refine thn_next ⟨k + 1, ⟨by omega, fun j z hj hz => ?_⟩, by omega, Ko.go, ent.gc⟩
            by_cases e : j = k
            · subst e; rw [gx'] at hz; cases hz; exact btrue hg
            · exact hok2 j z (by omega) hz
        · refine Zj ?_
          exact thn_next ⟨(), all_of fun j x hj hx => hok2 j x (by omega) hx, Ko.go, ent.gc⟩
      intro _ hbody
      refine Zp ?_
      refine Run.loadBagg 1 rfl rfl ag_51 rfl rfl rfl rfl rfl ?_
      refine Zf fo_58_1 ?_
      refine Run.loadBagg 2 rfl rfl ag_56 rfl rfl rfl rfl rfl ?_
      refine Run.callP [] ok_94 (chkTerm_ok hR F su sv b.term bt hb hbt (by omega) (by omega)) ?_; rintro _ _ ⟨rfl, rfl⟩
      refine Run.bnotB rfl rfl rfl rfl ?_
      refine Run.eqv (v' := .bool (decide (termB F b.term = false))) (by cases termB F b.term <;> rfl) ?_
      refine Ze ?_
      refine WP.ite rfl (fun hbad => ?_) (fun hg => ?_)
      · refine Zp ?_
        refine Zm ?_
        refine Ze ?_
        refine WP.ret ?_; refine blk_ret ?_; refine thn_ret ?_; refine thn_ret ?_; refine blk_ret ?_; refine thn_ret ?_
        exact retT [4] _ rfl rfl ⟨_, ent.none _, by rw [eF, all_not gb' (by rw [hbody, hbad]; rfl)]; rfl, rfl⟩
      · refine WP.skip ?_; refine blk_norm ?_; refine thn_next ?_
        refine Zc ?_
        refine Za ?_
        refine Zm ?_
        refine Run.nil ?_
        refine thn_next ⟨i + 1, ⟨by omega, fun j z hj hz => ?_⟩, by omega, Ko.go, ent.gc⟩
        by_cases e : j = i
        · subst e; rw [gb'] at hz; cases hz; rw [hbody, btrue hg]; rfl
        · exact hok j z (by omega) hz
    · refine Zj ?_
      exact thn_next ⟨(), by rw [eF]; exact all_of fun j b hj hb => hok j b (by omega) hb, Ko.go, ent.gc⟩
  intro _ hT
  refine Zp ?_
  refine Zm ?_
  refine Ze ?_
  refine WP.ret ?_
  exact retT [4] _ rfl rfl ⟨_, ent.none _, by rw [hT]; rfl, rfl⟩
end Go.Proofs.YtfaokbjpinlcaaaGreat
end
section
/- What the check tells of a function, as its code needs it; plain. -/
namespace Go.Proofs.YtfaokbjpinlcaaaGreat
open Go.Sep
set_option linter.unusedVariables false
theorem rising_len : ∀ (l : List Int) (x : Int), risingB (x :: l) = true → (∀ r ∈ x :: l, r < 8) → ((x :: l).length : Int) ≤ 8 - x
  | [], x, _, h => by have := h x (by simp); simp only [List.length_singleton]; omega
  | y :: l, x, hr, h => by
    simp only [risingB, Bool.and_eq_true, decide_eq_true_eq] at hr
    have := rising_len l y hr.2 fun r hm => h r (List.mem_cons_of_mem _ hm)
    rw [List.length_cons, Int.natCast_add]
    omega
theorem rising_eight {l : List Int} (h1 : risingB l = true) (h2 : ∀ r ∈ l, 0 ≤ r ∧ r < 8) : l.length ≤ 8 := by
  cases l with
  | nil => simp
  | cons x l =>
    have := rising_len l x h1 fun r hm => (h2 r hm).2
    have := (h2 x (by simp)).1
    omega
theorem funB_spec {A : AL} {F : AF} (h : funB A F = true) : (0 ≤ F.slots ∧ F.slots ≤ 262144 ∧ F.params.length ≤ 8 ∧ 0 ≤ F.result ∧ F.result ≤ 3 ∧ F.blocks ≠ []) ∧ (∀ l ∈ F.params, placeB F l = true) ∧ F.params.Nodup ∧ ∀ b ∈ F.blocks, (∀ x ∈ b.body, insB A F x = true) ∧ termB F b.term = true := by
  unfold funB at h
  simp only [Bool.and_eq_true, decide_eq_true_eq, List.all_eq_true] at h
  obtain ⟨⟨⟨h1, h2⟩, h3⟩, h4⟩ := h
  exact ⟨h1, h2, h3, h4⟩
theorem callB_spec {A : AL} {x : AI} (h : callB A x = true) : ∃ G, A.funcs[x.imm.toNat]? = some G ∧ x.args.length = G.params.length ∧ (∀ r ∈ x.saves, 0 ≤ r ∧ r < 8) ∧ risingB x.saves = true := by
  unfold callB at h
  rw [Bool.and_eq_true] at h
  cases gG : A.funcs[x.imm.toNat]? with
  | none => rw [gG] at h; exact absurd h.2 (by simp)
  | some G =>
    rw [gG] at h
    simp only [Bool.and_eq_true, decide_eq_true_eq, List.all_eq_true] at h
    obtain ⟨_, ⟨⟨h1, _⟩, h2⟩, h3⟩ := h
    exact ⟨G, rfl, h1, h2, h3⟩
theorem argsN_le (op : Int) : argsN op ≤ 3 := by
  unfold argsN
  split
  · decide
  · split
    · decide
    · split
      · decide
      · split <;> decide
/-- one instruction -/
theorem insB_spec {A : AL} {F : AF} {x : AI} (hG : ∀ G ∈ A.funcs, G.params.length ≤ 8) (h : insB A F x = true) :
    (noneB x.dst = true ∨ placeB F x.dst = true) ∧ (∀ l ∈ x.args, placeB F l = true) ∧ (∀ r ∈ x.saves, 0 ≤ r ∧ r < 8) ∧ x.args.length ≤ 8 ∧ x.saves.length ≤ 8 ∧ (x.op ≠ 25 → (x.args.length : Int) = argsN x.op ∧ setsB x.op = !noneB x.dst ∧ ((28 ≤ x.op ∧ x.op ≤ 30) ∨ x.op = 1 ∨ x.imm = 0)) := by
  unfold insB at h
  rw [Bool.and_eq_true, Bool.and_eq_true, Bool.or_eq_true, List.all_eq_true] at h
  obtain ⟨⟨h1, h2⟩, h3⟩ := h
  by_cases h25 : x.op = 25
  · rw [if_pos h25] at h3
    obtain ⟨G, gG, q1, q2, q3⟩ := callB_spec h3
    exact ⟨h1, h2, q2, by rw [q1]; exact hG G (List.mem_of_getElem? gG), rising_eight q3 q2, fun h => absurd h25 h⟩
  · rw [if_neg h25] at h3
    simp only [Bool.and_eq_true, decide_eq_true_eq, bne_iff_ne, ne_eq] at h3
    obtain ⟨⟨⟨q1, q2⟩, q3⟩, q4⟩ := h3
    have hs : x.saves = [] := List.isEmpty_iff.1 q3
    have := argsN_le x.op
    refine ⟨h1, h2, by rw [hs]; simp, by omega, by rw [hs]; simp, fun _ => ⟨q1, ?_, ?_⟩⟩
    · revert q2; cases setsB x.op <;> cases noneB x.dst <;> simp
    · by_cases hr : 28 ≤ x.op ∧ x.op ≤ 30
      · exact .inl hr
      · rw [if_neg hr] at q4; exact .inr (by simpa using q4)
theorem noneB_near {l : Lc} (h : noneB l = true) : near l := by
  unfold noneB at h
  simp only [decide_eq_true_eq] at h
  unfold near; omega
theorem termB_spec {F : AF} {t : AT} (hF : F.slots ≤ 262144) (h : termB F t = true) : TermOk t ∧ ∀ b ∈ t.to, 0 ≤ b ∧ b < (F.blocks.length : Int) := by
  unfold termB at h
  rw [Bool.and_eq_true, Bool.and_eq_true, Bool.or_eq_true, List.all_eq_true] at h
  obtain ⟨⟨h1, h2⟩, h3⟩ := h
  refine ⟨⟨?_, ?_⟩, fun b hb => by simpa using h2 b hb⟩
  · rcases h1 with h1 | h1
    · exact noneB_near h1
    · exact (place_near hF h1).1
  · by_cases e1 : t.kind = 1
    · rw [if_pos e1] at h3
      simp only [Bool.and_eq_true, decide_eq_true_eq] at h3
      exact .inl ⟨e1, List.length_eq_one_iff.1 h3.2⟩
    · rw [if_neg e1] at h3
      by_cases e2 : t.kind = 2
      · rw [if_pos e2] at h3
        simp only [Bool.and_eq_true, decide_eq_true_eq] at h3
        refine .inr (.inl ⟨e2, ?_⟩)
        match ht : t.to, h3.2 with
        | [b, c], _ => exact ⟨b, c, rfl⟩
      · rw [if_neg e2] at h3
        by_cases e3 : t.kind = 3
        · exact .inr (.inr (.inl e3))
        · rw [if_neg e3] at h3
          by_cases e4 : t.kind = 4
          · exact .inr (.inr (.inr e4))
          · rw [if_neg e4] at h3; cases h3
/-- what is well formed can be made code of -/
theorem okA_fun {nm : ByteArray → Bool} {A : AL} (h : okA nm A = true) (hs : SmallA A) {F : AF} (hF : F ∈ A.funcs) : FunOk F := by
  have hall : ∀ G ∈ A.funcs, funB A G = true := fun G hG => by
    unfold okA at h
    rw [Bool.and_eq_true, Bool.and_eq_true, Bool.and_eq_true] at h
    have := List.all_eq_true.1 h.1.1.1 G hG
    rw [Bool.and_eq_true] at this; exact this.2
  have hG : ∀ G ∈ A.funcs, G.params.length ≤ 8 := fun G hG => (funB_spec (hall G hG)).1.2.2.1
  obtain ⟨h1, h2, h3, h4⟩ := funB_spec (hall F hF)
  have hsv : ∀ r ∈ allS F, 0 ≤ r ∧ r < 8 := fun r hr => by
    unfold allS at hr
    obtain ⟨b, hb, hr⟩ := List.mem_flatMap.1 hr
    obtain ⟨x, hx, hr⟩ := List.mem_flatMap.1 hr
    exact (insB_spec hG ((h4 b hb).1 x hx)).2.2.1 r hr
  refine ⟨hs.sa F hF, ⟨h1.1, h1.2.1⟩, h1.2.2.1, h2, h3, fun b hb x hx => ?_, fun b hb => termB_spec h1.2.1 (h4 b hb).2, hsv⟩
  obtain ⟨q1, q2, q3, q4, q5, q6⟩ := insB_spec hG ((h4 b hb).1 x hx)
  refine ⟨q2, q1, fun r hr => (savS_mem hsv r).2 ?_, q4, q5, q6⟩
  unfold allS
  exact List.mem_flatMap.2 ⟨b, hb, List.mem_flatMap.2 ⟨x, hx, hr⟩⟩
end Go.Proofs.YtfaokbjpinlcaaaGreat
end
section
/- ALIR as it is handed in: a copy of all of it, each list with a mark behind its end: what is owned of it, and what is read of it. -/
namespace Go.Sep
section
variable {R A : Type}
/-- a list with a mark cut off -/
def leaf (T : TypeId) (E : Enc A) (mk : A) (v : SV) (xs : List A) : HProp := fun h => ∃ w : SV, v = w.cut E.sz 0 xs.length ∧ slA T E w.val (xs ++ [mk]) h
/-- a list of what has lists itself -/
def lst (T : TypeId) (E : Enc R) (mk : R) (p : R → A → HProp) (v : SV) (xs : List A) : HProp := fun h => ∃ (w : SV) (rs : List R), v = w.cut E.sz 0 rs.length ∧ rs.length = xs.length ∧ sat [slA T E w.val (rs ++ [mk]), many (List.zipWith p rs xs)] h
def LeafR (E : Enc A) (mk : A) (h : Heap) (v : SV) (xs : List A) : Prop := ∃ w : SV, v = w.cut E.sz 0 xs.length ∧ SlR E.rd h w.val (xs ++ [mk])
def LstR (E : Enc R) (mk : R) (q : Heap → R → A → Prop) (h : Heap) (v : SV) (xs : List A) : Prop := ∃ (w : SV) (rs : List R), v = w.cut E.sz 0 rs.length ∧ rs.length = xs.length ∧ SlR E.rd h w.val (rs ++ [mk]) ∧
  ∀ (i : Nat) (r : R) (x : A), rs[i]? = some r → xs[i]? = some x → q h r x
theorem sat_at {Γ : List HProp} {h H : Heap} (k : Nat) {A : HProp} (hs : sat Γ h) (hk : Γ[k]? = some A) (hS : Sub h H) : ∃ g, A g ∧ Sub g H := by
  obtain ⟨h1, h2, g1, hd, e, _⟩ := sat_get hs hk
  subst e
  exact ⟨h1, g1, (sub_un_left h1 h2).trans hS⟩
theorem zip_get {A B C : Type} (f : A → B → C) {ws : List A} {xs : List B} {i : Nat} {w : A} {x : B} (h1 : ws[i]? = some w) (h2 : xs[i]? = some x) : (List.zipWith f ws xs)[i]? = some (f w x) := by
  rw [List.getElem?_zipWith, h1, h2]
theorem zipWith_snoc {A B C : Type} (f : A → B → C) {ws : List A} {xs : List B} {w : A} {x : B} (h : xs[ws.length]? = some x) : List.zipWith f (ws ++ [w]) xs = List.zipWith f ws xs ++ [f w x] := by
  induction ws generalizing xs with
  | nil => cases xs with
    | nil => simp at h
    | cons y ys => simp at h; subst h; simp
  | cons v vs ih => cases xs with
    | nil => simp at h
    | cons y ys => simp only [List.length_cons, List.getElem?_cons_succ] at h; simp only [List.cons_append, List.zipWith_cons_cons, ih h]
theorem leaf_reads {T : TypeId} {E : Enc A} {mk : A} {v : SV} {xs : List A} {h H : Heap} (hb : leaf T E mk v xs h) (hS : Sub h H) : LeafR E mk H v xs := by
  obtain ⟨w, e, hs⟩ := hb
  exact ⟨w, e, slA_lend hs hS⟩
theorem lst_reads {T : TypeId} {E : Enc R} {mk : R} {p : R → A → HProp} {q : Heap → R → A → Prop} (hp : ∀ (r : R) (x : A) (h H : Heap), p r x h → Sub h H → q H r x) {v : SV} {xs : List A} {h H : Heap} (hb : lst T E mk p v xs h) (hS : Sub h H) : LstR E mk q H v xs := by
  obtain ⟨w, rs, e, hl, hs⟩ := hb
  obtain ⟨g1, a1, s1⟩ := sat_at 0 hs rfl hS
  obtain ⟨g2, a2, s2⟩ := sat_at 1 hs rfl hS
  refine ⟨w, rs, e, hl, slA_lend a1 s1, fun i r x hr hx => ?_⟩
  obtain ⟨g3, a3, s3⟩ := sat_at i (show sat (List.zipWith p rs xs) g2 from a2) (zip_get _ hr hx) s2
  exact hp _ _ _ _ a3 s3
theorem cut_read {F : Rd A} {h : Heap} {w : SV} {xs ms : List A} {sz : Nat} (hz : F.sz = sz) (H : SlR F h w.val (xs ++ ms)) : SlR F h (w.cut sz 0 xs.length).val xs := by
  subst hz
  have := SlR_cut H (lo := 0) (hi := xs.length) (Nat.zero_le _) (by simp)
  simpa [cutV_val] using this
theorem leaf_shut {T : TypeId} {E : Enc A} {mk : A} (w : SV) (xs : List A) (Γ : List HProp) : ent (slA T E w.val (xs ++ [mk]) :: Γ) (leaf T E mk (w.cut E.sz 0 xs.length) xs :: Γ) := ent.cons (fun _ hg => ⟨w, rfl, hg⟩) (ent.refl _)
theorem LeafR.mono {E : Enc A} {mk : A} {h g : Heap} {v : SV} {xs : List A} (hs : Sub h g) (H : LeafR E mk h v xs) : LeafR E mk g v xs := by
  obtain ⟨w, e, H⟩ := H
  exact ⟨w, e, H.mono hs⟩
theorem LstR.mono {E : Enc R} {mk : R} {q : Heap → R → A → Prop} {h g : Heap} {v : SV} {xs : List A} (hs : Sub h g) (hq : ∀ r x, q h r x → q g r x) (H : LstR E mk q h v xs) : LstR E mk q g v xs := by
  obtain ⟨w, rs, e, hl, H, G⟩ := H
  exact ⟨w, rs, e, hl, H.mono hs, fun i r x h1 h2 => hq _ _ (G i r x h1 h2)⟩
theorem LeafR.read {E : Enc A} {mk : A} {h : Heap} {v : SV} {xs : List A} (H : LeafR E mk h v xs) : SlR E.rd h v.val xs := by
  obtain ⟨w, rfl, H⟩ := H
  exact cut_read rfl H
theorem LstR.read {E : Enc R} {mk : R} {q : Heap → R → A → Prop} {F : Rd A} {h : Heap} {v : SV} {xs : List A} (H : LstR E mk q h v xs) (hsz : F.sz = E.sz) (hq : ∀ {r x}, q h r x → F.rel h x (E.cells r)) : SlR F h v.val xs := by
  obtain ⟨w, rs, rfl, hl, H, G⟩ := H
  refine SlR.turn (E := E.rd) hl.symm hsz (fun i r x hr hx cs hc => ?_) (cut_read rfl H)
  have : cs = E.cells r := hc
  rw [this]
  exact hq (G i r x hr hx)
/-- raw elements of what is read -/
theorem SlR.raws {F : Rd A} {E : Enc R} {q : R → A → Prop} {h : Heap} {v : Value} {xs : List A} (hsz : F.sz = E.sz) (hq : ∀ {x cs}, F.rel h x cs → ∃ r, cs = E.cells r ∧ q r x) (H : SlR F h v xs) :
    ∃ rs : List R, rs.length = xs.length ∧ SlR E.rd h v rs ∧ ∀ (i : Nat) (r : R) (x : A), rs[i]? = some r → xs[i]? = some x → q r x := by
  obtain ⟨a, c, rfl, hc, H⟩ := H
  by_cases hne : xs = []
  · subst hne
    exact ⟨[], rfl, ⟨a, c, rfl, hc, fun h => absurd rfl h⟩, fun i r x hr => by simp at hr⟩
  · obtain ⟨ad, rfl, H2⟩ := H hne
    obtain ⟨rs, hl, hr⟩ := choose_list (q := fun i r => ∀ x, xs[i]? = some x → q r x ∧ rowH h (ad.add (i * E.sz)) (E.cells r)) xs.length fun i hi => by
      have hx : xs[i]? = some xs[i] := List.getElem?_eq_getElem hi
      obtain ⟨cs, h1, h2⟩ := H2 i _ hx
      obtain ⟨r, rfl, h3⟩ := hq h1
      refine ⟨r, fun x hx2 => ?_⟩
      rw [hx] at hx2; obtain rfl := Option.some.inj hx2
      exact ⟨h3, by rw [← hsz]; exact h2⟩
    refine ⟨rs, hl, ⟨some ad, c, by rw [hl], by rw [hl]; exact hc, fun _ => ⟨ad, rfl, fun i r hi => ⟨_, rfl, ?_⟩⟩⟩, fun i r x hi hx => (hr i r hi x hx).1⟩
    have hlt := (List.getElem?_eq_some_iff.1 hi).1
    exact (hr i r hi _ (List.getElem?_eq_getElem (by omega))).2
theorem ent.pack {Θ : List HProp} {C : HProp} (H : ∀ h, sat Θ h → C h) (Γ : List HProp) : ent (Θ ++ Γ) (C :: Γ) := fun h hs => by
  obtain ⟨h1, h2, g1, g2, hd, e⟩ := sat_append.1 hs
  exact ⟨h1, h2, H _ g1, g2, hd, e⟩
theorem ent.unpack {Θ : List HProp} {C : HProp} (H : ∀ h, C h → sat Θ h) (Γ : List HProp) : ent (C :: Γ) (Θ ++ Γ) := fun h ⟨h1, h2, g1, g2, hd, e⟩ => sat_append.2 ⟨h1, h2, H _ g1, g2, hd, e⟩
theorem many_snoc (Θ : List HProp) (A : HProp) (Γ : List HProp) : ent (many Θ :: A :: Γ) (many (Θ ++ [A]) :: Γ) := by
  have h1 := many_out Θ (A :: Γ)
  have h2 := many_in (Θ ++ [A]) Γ
  rw [List.append_assoc] at h2
  exact h1.trans h2
/-- the next one of many -/
theorem many_next {Θ : List HProp} {k : Nat} {A : HProp} (hk : Θ[k]? = some A) (Γ : List HProp) : ent (many (Θ.drop k) :: Γ) (A :: many (Θ.drop (k + 1)) :: Γ) := by
  obtain ⟨h1, h2⟩ := List.getElem?_eq_some_iff.1 hk
  rw [List.drop_eq_getElem_cons h1, h2]
  have h3 := many_out (A :: Θ.drop (k + 1)) Γ
  have h4 := many_in (Θ.drop (k + 1)) Γ
  exact h3.trans (ent.cons (fun _ h => h) h4)
theorem lst_shut {T : TypeId} {E : Enc R} {mk : R} {p : R → A → HProp} (w : SV) (rs : List R) {xs : List A} {sz n : Nat} (hz : E.sz = sz) (hn : rs.length = n) (hl : rs.length = xs.length) (Γ : List HProp) : ent (slA T E w.val (rs ++ [mk]) :: many (List.zipWith p rs xs) :: Γ) (lst T E mk p (w.cut sz 0 n) xs :: Γ) := by
  subst hz hn
  exact ent.pack (Θ := [slA T E w.val (rs ++ [mk]), many (List.zipWith p rs xs)]) (fun _ hg => ⟨w, rs, rfl, hl, hg⟩) Γ
theorem mid_get {A : Type} {ds : List A} {r : A} {k : Nat} (l : List A) (hk : ds.length = k) : (ds ++ r :: l)[k]? = some r := by
  subst hk
  rw [List.getElem?_append_right (Nat.le_refl _), Nat.sub_self]; rfl
theorem mid_set {A : Type} {ds : List A} {r r' : A} {k : Nat} (l : List A) (hk : ds.length = k) : (ds ++ r :: l).set k r' = ds ++ r' :: l := by
  subst hk
  rw [List.set_append_right _ _ (Nat.le_refl _), Nat.sub_self]; rfl
theorem mid_snoc {A : Type} (ds : List A) (r : A) (l : List A) : ds ++ r :: l = (ds ++ [r]) ++ l := by rw [List.append_assoc]; rfl
theorem drop_at {A : Type} {l : List A} {k : Nat} {r : A} (h : l[k]? = some r) : l.drop k = r :: l.drop (k + 1) := by
  obtain ⟨h1, h2⟩ := List.getElem?_eq_some_iff.1 h
  rw [List.drop_eq_getElem_cons h1, h2]
end
end Go.Sep
namespace Go.Proofs.YtfaokbjpinlcaaaGreat
open Go.Sep
set_option linter.unusedSimpArgs false
set_option linter.unusedVariables false
abbrev XI := AI × SV × SV
abbrev XB := AB × SV × SV
abbrev XF := AF × SV × SV
def encXI : Enc XI := ⟨6, fun x => aiv x.1 x.2.1.val x.2.2.val, fun _ => rfl, fun _ => rfl⟩
def encXB : Enc XB := ⟨5, fun x => abv x.1 x.2.1.val x.2.2.val, fun _ => rfl, fun _ => rfl⟩
def encXF : Enc XF := ⟨5, fun x => afv x.1 x.2.1.val x.2.2.val, fun _ => rfl, fun _ => rfl⟩
def mkL : Lc := ⟨-71, 0⟩
def mkI : XI := (⟨-71, 0, ⟨0, 0⟩, [], []⟩, nilS, nilS)
def mkB : XB := (⟨[], ⟨-71, ⟨0, 0⟩, []⟩⟩, nilS, nilS)
def mkF : XF := (⟨⟨#[]⟩, [], 0, -71, []⟩, nilS, nilS)
abbrev locsP : SV → List Lc → HProp := leaf 46 encLc mkL
abbrev intsP : SV → List Int → HProp := leaf 3 encI (-71)
def insP (r : XI) (x : AI) : HProp := fun h => r.1 = x ∧ sat [locsP r.2.1 x.args, intsP r.2.2 x.saves] h
abbrev bodyP : SV → List AI → HProp := lst 53 encXI mkI insP
def blkP (r : XB) (b : AB) : HProp := fun h => r.1 = b ∧ sat [bodyP r.2.1 b.body, intsP r.2.2 b.term.to] h
abbrev blksP : SV → List AB → HProp := lst 58 encXB mkB blkP
def funP (r : XF) (F : AF) : HProp := fun h => r.1 = F ∧ sat [locsP r.2.1 F.params, blksP r.2.2 F.blocks] h
abbrev leaseP : SV → List AF → HProp := lst 51 encXF mkF funP
def InsR (h : Heap) (r : XI) (x : AI) : Prop := r.1 = x ∧ LeafR encLc mkL h r.2.1 x.args ∧ LeafR encI (-71) h r.2.2 x.saves
abbrev BodyR : Heap → SV → List AI → Prop := LstR encXI mkI InsR
def BlkR (h : Heap) (r : XB) (b : AB) : Prop := r.1 = b ∧ BodyR h r.2.1 b.body ∧ LeafR encI (-71) h r.2.2 b.term.to
abbrev BlksR : Heap → SV → List AB → Prop := LstR encXB mkB BlkR
def FunR (h : Heap) (r : XF) (F : AF) : Prop := r.1 = F ∧ LeafR encLc mkL h r.2.1 F.params ∧ BlksR h r.2.2 F.blocks
abbrev LeaseR : Heap → SV → List AF → Prop := LstR encXF mkF FunR
theorem ins_reads {r : XI} {x : AI} {h H : Heap} (hb : insP r x h) (hS : Sub h H) : InsR H r x := by
  obtain ⟨e, hs⟩ := hb
  obtain ⟨g1, a1, s1⟩ := sat_at 0 hs rfl hS
  obtain ⟨g2, a2, s2⟩ := sat_at 1 hs rfl hS
  exact ⟨e, leaf_reads a1 s1, leaf_reads a2 s2⟩
theorem blk_reads {r : XB} {x : AB} {h H : Heap} (hb : blkP r x h) (hS : Sub h H) : BlkR H r x := by
  obtain ⟨e, hs⟩ := hb
  obtain ⟨g1, a1, s1⟩ := sat_at 0 hs rfl hS
  obtain ⟨g2, a2, s2⟩ := sat_at 1 hs rfl hS
  exact ⟨e, lst_reads (q := InsR) (fun _ _ _ _ => ins_reads) a1 s1, leaf_reads a2 s2⟩
theorem fun_reads {r : XF} {x : AF} {h H : Heap} (hb : funP r x h) (hS : Sub h H) : FunR H r x := by
  obtain ⟨e, hs⟩ := hb
  obtain ⟨g1, a1, s1⟩ := sat_at 0 hs rfl hS
  obtain ⟨g2, a2, s2⟩ := sat_at 1 hs rfl hS
  exact ⟨e, leaf_reads a1 s1, lst_reads (q := BlkR) (fun _ _ _ _ => blk_reads) a2 s2⟩
theorem lease_reads {v : SV} {Fs : List AF} {h H : Heap} (hb : leaseP v Fs h) (hS : Sub h H) : LeaseR H v Fs := lst_reads (q := FunR) (fun _ _ _ _ => fun_reads) hb hS
theorem InsR.mono {h g : Heap} {r : XI} {x : AI} (hs : Sub h g) (H : InsR h r x) : InsR g r x := ⟨H.1, H.2.1.mono hs, H.2.2.mono hs⟩
theorem BodyR.mono {h g : Heap} {v : SV} {xs : List AI} (hs : Sub h g) (H : BodyR h v xs) : BodyR g v xs := LstR.mono hs (fun _ _ => InsR.mono hs) H
theorem BodyR.read {h : Heap} {v : SV} {xs : List AI} (H : BodyR h v xs) : SlR rdAI h v.val xs :=
  LstR.read H rfl fun {r x} ⟨e, h1, h2⟩ => ⟨_, _, by rw [← e]; rfl, h1.read, h2.read⟩
theorem BlksR.read {h : Heap} {v : SV} {xs : List AB} (H : BlksR h v xs) : SlR rdAB h v.val xs :=
  LstR.read H rfl fun {r x} ⟨e, h1, h2⟩ => ⟨_, _, by rw [← e]; rfl, BodyR.read h1, h2.read⟩
theorem LeaseR.read {h : Heap} {v : SV} {xs : List AF} (H : LeaseR h v xs) : SlR rdAF h v.val xs :=
  LstR.read H rfl fun {r x} ⟨e, h1, h2⟩ => ⟨_, _, by rw [← e]; rfl, h1.read, BlksR.read h2⟩
theorem rawI {h : Heap} {v : Value} {xs : List AI} (H : SlR rdAI h v xs) : ∃ rs : List XI, rs.length = xs.length ∧ SlR encXI.rd h v rs ∧ ∀ (i : Nat) (r : XI) (x : AI), rs[i]? = some r → xs[i]? = some x → r.1 = x ∧ SlR rdLc h r.2.1.val x.args ∧ SlR rdI h r.2.2.val x.saves :=
  SlR.raws (F := rdAI) (E := encXI) (q := fun r x => r.1 = x ∧ SlR rdLc h r.2.1.val x.args ∧ SlR rdI h r.2.2.val x.saves) rfl (fun {x cs} hx => by
    obtain ⟨u, v, e, h1, h2⟩ := hx
    obtain ⟨su, rfl, _⟩ := SlR.sv h1
    obtain ⟨sv, rfl, _⟩ := SlR.sv h2
    exact ⟨(x, su, sv), e, rfl, h1, h2⟩) H
theorem rawB {h : Heap} {v : Value} {xs : List AB} (H : SlR rdAB h v xs) : ∃ rs : List XB, rs.length = xs.length ∧ SlR encXB.rd h v rs ∧ ∀ (i : Nat) (r : XB) (x : AB), rs[i]? = some r → xs[i]? = some x → r.1 = x ∧ SlR rdAI h r.2.1.val x.body ∧ SlR rdI h r.2.2.val x.term.to :=
  SlR.raws (F := rdAB) (E := encXB) (q := fun r x => r.1 = x ∧ SlR rdAI h r.2.1.val x.body ∧ SlR rdI h r.2.2.val x.term.to) rfl (fun {x cs} hx => by
    obtain ⟨u, v, e, h1, h2⟩ := hx
    obtain ⟨su, rfl, _⟩ := SlR.sv h1
    obtain ⟨sv, rfl, _⟩ := SlR.sv h2
    exact ⟨(x, su, sv), e, rfl, h1, h2⟩) H
theorem rawF {h : Heap} {v : Value} {xs : List AF} (H : SlR rdAF h v xs) : ∃ rs : List XF, rs.length = xs.length ∧ SlR encXF.rd h v rs ∧ ∀ (i : Nat) (r : XF) (x : AF), rs[i]? = some r → xs[i]? = some x → r.1 = x ∧ SlR rdLc h r.2.1.val x.params ∧ SlR rdAB h r.2.2.val x.blocks :=
  SlR.raws (F := rdAF) (E := encXF) (q := fun r x => r.1 = x ∧ SlR rdLc h r.2.1.val x.params ∧ SlR rdAB h r.2.2.val x.blocks) rfl (fun {x cs} hx => by
    obtain ⟨u, v, e, h1, h2⟩ := hx
    obtain ⟨su, rfl, _⟩ := SlR.sv h1
    obtain ⟨sv, rfl, _⟩ := SlR.sv h2
    exact ⟨(x, su, sv), e, rfl, h1, h2⟩) H
theorem ins_shut {x : AI} {u v : SV} (Γ : List HProp) : ent (locsP u x.args :: intsP v x.saves :: Γ) (insP (x, u, v) x :: Γ) := ent.pack (Θ := [locsP u x.args, intsP v x.saves]) (fun _ h => ⟨rfl, h⟩) Γ
theorem blk_shut {x : AB} {u v : SV} (Γ : List HProp) : ent (bodyP u x.body :: intsP v x.term.to :: Γ) (blkP (x, u, v) x :: Γ) := ent.pack (Θ := [bodyP u x.body, intsP v x.term.to]) (fun _ h => ⟨rfl, h⟩) Γ
theorem fun_shut {x : AF} {u v : SV} (Γ : List HProp) : ent (locsP u x.params :: blksP v x.blocks :: Γ) (funP (x, u, v) x :: Γ) := ent.pack (Θ := [locsP u x.params, blksP v x.blocks]) (fun _ h => ⟨rfl, h⟩) Γ
end Go.Proofs.YtfaokbjpinlcaaaGreat
end
section
/- The library's sort and its compaction of numbers, off the shelf, in the words of pieces. -/
namespace Go.Proofs
open Go.Shelf
def Tryz.lays189_ren : Go.Shelf.Ren := ⟨fun | 189 => 45 | 125 => 96 | 257 => 95 | 128 => 144 | 129 => 145 | 294 => 135 | 295 => 136 | 296 => 137 | 297 => 138 | 298 => 139 | 299 => 140 | 216 => 141 | 300 => 142 | 301 => 143 | 328 => 168 | 329 => 169 | 330 => 170 | 331 => 171 | 332 => 172 | 215 => 173 | 343 => 210 | n => n, fun | 28 => 44 | 3 => 3 | 46 => 149 | 0 => 0 | 51 => 193 | 53 => 195 | 4 => 4 | 183 => 186 | 182 => 185 | 131 => 126 | 5 => 5 | 9 => 9 | 218 => 219 | 222 => 223 | 228 => 241 | 229 => 242 | n => n, fun | n => n⟩
theorem Tryz.lays189 : Go.Proofs.Lays.n189 Tryz.prog Tryz.lays189_ren := {
  mixed := by kernel_rfl
  f125 := Tryz.func96.trans (congrArg some (by kernel_rfl))
  f128 := Tryz.func144.trans (congrArg some (by kernel_rfl))
  f129 := Tryz.func145.trans (congrArg some (by kernel_rfl))
  f189 := Tryz.func45.trans (congrArg some (by kernel_rfl))
  f215 := Tryz.func173.trans (congrArg some (by kernel_rfl))
  f216 := Tryz.func141.trans (congrArg some (by kernel_rfl))
  f257 := Tryz.func95.trans (congrArg some (by kernel_rfl))
  f294 := Tryz.func135.trans (congrArg some (by kernel_rfl))
  f295 := Tryz.func136.trans (congrArg some (by kernel_rfl))
  f296 := Tryz.func137.trans (congrArg some (by kernel_rfl))
  f297 := Tryz.func138.trans (congrArg some (by kernel_rfl))
  f298 := Tryz.func139.trans (congrArg some (by kernel_rfl))
  f299 := Tryz.func140.trans (congrArg some (by kernel_rfl))
  f300 := Tryz.func142.trans (congrArg some (by kernel_rfl))
  f301 := Tryz.func143.trans (congrArg some (by kernel_rfl))
  f328 := Tryz.func168.trans (congrArg some (by kernel_rfl))
  f329 := Tryz.func169.trans (congrArg some (by kernel_rfl))
  f330 := Tryz.func170.trans (congrArg some (by kernel_rfl))
  f331 := Tryz.func171.trans (congrArg some (by kernel_rfl))
  f332 := Tryz.func172.trans (congrArg some (by kernel_rfl))
  f343 := Tryz.func210.trans (congrArg some (by kernel_rfl))
  t0 := Tryz.underlying0
  a0 := Tryz.isAgg0
  z0 := Tryz.sizeOf0
  v0 := Tryz.zeroValue0
  t3 := Tryz.underlying3
  a3 := Tryz.isAgg3
  z3 := Tryz.sizeOf3
  v3 := Tryz.zeroValue3
  t4 := Tryz.underlying4
  a4 := Tryz.isAgg4
  z4 := Tryz.sizeOf4
  v4 := Tryz.zeroValue4
  t5 := Tryz.underlying5
  a5 := Tryz.isAgg5
  z5 := Tryz.sizeOf5
  v5 := Tryz.zeroValue5
  t9 := Tryz.underlying9
  a9 := Tryz.isAgg9
  z9 := Tryz.sizeOf9
  v9 := Tryz.zeroValue9
  t28 := Tryz.underlying44
  a28 := Tryz.isAgg44
  z28 := Tryz.sizeOf44
  v28 := Tryz.zeroValue44
  t46 := Tryz.underlying149
  a46 := Tryz.isAgg149
  z46 := Tryz.sizeOf149
  v46 := Tryz.zeroValue149
  t51 := Tryz.underlying193
  a51 := Tryz.isAgg193
  z51 := Tryz.sizeOf193
  v51 := Tryz.zeroValue193
  t53 := Tryz.underlying195
  a53 := Tryz.isAgg195
  z53 := Tryz.sizeOf195
  v53 := Tryz.zeroValue195
  t131 := Tryz.underlying126
  a131 := Tryz.isAgg126
  z131 := Tryz.sizeOf126
  v131 := Tryz.zeroValue126
  t182 := Tryz.underlying185
  a182 := Tryz.isAgg185
  z182 := Tryz.sizeOf185
  v182 := Tryz.zeroValue185
  t183 := Tryz.underlying186
  a183 := Tryz.isAgg186
  z183 := Tryz.sizeOf186
  v183 := Tryz.zeroValue186
  t218 := Tryz.underlying219
  a218 := Tryz.isAgg219
  z218 := Tryz.sizeOf219
  v218 := Tryz.zeroValue219
  t222 := Tryz.underlying223
  a222 := Tryz.isAgg223
  z222 := Tryz.sizeOf223
  v222 := Tryz.zeroValue223
  t228 := Tryz.underlying241
  a228 := Tryz.isAgg241
  z228 := Tryz.sizeOf241
  v228 := Tryz.zeroValue241
  t229 := Tryz.underlying242
  a229 := Tryz.isAgg242
  z229 := Tryz.sizeOf242
  v229 := Tryz.zeroValue242 }
def Tryz.laysNm220_ren : Go.Shelf.Ren := ⟨fun | 20 => 46 | n => n, fun | 22 => 44 | 3 => 3 | 4 => 4 | 0 => 0 | n => n, fun | n => n⟩
theorem Tryz.laysNm220 : Go.Proofs.Lays2.n20 Tryz.prog Tryz.laysNm220_ren := {
  mixed := by kernel_rfl
  f20 := Tryz.func46.trans (congrArg some (by kernel_rfl))
  t0 := Tryz.underlying0
  a0 := Tryz.isAgg0
  z0 := Tryz.sizeOf0
  v0 := Tryz.zeroValue0
  t3 := Tryz.underlying3
  a3 := Tryz.isAgg3
  z3 := Tryz.sizeOf3
  v3 := Tryz.zeroValue3
  t4 := Tryz.underlying4
  a4 := Tryz.isAgg4
  z4 := Tryz.sizeOf4
  v4 := Tryz.zeroValue4
  t22 := Tryz.underlying44
  a22 := Tryz.isAgg44
  z22 := Tryz.sizeOf44
  v22 := Tryz.zeroValue44
  i3 := by kernel_rfl }
end Go.Proofs
namespace Go.Proofs.YtfaokbjpinlcaaaGreat
open Go.Sep Go.Sort
set_option linter.unusedSimpArgs false
set_option linter.unusedVariables false
theorem hp_row {w : World} {b o n : Nat} {os : Array Obj} {T : TypeId} {pre X post : List Value} {ys : List Int} (hb : hp w b = some (.cells ⟨pre ++ X ++ post⟩ T (0, 0))) (ho : pre.length = o) (hl : ys.length = X.length) :
    hp (grow (putRow (Value.int .i64) (Sort.ahead w n) b o ys.toArray) os) b = some (.cells ⟨pre ++ ys.map (Value.int .i64) ++ post⟩ T (0, 0)) := by
  have hlt := hp_lt hb
  have hb' : w.heap[b]? = some (.cells ⟨pre ++ X ++ post⟩ T (0, 0)) := hb
  unfold hp grow putRow mapBlock Sort.ahead
  simp only
  rw [Array.getElem?_append_left (by simpa using hlt), Array.getElem?_modify, if_pos rfl, hb']
  simp only [Option.map_some, onCells]
  congr 2
  unfold putCells
  apply Array.ext_getElem?
  intro k
  rw [Array.getElem?_mapIdx]
  simp only [List.getElem?_toArray, List.size_toArray]
  by_cases h1 : o ≤ k ∧ k < o + ys.length
  · have e1 : (pre ++ X ++ post)[k]? = X[k - o]? := by rw [List.append_assoc, List.getElem?_append_right (by omega), List.getElem?_append_left (by omega), ho]
    have e2 : (pre ++ ys.map (Value.int .i64) ++ post)[k]? = (ys.map (Value.int .i64))[k - o]? := by rw [List.append_assoc, List.getElem?_append_right (by omega), List.getElem?_append_left (by simp; omega), ho]
    rw [e1, e2, List.getElem?_eq_getElem (by omega : k - o < X.length), List.getElem?_map, List.getElem?_eq_getElem (by omega : k - o < ys.length)]
    simp only [Option.map_some, h1, and_self, if_true]
    rw [getElem!_pos ys.toArray (k - o) (by simp; omega)]
    simp
  · have e : (pre ++ X ++ post)[k]? = (pre ++ ys.map (Value.int .i64) ++ post)[k]? := by
      rw [List.append_assoc, List.append_assoc]
      by_cases h2 : k < o
      · rw [List.getElem?_append_left (by omega), List.getElem?_append_left (by omega)]
      · rw [List.getElem?_append_right (by omega), List.getElem?_append_right (by omega), List.getElem?_append_right (by omega), List.getElem?_append_right (by simp; omega)]
        congr 1; simp; omega
    rw [← e]
    cases (pre ++ X ++ post)[k]? with
    | none => rfl
    | some x => simp [h1]
theorem hp_other {w : World} {b o n c : Nat} {os : Array Obj} {ys : List Int} (hc : c < w.heap.size) (hne : c ≠ b) : hp (grow (putRow (Value.int .i64) (Sort.ahead w n) b o ys.toArray) os) c = hp w c := by
  unfold hp grow putRow mapBlock Sort.ahead
  simp only
  rw [Array.getElem?_append_left (by simpa using hc), Array.getElem?_modify, if_neg (Ne.symm hne)]
theorem step_row {w : World} {h : Heap} {b o n : Nat} {os : Array Obj} {T : TypeId} {pre X post : List Value} {ys : List Int} (hh : h = put emp b (.cells ⟨pre ++ X ++ post⟩ T (0, 0))) (hs : Sub h (hp w)) (ho : pre.length = o) (hl : ys.length = X.length) :
    Step w h (grow (putRow (Value.int .i64) (Sort.ahead w n) b o ys.toArray) os) (put emp b (.cells ⟨pre ++ ys.map (Value.int .i64) ++ post⟩ T (0, 0))) := by
  subst hh
  have hb : hp w b = some (.cells ⟨pre ++ X ++ post⟩ T (0, 0)) := hs b _ put_emp_self
  refine ⟨fun c x hc => ?_, by simp [grow, putRow, mapBlock, Sort.ahead], fun c hc hn => ?_, fun c hc => ?_, ⟨rfl, rfl, rfl⟩⟩
  · unfold put at hc
    split at hc
    · rename_i e; subst e; cases hc; exact hp_row hb ho hl
    · cases hc
  · have e : c ≠ b := fun e => by subst e; simp [put] at hn
    exact hp_other hc e
  · left
    unfold put at hc ⊢
    split at hc
    · rename_i e; simp [e]
    · exact absurd rfl hc
theorem holds_of {w : World} {b o : Nat} {T : TypeId} {pre post : List Value} {xs : List Int} (hb : hp w b = some (.cells ⟨pre ++ xs.flatMap (Enc.int .i64).cells ++ post⟩ T (0, 0))) (ho : pre.length = o) : Holds (Value.int .i64) w b o xs.toArray := by
  intro j hj
  have hj' : j < xs.length := by simpa using hj
  refine ⟨?_, ?_⟩
  · refine cell?_of hb rfl ?_
    simp only [List.getElem?_toArray]
    have hfl := flat_len (Enc.int .i64) xs
    have hsz : (Enc.int .i64).sz = 1 := rfl
    rw [List.append_assoc, List.getElem?_append_right (by omega), List.getElem?_append_left (by rw [hfl, hsz]; omega)]
    have := flat_get (Enc.int .i64) xs j 0 xs[j] (List.getElem?_eq_getElem hj') (by decide)
    rw [hsz] at this
    have e : o + j - pre.length = j * 1 + 0 := by omega
    rw [e, this, getElem!_pos xs.toArray j hj]
    simp [Enc.int]
  · have hb' : w.heap[b]? = _ := hb
    simp [World.frozen?, hb']
theorem ints_map (xs : List Int) : xs.flatMap (Enc.int .i64).cells = xs.map (Value.int .i64) := by
  induction xs with
  | nil => rfl
  | cons x xs ih => rw [List.flatMap_cons, ih]; rfl
theorem sort_ok (hR : Heap) (sv : SV) (xs : List Int) (hl : xs.length ≤ 1000000000000000) :
    Tri Tryz.prog hR 45 #[sv.val] [slA 3 (Enc.int .i64) sv.val xs] fun _ Γ' => Γ' = [slA 3 (Enc.int .i64) sv.val (xs.mergeSort fun x y => decide (x ≤ y))] := by
  intro h w hs hf
  obtain ⟨h1, h2, g1, _, hd, rfl⟩ := hs
  have hml : (xs.mergeSort fun x y => decide (x ≤ y)).length = xs.length := List.length_mergeSort xs
  rcases g1 with ⟨hv, hx, hg⟩ | ⟨b, o, c, pre, post, hv, q1, q2, q3, q4⟩
  · rw [hv]
    refine (Any.slices_Sort_int_none Tryz.lays189 none 0 w).mono ?_
    rintro e w' ⟨rfl, rfl⟩
    refine ⟨_, un h1 h2, _, rfl, .refl hf.own, ?_, rfl⟩
    refine ⟨h1, h2, .inl ⟨rfl, List.length_eq_zero_iff.1 (by rw [hml, hx]; rfl), hg⟩, trivial, hd, rfl⟩
  · have hbw : hp w b = some (.cells ⟨pre ++ xs.flatMap (Enc.int .i64).cells ++ post⟩ 3 (0, 0)) := hf.own b _ (by subst q4; exact un_left_some put_emp_self)
    rw [hv]
    refine (Any.slices_Sort_int Tryz.lays189 b o c xs w (holds_of hbw q2) (hp_lt hbw) (by omega)).mono ?_
    rintro e w' ⟨rfl, n, os, rfl⟩
    have hst := step_row (n := n) (os := os) (ys := xs.mergeSort fun x y => decide (x ≤ y)) q4 (fun b o hb => hf.own b o (un_left_some hb)) q2 (by rw [hml, ints_map]; simp)
    have hst2 := hst.frame (fun b o hb => hf.own b o (by rw [un_comm hd]; exact un_left_some hb)) hd
    refine ⟨_, _, [slA 3 (Enc.int .i64) (.slice (some ⟨b, o, none⟩) xs.length c) (xs.mergeSort fun x y => decide (x ≤ y))], rfl, hst2.1, ⟨_, h2, .inr ⟨b, o, c, pre, post, by rw [hml], by rw [hml]; exact q1, q2, by rw [hml]; exact q3, by rw [ints_map]⟩, trivial, hst2.2, rfl⟩, rfl⟩
theorem compact_sorted (xs : List Int) (hs : xs.Pairwise (· ≤ ·)) : (Lib.compact xs).Pairwise (· < ·) ∧ ∀ r, r ∈ Lib.compact xs ↔ r ∈ xs := by
  have hget : ∀ j, j < xs.length → ∃ y, xs[j]? = some y ∧ xs.toArray[j]! = y := fun j hj => ⟨xs[j], List.getElem?_eq_getElem hj, by rw [getElem!_pos xs.toArray j (by simpa using hj)]; simp⟩
  have hle : ∀ j, 0 < j → j < xs.length → xs.toArray[j - 1]! ≤ xs.toArray[j]! := fun j h0 hj => by
    have := List.pairwise_iff_getElem.1 hs (j - 1) j (by omega) hj (by omega)
    rw [getElem!_pos xs.toArray j (by simpa using hj), getElem!_pos xs.toArray (j - 1) (by simp; omega)]
    simpa using this
  have main : ∀ m, m ≤ xs.length → (Lib.compactUpTo xs.toArray m).Pairwise (· < ·) ∧ (∀ r, r ∈ Lib.compactUpTo xs.toArray m ↔ ∃ j, j < m ∧ xs.toArray[j]! = r) ∧ (0 < m → ∀ r ∈ Lib.compactUpTo xs.toArray m, r ≤ xs.toArray[m - 1]!) := by
    intro m
    induction m with
    | zero => intro _; refine ⟨by simp [Lib.compactUpTo], fun r => ⟨fun h => by simp [Lib.compactUpTo] at h, fun ⟨j, h, _⟩ => by omega⟩, fun h => by omega⟩
    | succ m ih =>
      intro hm
      obtain ⟨h1, h2, h3⟩ := ih (by omega)
      rw [Lib.compactUpTo_succ]
      by_cases hk : Lib.keeps xs.toArray m = true
      · rw [if_pos hk]
        have hlt : ∀ r ∈ Lib.compactUpTo xs.toArray m, r < xs.toArray[m]! := fun r hr => by
          obtain ⟨j, hj, _⟩ := (h2 r).1 hr
          have a := h3 (by omega) r hr
          have b := hle m (by omega) (by omega)
          have c : m = 0 ∨ xs.toArray[m]! ≠ xs.toArray[m - 1]! := by simpa [Lib.keeps] using hk
          rcases c with c | c <;> omega
        refine ⟨List.pairwise_append.2 ⟨h1, by simp, fun r hr y hy => by rw [List.mem_singleton.1 hy]; exact hlt r hr⟩, fun r => ?_, fun _ r hr => ?_⟩
        · rw [List.mem_append, h2, List.mem_singleton]
          constructor
          · rintro (⟨j, hj, e⟩ | e)
            · exact ⟨j, by omega, e⟩
            · exact ⟨m, by omega, e.symm⟩
          · rintro ⟨j, hj, e⟩
            by_cases ej : j = m
            · subst ej; exact .inr e.symm
            · exact .inl ⟨j, by omega, e⟩
        · rw [Nat.add_sub_cancel]
          rcases List.mem_append.1 hr with hr | hr
          · exact Int.le_of_lt (hlt r hr)
          · rw [List.mem_singleton.1 hr]; exact Int.le_refl _
      · rw [if_neg hk, List.append_nil]
        have c : ¬ (m = 0 ∨ xs.toArray[m]! ≠ xs.toArray[m - 1]!) := by simpa [Lib.keeps] using hk
        have c1 : m ≠ 0 := fun e => c (.inl e)
        have c2 : xs.toArray[m]! = xs.toArray[m - 1]! := Decidable.not_not.1 fun e => c (.inr e)
        refine ⟨h1, fun r => ?_, fun _ r hr => ?_⟩
        · rw [h2]
          constructor
          · rintro ⟨j, hj, e⟩; exact ⟨j, by omega, e⟩
          · rintro ⟨j, hj, e⟩
            by_cases ej : j = m
            · subst ej; exact ⟨j - 1, by omega, by rw [← c2, e]⟩
            · exact ⟨j, by omega, e⟩
        · rw [Nat.add_sub_cancel, c2]; exact h3 (by omega) r hr
  obtain ⟨h1, h2, _⟩ := main xs.length (Nat.le_refl _)
  refine ⟨h1, fun r => (h2 r).trans ⟨?_, fun hr => ?_⟩⟩
  · rintro ⟨j, hj, e⟩
    obtain ⟨y, g1, g2⟩ := hget j hj
    rw [← e, g2]; exact List.mem_of_getElem? g1
  · obtain ⟨j, hj⟩ := List.getElem?_of_mem hr
    have hl := (List.getElem?_eq_some_iff.1 hj).1
    obtain ⟨y, g1, g2⟩ := hget j hl
    rw [hj] at g1; cases g1
    exact ⟨j, hl, g2⟩
theorem compact_ok (hR : Heap) (sv : SV) (xs : List Int) (hl : xs.length ≤ 1000000000000000) :
    Tri Tryz.prog hR 46 #[sv.val] [slA 3 (Enc.int .i64) sv.val xs] fun v Γ' => ∃ ys : SV, v = ys.val ∧ Γ' = [slA 3 (Enc.int .i64) ys.val (Lib.compact xs)] := by
  intro h w hs hf
  obtain ⟨h1, h2, g1, _, hd, rfl⟩ := hs
  rcases g1 with ⟨hv, hx, hg⟩ | ⟨b, o, c, pre, post, hv, q1, q2, q3, q4⟩
  · rw [hv]
    refine (Any.slices_Compact_int_empty Tryz.laysNm220 none 0 w).mono ?_
    rintro e w' ⟨rfl, rfl⟩
    subst hx
    exact ⟨_, un h1 h2, [slA 3 (Enc.int .i64) (.slice none 0 0) (Lib.compact [])], rfl, .refl hf.own, ⟨h1, h2, .inl ⟨rfl, rfl, hg⟩, trivial, hd, rfl⟩, ⟨none, 0, 0⟩, rfl, rfl⟩
  · have hbw : hp w b = some (.cells ⟨pre ++ xs.flatMap (Enc.int .i64).cells ++ post⟩ 3 (0, 0)) := hf.own b _ (by subst q4; exact un_left_some put_emp_self)
    rw [hv]
    refine (Any.slices_Compact_int Tryz.laysNm220 b o c xs w (holds_of hbw q2) (by omega) q1).mono ?_
    rintro e w' ⟨rfl, n, rfl⟩
    have hcl : (Lib.compact xs).length ≤ xs.length := by
      unfold Lib.compact Lib.compactUpTo
      rw [List.length_map]
      exact Nat.le_trans (List.length_filter_le _ _) (by simp)
    have hst := step_row (n := n) (os := #[]) (ys := Lib.compact xs ++ List.replicate (xs.length - (Lib.compact xs).length) 0) q4 (fun b o hb => hf.own b o (un_left_some hb)) q2 (by rw [ints_map]; simp; omega)
    have hst2 := hst.frame (fun b o hb => hf.own b o (by rw [un_comm hd]; exact un_left_some hb)) hd
    rw [grow_empty] at hst2
    refine ⟨_, _, [slA 3 (Enc.int .i64) (.slice (some ⟨b, o, none⟩) (Lib.compact xs).length c) (Lib.compact xs)], rfl, hst2.1, ⟨_, h2, .inr ⟨b, o, c, pre, (List.replicate (xs.length - (Lib.compact xs).length) (0 : Int)).map (Value.int .i64) ++ post, rfl, by omega, q2, ?_, ?_⟩, trivial, hst2.2, rfl⟩, ⟨some ⟨b, o, none⟩, (Lib.compact xs).length, c⟩, rfl, rfl⟩
    · simp only [Enc.int] at q3 ⊢
      rw [List.length_append, List.length_map, List.length_replicate]; omega
    · rw [ints_map, List.map_append]; simp only [List.append_assoc]
end Go.Proofs.YtfaokbjpinlcaaaGreat
end
section
/- All of a function's code; walked. -/
namespace Go.Proofs.YtfaokbjpinlcaaaGreat
open Go.Sep
set_option linter.unusedSimpArgs false
set_option linter.unusedVariables false
set_option maxRecDepth 100000
attribute [local irreducible] blk slA mp mpF rows rowsBut many mpK mpE
/-- what is saved in the first k blocks, in the first j instructions of one -/
def allN (F : AF) (k : Nat) : List Int := (F.blocks.take k).flatMap fun b => b.body.flatMap AI.saves
def bodS (b : AB) (j : Nat) : List Int := (b.body.take j).flatMap AI.saves
theorem allN_step {F : AF} {k : Nat} {b : AB} (h : F.blocks[k]? = some b) : allN F (k + 1) = allN F k ++ bodS b b.body.length := by
  unfold allN bodS; rw [List.take_add_one, h, List.take_length]; simp
theorem bodS_step {b : AB} {j : Nat} {x : AI} (h : b.body[j]? = some x) : bodS b (j + 1) = bodS b j ++ x.saves := by
  unfold bodS; rw [List.take_add_one, h]; simp
theorem bodS_len {F : AF} {b : AB} (h : FunOk F) (hb : b ∈ F.blocks) (j : Nat) : (bodS b j).length ≤ 8 * b.body.length := by
  unfold bodS
  have : ∀ l : List AI, (∀ x ∈ l, x ∈ b.body) → (l.flatMap AI.saves).length ≤ 8 * l.length := fun l => by
    induction l with
    | nil => intro _; simp
    | cons x l ih =>
      intro hl
      have h1 := ih fun y hy => hl y (by simp [hy])
      have h2 := (h.ins b hb x (hl x (by simp))).sl
      simp only [List.flatMap_cons, List.length_append, List.length_cons]; omega
  have h3 := this (b.body.take j) fun x hx => List.mem_of_mem_take hx
  rw [List.length_take] at h3; omega
theorem allN_len {F : AF} (h : FunOk F) : ∀ k, k ≤ F.blocks.length → (allN F k).length ≤ 8 * sumB F k
  | 0, _ => by simp [allN]
  | k + 1, hk => by
    obtain ⟨b, gb⟩ : ∃ b, F.blocks[k]? = some b := ⟨_, List.getElem?_eq_getElem (by omega)⟩
    have h1 := allN_len h k (by omega)
    have h2 := bodS_len h (List.mem_of_getElem? gb) b.body.length
    rw [allN_step gb, sumB_step gb, List.length_append]; omega
theorem bodN_len {F : AF} {b : AB} (hx : ∀ x ∈ b.body, (insC (savS F) x).length ≤ 100) (j : Nat) (hj : j ≤ b.body.length) : (bodN (savS F) b j).length ≤ 100 * j := by
  unfold bodN
  have : ∀ l : List AI, (∀ x ∈ l, x ∈ b.body) → (l.flatMap (insC (savS F))).length ≤ 100 * l.length := fun l => by
    induction l with
    | nil => intro _; simp
    | cons x l ih =>
      intro hl
      have h1 := ih fun y hy => hl y (by simp [hy])
      have h2 := hx x (hl x (by simp))
      simp only [List.flatMap_cons, List.length_append, List.length_cons]; omega
  have h3 := this (b.body.take j) fun x hx => List.mem_of_mem_take hx
  rw [List.length_take] at h3; omega
set_option maxHeartbeats 8000000 in
theorem function_ok (hR : Heap) (bm : Nat) (M : MF) (pu pv : SV) (hM1 : M.pu = pu.val) (hM2 : M.pv = pv.val) (hv : AFv hR M.F pu.val pv.val) (h : FunOk M.F) (hfi : 0 ≤ M.first ∧ M.first ≤ 2000000000) :
    Tri Tryz.prog hR 24 #[ptrV bm] [mkP bm M [] [] (fun _ => none) []] fun _ Γ' => (∃ pl js, Γ' = [mkP bm M (savS M.F) (codeC (savS M.F) M.F M.first) pl js]) ∧ (codeC (savS M.F) M.F M.first).length ≤ 3000000 := by
  obtain ⟨F, pu', pv', first, bp⟩ := M
  simp only at hM1 hM2 hv h hfi ⊢
  subst hM1 hM2
  have hu := hv.hu
  have hb := hv.hv
  have hsb := h.sm.sb
  have hst := h.sm.st
  refine Tri.ent (Tri.of (args := [ptrV bm]) Tryz.func24 rfl Tryz.ntmps24 (by simp) ?_)
  refine WP.trim [0] [0] ?_
  refine WP.meetC (α := Unit) (fun _ => True) (fun _ => []) (fun _ => [(0, mkP bm ⟨F, pu.val, pv.val, first, bp⟩ (allS F) [] (fun _ => none) [])]) ?_ ?_
  · refine WP.seq ?_
    refine WP.openX 0 ?_
    rintro ⟨iv, sv, jv⟩ _
    refine Zc ?_
    refine Zm ?_
    refine Zn ?_
    refine Zf fo_85_0 ?_
    refine Zf fo_51_4 ?_
    refine Zl 0 ag_49 ?_
    refine Zh sl_49 hb ?_
    refine Zm ?_
    refine Ze ?_
    refine WP.via (Γ' := [mkP bm ⟨F, pu.val, pv.val, first, bp⟩ [] [] (fun _ => none) []]) (mkP_shut ⟨iv, sv, jv⟩ []) ?_
    refine WP.block ?_
    refine WP.trim [0, 19, 20, 21] [0] ?_
    refine WP.loopC (α := Nat) (fun k => k ≤ F.blocks.length) (fun k => [(21, vI (k : Int))]) (fun k => [(0, mkP bm ⟨F, pu.val, pv.val, first, bp⟩ (allN F k) [] (fun _ => none) [])]) (fun k => F.blocks.length - k) 0 (Nat.zero_le _) ?_
    intro k hk
    refine WP.trim [0, 19, 20, 21] [0] ?_
    refine Zp ?_
    refine Zi ?_
    refine Ze ?_
    refine WP.seq ?_
    refine WP.ite rfl (fun hlt => ?_) (fun hge => ?_)
    · refine Zb ?_
      obtain ⟨b, gb⟩ : ∃ b, F.blocks[(k : Int).toNat]? = some b := ⟨_, List.getElem?_eq_getElem (by omega)⟩
      have gb' : F.blocks[k]? = some b := gb
      have hbm := List.mem_of_getElem? gb
      have hal := allN_len h k hk
      have hsl := sumB_le F k
      have hs2 := sumB_le F (k + 1)
      rw [sumB_step gb'] at hs2
      obtain ⟨_, ⟨bu0, bt0, rfl, hbu, hbt⟩, hrow⟩ := hb.at gb
      obtain ⟨bu, rfl, _, _⟩ := SlR.sv hbu
      obtain ⟨bt, rfl, _, _⟩ := SlR.sv hbt
      refine WP.seq ?_
      refine WP.block ?_
      refine Zp ?_
      refine Zx sl_49 hb ?_
      refine Run.loadRagg rfl rfl ag_58 rfl rfl hrow (by rfl) ?_
      refine Run.alloc rfl zr_58 rfl rfl rfl ?_
      intro b3
      refine Run.storeB 1 rfl rfl rfl rfl ag_58 rfl rfl rfl rfl rfl ?_
      refine Ze ?_
      refine Zp ?_
      refine Zf fo_58_0 ?_
      refine Zl 1 ag_54 ?_
      refine Zh sl_54 hbu ?_
      refine Zm ?_
      refine Ze ?_
      refine WP.block ?_
      refine WP.trim [0, 19, 20, 21, 26, 27, 28] [0] ?_
      refine WP.loopC (α := Nat) (fun j => j ≤ b.body.length) (fun j => [(28, vI (j : Int))]) (fun j => [(0, mkP bm ⟨F, pu.val, pv.val, first, bp⟩ (allN F k ++ bodS b j) [] (fun _ => none) [])]) (fun j => b.body.length - j) 0 (Nat.zero_le _) ?_ (he := by show ent _ (chgs [(0, mkP bm ⟨F, pu.val, pv.val, first, bp⟩ (allN F k ++ []) [] (fun _ => none) [])] _); rw [List.append_nil]; exact ent.gc)
      intro j hj
      refine WP.trim [0, 19, 20, 21, 26, 27, 28] [0] ?_
      refine Zp ?_
      refine Zi ?_
      refine Ze ?_
      refine WP.seq ?_
      refine WP.ite rfl (fun hlt2 => ?_) (fun hge2 => ?_)
      · refine Zb ?_
        obtain ⟨x, gx⟩ : ∃ x, b.body[(j : Int).toNat]? = some x := ⟨_, List.getElem?_eq_getElem (by omega)⟩
        have gx' : b.body[j]? = some x := gx
        have hI := h.ins b hbm x (List.mem_of_getElem? gx)
        have hbl := bodS_len h hbm j
        have hxs := hI.sl
        obtain ⟨_, ⟨xu0, xs0, rfl, hxu, hxv⟩, hxrow⟩ := hbu.at gx
        obtain ⟨xv, rfl, _, _⟩ := SlR.sv hxv
        obtain ⟨xu, rfl, _, _⟩ := SlR.sv hxu
        refine WP.seq ?_
        refine WP.block ?_
        refine Zp ?_
        refine Zx sl_54 hbu ?_
        refine Run.loadRagg rfl rfl ag_53 rfl rfl hxrow (by rfl) ?_
        refine Run.alloc rfl zr_53 rfl rfl rfl ?_
        intro b5
        refine Run.storeB 1 rfl rfl rfl rfl ag_53 rfl rfl rfl rfl rfl ?_
        refine Ze ?_
        refine WP.openX 0 ?_
        rintro ⟨iv, sv, jv⟩ _
        refine WP.drawn0 cf0 mixed rfl (by kernel_rfl) ?_
        refine Zm ?_
        refine Zm ?_
        refine Zn ?_
        refine Zf fo_85_3 ?_
        refine Zl 0 ag_44 ?_
        refine Zf fo_53_4 ?_
        refine Zl 5 ag_44 ?_
        refine Run.append (E := encI) (xs := allN F k ++ bodS b j) (ys := x.saves) 2 rfl rfl rfl rfl rfl rfl sl_44 zr_3 rfl (src_ro hxv) (by rw [List.length_append]; omega) (by rw [List.length_append]; omega) ?_
        intro sv39 hv39
        refine Zn ?_
        refine Zf fo_85_3 ?_
        refine Run.storeB 0 rfl rfl rfl rfl ag_44 rfl rfl rfl rfl rfl ?_
        refine Run.nil ?_
        refine blk_norm ?_; refine thn_next ?_
        refine Zc ?_
        refine Za ?_
        refine Zm ?_
        refine Run.nil ?_
        refine thn_next ⟨j + 1, by omega, by omega, Ko.go, ?_⟩
        rw [bodS_step gx', ← List.append_assoc]
        exact ent.trans (Δ := mkC bm ⟨F, pu.val, pv.val, first, bp⟩ (allN F k ++ bodS b j ++ x.saves) [] (fun _ => none) [] ⟨iv, sv39, jv⟩) ent.go (mkP_shut ⟨iv, sv39, jv⟩ [])
      · refine Zj ?_; refine blk_norm ?_; refine thn_next ?_
        refine Zc ?_
        refine Za ?_
        refine Zm ?_
        refine Run.nil ?_
        have e : j = b.body.length := by omega
        subst e
        refine thn_next ⟨k + 1, by omega, by omega, Ko.go, ?_⟩
        rw [allN_step gb']; exact ent.gc
    · refine Zj ?_
      have e : k = F.blocks.length := by omega
      subst e
      refine thn_next ⟨(), trivial, Ko.go, ?_⟩
      rw [show allN F F.blocks.length = allS F by unfold allN allS; rw [List.take_length]]; exact ent.gc
  intro _ _
  have hal := allN_len h F.blocks.length (Nat.le_refl _)
  rw [show allN F F.blocks.length = allS F by unfold allN allS; rw [List.take_length]] at hal
  have hsl := sumB_le F F.blocks.length
  refine WP.openX 0 ?_
  rintro ⟨iv, sv, jv⟩ _
  refine Zp ?_
  refine Zm ?_
  refine Zn ?_
  refine Zf fo_85_3 ?_
  refine Zl 0 ag_44 ?_
  refine Run.callP [2] ok_45 (sort_ok hR sv (allS F) (by omega)) ?_; rintro _ _ rfl
  refine Ze ?_
  have hml : ((allS F).mergeSort fun x y => decide (x ≤ y)).length = (allS F).length := List.length_mergeSort _
  have hmp : ((allS F).mergeSort fun x y => decide (x ≤ y)).Pairwise (· ≤ ·) := by
    have := List.pairwise_mergeSort (le := fun x y : Int => decide (x ≤ y)) (fun a b c h1 h2 => by simp at h1 h2 ⊢; omega) (fun a b => by simp; omega) (allS F)
    exact this.imp fun h => by simpa using h
  obtain ⟨hc1, hc2⟩ := compact_sorted _ hmp
  have hcs : Lib.compact ((allS F).mergeSort fun x y => decide (x ≤ y)) = savS F := lt_uniq hc1 (savS_lt F) fun r => (hc2 r).trans (List.mem_mergeSort.trans (savS_mem h.sv r).symm)
  refine WP.trim [0] [1, 2, 0, 3, 4] ?_
  refine Zp ?_
  refine Zm ?_
  refine Zm ?_
  refine Zn ?_
  refine Zf fo_85_3 ?_
  refine Zl 0 ag_44 ?_
  refine Run.callP [2] ok_46 (compact_ok hR sv _ (by rw [hml]; omega)) ?_; rintro _ _ ⟨ys, rfl, rfl⟩
  refine Zn ?_
  refine Zf fo_85_3 ?_
  refine Run.storeB 1 rfl rfl rfl rfl ag_44 rfl rfl rfl rfl rfl ?_
  refine Ze ?_
  rw [hcs]
  have hS8 := savS_len F
  generalize hSS : savS F = S at hS8 ⊢
  refine WP.trim [0] [1, 2, 0, 3, 4] ?_
  refine WP.via (Γ' := [mkP bm ⟨F, pu.val, pv.val, first, bp⟩ S [] (fun _ => none) []]) (mkP_shut ⟨iv, ys, jv⟩ []) ?_
  refine Zp ?_
  refine Zm ?_
  refine Ze ?_
  refine WP.via (Γ' := [mkP bm ⟨F, pu.val, pv.val, first, bp⟩ S [] (fun _ => none) [], slA 121 encMv nilS.val []]) ((slA_nil 121 encMv _).trans ent.go) ?_
  refine WP.trim [0, 6] [0, 1] ?_
  refine WP.meetC (α := SV) (fun _ => True) (fun sv => [(6, sv.val)]) (fun sv => [(1, slA 121 encMv sv.val (numbered F.params fun k l => ⟨l, regL k⟩))]) ?_ ?_
  · refine WP.seq ?_
    refine WP.openX 0 ?_
    rintro ⟨iv, sv, jv⟩ _
    refine Zc ?_
    refine Zm ?_
    refine Zn ?_
    refine Zf fo_85_0 ?_
    refine Zf fo_51_1 ?_
    refine Zl 0 ag_48 ?_
    refine Zh sl_48 hu ?_
    refine Zm ?_
    refine Ze ?_
    refine WP.via (Γ' := [mkP bm ⟨F, pu.val, pv.val, first, bp⟩ S [] (fun _ => none) [], slA 121 encMv nilS.val []]) (mkP_shut ⟨iv, sv, jv⟩ [slA 121 encMv nilS.val []]) ?_
    refine WP.block ?_
    refine WP.trim [0, 6, 61, 62, 63] [0, 1] ?_
    refine WP.loopC (α := Nat × SV) (fun z => z.1 ≤ F.params.length) (fun z => [(63, vI (z.1 : Int)), (6, z.2.val)]) (fun z => [(1, slA 121 encMv z.2.val ((numbered F.params fun k l => ⟨l, regL k⟩).take z.1))]) (fun z => F.params.length - z.1) (0, nilS) (Nat.zero_le _) ?_
    rintro ⟨i, lv⟩ hi
    simp only at hi ⊢
    have hpl := h.pl
    refine WP.trim [0, 6, 61, 62, 63] [0, 1] ?_
    refine Zp ?_
    refine Zi ?_
    refine Ze ?_
    refine WP.seq ?_
    refine WP.ite rfl (fun hlt => ?_) (fun hge => ?_)
    · refine Zb ?_
      obtain ⟨l, gl⟩ : ∃ x', F.params[(i : Int).toNat]? = some x' := ⟨_, List.getElem?_eq_getElem (by omega)⟩
      have gl' : F.params[i]? = some l := gl
      have hst2 : (numbered F.params fun k l => (⟨l, regL k⟩ : Mv)).take (i + 1) = (numbered F.params fun k l => (⟨l, regL k⟩ : Mv)).take i ++ [⟨l, regL i⟩] := by rw [List.take_add_one, numb_get, gl']; rfl
      refine WP.seq ?_
      refine WP.block ?_
      refine Zp ?_
      refine Zm ?_
      refine Zx sl_48 hu ?_
      refine Run.loadRagg rfl rfl ag_46 rfl rfl (SlR.row hu gl) rfl ?_
      refine Run.alloc rfl zr_46 rfl rfl rfl ?_
      intro b8
      refine Zm ?_
      refine Run.storeB 2 rfl rfl rfl rfl ag_46 rfl rfl rfl rfl rfl ?_
      refine Ze ?_
      refine WP.trim [0, 6, 7, 8, 61, 62, 63] [0, 1, 2] ?_
      refine Zc ?_
      refine Zm ?_
      refine Run.loadBagg 2 rfl rfl ag_46 rfl rfl rfl rfl rfl ?_
      refine Zm ?_
      refine Run.build rfl bd_46 rfl rfl rfl rfl ?_
      refine Run.build rfl bd_121 rfl rfl rfl rfl ?_
      refine Run.buildSlice (E := encMv) rfl sl_119 zr_121 ([(⟨l, regL i⟩ : Mv)]) rfl rfl rfl (by decide) rfl rfl ?_
      intro b73
      refine Run.append (E := encMv) (xs := (numbered F.params fun k l => ⟨l, regL k⟩).take i) (ys := [(⟨l, regL i⟩ : Mv)]) 1 rfl rfl rfl rfl rfl rfl sl_119 zr_121 rfl (src_own 3 rfl) (by rw [List.length_take, numb_len]; simp only [List.length_singleton]; omega) (by rw [List.length_take, numb_len]; simp only [List.length_singleton]; omega) ?_
      intro sv42 hv42
      refine Zm ?_
      refine Run.nil ?_
      refine blk_norm ?_; refine thn_next ?_
      refine Zc ?_
      refine Za ?_
      refine Zm ?_
      refine Run.nil ?_
      refine thn_next ⟨(i + 1, sv42), by simp only; omega, by simp only; omega, Ko.go, by simp only [hst2]; exact ent.gc⟩
    · refine Zj ?_
      have e : i = F.params.length := by omega
      subst e
      refine thn_next ⟨lv, trivial, Ko.go, ?_⟩
      rw [List.take_of_length_le (by rw [numb_len]; exact Nat.le_refl _)]; exact ent.gc
  intro lv _
  refine WP.trim [0, 6] [0, 1] ?_
  have hpl := h.pl
  refine Zp ?_
  refine Zm ?_
  refine Zm ?_
  refine Run.callL [0] [1] ok_47 (fun g hg hd => moves_ok (un hR g) bm ⟨F, pu.val, pv.val, first, bp⟩ S [] (fun _ => none) [] lv _ (lent_at 0 rfl hg hd) (by rw [numb_len]; omega) (good_par h) (near_par h) (by omega) (by simp)) ?_; rintro _ _ ⟨rfl, hml⟩
  refine Ze ?_
  rw [numb_len] at hml
  have hraw0 : movesC S (numbered F.params fun k l => ⟨l, regL k⟩) = (rawC S F 0).map Prod.fst := by rw [raw_zero]; unfold preC; rw [fst_none]
  have hjmp0 : jmpI 0 (rawC S F 0) = [] := by rw [raw_zero]; unfold preC; rw [jmpI_none]
  have hlen0 : (rawC S F 0).length ≤ 32 := by rw [raw_zero]; unfold preC; rw [List.length_map]; omega
  refine WP.trim [0] [0] ?_
  rw [List.nil_append, hraw0]
  -- block by block
  refine WP.meetC (α := Unit) (fun _ => (rawC S F F.blocks.length).length ≤ 32 + 100 * sumB F F.blocks.length + 5 * F.blocks.length) (fun _ => []) (fun _ => [(0, mkP bm ⟨F, pu.val, pv.val, first, bp⟩ S ((rawC S F F.blocks.length).map Prod.fst) (plF S F first F.blocks.length) (jmpI 0 (rawC S F F.blocks.length)))]) ?_ ?_
  · refine WP.seq ?_
    refine WP.openX 0 ?_
    rintro ⟨iv, sv, jv⟩ _
    refine Zc ?_
    refine Zm ?_
    refine Zn ?_
    refine Zf fo_85_0 ?_
    refine Zf fo_51_4 ?_
    refine Zl 0 ag_49 ?_
    refine Zh sl_49 hb ?_
    refine Zm ?_
    refine Ze ?_
    refine WP.via (Γ' := [mkP bm ⟨F, pu.val, pv.val, first, bp⟩ S ((rawC S F 0).map Prod.fst) (fun _ => none) []]) (mkP_shut ⟨iv, sv, jv⟩ []) ?_
    refine WP.block ?_
    refine WP.trim [0, 83, 84, 85] [0] ?_
    refine WP.loopC (α := Nat) (fun k => k ≤ F.blocks.length ∧ (rawC S F k).length ≤ 32 + 100 * sumB F k + 5 * k) (fun k => [(85, vI (k : Int))]) (fun k => [(0, mkP bm ⟨F, pu.val, pv.val, first, bp⟩ S ((rawC S F k).map Prod.fst) (plF S F first k) (jmpI 0 (rawC S F k)))]) (fun k => F.blocks.length - k) 0 ⟨Nat.zero_le _, by omega⟩ ?_ (he := by rw [plF_zero, hjmp0]; exact ent.gc)
    rintro k ⟨hk, hrl⟩
    refine WP.trim [0, 83, 84, 85] [0] ?_
    refine Zp ?_
    refine Zi ?_
    refine Ze ?_
    refine WP.seq ?_
    refine WP.ite rfl (fun hlt => ?_) (fun hge => ?_)
    · refine Zb ?_
      obtain ⟨b, gb⟩ : ∃ b, F.blocks[(k : Int).toNat]? = some b := ⟨_, List.getElem?_eq_getElem (by omega)⟩
      have gb' : F.blocks[k]? = some b := gb
      have hbm := List.mem_of_getElem? gb
      have hs2 := sumB_le F (k + 1)
      rw [sumB_step gb'] at hs2
      obtain ⟨hT, hTt⟩ := h.trm b hbm
      obtain ⟨_, ⟨bu0, bt0, rfl, hbu, hbt⟩, hrow⟩ := hb.at gb
      obtain ⟨bu, rfl, _, _⟩ := SlR.sv hbu
      obtain ⟨bt, rfl, _, _⟩ := SlR.sv hbt
      refine WP.seq ?_
      refine WP.block ?_
      refine Zp ?_
      refine Zm ?_
      refine Zx sl_49 hb ?_
      refine Run.loadRagg rfl rfl ag_58 rfl rfl hrow (by rfl) ?_
      refine Run.alloc rfl zr_58 rfl rfl rfl ?_
      intro b10
      refine Zm ?_
      refine Run.storeB 1 rfl rfl rfl rfl ag_58 rfl rfl rfl rfl rfl ?_
      refine Ze ?_
      refine WP.trim [0, 9, 10, 83, 84, 85] [0, 1] ?_
      refine WP.seq ?_
      refine WP.openX 0 ?_
      rintro ⟨iv, sv, jv⟩ _
      refine WP.drawn0 cf0 mixed rfl (by kernel_rfl) ?_
      refine Zm ?_
      refine Zn ?_
      refine Zf fo_85_4 ?_
      refine Zl 0 ag_83 ?_
      refine Zm ?_
      refine Zm ?_
      refine Zn ?_
      refine Zf fo_85_1 ?_
      refine Zl 0 ag_3 ?_
      refine Zm ?_
      refine Zn ?_
      refine Zf fo_85_2 ?_
      refine Zl 0 ag_29 ?_
      refine Run.lenO 1 rfl rfl sl_29 rfl rfl rfl ?_; refine Run.eqv (v' := vI ((rawC S F k).length : Int)) (by rw [List.length_map]) ?_
      refine Za ?_
      refine Run.mapUpdate 3 rfl rfl rfl rfl mt_83 ui_3 rfl rfl ?_
      refine Ze ?_
      rw [plF_step]
      refine WP.via (Γ' := [mkP bm ⟨F, pu.val, pv.val, first, bp⟩ S ((rawC S F k).map Prod.fst) (plF S F first (k + 1)) (jmpI 0 (rawC S F k)), blk b10 (abv b bu.val bt.val) 58]) (mkP_shut ⟨iv, sv, jv⟩ [blk b10 (abv b bu.val bt.val) 58]) ?_
      refine WP.trim [0, 9, 10, 83, 84, 85] [0, 1] ?_
      refine WP.meetC (α := Unit) (fun _ => (bodN S b b.body.length).length ≤ 100 * b.body.length) (fun _ => []) (fun _ => [(0, mkP bm ⟨F, pu.val, pv.val, first, bp⟩ S ((rawC S F k).map Prod.fst ++ bodN S b b.body.length) (plF S F first (k + 1)) (jmpI 0 (rawC S F k)))]) ?_ ?_
      · refine Zp ?_
        refine Zf fo_58_0 ?_
        refine Zl 1 ag_54 ?_
        refine Zh sl_54 hbu ?_
        refine Zm ?_
        refine Ze ?_
        refine WP.block ?_
        refine WP.trim [0, 9, 10, 83, 84, 85, 106, 107, 108] [0, 1] ?_
        refine WP.loopC (α := Nat) (fun j => j ≤ b.body.length ∧ (bodN S b j).length ≤ 100 * j) (fun j => [(108, vI (j : Int))]) (fun j => [(0, mkP bm ⟨F, pu.val, pv.val, first, bp⟩ S ((rawC S F k).map Prod.fst ++ bodN S b j) (plF S F first (k + 1)) (jmpI 0 (rawC S F k)))]) (fun j => b.body.length - j) 0 ⟨Nat.zero_le _, by simp [bodN]⟩ ?_ (he := by show ent _ (chgs [(0, mkP bm ⟨F, pu.val, pv.val, first, bp⟩ S ((rawC S F k).map Prod.fst ++ []) (plF S F first (k + 1)) (jmpI 0 (rawC S F k)))] _); rw [List.append_nil]; exact ent.gc)
        rintro j ⟨hj, hjl⟩
        refine WP.trim [0, 9, 10, 83, 84, 85, 106, 107, 108] [0, 1] ?_
        refine Zp ?_
        refine Zi ?_
        refine Ze ?_
        refine WP.seq ?_
        refine WP.ite rfl (fun hlt2 => ?_) (fun hge2 => ?_)
        · refine Zb ?_
          obtain ⟨x, gx⟩ : ∃ x, b.body[(j : Int).toNat]? = some x := ⟨_, List.getElem?_eq_getElem (by omega)⟩
          have gx' : b.body[j]? = some x := gx
          have hI := h.ins b hbm x (List.mem_of_getElem? gx)
          rw [hSS] at hI
          obtain ⟨_, ⟨xu0, xs0, rfl, hxu, hxv⟩, hxrow⟩ := hbu.at gx
          obtain ⟨xv, rfl, _, _⟩ := SlR.sv hxv
          obtain ⟨xu, rfl, _, _⟩ := SlR.sv hxu
          refine WP.seq ?_
          refine WP.block ?_
          refine Zp ?_
          refine Zx sl_54 hbu ?_
          refine Run.loadRagg rfl rfl ag_53 rfl rfl hxrow (by rfl) ?_
          refine Run.alloc rfl zr_53 rfl rfl rfl ?_
          intro b12
          refine Run.storeB 2 rfl rfl rfl rfl ag_53 rfl rfl rfl rfl rfl ?_
          refine Ze ?_
          refine Zc ?_
          refine Zm ?_
          refine Run.loadBagg 2 rfl rfl ag_53 rfl rfl rfl rfl rfl ?_
          refine Run.callP [0] ok_48 (instruction_ok hR bm ⟨F, pu.val, pv.val, first, bp⟩ S ((rawC S F k).map Prod.fst ++ bodN S b j) (plF S F first (k + 1)) (jmpI 0 (rawC S F k)) F x xu xv ⟨hxu, hxv⟩ h.sl.2 hI (by omega) (by rw [List.length_append, List.length_map]; omega)) ?_; rintro _ _ ⟨rfl, hil⟩
          refine Run.nil ?_
          refine blk_norm ?_; refine thn_next ?_
          refine Zc ?_
          refine Za ?_
          refine Zm ?_
          refine Run.nil ?_
          refine thn_next ⟨j + 1, ⟨by omega, by rw [bodN_step gx', List.length_append]; omega⟩, by omega, Ko.go, ?_⟩
          rw [bodN_step gx', ← List.append_assoc]; exact ent.go
        · refine Zj ?_
          have e : j = b.body.length := by omega
          subst e
          refine thn_next ⟨(), hjl, Ko.go, ent.gc⟩
      intro _ hbl
      refine WP.trim [0, 9, 10, 83, 84, 85] [0, 1] ?_
      have hisl : ((rawC S F k).map Prod.fst ++ bodN S b b.body.length).length = (rawC S F k).length + (bodN S b b.body.length).length := by rw [List.length_append, List.length_map]
      have hjl2 := jmpI_len (rawC S F k) 0
      refine Zc ?_
      refine Zm ?_
      refine Zm ?_
      refine Zf fo_58_1 ?_
      refine Run.loadBagg 1 rfl rfl ag_56 rfl rfl rfl rfl rfl ?_
      refine Run.callP [0] ok_49 (term_ok hR bm ⟨F, pu.val, pv.val, first, bp⟩ S ((rawC S F k).map Prod.fst ++ bodN S b b.body.length) (plF S F first (k + 1)) (jmpI 0 (rawC S F k)) k b.term bt hbt hT (by omega) (by omega) (by omega) (by omega)) ?_; rintro _ _ ⟨rfl, htl⟩
      refine Run.nil ?_
      refine blk_norm ?_; refine thn_next ?_
      refine Zc ?_
      refine Za ?_
      refine Zm ?_
      refine Run.nil ?_
      have e1 : (rawC S F (k + 1)).map Prod.fst = (rawC S F k).map Prod.fst ++ bodN S b b.body.length ++ (termC S k b.term).map Prod.fst := by
        rw [raw_step gb', blk_eq, List.map_append, List.map_append, fst_none, List.append_assoc]
      have e2 : jmpI 0 (rawC S F (k + 1)) = jmpI 0 (rawC S F k) ++ jmpI ((rawC S F k).map Prod.fst ++ bodN S b b.body.length).length (termC S k b.term) := by
        rw [raw_step gb', blk_eq, jmpI_app, jmpI_app, jmpI_none, List.nil_append, List.length_map, hisl, Nat.zero_add]
      have e3 : (rawC S F (k + 1)).length = (rawC S F k).length + ((bodN S b b.body.length).length + (termC S k b.term).length) := by
        rw [raw_step gb', blk_eq, List.length_append, List.length_append, List.length_map]
      refine thn_next ⟨k + 1, ⟨by omega, by rw [e3, sumB_step gb']; omega⟩, by omega, Ko.go, ?_⟩
      rw [e1, e2]; exact ent.go
    · refine Zj ?_
      have e : k = F.blocks.length := by omega
      subst e
      refine thn_next ⟨(), hrl, Ko.go, ent.gc⟩
  intro _ hrl
  have hcl : (codeC S F first).length = (rawC S F F.blocks.length).length := by rw [codeC_eq, List.length_map]
  have hflag := raw_flag (S := S) h F.blocks.length (Nat.le_refl _)
  rw [codeC_eq] at hcl ⊢
  generalize hraw : rawC S F F.blocks.length = raw at hrl hcl hflag ⊢
  -- the jumps
  have hjl := jmpI_len raw 0
  refine WP.trim [0] [0] ?_
  refine WP.openX 0 ?_
  rintro ⟨iv, sv, jv⟩ _
  refine Zp ?_
  refine Zm ?_
  refine Zn ?_
  refine Zf fo_85_5 ?_
  refine Zl 0 ag_44 ?_
  refine Run.lenO 4 rfl rfl sl_44 rfl rfl rfl ?_
  refine Zm ?_
  refine Ze ?_
  refine WP.block ?_
  refine WP.trim [0, 125, 126, 127] [0, 1, 2, 3, 4] ?_
  refine WP.loopC (α := Nat × List (RI × Bool) × List (RI × Bool)) (fun z => raw = z.2.1 ++ z.2.2 ∧ z.1 ≤ (jmpI 0 raw).length ∧ (jmpI 0 raw).drop z.1 = jmpI z.2.1.length z.2.2) (fun z => [(127, vI (z.1 : Int))]) (fun z => [(1, slA 38 encRI iv.val (z.2.1.map (patC S F first) ++ z.2.2.map Prod.fst))]) (fun z => (jmpI 0 raw).length - z.1) (0, [], raw) ⟨rfl, Nat.zero_le _, rfl⟩ ?_
  rintro ⟨i, A, B⟩ ⟨hAB, hi, hdrop⟩
  simp only at hAB hi hdrop ⊢
  refine WP.trim [0, 125, 126, 127] [0, 1, 2, 3, 4] ?_
  refine Zp ?_
  refine Zi ?_
  refine Ze ?_
  refine WP.seq ?_
  refine WP.ite rfl (fun hlt => ?_) (fun hge => ?_)
  · refine Zb ?_
    obtain ⟨j, gj⟩ : ∃ j, (jmpI 0 raw)[i]? = some j := ⟨_, List.getElem?_eq_getElem (by omega)⟩
    have hd : (jmpI 0 raw).drop i = j :: (jmpI 0 raw).drop (i + 1) := by
      obtain ⟨h1, h2⟩ := List.getElem?_eq_some_iff.1 gj
      rw [List.drop_eq_getElem_cons h1, h2]
    rw [hd] at hdrop
    obtain ⟨C, x, D, rfl, hC, rfl, hrest⟩ := jmp_split hdrop.symm
    have hxr : (x, true) ∈ raw := by rw [hAB]; simp
    obtain ⟨hn0, hn1⟩ := hflag _ hxr rfl
    simp only at hn0 hn1
    have gx : (A.map (patC S F first) ++ (C ++ (x, true) :: D).map Prod.fst)[A.length + C.length]? = some x := by
      rw [List.getElem?_append_right (by simp), List.map_append, List.length_map, Nat.add_sub_cancel_left, List.getElem?_append_right (by simp), List.length_map, Nat.sub_self]; rfl
    have hlt2 := (List.getElem?_eq_some_iff.1 gx).1
    have hpl : (plF S F first F.blocks.length) x.n = some (vI (placeC S F first x.n)) := by unfold plF; rw [if_pos ⟨hn0, hn1⟩]
    refine WP.seq ?_
    refine WP.block ?_
    refine Zp ?_
    refine Run.idxO 4 rfl rfl rfl sl_44 rfl rfl rfl rfl (by omega) (by omega) ?_
    refine Run.loadO 4 i 0 rfl rfl ag_3 rfl rfl rfl rfl gj rfl ?_
    refine Zm ?_
    refine Ze ?_
    refine WP.drawn0 cf0 mixed rfl (by kernel_rfl) ?_
    refine Zm ?_
    refine Zn ?_
    refine Zf fo_85_2 ?_
    refine Zl 0 ag_29 ?_
    refine Zm ?_
    refine Zm ?_
    refine Zn ?_
    refine Zf fo_85_4 ?_
    refine Zl 0 ag_83 ?_
    refine Zm ?_
    refine Zn ?_
    refine Zf fo_85_2 ?_
    refine Zl 0 ag_29 ?_
    refine Zm ?_
    refine Run.idxO 1 rfl rfl rfl sl_29 rfl rfl rfl rfl (by omega) (by omega) ?_
    refine Zf fo_38_4 ?_
    refine Run.loadO 1 (A.length + C.length) 4 rfl rfl ag_3 rfl rfl rfl rfl gx rfl ?_
    refine Run.lookup 3 rfl rfl rfl mt_83 ui_3 zr_3 rfl rfl rfl ?_; refine Run.eqv (v' := vI (placeC S F first x.n)) (by rw [hpl]; rfl) ?_
    refine Run.idxO 1 rfl rfl rfl sl_29 rfl rfl rfl rfl (by omega) (by omega) ?_
    refine Zf fo_38_4 ?_
    refine Run.storeO 1 (A.length + C.length) 4 rfl rfl rfl rfl ag_3 rfl rfl rfl rfl gx (y' := { x with n := placeC S F first x.n }) rfl rfl ?_
    refine Run.nil ?_
    refine blk_norm ?_; refine thn_next ?_
    refine Zc ?_
    refine Za ?_
    refine Zm ?_
    refine Run.nil ?_
    have e : (A.map (patC S F first) ++ (C ++ (x, true) :: D).map Prod.fst).set (A.length + C.length) { x with n := placeC S F first x.n } = (A ++ (C ++ [(x, true)])).map (patC S F first) ++ D.map Prod.fst := by
      rw [List.set_append_right _ _ (by simp), List.length_map, Nat.add_sub_cancel_left, List.map_append, List.set_append_right _ _ (by simp), List.length_map, Nat.sub_self]
      rw [List.map_append, List.map_append, pat_none hC]
      simp [patC]
    refine thn_next ⟨(i + 1, A ++ (C ++ [(x, true)]), D), ⟨by rw [hAB]; simp, by omega, ?_⟩, by omega, Ko.go, by simp only [← e]; exact ent.gc⟩
    simp only
    rw [hrest]; congr 1
    simp only [List.length_append, List.length_singleton]; omega
  · refine Zj ?_
    have hnil : jmpI A.length B = [] := by rw [← hdrop]; exact List.drop_eq_nil_of_le (by omega)
    have e : A.map (patC S F first) ++ B.map Prod.fst = raw.map (patC S F first) := by
      rw [hAB, List.map_append, pat_none (jmp_nil hnil)]
    rw [e]
    refine retN [] [] rfl rfl ⟨[mkP bm ⟨F, pu.val, pv.val, first, bp⟩ S (raw.map (patC S F first)) (plF S F first F.blocks.length) (jmpI 0 raw)], mkP_shut (bm := bm) (M := ⟨F, pu.val, pv.val, first, bp⟩) (S := S) (is := raw.map (patC S F first)) (pl := plF S F first F.blocks.length) (js := jmpI 0 raw) ⟨iv, sv, jv⟩ [], ⟨_, _, rfl⟩, ?_⟩
    rw [List.length_map]; omega
end Go.Proofs.YtfaokbjpinlcaaaGreat
end
