/- The maker of code: what it holds; put, word, home, load, store, move, moves; walked. -/
import Derived.Test.YtfaokbjpinlcaaaGA4
import Derived.Test.YtfaokbjpinlcaaaGA7
section
/- The maker of code: what it holds; put, word, home, load, store, move, moves; walked. -/
namespace Go.Proofs.Ytfaokbjpinlcaaa
open Go.Sep
set_option linter.unusedSimpArgs false
set_option linter.unusedVariables false
set_option maxRecDepth 100000
attribute [local irreducible] blk slA mp mpF rows rowsBut many mpK mpE
/-- what stays of a maker -/
structure MF where
  F : AF
  pu : Value
  pv : Value
  first : Int
  bp : Nat
structure MZ where
  iv : SV
  sv : SV
  jv : SV
abbrev mkC (bm : Nat) (M : MF) (S : List Int) (is : List RI) (pl : Int → Option Value) (js : List Int) (z : MZ) : List HProp :=
  [blk bm [.string M.F.name, M.pu, vI M.F.result, vI M.F.slots, M.pv, vI M.first, z.iv.val, z.sv.val, .map (some M.bp), z.jv.val] 63, slA 56 encRI z.iv.val is, slA 3 encI z.sv.val S, mpF M.bp pl, slA 3 encI z.jv.val js]
def mkP (bm : Nat) (M : MF) (S : List Int) (is : List RI) (pl : Int → Option Value) (js : List Int) : HProp := exP (fun _ : MZ => True) (mkC bm M S is pl js)
theorem mkP_shut {bm : Nat} {M : MF} {S : List Int} {is : List RI} {pl : Int → Option Value} {js : List Int} (z : MZ) (Γ : List HProp) : ent (mkC bm M S is pl js z ++ Γ) (mkP bm M S is pl js :: Γ) :=
  exP_shut (g := fun _ : MZ => True) (Θ := mkC bm M S is pl js) z trivial Γ
section
variable (hR : Heap) (bm : Nat) (M : MF) (S : List Int) (is : List RI) (pl : Int → Option Value) (js : List Int)
theorem put_ok (lv : SV) (l : List RI) (hl : SlR encRI.rd hR lv.val l) (hb : is.length + l.length ≤ 2000000000) : Tri Try.prog hR 44 #[ptrV bm, lv.val] [mkP bm M S is pl js] fun _ Γ' => Γ' = [mkP bm M S (is ++ l) pl js] := by
  refine Tri.openX 0 ?_
  rintro ⟨iv, sv, jv⟩ _
  refine Tri.ent (Tri.of (args := [ptrV bm, lv.val]) Try.func44 rfl Try.ntmps44 (by simp) ?_)
  refine Zc ?_
  refine Zm ?_
  refine Zm ?_
  refine Zn ?_
  refine Zf fo_63_2 ?_
  refine Zl 0 ag_29 ?_
  refine Zm ?_
  refine Run.append 1 rfl rfl rfl rfl rfl rfl sl_29 zr_56 rfl (src_ro hl) (by first | omega | (simp <;> omega)) (by first | omega | (simp <;> omega)) ?_
  intro sv10 hv10
  refine Zn ?_
  refine Zf fo_63_2 ?_
  refine Run.storeB 0 rfl rfl rfl rfl ag_29 rfl rfl rfl rfl rfl ?_
  refine Run.nil ?_
  exact retN [] [] rfl rfl ⟨_, mkP_shut ⟨sv10, sv, jv⟩ [], rfl⟩
theorem word_ok (s : Int) (hs : -1000000 ≤ s ∧ s ≤ 1000000) (hS : S.length ≤ 1000000) : Tri Try.prog hR 14 #[ptrV bm, vI s] [mkP bm M S is pl js] fun v Γ' => v = vI (slotW S s) ∧ Γ' = [mkP bm M S is pl js] := by
  refine Tri.openX 0 ?_
  rintro ⟨iv, sv, jv⟩ _
  refine Tri.ent (Tri.of (args := [ptrV bm, vI s]) Try.func14 rfl Try.ntmps14 (by simp) ?_)
  refine Zp ?_
  refine Zm ?_
  refine Ze ?_
  refine Zp ?_
  refine Zm ?_
  refine Zn ?_
  refine Zf fo_63_3 ?_
  refine Zl 0 ag_45 ?_
  refine Run.lenO 2 rfl rfl sl_45 rfl rfl rfl ?_
  refine Za ?_
  refine Zm ?_
  refine Za ?_
  refine Zm ?_
  refine Ze ?_
  refine WP.ret ?_
  exact retT [4] _ rfl rfl ⟨_, mkP_shut ⟨iv, sv, jv⟩ [], rfl, rfl⟩
theorem index_ok (sv : SV) (r : Int) (hl : SlR rdI hR sv.val S) (hr : r ∈ S) (hS : S.length ≤ 1000000) : Tri Try.prog hR 85 #[sv.val, vI r] [] fun v Γ' => v = vI (S.idxOf r : Int) ∧ Γ' = [] := by
  refine Tri.ent (Tri.of (args := [sv.val, vI r]) Try.func85 rfl Try.ntmps85 (by simp) ?_)
  refine Zp ?_
  refine Zm ?_
  refine Ze ?_
  refine WP.trim [0, 1, 4] [] ?_
  refine WP.meetC (α := Unit) (fun _ => False) (fun _ => []) (fun _ => []) ?_ (fun _ h => h.elim)
  refine Zp ?_
  refine Zm ?_
  refine Run.lenR rfl rfl sl_45 rfl rfl (by assumption) ?_
  refine Zm ?_
  refine Ze ?_
  refine WP.block ?_
  refine WP.trim [0, 1, 4, 7, 8] [] ?_
  refine WP.loopC (α := Nat) (fun i => i ≤ S.idxOf r) (fun i => [(8, vI (i : Int))]) (fun _ => []) (fun i => S.length - i) 0 (Nat.zero_le _) ?_
  intro i hi
  have hlt0 : S.idxOf r < S.length := List.idxOf_lt_length_iff.2 hr
  refine WP.trim [0, 1, 4, 7, 8] [] ?_
  refine Zp ?_
  refine Zi ?_
  refine Ze ?_
  refine WP.seq ?_
  refine WP.ite rfl (fun hlt => ?_) (fun hge => by exfalso; omega)
  refine Zb ?_
  obtain ⟨y, gy⟩ : ∃ y, S[(i : Int).toNat]? = some y := ⟨_, List.getElem?_eq_getElem (by omega)⟩
  have gy' : S[i]? = some y := gy
  have hle : i < S.length := by omega
  have ey : S[i] = y := (List.getElem?_eq_some_iff.1 gy').2
  refine WP.seq ?_
  refine WP.block ?_
  refine Zp ?_
  refine Zm ?_
  refine Zm ?_
  refine Ze ?_
  refine Zp ?_
  iterate 3 refine Zm ?_
  refine Zx sl_45 hl ?_
  refine Zr ag_3 (SlR.cell0 hl gy rfl) ?_
  refine Zi ?_
  refine Ze ?_
  refine WP.ite rfl (fun hy => ?_) (fun hy => ?_)
  · refine Zp ?_
    refine Zm ?_
    refine Zm ?_
    refine Ze ?_
    refine WP.ret ?_; refine blk_ret ?_; refine thn_ret ?_; refine thn_ret ?_; refine blk_ret ?_; refine thn_ret ?_
    refine retT [4] _ rfl rfl ⟨_, ent.none _, ?_, rfl⟩
    have : S.idxOf r = i := by
      rcases Nat.lt_or_ge i (S.idxOf r) with h | h
      · have h2 := List.not_of_lt_findIdx (p := fun z => z == r) (xs := S) h
        rw [ey, hy] at h2; simp at h2
      · omega
    rw [this]; rfl
  · refine WP.skip ?_; refine blk_norm ?_; refine thn_next ?_
    refine Zc ?_
    refine Za ?_
    refine Zm ?_
    refine Run.nil ?_
    refine thn_next ⟨i + 1, ?_, by omega, Ko.go, ent.gc⟩
    rcases Nat.lt_or_ge i (S.idxOf r) with h | h
    · exact h
    · exfalso
      obtain rfl : i = S.idxOf r := by omega
      apply hy
      rw [← ey]; exact (List.getElem_idxOf hlt0).symm
theorem home_ok (r : Int) (hr : r ∈ S) (hS : S.length ≤ 1000000) : Tri Try.prog hR 71 #[ptrV bm, vI r] [mkP bm M S is pl js] fun v Γ' => v = vI (homeW S r) ∧ Γ' = [mkP bm M S is pl js] := by
  refine Tri.openX 0 ?_
  rintro ⟨iv, sv, jv⟩ _
  have hlt0 : S.idxOf r < S.length := List.idxOf_lt_length_iff.2 hr
  refine Tri.ent (Tri.of (args := [ptrV bm, vI r]) Try.func71 rfl Try.ntmps71 (by simp) ?_)
  refine Zp ?_
  refine Zm ?_
  refine Ze ?_
  refine Zp ?_
  refine Zm ?_
  refine Zn ?_
  refine Zf fo_63_3 ?_
  refine Zl 0 ag_45 ?_
  refine Zm ?_
  refine Run.callL [] [2] ok_85 (fun g hg hd => index_ok (un hR g) S sv r (lent_at 0 rfl hg hd) hr hS) ?_; rintro _ _ ⟨rfl, rfl⟩
  refine Za ?_
  refine Zm ?_
  refine Ze ?_
  refine WP.ret ?_
  exact retT [4] _ rfl rfl ⟨_, ent.trans (Δ := mkC bm M S is pl js ⟨iv, sv, jv⟩) ent.go (mkP_shut ⟨iv, sv, jv⟩ []), rfl, rfl⟩
/-- places near enough to be reckoned with -/
def near (l : Lc) : Prop := -1000000 ≤ l.n ∧ l.n ≤ 1000000
theorem load_ok (r : Int) (l : Lc) (hn : near l) (hS : S.length ≤ 1000000) (hb : is.length ≤ 1999999999) : Tri Try.prog hR 48 #[ptrV bm, vI r, encL l] [mkP bm M S is pl js] fun _ Γ' => Γ' = [mkP bm M S (is ++ loadC S r l) pl js] := by
  refine Tri.ent (Tri.of (args := [ptrV bm, vI r, .agg ⟨lcv l⟩]) Try.func48 rfl Try.ntmps48 (by simp) ?_)
  refine Zp ?_
  refine Run.box rfl rfl rfl rfl rfl ?_
  intro b5
  refine Ze ?_
  refine WP.block ?_
  refine Zp ?_
  refine Zf fo_44_0 ?_
  refine Zl 1 ag_3 ?_
  refine Zi ?_
  refine Zm ?_
  refine Ze ?_
  refine WP.ite rfl (fun h2 => ?_) (fun h2 => ?_)
  · refine Zc ?_
    iterate 3 refine Zm ?_
    refine Zf fo_44_1 ?_
    refine Zl 1 ag_3 ?_
    refine Run.callP [0] ok_14 (word_ok hR bm M S is pl js l.n hn hS) ?_; rintro _ _ ⟨rfl, rfl⟩
    refine Run.build rfl bd_56 rfl rfl rfl rfl ?_
    refine Run.buildSlice (E := encRI) rfl sl_29 zr_56 ([(⟨24, r, 0, 0, slotW S l.n⟩ : RI)]) rfl rfl rfl (by decide) rfl rfl ?_
    intro b17
    refine Run.callL [0] [2] ok_44 (fun g hg hd => put_ok (un hR g) bm M S is pl js ⟨some ⟨b17, 0, none⟩, 1, 1⟩ [⟨24, r, 0, 0, slotW S l.n⟩] (lent_at 0 rfl hg hd) (by simp; omega)) ?_; rintro _ _ rfl
    refine Run.nil ?_
    refine blk_norm ?_
    exact retN [] [] rfl rfl ⟨[mkP bm M S (is ++ loadC S r l) pl js], by rw [show loadC S r l = [⟨24, r, 0, 0, slotW S l.n⟩] by simp [loadC, h2]]; exact ent.go, rfl⟩
  · refine Zp ?_
    refine Zf fo_44_1 ?_
    refine Zl 1 ag_3 ?_
    refine Zm ?_
    refine Zi ?_
    refine Zm ?_
    refine Ze ?_
    refine WP.ite rfl (fun hne => ?_) (fun he => ?_)
    · refine Zc ?_
      refine Zm ?_
      refine Zm ?_
      refine Zf fo_44_1 ?_
      refine Zl 1 ag_3 ?_
      refine Run.build rfl bd_56 rfl rfl rfl rfl ?_
      refine Run.buildSlice (E := encRI) rfl sl_29 zr_56 ([(⟨2, r, l.n, 0, 0⟩ : RI)]) rfl rfl rfl (by decide) rfl rfl ?_
      intro b29
      refine Run.callL [0] [2] ok_44 (fun g hg hd => put_ok (un hR g) bm M S is pl js ⟨some ⟨b29, 0, none⟩, 1, 1⟩ [⟨2, r, l.n, 0, 0⟩] (lent_at 0 rfl hg hd) (by simp; omega)) ?_; rintro _ _ rfl
      refine Run.nil ?_
      refine blk_norm ?_
      exact retN [] [] rfl rfl ⟨[mkP bm M S (is ++ loadC S r l) pl js], by rw [show loadC S r l = [⟨2, r, l.n, 0, 0⟩] by simp [loadC, h2, hne]]; exact ent.go, rfl⟩
    · refine WP.skip ?_; refine blk_norm ?_
      exact retN [] [] rfl rfl ⟨[mkP bm M S (is ++ loadC S r l) pl js], by rw [show loadC S r l = [] by simp [loadC, h2, Decidable.not_not.1 he], List.append_nil]; exact ent.go, rfl⟩
theorem store_ok (r : Int) (l : Lc) (hn : near l) (hS : S.length ≤ 1000000) (hb : is.length ≤ 1999999999) : Tri Try.prog hR 46 #[ptrV bm, encL l, vI r] [mkP bm M S is pl js] fun _ Γ' => Γ' = [mkP bm M S (is ++ storeC S l r) pl js] := by
  refine Tri.ent (Tri.of (args := [ptrV bm, .agg ⟨lcv l⟩, vI r]) Try.func46 rfl Try.ntmps46 (by simp) ?_)
  refine Zp ?_
  refine Run.box rfl rfl rfl rfl rfl ?_
  intro b4
  refine Ze ?_
  refine WP.block ?_
  refine Zp ?_
  refine Zf fo_44_0 ?_
  refine Zl 1 ag_3 ?_
  refine Zi ?_
  refine Zm ?_
  refine Ze ?_
  refine WP.ite rfl (fun h2 => ?_) (fun h2 => ?_)
  · refine Zc ?_
    iterate 3 refine Zm ?_
    refine Zf fo_44_1 ?_
    refine Zl 1 ag_3 ?_
    refine Run.callP [0] ok_14 (word_ok hR bm M S is pl js l.n hn hS) ?_; rintro _ _ ⟨rfl, rfl⟩
    refine Run.build rfl bd_56 rfl rfl rfl rfl ?_
    refine Run.buildSlice (E := encRI) rfl sl_29 zr_56 ([(⟨25, r, 0, 0, slotW S l.n⟩ : RI)]) rfl rfl rfl (by decide) rfl rfl ?_
    intro b17
    refine Run.callL [0] [2] ok_44 (fun g hg hd => put_ok (un hR g) bm M S is pl js ⟨some ⟨b17, 0, none⟩, 1, 1⟩ [⟨25, r, 0, 0, slotW S l.n⟩] (lent_at 0 rfl hg hd) (by simp; omega)) ?_; rintro _ _ rfl
    refine Run.nil ?_
    refine blk_norm ?_
    exact retN [] [] rfl rfl ⟨[mkP bm M S (is ++ storeC S l r) pl js], by rw [show storeC S l r = [⟨25, r, 0, 0, slotW S l.n⟩] by simp [storeC, h2]]; exact ent.go, rfl⟩
  · refine Zp ?_
    refine Zf fo_44_1 ?_
    refine Zl 1 ag_3 ?_
    refine Zm ?_
    refine Zi ?_
    refine Zm ?_
    refine Ze ?_
    refine WP.ite rfl (fun hne => ?_) (fun he => ?_)
    · refine Zc ?_
      refine Zm ?_
      refine Zf fo_44_1 ?_
      refine Zl 1 ag_3 ?_
      refine Zm ?_
      refine Run.build rfl bd_56 rfl rfl rfl rfl ?_
      refine Run.buildSlice (E := encRI) rfl sl_29 zr_56 ([(⟨2, l.n, r, 0, 0⟩ : RI)]) rfl rfl rfl (by decide) rfl rfl ?_
      intro b29
      refine Run.callL [0] [2] ok_44 (fun g hg hd => put_ok (un hR g) bm M S is pl js ⟨some ⟨b29, 0, none⟩, 1, 1⟩ [⟨2, l.n, r, 0, 0⟩] (lent_at 0 rfl hg hd) (by simp; omega)) ?_; rintro _ _ rfl
      refine Run.nil ?_
      refine blk_norm ?_
      exact retN [] [] rfl rfl ⟨[mkP bm M S (is ++ storeC S l r) pl js], by rw [show storeC S l r = [⟨2, l.n, r, 0, 0⟩] by simp [storeC, h2, hne]]; exact ent.go, rfl⟩
    · refine WP.skip ?_; refine blk_norm ?_
      exact retN [] [] rfl rfl ⟨[mkP bm M S (is ++ storeC S l r) pl js], by rw [show storeC S l r = [] by simp [storeC, h2, Decidable.not_not.1 he], List.append_nil]; exact ent.go, rfl⟩
theorem loadC_len (S : List Int) (r : Int) (l : Lc) : (loadC S r l).length ≤ 1 := by unfold loadC; split <;> (try split) <;> simp
theorem storeC_len (S : List Int) (r : Int) (l : Lc) : (storeC S l r).length ≤ 1 := by unfold storeC; split <;> (try split) <;> simp
theorem moveC_len (S : List Int) (a b : Lc) : (moveC S a b).length ≤ 2 := by
  have h1 := loadC_len S a.n b; have h2 := storeC_len S b.n a; have h3 := loadC_len S 8 b; have h4 := storeC_len S 8 a
  unfold moveC
  split
  · simp
  · split
    · omega
    · split
      · omega
      · rw [List.length_append]; omega
theorem lc_eqd (a b : Lc) : (decide (a.kind = b.kind) && (decide (a.n = b.n) && true)) = decide (a = b) := by
  obtain ⟨a1, a2⟩ := a; obtain ⟨b1, b2⟩ := b
  by_cases h1 : a1 = b1 <;> by_cases h2 : a2 = b2 <;> simp [h1, h2]
theorem move_ok (to fr : Lc) (hn : near to) (hn2 : near fr) (hS : S.length ≤ 1000000) (hb : is.length ≤ 1999999000) : Tri Try.prog hR 41 #[ptrV bm, encL to, encL fr] [mkP bm M S is pl js] fun _ Γ' => Γ' = [mkP bm M S (is ++ moveC S to fr) pl js] := by
  refine Tri.ent (Tri.of (args := [ptrV bm, .agg ⟨lcv to⟩, .agg ⟨lcv fr⟩]) Try.func41 rfl Try.ntmps41 (by simp) ?_)
  refine Zp ?_
  refine Run.box rfl rfl rfl rfl rfl ?_
  intro b4
  refine Run.box rfl rfl rfl rfl rfl ?_
  intro b5
  refine Ze ?_
  refine WP.block ?_
  refine Zp ?_
  refine Run.loadBagg 1 rfl rfl ag_44 rfl rfl rfl rfl rfl ?_
  refine Run.loadBagg 2 rfl rfl ag_44 rfl rfl rfl rfl rfl ?_
  refine Run.eqS rfl rfl rfl is_44 nf_44 rfl rfl rfl rfl ?_
  refine Run.eqv (v' := .bool (decide (to = fr))) (by rw [← lc_eqd]) ?_
  refine Zm ?_
  refine Ze ?_
  refine WP.ite rfl (fun he => ?_) (fun hne => ?_)
  · refine WP.skip ?_; refine blk_norm ?_
    exact retN [] [] rfl rfl ⟨[mkP bm M S (is ++ moveC S to fr) pl js], by rw [show moveC S to fr = [] by simp [moveC, he], List.append_nil]; exact ent.go, rfl⟩
  · refine Zp ?_
    refine Zf fo_44_0 ?_
    refine Zl 1 ag_3 ?_
    refine Zi ?_
    refine Zm ?_
    refine Ze ?_
    refine WP.ite rfl (fun h1 => ?_) (fun h1 => ?_)
    · refine Zc ?_
      refine Zm ?_
      refine Zf fo_44_1 ?_
      refine Zl 1 ag_3 ?_
      refine Run.loadBagg 2 rfl rfl ag_44 rfl rfl rfl rfl rfl ?_
      refine Run.callP [0] ok_48 (load_ok hR bm M S is pl js to.n fr hn2 hS (by omega)) ?_; rintro _ _ rfl
      refine Run.nil ?_
      refine blk_norm ?_
      exact retN [] [] rfl rfl ⟨[mkP bm M S (is ++ moveC S to fr) pl js], by rw [show moveC S to fr = loadC S to.n fr by simp [moveC, hne, h1]]; exact ent.go, rfl⟩
    · refine Zp ?_
      refine Zf fo_44_0 ?_
      refine Zl 2 ag_3 ?_
      refine Zi ?_
      refine Zm ?_
      refine Ze ?_
      refine WP.ite rfl (fun h3 => ?_) (fun h3 => ?_)
      · refine Zc ?_
        refine Zm ?_
        refine Run.loadBagg 1 rfl rfl ag_44 rfl rfl rfl rfl rfl ?_
        refine Zf fo_44_1 ?_
        refine Zl 2 ag_3 ?_
        refine Run.callP [0] ok_46 (store_ok hR bm M S is pl js fr.n to hn hS (by omega)) ?_; rintro _ _ rfl
        refine Run.nil ?_
        refine blk_norm ?_
        exact retN [] [] rfl rfl ⟨[mkP bm M S (is ++ moveC S to fr) pl js], by rw [show moveC S to fr = storeC S to fr.n by simp [moveC, hne, h1, h3]]; exact ent.go, rfl⟩
      · have hlen := loadC_len S 8 fr
        refine Zp ?_
        refine Zm ?_
        refine Run.loadBagg 2 rfl rfl ag_44 rfl rfl rfl rfl rfl ?_
        refine Run.callP [0] ok_48 (load_ok hR bm M S is pl js 8 fr hn2 hS (by omega)) ?_; rintro _ _ rfl
        refine Ze ?_
        refine Zc ?_
        refine Zm ?_
        refine Run.loadBagg 1 rfl rfl ag_44 rfl rfl rfl rfl rfl ?_
        refine Run.callP [0] ok_46 (store_ok hR bm M S (is ++ loadC S 8 fr) pl js 8 to hn hS (by rw [List.length_append]; omega)) ?_; rintro _ _ rfl
        refine Run.nil ?_
        refine blk_norm ?_
        exact retN [] [] rfl rfl ⟨[mkP bm M S (is ++ moveC S to fr) pl js], by rw [show moveC S to fr = loadC S 8 fr ++ storeC S to 8 by simp [moveC, hne, h1, h3], ← List.append_assoc]; exact ent.go, rfl⟩
theorem moves_len (o : List Mv) : (o.flatMap fun m => moveC S m.to m.from_).length ≤ 2 * o.length := by
  induction o with
  | nil => simp
  | cons x o ih => have := moveC_len S x.to x.from_; simp only [List.flatMap_cons, List.length_append, List.length_cons]; omega
theorem movesC_len {l o : List Mv} (h : Ord (regL 11) (l.filter fun m => decide (m.from_ ≠ m.to)) o) : movesC S l = o.flatMap fun m => moveC S m.to m.from_ := by
  unfold movesC; rw [ordF_eq h]
set_option maxHeartbeats 1000000 in
theorem moves_ok (lv : SV) (l : List Mv) (hl : SlR encMv.rd hR lv.val l) (hlen : l.length ≤ 300000) (hG : GoodL (regL 11) l) (hn : ∀ m ∈ l, near m.to ∧ near m.from_) (hS : S.length ≤ 1000000) (hb : is.length ≤ 1900000000) :
    Tri Try.prog hR 24 #[ptrV bm, lv.val] [mkP bm M S is pl js] fun _ Γ' => Γ' = [mkP bm M S (is ++ movesC S l) pl js] ∧ (movesC S l).length ≤ 4 * l.length := by
  refine Tri.ent (Tri.of (args := [ptrV bm, lv.val]) Try.func24 rfl Try.ntmps24 (by simp) ?_)
  refine Zp ?_
  refine Zm ?_
  refine Run.build rfl bd_44 rfl rfl rfl rfl ?_
  refine Run.callP [] ok_40 (order_ok hR lv l (regL 11) hl hlen hG) ?_; rintro _ _ ⟨ov, o, rfl, rfl, hO, hol⟩
  refine Zm ?_
  refine Run.extract rfl rfl rfl rfl rfl ?_
  refine Run.extract rfl rfl rfl rfl rfl ?_
  refine Zm ?_
  refine Ze ?_
  have hon : ∀ m ∈ o, near m.to ∧ near m.from_ := hO.len near (by simp [near, regL]) fun m hm => hn m (List.mem_filter.1 hm).1
  refine WP.trim [0, 1] [0, 1] ?_
  refine Zp ?_
  refine Zm ?_
  refine Run.lenO 0 rfl rfl sl_80 rfl rfl rfl ?_
  refine Zm ?_
  refine Ze ?_
  refine WP.block ?_
  refine WP.trim [0, 12, 13, 14] [0, 1] ?_
  refine WP.loopC (α := Nat) (fun i => i ≤ o.length) (fun i => [(14, vI (i : Int))]) (fun i => [(1, mkP bm M S (is ++ (o.take i).flatMap fun m => moveC S m.to m.from_) pl js)]) (fun i => o.length - i) 0 (Nat.zero_le _) ?_ (he := by rw [List.take_zero, List.flatMap_nil, List.append_nil]; exact ent.gc)
  intro i hi
  refine WP.trim [0, 12, 13, 14] [0, 1] ?_
  refine Zp ?_
  refine Zi ?_
  refine Ze ?_
  refine WP.seq ?_
  refine WP.ite rfl (fun hlt => ?_) (fun hge => ?_)
  · refine Zb ?_
    obtain ⟨m, gm⟩ : ∃ m, o[i]? = some m := ⟨_, List.getElem?_eq_getElem (by omega)⟩
    have hm := hon m (List.mem_of_getElem? gm)
    have hlen2 := moves_len S (o.take i)
    rw [List.length_take] at hlen2
    refine WP.seq ?_
    refine WP.block ?_
    refine Zp ?_
    refine Run.idxO 0 rfl rfl rfl sl_80 rfl rfl rfl rfl (by omega) (by omega) ?_
    refine Run.loadOagg 0 i rfl rfl ag_82 rfl rfl rfl rfl rfl gm ?_
    refine Run.alloc rfl zr_82 rfl rfl rfl ?_
    intro b5
    refine Run.storeB 2 rfl rfl rfl rfl ag_82 rfl rfl rfl rfl rfl ?_
    refine Ze ?_
    refine Zc ?_
    refine Zm ?_
    refine Zf fo_82_0 ?_
    refine Run.loadBagg 2 rfl rfl ag_44 rfl rfl rfl rfl rfl ?_
    refine Zf fo_82_1 ?_
    refine Run.loadBagg 2 rfl rfl ag_44 rfl rfl rfl rfl rfl ?_
    refine Run.callP [1] ok_41 (move_ok hR bm M S (is ++ (o.take i).flatMap fun m => moveC S m.to m.from_) pl js m.to m.from_ hm.1 hm.2 hS (by rw [List.length_append]; omega)) ?_; rintro _ _ rfl
    refine Run.nil ?_
    refine blk_norm ?_; refine thn_next ?_
    refine Zc ?_
    refine Za ?_
    refine Zm ?_
    refine Run.nil ?_
    have e : (is ++ (o.take i).flatMap fun m => moveC S m.to m.from_) ++ moveC S m.to m.from_ = is ++ (o.take (i + 1)).flatMap fun m => moveC S m.to m.from_ := by
      rw [List.take_add_one, gm, List.append_assoc]; simp
    refine thn_next ⟨i + 1, by omega, by omega, Ko.go, ?_⟩
    rw [e]; exact ent.go
  · refine Zj ?_
    have e : i = o.length := by omega
    subst e
    have hml := moves_len S o
    refine retN [] [] rfl rfl ⟨[mkP bm M S (is ++ movesC S l) pl js], ?_, rfl, by rw [movesC_len S hO]; omega⟩
    rw [movesC_len S hO, List.take_length]; exact ent.go
end
end Go.Proofs.Ytfaokbjpinlcaaa
end
section
/- Operands are brought into registers; what an operation of R16 is like; one instruction; walked. -/
namespace Go.Proofs.Ytfaokbjpinlcaaa
open Go.Sep
set_option linter.unusedSimpArgs false
set_option linter.unusedVariables false
set_option maxRecDepth 100000
attribute [local irreducible] blk slA mp mpF rows rowsBut many mpK mpE
def ragV (l : List Lc) (i : Nat) : Int := match l[i]? with
  | some x => regOf i x
  | none => 0
theorem argR_rag (x : AI) (i : Nat) : argR x i = ragV x.args i := rfl
theorem ragV_none {l : List Lc} {i : Nat} (h : l.length ≤ i) : ragV l i = 0 := by simp [ragV, List.getElem?_eq_none h]
def arrI (l : List Lc) (i : Nat) : List Int := [if 0 < i then ragV l 0 else 0, if 1 < i then ragV l 1 else 0, if 2 < i then ragV l 2 else 0]
theorem arr_set {l : List Lc} {i : Nat} (h : i < 3) : (arrI l i).set i (ragV l i) = arrI l (i + 1) := by
  match i, h with
  | 0, _ => rfl
  | 1, _ => rfl
  | 2, _ => rfl
theorem arr_all {l : List Lc} (h : l.length ≤ 3) : arrI l l.length = [ragV l 0, ragV l 1, ragV l 2] := by
  have e : ∀ i, (if i < l.length then ragV l i else 0) = ragV l i := fun i => by
    split
    · rfl
    · rw [ragV_none (by omega)]
  simp only [arrI, e]
theorem reads_snoc2 (S : List Int) (x : Lc) : ∀ (l : List Lc) (i : Nat), readsC S i (l ++ [x]) = readsC S i l ++ (if x.kind = 2 then loadC S (8 + ((i + l.length : Nat) : Int)) x else [])
  | [], i => by simp [readsC]
  | y :: l, i => by
    simp only [List.cons_append, readsC, reads_snoc2 S x l (i + 1), List.length_cons, List.append_assoc]
    rw [show i + 1 + l.length = i + (l.length + 1) by omega]
theorem readsC_len (S : List Int) : ∀ (l : List Lc) (i : Nat), (readsC S i l).length ≤ l.length
  | [], i => by simp [readsC]
  | y :: l, i => by
    have := readsC_len S l (i + 1)
    have := loadC_len S (8 + (i : Int)) y
    simp only [readsC, List.length_append, List.length_cons]
    split <;> simp <;> omega
section
variable (hR : Heap) (bm : Nat) (M : MF) (S : List Int) (is : List RI) (pl : Int → Option Value) (js : List Int)
set_option maxHeartbeats 1000000 in
theorem reads_ok (av : SV) (l : List Lc) (hl : SlR rdLc hR av.val l) (hlen : l.length ≤ 3) (hn : ∀ x ∈ l, near x) (hS : S.length ≤ 1000000) (hb : is.length ≤ 1999000000) :
    Tri Try.prog hR 43 #[ptrV bm, av.val] [mkP bm M S is pl js] fun v Γ' => v = .agg ⟨ints [ragV l 0, ragV l 1, ragV l 2]⟩ ∧ Γ' = [mkP bm M S (is ++ readsC S 0 l) pl js] := by
  refine Tri.ent (Tri.of (args := [ptrV bm, av.val]) Try.func43 rfl Try.ntmps43 (by simp) ?_)
  refine Zp ?_
  refine Run.alloc rfl zr_108 rfl rfl rfl ?_
  intro b4
  refine Ze ?_
  refine Zp ?_
  refine Run.alloc rfl zr_108 rfl rfl rfl ?_
  intro b5
  refine Ze ?_
  refine WP.trim [0, 1, 4, 5] [0, 1, 2] ?_
  refine WP.meetC (α := Unit) (fun _ => True) (fun _ => []) (fun _ => [(0, mkP bm M S (is ++ readsC S 0 l) pl js), (2, blk b5 (ints (arrI l l.length)) 108)]) ?_ ?_
  · refine Zp ?_
    refine Zm ?_
    refine Run.lenR rfl rfl sl_38 rfl rfl (by assumption) ?_
    refine Zm ?_
    refine Ze ?_
    refine WP.block ?_
    refine WP.trim [0, 1, 4, 5, 8, 9, 10] [0, 1, 2] ?_
    refine WP.loopC (α := Nat) (fun i => i ≤ l.length) (fun i => [(10, vI (i : Int))]) (fun i => [(0, mkP bm M S (is ++ readsC S 0 (l.take i)) pl js), (2, blk b5 (ints (arrI l i)) 108)]) (fun i => l.length - i) 0 (Nat.zero_le _) ?_ (he := by rw [List.take_zero]; show ent _ (chgs [(0, mkP bm M S (is ++ []) pl js), (2, blk b5 (ints (arrI l 0)) 108)] _); rw [List.append_nil]; exact ent.gc)
    intro i hi
    refine WP.trim [0, 1, 4, 5, 8, 9, 10] [0, 1, 2] ?_
    refine Zp ?_
    refine Zi ?_
    refine Ze ?_
    refine WP.seq ?_
    refine WP.ite rfl (fun hlt => ?_) (fun hge => ?_)
    · refine Zb ?_
      obtain ⟨x, gx⟩ : ∃ x, l[(i : Int).toNat]? = some x := ⟨_, List.getElem?_eq_getElem (by omega)⟩
      have gx' : l[i]? = some x := gx
      have hnx := hn x (List.mem_of_getElem? gx)
      have hi3 : i < 3 := by omega
      have hal : ∀ k, (arrI l k).length = 3 := fun k => rfl
      have hst : l.take (i + 1) = l.take i ++ [x] := by rw [List.take_add_one, gx']; rfl
      have hrl := readsC_len S (l.take i) 0
      rw [List.length_take] at hrl
      have hsn := reads_snoc2 S x (l.take i) 0
      rw [← hst, List.length_take, Nat.min_eq_left (by omega), Nat.zero_add] at hsn
      refine WP.seq ?_
      refine WP.block ?_
      refine Zp ?_
      refine Zm ?_
      refine Zx sl_38 hl ?_
      refine Run.loadRagg rfl rfl ag_44 rfl rfl (SlR.row hl gx) rfl ?_
      refine Run.alloc rfl zr_44 rfl rfl rfl ?_
      intro b7
      refine Zm ?_
      refine Run.storeB 3 rfl rfl rfl rfl ag_44 rfl rfl rfl rfl rfl ?_
      refine Ze ?_
      refine Zp ?_
      refine Zm ?_
      refine Zf fo_44_1 ?_
      refine Zl 3 ag_3 ?_
      refine Run.idxArr rfl rfl rfl ar_108 rfl rfl (by first | omega | (simp <;> omega)) (by first | omega | (simp <;> omega)) ?_
      refine Run.storeArr 2 (i := i) (h := arrI l i) rfl rfl rfl ag_3 rfl rfl rfl (by rw [hal]; omega) ?_
      refine Ze ?_
      refine WP.trim [0, 1, 4, 5, 6, 7, 8, 9, 10] [0, 1, 2, 3] ?_
      refine Zp ?_
      refine Zf fo_44_0 ?_
      refine Zl 3 ag_3 ?_
      refine Zi ?_
      refine Ze ?_
      refine WP.ite rfl (fun h2 => ?_) (fun h2 => ?_)
      · have hv : ragV l i = 8 + (i : Int) := by simp [ragV, gx', regOf, h2]
        refine Zp ?_
        refine Zm ?_
        refine Zm ?_
        refine Za ?_
        refine Run.idxArr rfl rfl rfl ar_108 rfl rfl (by first | omega | (simp <;> omega)) (by first | omega | (simp <;> omega)) ?_
        refine Run.storeArr 2 (i := i) (h := (arrI l i).set i x.n) rfl rfl rfl ag_3 rfl rfl rfl (by rw [List.length_set, hal]; omega) ?_; rw [List.set_set]
        refine Ze ?_
        refine WP.trim [0, 1, 4, 5, 6, 7, 8, 9, 10] [0, 1, 2, 3] ?_
        refine WP.drawn0 cf0 mixed rfl (by kernel_rfl) ?_
        refine Zm ?_
        refine Zm ?_
        refine Run.idxArr rfl rfl rfl ar_108 rfl rfl (by first | omega | (simp <;> omega)) (by first | omega | (simp <;> omega)) ?_
        refine Run.loadArr 2 (i := i) (h := (arrI l i).set i (8 + (i : Int))) rfl rfl ag_3 rfl rfl rfl rfl (by rw [List.getElem?_set_self (by rw [hal]; omega)]) ?_
        refine Run.loadBagg 3 rfl rfl ag_44 rfl rfl rfl rfl rfl ?_
        refine Run.callP [0] ok_48 (load_ok hR bm M S (is ++ readsC S 0 (l.take i)) pl js (8 + (i : Int)) x hnx hS (by rw [List.length_append]; omega)) ?_; rintro _ _ rfl
        refine Run.nil ?_
        refine blk_norm ?_; refine thn_next ?_
        refine Zc ?_
        refine Za ?_
        refine Zm ?_
        refine Run.nil ?_
        rw [if_pos h2] at hsn
        refine thn_next ⟨i + 1, by omega, by omega, Ko.go, ?_⟩
        rw [← arr_set hi3, hv, hsn, ← List.append_assoc]; exact ent.gc
      · have hv : ragV l i = x.n := by simp [ragV, gx', regOf, h2]
        refine WP.skip ?_; refine blk_norm ?_; refine thn_next ?_
        refine Zc ?_
        refine Za ?_
        refine Zm ?_
        refine Run.nil ?_
        rw [if_neg h2, List.append_nil] at hsn
        refine thn_next ⟨i + 1, by omega, by omega, Ko.go, ?_⟩
        rw [← arr_set hi3, hv, hsn]; exact ent.gc
    · refine Zj ?_
      have e : i = l.length := by omega
      subst e
      refine thn_next ⟨(), trivial, Ko.go, ?_⟩
      rw [List.take_length]; exact ent.gc
  intro _ _
  rw [arr_all hlen]
  refine WP.trim [4, 5] [0, 1, 2] ?_
  refine Zp ?_
  refine Run.loadBagg 2 rfl rfl ag_108 rfl rfl rfl rfl rfl ?_
  refine Run.storeB 1 rfl rfl rfl rfl ag_108 rfl rfl rfl rfl rfl ?_
  refine Ze ?_
  refine WP.ret ?_
  exact retC 4 1 ag_108 rfl rfl rfl rfl ⟨[mkP bm M S (is ++ readsC S 0 l) pl js], ent.go, rfl, rfl⟩
end
def likeF (op : Int) : Int := if op ≤ 16 then 3 + op - 2 else if op ≤ 19 then 18 + op - 17 else if op = 20 then 29 else if op = 21 then 30 else if op = 23 then 28 else if op = 24 then 36 else if op = 26 then 37 else if op = 27 then 38 else if op = 28 then 32 else if op = 29 then 33 else 34
set_option maxHeartbeats 1000000 in
theorem like_ok (hR : Heap) (op : Int) (h0 : 0 ≤ op ∧ op ≤ 100) : Tri Try.prog hR 45 #[vI op] [] fun v Γ' => v = vI (likeF op) ∧ Γ' = [] := by
  refine Tri.ent (Tri.of (args := [vI op]) Try.func45 rfl Try.ntmps45 (by simp) ?_)
  refine Zp ?_
  refine Zm ?_
  refine Ze ?_
  refine WP.seq ?_
  refine WP.block ?_
  refine Zp ?_
  refine Zm ?_
  refine Zi ?_
  refine Zm ?_
  refine Ze ?_
  refine WP.ite rfl (fun h => ?_) (fun h => ?_)
  ·
    refine Zp ?_
    refine Zm ?_
    refine Za ?_
    refine Zs ?_
    refine Zm ?_
    refine Ze ?_
    refine WP.ret ?_; refine blk_ret ?_; refine thn_ret ?_
    exact retT [2] _ rfl rfl ⟨_, ent.none _, by simp [likeF, tupV, *] <;> omega, rfl⟩
  refine Zp ?_
  refine Zm ?_
  refine Zi ?_
  refine Zm ?_
  refine Ze ?_
  refine WP.ite rfl (fun h => ?_) (fun h => ?_)
  ·
    refine Zp ?_
    refine Zm ?_
    refine Za ?_
    refine Zs ?_
    refine Zm ?_
    refine Ze ?_
    refine WP.ret ?_; refine blk_ret ?_; refine thn_ret ?_
    exact retT [2] _ rfl rfl ⟨_, ent.none _, by simp [likeF, tupV, *] <;> omega, rfl⟩
  refine WP.skip ?_; refine blk_norm ?_; refine thn_next ?_
  refine WP.seq ?_
  refine Zp ?_
  refine Zm ?_
  refine Ze ?_
  refine WP.block ?_
  refine Zp ?_
  refine Zi ?_
  refine Zm ?_
  refine Ze ?_
  refine WP.ite rfl (fun h => ?_) (fun h => ?_)
  ·
    refine Zp ?_
    refine Zm ?_
    refine Ze ?_
    refine WP.ret ?_; refine blk_ret ?_; refine thn_ret ?_
    exact retT [2] _ rfl rfl ⟨_, ent.none _, by simp [likeF, tupV, *] <;> omega, rfl⟩
  refine Zp ?_
  refine Zi ?_
  refine Zm ?_
  refine Ze ?_
  refine WP.ite rfl (fun h => ?_) (fun h => ?_)
  ·
    refine Zp ?_
    refine Zm ?_
    refine Ze ?_
    refine WP.ret ?_; refine blk_ret ?_; refine thn_ret ?_
    exact retT [2] _ rfl rfl ⟨_, ent.none _, by simp [likeF, tupV, *] <;> omega, rfl⟩
  refine Zp ?_
  refine Zi ?_
  refine Zm ?_
  refine Ze ?_
  refine WP.ite rfl (fun h => ?_) (fun h => ?_)
  ·
    refine Zp ?_
    refine Zm ?_
    refine Ze ?_
    refine WP.ret ?_; refine blk_ret ?_; refine thn_ret ?_
    exact retT [2] _ rfl rfl ⟨_, ent.none _, by simp [likeF, tupV, *] <;> omega, rfl⟩
  refine Zp ?_
  refine Zi ?_
  refine Zm ?_
  refine Ze ?_
  refine WP.ite rfl (fun h => ?_) (fun h => ?_)
  ·
    refine Zp ?_
    refine Zm ?_
    refine Ze ?_
    refine WP.ret ?_; refine blk_ret ?_; refine thn_ret ?_
    exact retT [2] _ rfl rfl ⟨_, ent.none _, by simp [likeF, tupV, *] <;> omega, rfl⟩
  refine Zp ?_
  refine Zi ?_
  refine Zm ?_
  refine Ze ?_
  refine WP.ite rfl (fun h => ?_) (fun h => ?_)
  ·
    refine Zp ?_
    refine Zm ?_
    refine Ze ?_
    refine WP.ret ?_; refine blk_ret ?_; refine thn_ret ?_
    exact retT [2] _ rfl rfl ⟨_, ent.none _, by simp [likeF, tupV, *] <;> omega, rfl⟩
  refine Zp ?_
  refine Zi ?_
  refine Zm ?_
  refine Ze ?_
  refine WP.ite rfl (fun h => ?_) (fun h => ?_)
  ·
    refine Zp ?_
    refine Zm ?_
    refine Ze ?_
    refine WP.ret ?_; refine blk_ret ?_; refine thn_ret ?_
    exact retT [2] _ rfl rfl ⟨_, ent.none _, by simp [likeF, tupV, *] <;> omega, rfl⟩
  refine Zp ?_
  refine Zi ?_
  refine Zm ?_
  refine Ze ?_
  refine WP.ite rfl (fun h => ?_) (fun h => ?_)
  ·
    refine Zp ?_
    refine Zm ?_
    refine Ze ?_
    refine WP.ret ?_; refine blk_ret ?_; refine thn_ret ?_
    exact retT [2] _ rfl rfl ⟨_, ent.none _, by simp [likeF, tupV, *] <;> omega, rfl⟩
  refine Zp ?_
  refine Zi ?_
  refine Zm ?_
  refine Ze ?_
  refine WP.ite rfl (fun h => ?_) (fun h => ?_)
  ·
    refine Zp ?_
    refine Zm ?_
    refine Ze ?_
    refine WP.ret ?_; refine blk_ret ?_; refine thn_ret ?_
    exact retT [2] _ rfl rfl ⟨_, ent.none _, by simp [likeF, tupV, *] <;> omega, rfl⟩
  refine WP.skip ?_; refine blk_norm ?_; refine thn_next ?_
  refine Zp ?_
  refine Zm ?_
  refine Ze ?_
  refine WP.ret ?_
  exact retT [2] _ rfl rfl ⟨_, ent.none _, by simp [likeF, tupV, *] <;> omega, rfl⟩
end Go.Proofs.Ytfaokbjpinlcaaa
end
section
/- A call's code; walked. -/
namespace Go.Proofs.Ytfaokbjpinlcaaa
open Go.Sep
set_option linter.unusedSimpArgs false
set_option linter.unusedVariables false
set_option maxRecDepth 100000
attribute [local irreducible] blk slA mp mpF rows rowsBut many mpK mpE
/-- what is asked of an instruction -/
structure InsOk (F : AF) (S : List Int) (x : AI) : Prop where
  pl : ∀ l ∈ x.args, placeB F l = true
  ds : noneB x.dst = true ∨ placeB F x.dst = true
  sv : ∀ r ∈ x.saves, r ∈ S
  al : x.args.length ≤ 8
  sl : x.saves.length ≤ 8
  nc : x.op ≠ 25 → (x.args.length : Int) = argsN x.op ∧ setsB x.op = !noneB x.dst ∧ ((28 ≤ x.op ∧ x.op ≤ 30) ∨ x.op = 1 ∨ x.imm = 0)
theorem place_near {F : AF} {l : Lc} (hF : F.slots ≤ 262144) (h : placeB F l = true) : near l ∧ isPl l ∧ l ≠ regL 11 ∧ (l.kind = 1 ∨ l.kind = 2) := by
  obtain ⟨k, n⟩ := l
  simp only [placeB, decide_eq_true_eq] at h
  refine ⟨?_, ?_, ?_, ?_⟩
  · unfold near; simp only; omega
  · unfold isPl; simp only; omega
  · intro e; simp only [regL, Lc.mk.injEq] at e; omega
  · simp only; omega
theorem none_near {l : Lc} (h : noneB l = true) : near l ∧ l = ⟨0, 0⟩ := by
  obtain ⟨k, n⟩ := l
  simp only [noneB, decide_eq_true_eq] at h
  obtain ⟨rfl, rfl⟩ := h
  exact ⟨by unfold near; simp, rfl⟩
theorem numb_get (l : List Lc) (f : Nat → Lc → Mv) (i : Nat) : (numbered l f)[i]? = (l[i]?).map (f i) := by simp [numbered]
theorem numb_len (l : List Lc) (f : Nat → Lc → Mv) : (numbered l f).length = l.length := by simp [numbered]
theorem good_call {F : AF} {x : AI} {S : List Int} (hF : F.slots ≤ 262144) (h : InsOk F S x) : GoodL (regL 11) (numbered x.args fun k l => ⟨regL k, l⟩) := by
  have mem : ∀ m ∈ numbered x.args (fun k l => (⟨regL k, l⟩ : Mv)), ∃ (k : Nat) (l : Lc), k < 8 ∧ l ∈ x.args ∧ m = ⟨regL k, l⟩ := fun m hm => by
    obtain ⟨k, hk⟩ := List.getElem?_of_mem hm
    rw [numb_get] at hk
    cases hl : x.args[k]? with
    | none => rw [hl] at hk; cases hk
    | some l =>
      rw [hl] at hk; simp only [Option.map_some, Option.some.injEq] at hk
      have := (List.getElem?_eq_some_iff.1 hl).1
      have := h.al
      exact ⟨k, l, by omega, List.mem_of_getElem? hl, hk.symm⟩
  refine ⟨by unfold isPl regL; simp, fun m hm => ?_, fun m hm => ?_, ?_⟩
  · obtain ⟨k, l, hk, _, rfl⟩ := mem m hm
    exact ⟨by unfold isPl regL; simp, by simp [regL]; omega⟩
  · obtain ⟨k, l, hk, hl, rfl⟩ := mem m hm
    have := place_near hF (h.pl l hl)
    exact ⟨this.2.1, this.2.2.1⟩
  · rw [List.nodup_iff_pairwise_ne, List.pairwise_iff_getElem]
    intro i j hi hj hij e
    simp [numbered, regL] at e
    omega
theorem near_call {F : AF} {x : AI} {S : List Int} (hF : F.slots ≤ 262144) (h : InsOk F S x) : ∀ m ∈ numbered x.args (fun k l => (⟨regL k, l⟩ : Mv)), near m.to ∧ near m.from_ := fun m hm => by
  obtain ⟨k, hk⟩ := List.getElem?_of_mem hm
  rw [numb_get] at hk
  cases hl : x.args[k]? with
  | none => rw [hl] at hk; cases hk
  | some l =>
    rw [hl] at hk; simp only [Option.map_some, Option.some.injEq] at hk
    have h1 := (List.getElem?_eq_some_iff.1 hl).1
    have h2 := h.al
    subst hk
    exact ⟨by unfold near regL; simp only; omega, (place_near hF (h.pl l (List.mem_of_getElem? hl))).1⟩
theorem ne_zero (l : Lc) : (!(decide (l.kind = 0) && (decide (l.n = 0) && true))) = decide (noneB l = false) := by
  unfold noneB
  by_cases h1 : l.kind = 0 <;> by_cases h2 : l.n = 0 <;> simp [h1, h2]
def savC (op : Int) (S : List Int) (l : List Int) : List RI := l.map fun r => ⟨op, r, 0, 0, homeW S r⟩
theorem savC_len (op : Int) (S l : List Int) : (savC op S l).length = l.length := by simp [savC]
theorem savC_step {op : Int} {S l : List Int} {i : Nat} {r : Int} (h : l[i]? = some r) : savC op S (l.take (i + 1)) = savC op S (l.take i) ++ [⟨op, r, 0, 0, homeW S r⟩] := by
  rw [List.take_add_one, h]; simp [savC]
theorem callC_eq (S : List Int) (x : AI) : callC S x = savC 25 S x.saves ++ movesC S (numbered x.args fun k l => ⟨regL k, l⟩) ++ [(⟨26, 0, 0, 0, x.imm⟩ : RI)] ++ (if noneB x.dst then [] else [(⟨2, 8, 0, 0, 0⟩ : RI)]) ++ savC 24 S x.saves ++ (if noneB x.dst then [] else storeC S x.dst 8) := rfl
section
variable (hR : Heap) (bm : Nat) (M : MF) (S : List Int) (is : List RI) (pl : Int → Option Value) (js : List Int)
set_option maxHeartbeats 2000000 in
theorem call_ok (F : AF) (x : AI) (u v : SV) (hx : AIv hR x u.val v.val) (hF : F.slots ≤ 262144) (h : InsOk F S x) (hS : S.length ≤ 1000000) (hb : is.length ≤ 1800000000) :
    Tri Try.prog hR 42 #[ptrV bm, .agg ⟨aiv x u.val v.val⟩] [mkP bm M S is pl js] fun _ Γ' => Γ' = [mkP bm M S (is ++ callC S x) pl js] ∧ (callC S x).length ≤ 100 := by
  have hu := hx.hu
  have hv := hx.hv
  have hsl := h.sl
  have hal := h.al
  have hdn : near x.dst := h.ds.elim (fun h => (none_near h).1) fun h => (place_near hF h).1
  rw [callC_eq]
  refine Tri.ent (Tri.of (args := [ptrV bm, .agg ⟨aiv x u.val v.val⟩]) Try.func42 rfl Try.ntmps42 (by simp) ?_)
  refine Zp ?_
  refine Run.box rfl rfl rfl rfl rfl ?_
  intro b3
  refine Ze ?_
  refine WP.trim [0, 3] [0, 1] ?_
  refine WP.meetC (α := Unit) (fun _ => True) (fun _ => []) (fun _ => [(0, mkP bm M S (is ++ savC 25 S x.saves) pl js)]) ?_ ?_
  · refine Zp ?_
    refine Zf fo_51_4 ?_
    refine Zl 1 ag_45 ?_
    refine Zh sl_45 hv ?_
    refine Zm ?_
    refine Ze ?_
    refine WP.block ?_
    refine WP.trim [0, 3, 13, 14, 15] [0, 1] ?_
    refine WP.loopC (α := Nat) (fun i => i ≤ x.saves.length) (fun i => [(15, vI (i : Int))]) (fun i => [(0, mkP bm M S (is ++ savC 25 S (x.saves.take i)) pl js)]) (fun i => x.saves.length - i) 0 (Nat.zero_le _) ?_ (he := by rw [List.take_zero]; show ent _ (chgs [(0, mkP bm M S (is ++ []) pl js)] _); rw [List.append_nil]; exact ent.gc)
    intro i hi
    refine WP.trim [0, 3, 13, 14, 15] [0, 1] ?_
    refine Zp ?_
    refine Zi ?_
    refine Ze ?_
    refine WP.seq ?_
    refine WP.ite rfl (fun hlt => ?_) (fun hge => ?_)
    · refine Zb ?_
      obtain ⟨r, gr⟩ : ∃ x', x.saves[(i : Int).toNat]? = some x' := ⟨_, List.getElem?_eq_getElem (by omega)⟩
      have gr' : x.saves[i]? = some r := gr
      have hrS := h.sv r (List.mem_of_getElem? gr)
      have hln : (is ++ savC 25 S (x.saves.take i)).length ≤ 1900000000 := by rw [List.length_append, savC_len, List.length_take]; omega
      refine WP.seq ?_
      refine WP.block ?_
      refine Zp ?_
      refine Zx sl_45 hv ?_
      refine Zr ag_3 (SlR.cell0 hv gr rfl) ?_
      refine Zm ?_
      refine Ze ?_
      refine Zc ?_
      iterate 4 refine Zm ?_
      refine Run.callP [0] ok_71 (home_ok hR bm M S (is ++ savC 25 S (x.saves.take i)) pl js r hrS hS) ?_; rintro _ _ ⟨rfl, rfl⟩
      refine Run.build rfl bd_56 rfl rfl rfl rfl ?_
      refine Run.buildSlice (E := encRI) rfl sl_29 zr_56 ([(⟨25, r, 0, 0, homeW S r⟩ : RI)]) rfl rfl rfl (by decide) rfl rfl ?_
      intro b25
      refine Run.callL [0] [2] ok_44 (fun g hg hd => put_ok (un hR g) bm M S (is ++ savC 25 S (x.saves.take i)) pl js ⟨some ⟨b25, 0, none⟩, 1, 1⟩ [⟨25, r, 0, 0, homeW S r⟩] (lent_at 0 rfl hg hd) (by simp only [List.length_singleton]; omega)) ?_; rintro _ _ rfl
      refine Run.nil ?_
      refine blk_norm ?_; refine thn_next ?_
      refine Zc ?_
      refine Za ?_
      refine Zm ?_
      refine Run.nil ?_
      refine thn_next ⟨i + 1, by omega, by omega, Ko.go, ?_⟩
      rw [savC_step gr', ← List.append_assoc]; exact ent.go
    · refine Zj ?_
      have e : i = x.saves.length := by omega
      subst e
      refine thn_next ⟨(), trivial, Ko.go, ?_⟩
      rw [List.take_length]; exact ent.gc
  intro _ _
  have hl1 : (is ++ savC 25 S x.saves).length ≤ 1800000008 := by rw [List.length_append, savC_len]; omega
  generalize hi1 : is ++ savC 25 S x.saves = is1 at hl1 ⊢
  refine Zp ?_
  refine Zm ?_
  refine Ze ?_
  refine WP.trim [0, 3, 6] [0, 1] ?_
  refine WP.via (Γ' := [mkP bm M S is1 pl js, blk b3 (aiv x u.val v.val) 51, slA 82 encMv nilS.val []]) ((slA_nil 82 encMv _).trans ent.go) ?_
  refine WP.meetC (α := SV) (fun _ => True) (fun sv => [(6, sv.val)]) (fun sv => [(2, slA 82 encMv sv.val (numbered x.args fun k l => ⟨regL k, l⟩))]) ?_ ?_
  · refine Zp ?_
    refine Zf fo_51_3 ?_
    refine Zl 1 ag_38 ?_
    refine Zh sl_38 hu ?_
    refine Zm ?_
    refine Ze ?_
    refine WP.block ?_
    refine WP.trim [0, 3, 6, 29, 30, 31] [0, 1, 2] ?_
    refine WP.loopC (α := Nat × SV) (fun z => z.1 ≤ x.args.length) (fun z => [(31, vI (z.1 : Int)), (6, z.2.val)]) (fun z => [(2, slA 82 encMv z.2.val ((numbered x.args fun k l => ⟨regL k, l⟩).take z.1))]) (fun z => x.args.length - z.1) (0, nilS) (Nat.zero_le _) ?_
    rintro ⟨i, lv⟩ hi
    simp only at hi ⊢
    refine WP.trim [0, 3, 6, 29, 30, 31] [0, 1, 2] ?_
    refine Zp ?_
    refine Zi ?_
    refine Ze ?_
    refine WP.seq ?_
    refine WP.ite rfl (fun hlt => ?_) (fun hge => ?_)
    · refine Zb ?_
      obtain ⟨l, gl⟩ : ∃ x', x.args[(i : Int).toNat]? = some x' := ⟨_, List.getElem?_eq_getElem (by omega)⟩
      have gl' : x.args[i]? = some l := gl
      have hst : (numbered x.args fun k l => (⟨regL k, l⟩ : Mv)).take (i + 1) = (numbered x.args fun k l => (⟨regL k, l⟩ : Mv)).take i ++ [⟨regL i, l⟩] := by rw [List.take_add_one, numb_get, gl']; rfl
      refine WP.seq ?_
      refine WP.block ?_
      refine Zp ?_
      refine Zm ?_
      refine Zx sl_38 hu ?_
      refine Run.loadRagg rfl rfl ag_44 rfl rfl (SlR.row hu gl) rfl ?_
      refine Run.alloc rfl zr_44 rfl rfl rfl ?_
      intro b8
      refine Zm ?_
      refine Run.storeB 3 rfl rfl rfl rfl ag_44 rfl rfl rfl rfl rfl ?_
      refine Ze ?_
      refine WP.trim [0, 3, 6, 7, 8, 29, 30, 31] [0, 1, 2, 3] ?_
      refine Zc ?_
      refine Zm ?_
      refine Zm ?_
      refine Run.build rfl bd_44 rfl rfl rfl rfl ?_
      refine Run.loadBagg 3 rfl rfl ag_44 rfl rfl rfl rfl rfl ?_
      refine Run.build rfl bd_82 rfl rfl rfl rfl ?_
      refine Run.buildSlice (E := encMv) rfl sl_80 zr_82 ([(⟨regL i, l⟩ : Mv)]) rfl rfl rfl (by decide) rfl rfl ?_
      intro b41
      refine Run.append (E := encMv) (xs := (numbered x.args fun k l => ⟨regL k, l⟩).take i) (ys := [(⟨regL i, l⟩ : Mv)]) 2 rfl rfl rfl rfl rfl rfl sl_80 zr_82 rfl (src_own 4 rfl) (by rw [List.length_take, numb_len]; simp only [List.length_singleton]; omega) (by rw [List.length_take, numb_len]; simp only [List.length_singleton]; omega) ?_
      intro sv42 hv42
      refine Zm ?_
      refine Run.nil ?_
      refine blk_norm ?_; refine thn_next ?_
      refine Zc ?_
      refine Za ?_
      refine Zm ?_
      refine Run.nil ?_
      refine thn_next ⟨(i + 1, sv42), by simp only; omega, by simp only; omega, Ko.go, by simp only [hst]; exact ent.gc⟩
    · refine Zj ?_
      have e : i = x.args.length := by omega
      subst e
      refine thn_next ⟨lv, trivial, Ko.go, ?_⟩
      rw [List.take_of_length_le (by rw [numb_len]; exact Nat.le_refl _)]; exact ent.gc
  intro lv _
  refine WP.trim [0, 3, 6] [0, 1, 2] ?_
  refine Zp ?_
  refine Zm ?_
  refine Zm ?_
  refine Run.callL [0] [2] ok_24 (fun g hg hd => moves_ok (un hR g) bm M S is1 pl js lv _ (lent_at 0 rfl hg hd) (by rw [numb_len]; omega) (good_call hF h) (near_call hF h) hS (by omega)) ?_; rintro _ _ ⟨rfl, hml⟩
  refine Ze ?_
  rw [numb_len] at hml
  generalize hmv : movesC S (numbered x.args fun k l => ⟨regL k, l⟩) = mv at hml ⊢
  refine WP.trim [0, 3] [0, 2] ?_
  have hl2 : (is1 ++ mv).length ≤ 1800000048 := by rw [List.length_append]; omega
  refine Zp ?_
  refine Zm ?_
  refine Zf fo_51_1 ?_
  refine Zl 1 ag_3 ?_
  refine Run.build rfl bd_56 rfl rfl rfl rfl ?_
  refine Run.buildSlice (E := encRI) rfl sl_29 zr_56 ([(⟨26, 0, 0, 0, x.imm⟩ : RI)]) rfl rfl rfl (by decide) rfl rfl ?_
  intro b51
  refine Run.callL [0] [2] ok_44 (fun g hg hd => put_ok (un hR g) bm M S (is1 ++ mv) pl js ⟨some ⟨b51, 0, none⟩, 1, 1⟩ [(⟨26, 0, 0, 0, x.imm⟩ : RI)] (lent_at 0 rfl hg hd) (by simp only [List.length_singleton]; omega)) ?_; rintro _ _ rfl
  refine Ze ?_
  refine WP.trim [0, 3] [0, 2] ?_
  refine Zp ?_
  refine Zf fo_51_2 ?_
  refine Run.loadBagg 1 rfl rfl ag_44 rfl rfl rfl rfl rfl ?_
  refine Run.build rfl bd_44 rfl rfl rfl rfl ?_
  refine Run.neS rfl rfl rfl is_44 nf_44 rfl rfl rfl rfl ?_
  refine Run.eqv (v' := .bool (decide (noneB x.dst = false))) (by rw [← ne_zero]) ?_
  refine Zm ?_
  refine Ze ?_
  refine WP.trim [0, 3, 9] [0, 1] ?_
  refine WP.meetC (α := Unit) (fun _ => True) (fun _ => []) (fun _ => [(0, mkP bm M S (is1 ++ mv ++ [(⟨26, 0, 0, 0, x.imm⟩ : RI)] ++ (if noneB x.dst then [] else [(⟨2, 8, 0, 0, 0⟩ : RI)])) pl js)]) ?_ ?_
  · refine Zp ?_
    refine Zm ?_
    refine Ze ?_
    refine WP.ite rfl (fun hw => ?_) (fun hw => ?_)
    · refine Zc ?_
      refine Zm ?_
      refine Run.build rfl bd_56 rfl rfl rfl rfl ?_
      refine Run.buildSlice (E := encRI) rfl sl_29 zr_56 ([(⟨2, 8, 0, 0, 0⟩ : RI)]) rfl rfl rfl (by decide) rfl rfl ?_
      intro b60
      refine Run.callL [0] [2] ok_44 (fun g hg hd => put_ok (un hR g) bm M S (is1 ++ mv ++ [(⟨26, 0, 0, 0, x.imm⟩ : RI)]) pl js ⟨some ⟨b60, 0, none⟩, 1, 1⟩ [(⟨2, 8, 0, 0, 0⟩ : RI)] (lent_at 0 rfl hg hd) (by simp only [List.length_append, List.length_singleton] at hl2 ⊢; omega)) ?_; rintro _ _ rfl
      refine Run.nil ?_
      refine thn_next ⟨(), trivial, Ko.go, ?_⟩
      rw [if_neg (by simp [hw])]; exact ent.go
    · refine WP.skip ?_
      refine thn_next ⟨(), trivial, Ko.go, ?_⟩
      rw [if_pos (by simpa using hw), List.append_nil]; exact ent.go
  intro _ _
  have hl3 : (is1 ++ mv ++ [(⟨26, 0, 0, 0, x.imm⟩ : RI)] ++ (if noneB x.dst then [] else [(⟨2, 8, 0, 0, 0⟩ : RI)])).length ≤ 1800000050 := by
    have : (if noneB x.dst then [] else [(⟨2, 8, 0, 0, 0⟩ : RI)]).length ≤ 1 := by split <;> simp
    rw [List.length_append, List.length_append, List.length_singleton]; omega
  generalize hi3 : is1 ++ mv ++ [(⟨26, 0, 0, 0, x.imm⟩ : RI)] ++ (if noneB x.dst then [] else [(⟨2, 8, 0, 0, 0⟩ : RI)]) = is3 at hl3 ⊢
  refine WP.trim [0, 3, 9] [0, 1] ?_
  refine WP.meetC (α := Unit) (fun _ => True) (fun _ => []) (fun _ => [(0, mkP bm M S (is3 ++ savC 24 S x.saves) pl js)]) ?_ ?_
  · refine Zp ?_
    refine Zf fo_51_4 ?_
    refine Zl 1 ag_45 ?_
    refine Zh sl_45 hv ?_
    refine Zm ?_
    refine Ze ?_
    refine WP.block ?_
    refine WP.trim [0, 3, 9, 63, 64, 65] [0, 1] ?_
    refine WP.loopC (α := Nat) (fun i => i ≤ x.saves.length) (fun i => [(65, vI (i : Int))]) (fun i => [(0, mkP bm M S (is3 ++ savC 24 S (x.saves.take i)) pl js)]) (fun i => x.saves.length - i) 0 (Nat.zero_le _) ?_ (he := by rw [List.take_zero]; show ent _ (chgs [(0, mkP bm M S (is3 ++ []) pl js)] _); rw [List.append_nil]; exact ent.gc)
    intro i hi
    refine WP.trim [0, 3, 9, 63, 64, 65] [0, 1] ?_
    refine Zp ?_
    refine Zi ?_
    refine Ze ?_
    refine WP.seq ?_
    refine WP.ite rfl (fun hlt => ?_) (fun hge => ?_)
    · refine Zb ?_
      obtain ⟨r, gr⟩ : ∃ x', x.saves[(i : Int).toNat]? = some x' := ⟨_, List.getElem?_eq_getElem (by omega)⟩
      have gr' : x.saves[i]? = some r := gr
      have hrS := h.sv r (List.mem_of_getElem? gr)
      have hln : (is3 ++ savC 24 S (x.saves.take i)).length ≤ 1900000000 := by rw [List.length_append, savC_len, List.length_take]; omega
      refine WP.seq ?_
      refine WP.block ?_
      refine Zp ?_
      refine Zx sl_45 hv ?_
      refine Zr ag_3 (SlR.cell0 hv gr rfl) ?_
      refine Zm ?_
      refine Ze ?_
      refine Zc ?_
      iterate 4 refine Zm ?_
      refine Run.callP [0] ok_71 (home_ok hR bm M S (is3 ++ savC 24 S (x.saves.take i)) pl js r hrS hS) ?_; rintro _ _ ⟨rfl, rfl⟩
      refine Run.build rfl bd_56 rfl rfl rfl rfl ?_
      refine Run.buildSlice (E := encRI) rfl sl_29 zr_56 ([(⟨24, r, 0, 0, homeW S r⟩ : RI)]) rfl rfl rfl (by decide) rfl rfl ?_
      intro b75
      refine Run.callL [0] [2] ok_44 (fun g hg hd => put_ok (un hR g) bm M S (is3 ++ savC 24 S (x.saves.take i)) pl js ⟨some ⟨b75, 0, none⟩, 1, 1⟩ [⟨24, r, 0, 0, homeW S r⟩] (lent_at 0 rfl hg hd) (by simp only [List.length_singleton]; omega)) ?_; rintro _ _ rfl
      refine Run.nil ?_
      refine blk_norm ?_; refine thn_next ?_
      refine Zc ?_
      refine Za ?_
      refine Zm ?_
      refine Run.nil ?_
      refine thn_next ⟨i + 1, by omega, by omega, Ko.go, ?_⟩
      rw [savC_step gr', ← List.append_assoc]; exact ent.go
    · refine Zj ?_
      have e : i = x.saves.length := by omega
      subst e
      refine thn_next ⟨(), trivial, Ko.go, ?_⟩
      rw [List.take_length]; exact ent.gc
  intro _ _
  have hl4 : (is3 ++ savC 24 S x.saves).length ≤ 1800000058 := by rw [List.length_append, savC_len]; omega
  have hst := storeC_len S 8 x.dst
  have hlen : (savC 25 S x.saves ++ mv ++ [(⟨26, 0, 0, 0, x.imm⟩ : RI)] ++ (if noneB x.dst then [] else [(⟨2, 8, 0, 0, 0⟩ : RI)]) ++ savC 24 S x.saves ++ (if noneB x.dst then [] else storeC S x.dst 8)).length ≤ 100 := by
    have h1 : (if noneB x.dst then [] else [(⟨2, 8, 0, 0, 0⟩ : RI)]).length ≤ 1 := by split <;> simp
    have h2 : (if noneB x.dst then [] else storeC S x.dst 8).length ≤ 1 := by split <;> first | (simp; done) | omega
    simp only [List.length_append, savC_len, List.length_singleton]; omega
  have hfin : is ++ (savC 25 S x.saves ++ mv ++ [(⟨26, 0, 0, 0, x.imm⟩ : RI)] ++ (if noneB x.dst then [] else [(⟨2, 8, 0, 0, 0⟩ : RI)]) ++ savC 24 S x.saves ++ (if noneB x.dst then [] else storeC S x.dst 8)) = is3 ++ savC 24 S x.saves ++ (if noneB x.dst then [] else storeC S x.dst 8) := by
    rw [← hi3, ← hi1]; simp only [List.append_assoc]
  refine WP.trim [0, 3, 9] [0, 1] ?_
  refine Zp ?_
  refine Zm ?_
  refine Ze ?_
  refine WP.ite rfl (fun hw => ?_) (fun hw => ?_)
  · refine Zc ?_
    refine Zm ?_
    refine Zf fo_51_2 ?_
    refine Run.loadBagg 1 rfl rfl ag_44 rfl rfl rfl rfl rfl ?_
    refine Run.callP [0] ok_46 (store_ok hR bm M S (is3 ++ savC 24 S x.saves) pl js 8 x.dst hdn hS (by omega)) ?_; rintro _ _ rfl
    refine Run.nil ?_
    refine retN [] [] rfl rfl ⟨[mkP bm M S (is3 ++ savC 24 S x.saves ++ (if noneB x.dst then [] else storeC S x.dst 8)) pl js], ?_, by rw [hfin], hlen⟩
    rw [if_neg (by simp [hw])]; exact ent.go
  · refine WP.skip ?_
    refine retN [] [] rfl rfl ⟨[mkP bm M S (is3 ++ savC 24 S x.saves ++ (if noneB x.dst then [] else storeC S x.dst 8)) pl js], ?_, by rw [hfin], hlen⟩
    rw [if_pos (by simpa using hw), List.append_nil]; exact ent.go
end
end Go.Proofs.Ytfaokbjpinlcaaa
end
section
/- An instruction's code; walked. -/
namespace Go.Proofs.Ytfaokbjpinlcaaa
open Go.Sep
set_option linter.unusedSimpArgs false
set_option linter.unusedVariables false
set_option maxRecDepth 100000
attribute [local irreducible] blk slA mp mpF rows rowsBut many mpK mpE
theorem argsN_cases {x : AI} (h : (x.args.length : Int) = argsN x.op) (h25 : x.op ≠ 25) : x.args.length ≤ 3 ∧ 1 ≤ x.op ∧ x.op ≤ 31 ∧ (((x.op = 1 ∨ x.op = 24) ∧ x.args.length = 0) ∨ (((2 ≤ x.op ∧ x.op ≤ 16) ∨ x.op = 21 ∨ x.op = 30) ∧ x.args.length = 2) ∨ (((17 ≤ x.op ∧ x.op ≤ 20) ∨ x.op = 23 ∨ x.op = 31 ∨ (26 ≤ x.op ∧ x.op ≤ 29)) ∧ x.args.length = 1) ∨ (x.op = 22 ∧ x.args.length = 3)) := by
  unfold argsN at h
  split at h
  · omega
  · split at h
    · omega
    · split at h
      · omega
      · split at h
        · omega
        · omega
theorem opC_out {x : AI} (h : (x.args.length : Int) = argsN x.op) (hi : (28 ≤ x.op ∧ x.op ≤ 30) ∨ x.op = 1 ∨ x.imm = 0) (h1 : 26 ≤ x.op ∧ x.op ≤ 30) : opC x = ⟨likeF x.op, ragV x.args 0, ragV x.args 1, 0, x.imm⟩ := by
  have hc := argsN_cases h (by omega)
  have e : x.op = 26 ∨ x.op = 27 ∨ x.op = 28 ∨ x.op = 29 ∨ x.op = 30 := by omega
  have hz : x.op ≠ 30 → ragV x.args 1 = 0 := fun h30 => ragV_none (by omega)
  rcases e with e | e | e | e | e
  · have hz := hz (by omega)
    have hi : x.imm = 0 := by omega
    simp [opC, likeF, e, hz, hi, argR_rag]
  · have hz := hz (by omega)
    have hi : x.imm = 0 := by omega
    simp [opC, likeF, e, hz, hi, argR_rag]
  · have hz := hz (by omega)
    simp [opC, likeF, e, hz, argR_rag]
  · have hz := hz (by omega)
    simp [opC, likeF, e, hz, argR_rag]
  · simp [opC, likeF, e, argR_rag]
theorem opC_rest {x : AI} (h : (x.args.length : Int) = argsN x.op) (h25 : x.op ≠ 25) (h31 : x.op ≠ 31) (h1 : x.op ≠ 1) (h22 : x.op ≠ 22) (h26 : ¬ (26 ≤ x.op ∧ x.op ≤ 30)) : opC x = ⟨likeF x.op, dstR x, ragV x.args 0, ragV x.args 1, 0⟩ := by
  have hc := argsN_cases h h25
  by_cases a : x.op ≤ 16
  · have e : (3 : Int) + x.op - 2 = x.op + 1 := by omega
    simp [opC, likeF, h1, a, e, argR_rag]
  · by_cases b : x.op ≤ 19
    · have e : (18 : Int) + x.op - 17 = x.op + 1 := by omega
      have hz : ragV x.args 1 = 0 := ragV_none (by omega)
      simp [opC, likeF, h1, a, b, e, hz, argR_rag]
    · have e : x.op = 20 ∨ x.op = 21 ∨ x.op = 23 ∨ x.op = 24 := by omega
      rcases e with e | e | e | e
      · have hz : ragV x.args 1 = 0 := ragV_none (by omega)
        simp [opC, likeF, e, hz, argR_rag]
      · simp [opC, likeF, e, argR_rag]
      · have hz : ragV x.args 1 = 0 := ragV_none (by omega)
        simp [opC, likeF, e, hz, argR_rag]
      · have hz : ragV x.args 1 = 0 := ragV_none (by omega)
        have hz0 : ragV x.args 0 = 0 := ragV_none (by omega)
        simp [opC, likeF, e, hz, hz0, argR_rag]
section
variable (hR : Heap) (bm : Nat) (M : MF) (S : List Int) (is : List RI) (pl : Int → Option Value) (js : List Int)
set_option maxHeartbeats 2000000 in
theorem instruction_ok (F : AF) (x : AI) (u v : SV) (hx : AIv hR x u.val v.val) (hF : F.slots ≤ 262144) (h : InsOk F S x) (hS : S.length ≤ 1000000) (hb : is.length ≤ 1800000000) :
    Tri Try.prog hR 25 #[ptrV bm, .agg ⟨aiv x u.val v.val⟩] [mkP bm M S is pl js] fun _ Γ' => Γ' = [mkP bm M S (is ++ insC S x) pl js] ∧ (insC S x).length ≤ 100 := by
  have hu := hx.hu
  have hdn : near x.dst := h.ds.elim (fun h => (none_near h).1) fun h => (place_near hF h).1
  have han : ∀ l ∈ x.args, near l := fun l hl => (place_near hF (h.pl l hl)).1
  refine Tri.ent (Tri.of (args := [ptrV bm, .agg ⟨aiv x u.val v.val⟩]) Try.func25 rfl Try.ntmps25 (by simp) ?_)
  refine Zp ?_
  refine Run.box rfl rfl rfl rfl rfl ?_
  intro b3
  refine Ze ?_
  refine WP.trim [0, 3] [0, 1] ?_
  refine WP.meetC (α := Unit) (fun _ => x.op ≠ 25 ∧ x.op ≠ 31) (fun _ => []) (fun _ => []) ?_ ?_
  · refine Zp ?_
    refine Zf fo_51_0 ?_
    refine Zl 1 ag_3 ?_
    refine Ze ?_
    refine WP.block ?_
    refine Zp ?_
    refine Zi ?_
    refine Zm ?_
    refine Ze ?_
    refine WP.ite rfl (fun h25 => ?_) (fun h25 => ?_)
    · refine Zp ?_
      refine Zm ?_
      refine Run.loadBagg 1 rfl rfl ag_51 rfl rfl rfl rfl rfl ?_
      refine Run.callP [0] ok_42 (call_ok hR bm M S is pl js F x u v hx hF h hS hb) ?_; rintro _ _ ⟨rfl, hcl⟩
      refine Ze ?_
      refine WP.ret ?_; refine blk_ret ?_; refine thn_ret ?_
      have e : insC S x = callC S x := by simp [insC, h25]
      exact retT [] [] rfl rfl ⟨[mkP bm M S (is ++ callC S x) pl js], ent.go, by rw [e], by rw [e]; exact hcl⟩
    refine Zp ?_
    refine Zi ?_
    refine Zm ?_
    refine Ze ?_
    refine WP.ite rfl (fun h31 => ?_) (fun h31 => ?_)
    · obtain ⟨hal, _⟩ := h.nc h25
      have hc := argsN_cases hal h25
      obtain ⟨l, gl⟩ : ∃ l, x.args = [l] := by
        match hx : x.args with
        | [] => rw [hx] at hc; simp at hc; omega
        | [l] => exact ⟨l, rfl⟩
        | a :: b :: c => rw [hx] at hc; simp at hc; omega
      have gl0 : x.args[(0 : Int).toNat]? = some l := by rw [gl]; rfl
      refine WP.seq ?_
      refine WP.drawn0 cf0 mixed rfl (by kernel_rfl) ?_
      refine Zm ?_
      refine Zf fo_51_2 ?_
      refine Run.loadBagg 1 rfl rfl ag_44 rfl rfl rfl rfl rfl ?_
      refine Zf fo_51_3 ?_
      refine Zl 1 ag_38 ?_
      refine Run.idxR rfl rfl rfl sl_38 rfl rfl hu (by rfl) (by omega) (by rw [gl]; simp) ?_
      refine Run.loadRagg rfl rfl ag_44 rfl rfl (SlR.row hu gl0) rfl ?_
      refine Run.callP [0] ok_41 (move_ok hR bm M S is pl js x.dst l hdn (han l (by rw [gl]; simp)) hS (by omega)) ?_; rintro _ _ rfl
      refine Ze ?_
      refine WP.ret ?_; refine blk_ret ?_; refine thn_ret ?_
      have e : insC S x = moveC S x.dst l := by simp [insC, h31, gl]
      have := moveC_len S x.dst l
      exact retT [] [] rfl rfl ⟨[mkP bm M S (is ++ moveC S x.dst l) pl js], ent.go, by rw [e], by rw [e]; omega⟩
    refine WP.skip ?_; refine blk_norm ?_
    refine thn_next ⟨(), ⟨h25, h31⟩, Ko.go, ent.gc⟩
  rintro _ ⟨h25, h31⟩
  obtain ⟨hal, hsets, himm⟩ := h.nc h25
  obtain ⟨h3, hop1, hop2, _⟩ := argsN_cases hal h25
  have eI : insC S x = readsC S 0 x.args ++ [opC x] ++ (if x.dst.kind = 2 then storeC S x.dst 8 else []) := by simp [insC, h25, h31]
  have hrl := readsC_len S x.args 0
  refine Zp ?_
  refine Zm ?_
  refine Zf fo_51_3 ?_
  refine Zl 1 ag_38 ?_
  refine Run.callP [0] ok_43 (reads_ok hR bm M S is pl js u x.args hu h3 han hS (by omega)) ?_; rintro _ _ ⟨rfl, rfl⟩
  refine Run.alloc rfl zr_108 rfl rfl rfl ?_
  intro b4
  refine Run.storeB 2 rfl rfl rfl rfl ag_108 rfl rfl rfl rfl rfl ?_
  refine Ze ?_
  have hl1 : (is ++ readsC S 0 x.args).length ≤ 1800000003 := by rw [List.length_append]; omega
  generalize hi1 : is ++ readsC S 0 x.args = is1 at hl1 ⊢
  refine WP.trim [0, 3, 4] [0, 1, 2] ?_
  refine Zp ?_
  refine Zf fo_51_2 ?_
  refine Zf fo_44_1 ?_
  refine Zl 1 ag_3 ?_
  refine Zm ?_
  refine Ze ?_
  refine WP.trim [0, 3, 4, 5] [0, 1, 2] ?_
  refine WP.meetC (α := Unit) (fun _ => True) (fun _ => [(5, vI (dstR x))]) (fun _ => []) ?_ ?_
  · refine Zp ?_
    refine Zf fo_51_2 ?_
    refine Zf fo_44_0 ?_
    refine Zl 1 ag_3 ?_
    refine Zi ?_
    refine Ze ?_
    refine WP.ite rfl (fun h2 => ?_) (fun h2 => ?_)
    · refine Zc ?_
      refine Zm ?_
      refine Run.nil ?_
      refine thn_next ⟨(), trivial, ?_, ent.gc⟩
      rw [show dstR x = 8 by simp [dstR, h2]]; exact Ko.go
    · refine WP.skip ?_
      refine thn_next ⟨(), trivial, ?_, ent.gc⟩
      rw [show dstR x = x.dst.n by simp [dstR, h2]]; exact Ko.go
  intro _ _
  refine WP.trim [0, 3, 4, 5] [0, 1, 2] ?_
  refine WP.meetC (α := Unit) (fun _ => True) (fun _ => []) (fun _ => [(0, mkP bm M S (is1 ++ [opC x]) pl js)]) ?_ ?_
  · refine Zp ?_
    refine Zf fo_51_0 ?_
    refine Zl 1 ag_3 ?_
    refine Ze ?_
    refine WP.block ?_
    refine WP.trim [0, 3, 4, 5, 35] [0, 1, 2] ?_
    refine Zp ?_
    refine Zi ?_
    refine Zm ?_
    refine Ze ?_
    refine WP.ite rfl (fun h1 => ?_) (fun h1 => ?_)
    · have e : opC x = ⟨1, dstR x, 0, 0, x.imm⟩ := by simp [opC, h1]
      refine Zc ?_
      refine Zm ?_
      refine Zm ?_
      refine Zf fo_51_1 ?_
      refine Zl 1 ag_3 ?_
      refine Run.build rfl bd_56 rfl rfl rfl rfl ?_
      refine Run.buildSlice (E := encRI) rfl sl_29 zr_56 ([(⟨1, dstR x, 0, 0, x.imm⟩ : RI)]) rfl rfl rfl (by decide) rfl rfl ?_
      intro b55
      refine Run.callL [0] [3] ok_44 (fun g hg hd => put_ok (un hR g) bm M S is1 pl js ⟨some ⟨b55, 0, none⟩, 1, 1⟩ [⟨1, dstR x, 0, 0, x.imm⟩] (lent_at 0 rfl hg hd) (by simp only [List.length_singleton]; omega)) ?_; rintro _ _ rfl
      refine Run.nil ?_
      refine blk_norm ?_
      refine thn_next ⟨(), trivial, Ko.go, ?_⟩
      rw [e]; exact ent.go
    refine Zp ?_
    refine Zi ?_
    refine Zm ?_
    refine Ze ?_
    refine WP.ite rfl (fun h22 => ?_) (fun h22 => ?_)
    · have e : opC x = ⟨31, ragV x.args 2, ragV x.args 0, ragV x.args 1, 0⟩ := by simp [opC, h22, argR_rag]
      refine Zc ?_
      refine Zm ?_
      refine Run.idxArr rfl rfl rfl ar_108 rfl rfl (by first | omega | (simp <;> omega)) (by first | omega | (simp <;> omega)) ?_
      refine Zl 2 ag_3 ?_
      refine Run.idxArr rfl rfl rfl ar_108 rfl rfl (by first | omega | (simp <;> omega)) (by first | omega | (simp <;> omega)) ?_
      refine Zl 2 ag_3 ?_
      refine Run.idxArr rfl rfl rfl ar_108 rfl rfl (by first | omega | (simp <;> omega)) (by first | omega | (simp <;> omega)) ?_
      refine Zl 2 ag_3 ?_
      refine Run.build rfl bd_56 rfl rfl rfl rfl ?_
      refine Run.buildSlice (E := encRI) rfl sl_29 zr_56 ([(⟨31, ragV x.args 2, ragV x.args 0, ragV x.args 1, 0⟩ : RI)]) rfl rfl rfl (by decide) rfl rfl ?_
      intro b67
      refine Run.callL [0] [3] ok_44 (fun g hg hd => put_ok (un hR g) bm M S is1 pl js ⟨some ⟨b67, 0, none⟩, 1, 1⟩ [⟨31, ragV x.args 2, ragV x.args 0, ragV x.args 1, 0⟩] (lent_at 0 rfl hg hd) (by simp only [List.length_singleton]; omega)) ?_; rintro _ _ rfl
      refine Run.nil ?_
      refine blk_norm ?_
      refine thn_next ⟨(), trivial, Ko.go, ?_⟩
      rw [e]; exact ent.go
    refine WP.seqCut [(0, ptrV bm), (3, ptrV b3), (4, ptrV b4), (5, vI (dstR x)), (35, vI x.op), (69, .bool (decide (26 ≤ x.op ∧ x.op ≤ 30)))] [mkP bm M S is1 pl js, blk b3 (aiv x u.val v.val) 51, blk b4 (ints [ragV x.args 0, ragV x.args 1, ragV x.args 2]) 108] ?_ ?_
    · refine Zp ?_
      refine Zi ?_
      refine Zm ?_
      refine Ze ?_
      refine WP.ite rfl (fun h26 => ?_) (fun h26 => ?_)
      · refine WP.skip ?_
        refine thn_next ⟨⟨rfl, rfl, rfl, rfl, rfl, ?_, trivial⟩, ent.go⟩
        simp [Env.get, h26]
      refine Zp ?_
      refine Zi ?_
      refine Zm ?_
      refine Ze ?_
      refine WP.ite rfl (fun h27 => ?_) (fun h27 => ?_)
      · refine WP.skip ?_
        refine thn_next ⟨⟨rfl, rfl, rfl, rfl, rfl, ?_, trivial⟩, ent.go⟩
        simp [Env.get, h27]
      refine Zp ?_
      refine Zi ?_
      refine Zm ?_
      refine Ze ?_
      refine WP.ite rfl (fun h28 => ?_) (fun h28 => ?_)
      · refine WP.skip ?_
        refine thn_next ⟨⟨rfl, rfl, rfl, rfl, rfl, ?_, trivial⟩, ent.go⟩
        simp [Env.get, h28]
      refine Zp ?_
      refine Zi ?_
      refine Zm ?_
      refine Ze ?_
      refine WP.ite rfl (fun h29 => ?_) (fun h29 => ?_)
      · refine WP.skip ?_
        refine thn_next ⟨⟨rfl, rfl, rfl, rfl, rfl, ?_, trivial⟩, ent.go⟩
        simp [Env.get, h29]
      refine Zc ?_
      refine Zi ?_
      refine Zm ?_
      refine Run.nil ?_
      refine thn_next ⟨⟨rfl, rfl, rfl, rfl, rfl, ?_, trivial⟩, ent.go⟩
      simp only [Env.get]
      show some (Value.bool (decide (x.op = 30))) = some (Value.bool (decide (26 ≤ x.op ∧ x.op ≤ 30)))
      congr 2
      exact decide_eq_decide.2 ⟨fun _ => by omega, fun _ => by omega⟩
    refine WP.ite rfl (fun h26 => ?_) (fun h26 => ?_)
    · have e := opC_out hal himm h26
      refine WP.via (Γ' := [mkP bm M S is1 pl js] ++ [blk b3 (aiv x u.val v.val) 51, blk b4 (ints [ragV x.args 0, ragV x.args 1, ragV x.args 2]) 108]) (ent.refl _) ?_
      refine WP.drawnF cfF [0, 1, 2, 3, 4, 5, 6, 7, 8, 9, 10, 11] [12] ([blk b3 (aiv x u.val v.val) 51, blk b4 (ints [ragV x.args 0, ragV x.args 1, ragV x.args 2]) 108]) mixed rfl rfl (by kernel_rfl) (fun gF hgF hdF => ?_)
      refine Zm ?_
      refine Zf fo_51_0 ?_
      refine Run.loadF rfl rfl ag_3 rfl rfl (lent_blk (v := vI (x.op)) 0 0 rfl rfl hgF hdF) ?_
      refine Run.callP [] ok_45 (like_ok _ x.op (by omega)) ?_; rintro _ _ ⟨rfl, rfl⟩
      refine Run.idxArr rfl rfl rfl ar_108 rfl rfl (by first | omega | (simp <;> omega)) (by first | omega | (simp <;> omega)) ?_
      refine Run.loadF rfl rfl ag_3 rfl rfl (lent_blk (v := vI (ragV x.args 0)) 1 0 rfl rfl hgF hdF) ?_
      refine Run.idxArr rfl rfl rfl ar_108 rfl rfl (by first | omega | (simp <;> omega)) (by first | omega | (simp <;> omega)) ?_
      refine Run.loadF rfl rfl ag_3 rfl rfl (lent_blk (v := vI (ragV x.args 1)) 1 1 rfl rfl hgF hdF) ?_
      refine Zf fo_51_1 ?_
      refine Run.loadF rfl rfl ag_3 rfl rfl (lent_blk (v := vI (x.imm)) 0 1 rfl rfl hgF hdF) ?_
      refine Run.build rfl bd_56 rfl rfl rfl rfl ?_
      refine Run.buildSlice (E := encRI) rfl sl_29 zr_56 ([(⟨likeF x.op, ragV x.args 0, ragV x.args 1, 0, x.imm⟩ : RI)]) rfl rfl rfl (by decide) rfl rfl ?_
      intro b86
      refine Run.nil ?_
      refine Run.callL [0] [1] ok_44 (fun g hg hd => put_ok (un hR g) bm M S is1 pl js ⟨some ⟨b86, 0, none⟩, 1, 1⟩ [⟨likeF x.op, ragV x.args 0, ragV x.args 1, 0, x.imm⟩] (lent_at 0 rfl hg hd) (by simp only [List.length_singleton]; omega)) ?_; rintro _ _ rfl
      refine Run.nil ?_
      refine blk_norm ?_
      refine thn_next ⟨(), trivial, Ko.go, ?_⟩
      rw [e]; exact ent.go
    · have e := opC_rest hal h25 h31 h1 h22 h26
      refine WP.via (Γ' := [mkP bm M S is1 pl js] ++ [blk b3 (aiv x u.val v.val) 51, blk b4 (ints [ragV x.args 0, ragV x.args 1, ragV x.args 2]) 108]) (ent.refl _) ?_
      refine WP.drawnF cfF [0, 1, 2, 3, 4, 5, 6, 7, 8, 9, 10] [11] ([blk b3 (aiv x u.val v.val) 51, blk b4 (ints [ragV x.args 0, ragV x.args 1, ragV x.args 2]) 108]) mixed rfl rfl (by kernel_rfl) (fun gF hgF hdF => ?_)
      refine Zm ?_
      refine Zf fo_51_0 ?_
      refine Run.loadF rfl rfl ag_3 rfl rfl (lent_blk (v := vI (x.op)) 0 0 rfl rfl hgF hdF) ?_
      refine Run.callP [] ok_45 (like_ok _ x.op (by omega)) ?_; rintro _ _ ⟨rfl, rfl⟩
      refine Zm ?_
      refine Run.idxArr rfl rfl rfl ar_108 rfl rfl (by first | omega | (simp <;> omega)) (by first | omega | (simp <;> omega)) ?_
      refine Run.loadF rfl rfl ag_3 rfl rfl (lent_blk (v := vI (ragV x.args 0)) 1 0 rfl rfl hgF hdF) ?_
      refine Run.idxArr rfl rfl rfl ar_108 rfl rfl (by first | omega | (simp <;> omega)) (by first | omega | (simp <;> omega)) ?_
      refine Run.loadF rfl rfl ag_3 rfl rfl (lent_blk (v := vI (ragV x.args 1)) 1 1 rfl rfl hgF hdF) ?_
      refine Run.build rfl bd_56 rfl rfl rfl rfl ?_
      refine Run.buildSlice (E := encRI) rfl sl_29 zr_56 ([(⟨likeF x.op, dstR x, ragV x.args 0, ragV x.args 1, 0⟩ : RI)]) rfl rfl rfl (by decide) rfl rfl ?_
      intro b46
      refine Run.nil ?_
      refine Run.callL [0] [1] ok_44 (fun g hg hd => put_ok (un hR g) bm M S is1 pl js ⟨some ⟨b46, 0, none⟩, 1, 1⟩ [⟨likeF x.op, dstR x, ragV x.args 0, ragV x.args 1, 0⟩] (lent_at 0 rfl hg hd) (by simp only [List.length_singleton]; omega)) ?_; rintro _ _ rfl
      refine Run.nil ?_
      refine blk_norm ?_
      refine thn_next ⟨(), trivial, Ko.go, ?_⟩
      rw [e]; exact ent.go
  intro _ _
  have hl2 : (is1 ++ [opC x]).length ≤ 1800000004 := by rw [List.length_append, List.length_singleton]; omega
  have hst := storeC_len S 8 x.dst
  have hlen : (insC S x).length ≤ 100 := by
    rw [eI]
    have h2 : (if x.dst.kind = 2 then storeC S x.dst 8 else []).length ≤ 1 := by split <;> first | (simp; done) | omega
    simp only [List.length_append, List.length_singleton]; omega
  have hfin : is ++ insC S x = is1 ++ [opC x] ++ (if x.dst.kind = 2 then storeC S x.dst 8 else []) := by rw [eI, ← hi1]; simp only [List.append_assoc]
  refine WP.trim [0, 3] [0, 1] ?_
  refine Zp ?_
  refine Zf fo_51_2 ?_
  refine Zf fo_44_0 ?_
  refine Zl 1 ag_3 ?_
  refine Zi ?_
  refine Ze ?_
  refine WP.ite rfl (fun h2 => ?_) (fun h2 => ?_)
  · refine Zc ?_
    refine Zm ?_
    refine Zf fo_51_2 ?_
    refine Run.loadBagg 1 rfl rfl ag_44 rfl rfl rfl rfl rfl ?_
    refine Run.callP [0] ok_46 (store_ok hR bm M S (is1 ++ [opC x]) pl js 8 x.dst hdn hS (by omega)) ?_; rintro _ _ rfl
    refine Run.nil ?_
    refine retN [] [] rfl rfl ⟨[mkP bm M S (is1 ++ [opC x] ++ (if x.dst.kind = 2 then storeC S x.dst 8 else [])) pl js], ?_, by rw [hfin], hlen⟩
    rw [if_pos h2]; exact ent.go
  · refine WP.skip ?_
    refine retN [] [] rfl rfl ⟨[mkP bm M S (is1 ++ [opC x] ++ (if x.dst.kind = 2 then storeC S x.dst 8 else [])) pl js], ?_, by rw [hfin], hlen⟩
    rw [if_neg h2, List.append_nil]; exact ent.go
end
end Go.Proofs.Ytfaokbjpinlcaaa
end
section
/- The end of a block; walked. -/
namespace Go.Proofs.Ytfaokbjpinlcaaa
open Go.Sep
set_option linter.unusedSimpArgs false
set_option linter.unusedVariables false
set_option maxRecDepth 100000
attribute [local irreducible] blk slA mp mpF rows rowsBut many mpK mpE
/-- which instructions lead to blocks -/
def jmpI : Nat → List (RI × Bool) → List Int
  | _, [] => []
  | n, q :: l => (if q.2 then [(n : Int)] else []) ++ jmpI (n + 1) l
theorem jmpI_app : ∀ (a b : List (RI × Bool)) (n : Nat), jmpI n (a ++ b) = jmpI n a ++ jmpI (n + a.length) b
  | [], b, n => by simp [jmpI]
  | q :: a, b, n => by
    simp only [List.cons_append, jmpI, jmpI_app a b (n + 1), List.length_cons, List.append_assoc]
    rw [show n + 1 + a.length = n + (a.length + 1) by omega]
theorem jmpI_none (l : List RI) (n : Nat) : jmpI n (l.map (·, false)) = [] := by
  induction l generalizing n with
  | nil => rfl
  | cons x l ih => simp [jmpI, ih]
theorem fst_none (l : List RI) : (l.map fun x => (x, false)).map Prod.fst = l := by
  induction l with
  | nil => rfl
  | cons x l ih => simp only [List.map_cons] at ih ⊢; rw [ih]
/-- what is asked of the end of a block -/
structure TermOk (t : AT) : Prop where
  vn : near t.value
  to : (t.kind = 1 ∧ ∃ b, t.to = [b]) ∨ (t.kind = 2 ∧ ∃ b c, t.to = [b, c]) ∨ t.kind = 3 ∨ t.kind = 4
theorem u_108 : Try.prog.underlying 108 = some (.array 3 3) := by kernel_rfl
section
variable (hR : Heap) (bm : Nat) (M : MF) (S : List Int) (is : List RI) (pl : Int → Option Value) (js : List Int)
theorem jump_ok (op r b : Int) (hb : is.length ≤ 1999999000) (hj : js.length ≤ 1999999000) : Tri Try.prog hR 47 #[ptrV bm, vI op, vI r, vI b] [mkP bm M S is pl js] fun _ Γ' => Γ' = [mkP bm M S (is ++ [⟨op, r, 0, 0, b⟩]) pl (js ++ [(is.length : Int)])] := by
  refine Tri.openX 0 ?_
  rintro ⟨iv, sv, jv⟩ _
  refine Tri.ent (Tri.of (args := [ptrV bm, vI op, vI r, vI b]) Try.func47 rfl Try.ntmps47 (by simp) ?_)
  refine WP.seq ?_
  refine WP.drawn0 cf0 mixed rfl (by kernel_rfl) ?_
  refine Zm ?_
  refine Zm ?_
  refine Zn ?_
  refine Zf fo_63_5 ?_
  refine Zl 0 ag_45 ?_
  refine Zm ?_
  refine Zn ?_
  refine Zf fo_63_2 ?_
  refine Zl 0 ag_29 ?_
  refine Run.lenO 1 rfl rfl sl_29 rfl rfl rfl ?_
  refine Run.buildSlice (E := encI) rfl sl_45 zr_3 ([(is.length : Int)]) rfl rfl rfl (by decide) rfl rfl ?_
  intro b18
  refine Run.append 4 rfl rfl rfl rfl rfl rfl sl_45 zr_3 rfl (src_own 5 rfl) (by first | omega | (simp <;> omega)) (by first | omega | (simp <;> omega)) ?_
  intro sv19 hv19
  refine Zn ?_
  refine Zf fo_63_5 ?_
  refine Run.storeB 0 rfl rfl rfl rfl ag_45 rfl rfl rfl rfl rfl ?_
  refine Ze ?_
  refine WP.via (Γ' := [mkP bm M S is pl (js ++ [(is.length : Int)])]) (ent.trans (Δ := mkC bm M S is pl (js ++ [(is.length : Int)]) ⟨iv, sv, sv19⟩) ent.go (mkP_shut ⟨iv, sv, sv19⟩ [])) ?_
  refine Zc ?_
  iterate 4 refine Zm ?_
  refine Run.build rfl bd_56 rfl rfl rfl rfl ?_
  refine Run.buildSlice (E := encRI) rfl sl_29 zr_56 ([(⟨op, r, 0, 0, b⟩ : RI)]) rfl rfl rfl (by decide) rfl rfl ?_
  intro b27
  refine Run.callL [0] [1] ok_44 (fun g hg hd => put_ok (un hR g) bm M S is pl (js ++ [(is.length : Int)]) ⟨some ⟨b27, 0, none⟩, 1, 1⟩ [⟨op, r, 0, 0, b⟩] (lent_at 0 rfl hg hd) (by simp only [List.length_singleton]; omega)) ?_; rintro _ _ rfl
  refine Run.nil ?_
  exact retN [] [] rfl rfl ⟨_, ent.go, rfl⟩
set_option maxHeartbeats 2000000 in
theorem term_ok (k : Nat) (t : AT) (v : SV) (hv : SlR rdI hR v.val t.to) (h : TermOk t) (hk : k ≤ 1000000) (hS : S.length ≤ 1000000) (hb : is.length ≤ 1800000000) (hj : js.length ≤ 1800000000) :
    Tri Try.prog hR 26 #[ptrV bm, vI (k : Int), .agg ⟨atv t v.val⟩] [mkP bm M S is pl js] fun _ Γ' => Γ' = [mkP bm M S (is ++ (termC S k t).map Prod.fst) pl (js ++ jmpI is.length (termC S k t))] ∧ (termC S k t).length ≤ 5 := by
  have hrl := readsC_len S [t.value] 0
  have hll := loadC_len S 0 t.value
  simp only [List.length_singleton] at hrl
  have hn1 : ∀ x ∈ [t.value], near x := fun x hx => by rw [List.mem_singleton.1 hx]; exact h.vn
  have hrag : ragV [t.value] 0 = regOf 0 t.value := rfl
  refine Tri.ent (Tri.of (args := [ptrV bm, vI (k : Int), .agg ⟨atv t v.val⟩]) Try.func26 rfl Try.ntmps26 (by simp) ?_)
  refine Zp ?_
  refine Run.box rfl rfl rfl rfl rfl ?_
  intro b5
  refine Ze ?_
  refine Zp ?_
  refine Zf fo_47_0 ?_
  refine Zl 1 ag_3 ?_
  refine Ze ?_
  refine WP.block ?_
  refine WP.trim [0, 1, 5, 9] [0, 1] ?_
  refine Zp ?_
  refine Zi ?_
  refine Zm ?_
  refine Ze ?_
  refine WP.ite rfl (fun h1 => ?_) (fun h1 => ?_)
  · obtain ⟨b, hb1⟩ : ∃ b, t.to = [b] := by rcases h.to with h | h | h | h <;> first | exact h.2 | (exfalso; omega)
    have g0 : t.to[(0 : Int).toNat]? = some b := by rw [hb1]; rfl
    refine Zp ?_
    refine Zf fo_47_2 ?_
    refine Zl 1 ag_45 ?_
    refine Run.idxR rfl rfl rfl sl_45 rfl rfl hv (by rfl) (by omega) (by rw [hb1]; simp) ?_
    refine Zr ag_3 (SlR.cell0 hv g0 rfl) ?_
    refine Zm ?_
    refine Za ?_
    refine Zi ?_
    refine Ze ?_
    refine WP.ite rfl (fun hne => ?_) (fun he => ?_)
    · refine Zc ?_
      refine Zm ?_
      refine Zf fo_47_2 ?_
      refine Zl 1 ag_45 ?_
      refine Run.idxR rfl rfl rfl sl_45 rfl rfl hv (by rfl) (by omega) (by rw [hb1]; simp) ?_
      refine Zr ag_3 (SlR.cell0 hv g0 rfl) ?_
      refine Run.callP [0] ok_47 (jump_ok hR bm M S is pl js 21 0 b (by omega) (by omega)) ?_; rintro _ _ rfl
      refine Run.nil ?_
      refine blk_norm ?_
      have e : termC S k t = [(⟨21, 0, 0, 0, b⟩, true)] := by simp [termC, h1, hb1, hne]
      exact retN [] [] rfl rfl ⟨[mkP bm M S (is ++ [⟨21, 0, 0, 0, b⟩]) pl (js ++ [(is.length : Int)])], ent.go, by rw [e]; rfl, by rw [e]; simp⟩
    · refine WP.skip ?_; refine blk_norm ?_
      have e : termC S k t = [] := by simp [termC, h1, hb1, Decidable.not_not.1 he]
      exact retN [] [] rfl rfl ⟨[mkP bm M S is pl js], ent.go, by rw [e]; simp [jmpI], by rw [e]; simp⟩
  refine Zp ?_
  refine Zi ?_
  refine Zm ?_
  refine Ze ?_
  refine WP.ite rfl (fun h2 => ?_) (fun h2 => ?_)
  · obtain ⟨b, c, hb1⟩ : ∃ b c, t.to = [b, c] := by rcases h.to with h | h | h | h <;> first | exact h.2 | (exfalso; omega)
    have g0 : t.to[(0 : Int).toNat]? = some b := by rw [hb1]; rfl
    have g1 : t.to[(1 : Int).toNat]? = some c := by rw [hb1]; rfl
    refine Zp ?_
    refine Zm ?_
    refine Zf fo_47_1 ?_
    refine Run.loadBagg 1 rfl rfl ag_44 rfl rfl rfl rfl rfl ?_
    refine Run.buildSlice (E := encLc) rfl sl_38 zr_44 ([t.value]) rfl rfl rfl (by decide) rfl rfl ?_
    intro b30
    refine Run.callL [0] [2] ok_43 (fun g hg hd => reads_ok (un hR g) bm M S is pl js ⟨some ⟨b30, 0, none⟩, 1, 1⟩ [t.value] (lent_at 0 rfl hg hd) (by simp) hn1 hS (by omega)) ?_; rintro _ _ ⟨rfl, rfl⟩
    refine Run.idxVal rfl rfl rfl u_108 ag_3 rfl rfl (by omega) (by omega) rfl ?_
    refine Zm ?_
    refine Ze ?_
    have hl1 : (is ++ readsC S 0 [t.value]).length = is.length + (readsC S 0 [t.value]).length := List.length_append
    have e2 : ∀ q : List (RI × Bool), termC S k t = (readsC S 0 [t.value]).map (·, false) ++ q → (is ++ (termC S k t).map Prod.fst = is ++ readsC S 0 [t.value] ++ q.map Prod.fst) ∧ jmpI is.length (termC S k t) = jmpI (is ++ readsC S 0 [t.value]).length q := fun q hq => by
      rw [hq, List.map_append, fst_none, jmpI_app, jmpI_none, List.nil_append, List.length_map, ← List.append_assoc, hl1]
      exact ⟨rfl, rfl⟩
    refine WP.trim [0, 1, 5, 6] [0, 2] ?_
    refine WP.seq ?_
    refine Zp ?_
    refine Zf fo_47_2 ?_
    refine Zl 1 ag_45 ?_
    refine Run.idxR rfl rfl rfl sl_45 rfl rfl hv (by rfl) (by omega) (by rw [hb1]; simp) ?_
    refine Zr ag_3 (SlR.cell0 hv g0 rfl) ?_
    refine Zm ?_
    refine Za ?_
    refine Zi ?_
    refine Ze ?_
    refine WP.ite rfl (fun he => ?_) (fun hne => ?_)
    · refine Zp ?_
      refine Zm ?_
      refine Zm ?_
      refine Zf fo_47_2 ?_
      refine Zl 1 ag_45 ?_
      refine Run.idxR rfl rfl rfl sl_45 rfl rfl hv (by rfl) (by omega) (by rw [hb1]; simp) ?_
      refine Zr ag_3 (SlR.cell0 hv g1 rfl) ?_
      refine Run.callP [0] ok_47 (jump_ok hR bm M S (is ++ readsC S 0 [t.value]) pl js 22 (regOf 0 t.value) c (by omega) (by omega)) ?_; rintro _ _ rfl
      refine Ze ?_
      refine WP.ret ?_; refine thn_ret ?_; refine blk_ret ?_
      obtain ⟨q1, q2⟩ := e2 [(⟨22, regOf 0 t.value, 0, 0, c⟩, true)] (by simp [termC, h2, hb1, he])
      exact retT [] [] rfl rfl ⟨[mkP bm M S (is ++ readsC S 0 [t.value] ++ [⟨22, regOf 0 t.value, 0, 0, c⟩]) pl (js ++ [((is ++ readsC S 0 [t.value]).length : Int)])], ent.go, by rw [q1, q2]; rfl, by simp [termC, h2, hb1, he]; omega⟩
    refine Zb ?_
    refine Zp ?_
    refine Zm ?_
    refine Zm ?_
    refine Zf fo_47_2 ?_
    refine Zl 1 ag_45 ?_
    refine Run.idxR rfl rfl rfl sl_45 rfl rfl hv (by rfl) (by omega) (by rw [hb1]; simp) ?_
    refine Zr ag_3 (SlR.cell0 hv g0 rfl) ?_
    refine Run.callP [0] ok_47 (jump_ok hR bm M S (is ++ readsC S 0 [t.value]) pl js 23 (regOf 0 t.value) b (by omega) (by omega)) ?_; rintro _ _ rfl
    refine Ze ?_
    refine WP.trim [0, 1, 5, 6] [0, 1] ?_
    refine Zp ?_
    refine Zf fo_47_2 ?_
    refine Zl 1 ag_45 ?_
    refine Run.idxR rfl rfl rfl sl_45 rfl rfl hv (by rfl) (by omega) (by rw [hb1]; simp) ?_
    refine Zr ag_3 (SlR.cell0 hv g1 rfl) ?_
    refine Zm ?_
    refine Za ?_
    refine Zi ?_
    refine Ze ?_
    refine WP.ite rfl (fun hne2 => ?_) (fun he2 => ?_)
    · refine Zc ?_
      refine Zm ?_
      refine Zf fo_47_2 ?_
      refine Zl 1 ag_45 ?_
      refine Run.idxR rfl rfl rfl sl_45 rfl rfl hv (by rfl) (by omega) (by rw [hb1]; simp) ?_
      refine Zr ag_3 (SlR.cell0 hv g1 rfl) ?_
      refine Run.callP [0] ok_47 (jump_ok hR bm M S (is ++ readsC S 0 [t.value] ++ [(⟨23, regOf 0 t.value, 0, 0, b⟩ : RI)]) pl (js ++ [((is ++ readsC S 0 [t.value]).length : Int)]) 21 0 c (by rw [List.length_append, List.length_singleton]; omega) (by rw [List.length_append, List.length_singleton]; omega)) ?_; rintro _ _ rfl
      refine Run.nil ?_
      refine blk_norm ?_
      obtain ⟨q1, q2⟩ := e2 [(⟨23, regOf 0 t.value, 0, 0, b⟩, true), (⟨21, 0, 0, 0, c⟩, true)] (by simp [termC, h2, hb1, hne, hne2])
      refine retN [] [] rfl rfl ⟨[mkP bm M S (is ++ readsC S 0 [t.value] ++ [(⟨23, regOf 0 t.value, 0, 0, b⟩ : RI)] ++ [⟨21, 0, 0, 0, c⟩]) pl (js ++ [((is ++ readsC S 0 [t.value]).length : Int)] ++ [((is ++ readsC S 0 [t.value] ++ [(⟨23, regOf 0 t.value, 0, 0, b⟩ : RI)]).length : Int)])], ent.go, ?_, by simp [termC, h2, hb1, hne, hne2]; omega⟩
      rw [q1, q2]; simp [jmpI, Int.add_assoc]
    · refine WP.skip ?_; refine blk_norm ?_
      obtain ⟨q1, q2⟩ := e2 [(⟨23, regOf 0 t.value, 0, 0, b⟩, true)] (by simp [termC, h2, hb1, hne, Decidable.not_not.1 he2])
      exact retN [] [] rfl rfl ⟨[mkP bm M S (is ++ readsC S 0 [t.value] ++ [(⟨23, regOf 0 t.value, 0, 0, b⟩ : RI)]) pl (js ++ [((is ++ readsC S 0 [t.value]).length : Int)])], ent.go, by rw [q1, q2]; rfl, by simp [termC, h2, hb1, hne, Decidable.not_not.1 he2]; omega⟩
  refine Zp ?_
  refine Zi ?_
  refine Zm ?_
  refine Ze ?_
  refine WP.ite rfl (fun h3 => ?_) (fun h3 => ?_)
  · refine WP.meetC (α := Unit) (fun _ => True) (fun _ => []) (fun _ => [(0, mkP bm M S (is ++ (if noneB t.value then [] else loadC S 0 t.value)) pl js)]) ?_ ?_
    · refine Zp ?_
      refine Zf fo_47_1 ?_
      refine Run.loadBagg 1 rfl rfl ag_44 rfl rfl rfl rfl rfl ?_
      refine Run.build rfl bd_44 rfl rfl rfl rfl ?_
      refine Run.neS rfl rfl rfl is_44 nf_44 rfl rfl rfl rfl ?_
      refine Run.eqv (v' := .bool (decide (noneB t.value = false))) (by rw [← ne_zero]) ?_
      refine Ze ?_
      refine WP.ite rfl (fun hw => ?_) (fun hw => ?_)
      · refine Zc ?_
        refine Zm ?_
        refine Zf fo_47_1 ?_
        refine Run.loadBagg 1 rfl rfl ag_44 rfl rfl rfl rfl rfl ?_
        refine Run.callP [0] ok_48 (load_ok hR bm M S is pl js 0 t.value h.vn hS (by omega)) ?_; rintro _ _ rfl
        refine Run.nil ?_
        refine thn_next ⟨(), trivial, Ko.go, ?_⟩
        rw [if_neg (by simp [hw])]; exact ent.go
      · refine WP.skip ?_
        refine thn_next ⟨(), trivial, Ko.go, ?_⟩
        rw [if_pos (by simpa using hw), List.append_nil]; exact ent.go
    intro _ _
    have e : termC S k t = ((if noneB t.value then [] else loadC S 0 t.value) ++ [(⟨27, 0, 0, 0, 0⟩ : RI)]).map (·, false) := by simp [termC, h3]
    have hl2 : (if noneB t.value then [] else loadC S 0 t.value).length ≤ 1 := by split <;> first | (simp; done) | omega
    generalize (if noneB t.value then [] else loadC S 0 t.value) = ld at e hl2 ⊢
    refine WP.trim [0] [0] ?_
    refine Zc ?_
    refine Zm ?_
    refine Run.build rfl bd_56 rfl rfl rfl rfl ?_
    refine Run.buildSlice (E := encRI) rfl sl_29 zr_56 ([(⟨27, 0, 0, 0, 0⟩ : RI)]) rfl rfl rfl (by decide) rfl rfl ?_
    intro b79
    refine Run.callL [0] [1] ok_44 (fun g hg hd => put_ok (un hR g) bm M S (is ++ ld) pl js ⟨some ⟨b79, 0, none⟩, 1, 1⟩ [⟨27, 0, 0, 0, 0⟩] (lent_at 0 rfl hg hd) (by rw [List.length_append, List.length_singleton]; omega)) ?_; rintro _ _ rfl
    refine Run.nil ?_
    refine blk_norm ?_
    exact retN [] [] rfl rfl ⟨[mkP bm M S (is ++ ld ++ [⟨27, 0, 0, 0, 0⟩]) pl js], ent.go, by rw [e, jmpI_none, fst_none, List.append_nil, List.append_assoc], by rw [e]; simp; omega⟩
  have h4 : t.kind = 4 := by rcases h.to with h | h | h | h <;> first | exact h | (exfalso; omega)
  refine Zp ?_
  refine Zi ?_
  refine Zm ?_
  refine Ze ?_
  refine WP.ite rfl (fun h4 => ?_) (fun h5 => absurd h4 h5)
  refine Zp ?_
  refine Zm ?_
  refine Zf fo_47_1 ?_
  refine Run.loadBagg 1 rfl rfl ag_44 rfl rfl rfl rfl rfl ?_
  refine Run.buildSlice (E := encLc) rfl sl_38 zr_44 ([t.value]) rfl rfl rfl (by decide) rfl rfl ?_
  intro b86
  refine Run.callL [0] [2] ok_43 (fun g hg hd => reads_ok (un hR g) bm M S is pl js ⟨some ⟨b86, 0, none⟩, 1, 1⟩ [t.value] (lent_at 0 rfl hg hd) (by simp) hn1 hS (by omega)) ?_; rintro _ _ ⟨rfl, rfl⟩
  refine Run.idxVal rfl rfl rfl u_108 ag_3 rfl rfl (by omega) (by omega) rfl ?_
  refine Zm ?_
  refine Ze ?_
  have e : termC S k t = (readsC S 0 [t.value] ++ [(⟨35, regOf 0 t.value, 0, 0, 6⟩ : RI)]).map (·, false) := by simp [termC, h1, h2, h3]
  refine WP.trim [0, 7] [0] ?_
  refine Zc ?_
  refine Zm ?_
  refine Zm ?_
  refine Run.build rfl bd_56 rfl rfl rfl rfl ?_
  refine Run.buildSlice (E := encRI) rfl sl_29 zr_56 ([(⟨35, regOf 0 t.value, 0, 0, 6⟩ : RI)]) rfl rfl rfl (by decide) rfl rfl ?_
  intro b92
  refine Run.callL [0] [1] ok_44 (fun g hg hd => put_ok (un hR g) bm M S (is ++ readsC S 0 [t.value]) pl js ⟨some ⟨b92, 0, none⟩, 1, 1⟩ [⟨35, regOf 0 t.value, 0, 0, 6⟩] (lent_at 0 rfl hg hd) (by rw [List.length_append, List.length_singleton]; omega)) ?_; rintro _ _ rfl
  refine Run.nil ?_
  refine blk_norm ?_
  exact retN [] [] rfl rfl ⟨[mkP bm M S (is ++ readsC S 0 [t.value] ++ [⟨35, regOf 0 t.value, 0, 0, 6⟩]) pl js], ent.go, by rw [e, jmpI_none, fst_none, List.append_nil, List.append_assoc], by rw [e]; simp; omega⟩
end
end Go.Proofs.Ytfaokbjpinlcaaa
end
