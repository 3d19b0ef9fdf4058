/- The document's maker of code: one instruction; walked (its switch was printed by mkremg.py). -/
import Derived.Test.YtfaokbjpinlcaaaGreatGA4
import Derived.Test.YtfaokbjpinlcaaaGreatGB5
import Derived.Test.YtfaokbjpinlcaaaGreatGA8
import Derived.Test.YtfaokbjpinlcaaaGreatGB0
import Derived.Test.YtfaokbjpinlcaaaGreatGB4
section
/- The document's maker of code: one instruction; walked (its switch was printed by mkremg.py). -/
namespace Go.Proofs.YtfaokbjpinlcaaaGreat
open Go.Sep
set_option linter.unusedSimpArgs false
set_option linter.unusedVariables false
set_option maxRecDepth 100000
attribute [local irreducible] blk slA mp mpF rows rowsBut many mpK mpE rkP
section
variable (hR : Heap) (bm : Nat) (S : List Int) (is : List RI) (js : List Int)
set_option maxHeartbeats 4000000 in
theorem one55_ok (F : AF) (x : AI) (u v : SV) (hx : AIv hR x u.val v.val) (hF : F.slots ≤ 262144) (h : InsOk F S x) (hS : SvOk S) (h25 : x.op ≠ 25) (h31 : x.op ≠ 31) (hb : is.length ≤ 1800000000) :
    Tri Tryz.prog hR 55 #[ptrV bm, .agg ⟨aiv x u.val v.val⟩] [rkP bm S is js] fun _ Γ' => Γ' = [rkP bm S (is ++ insC S x) js] := by
  have hu := hx.hu
  have hal := (h.nc h25).1
  have har := argsN_le x.op
  have hdn : near x.dst := h.ds.elim (fun h => (none_near h).1) fun h => (place_near hF h).1
  refine Tri.ent (Tri.of (args := [ptrV bm, .agg ⟨aiv x u.val v.val⟩]) Tryz.func55 rfl Tryz.ntmps55 (by simp) ?_)
  refine Zp ?_
  refine Run.box rfl rfl rfl rfl rfl ?_
  intro b3
  refine Ze ?_
  refine Zp ?_
  refine Run.alloc rfl zr_152 rfl rfl rfl ?_
  intro b4
  refine Ze ?_
  refine WP.trim [0, 3, 4] [0, 1, 2] ?_
  refine WP.meetC (α := Unit) (fun _ => True) (fun _ => []) (fun _ => [(0, rkP bm S (is ++ readsC S 0 x.args) js), (2, blk b4 (ints (arrI x.args x.args.length)) 152)]) ?_ ?_
  · refine Zp ?_
    refine Zm ?_
    refine Ze ?_
    refine WP.block ?_
    refine WP.trim [0, 3, 4, 5] [0, 1, 2] ?_
    refine WP.loopC (α := Nat) (fun i => i ≤ x.args.length) (fun i => [(5, vI (i : Int))]) (fun i => [(0, rkP bm S (is ++ readsC S 0 (x.args.take i)) js), (2, blk b4 (ints (arrI x.args i)) 152)]) (fun i => x.args.length - i) 0 (Nat.zero_le _) ?_ (he := by rw [List.take_zero]; show ent _ (chgs [(0, rkP bm S (is ++ []) js), (2, blk b4 (ints (arrI x.args 0)) 152)] _); rw [List.append_nil]; exact ent.gc)
    intro i hi
    refine WP.trim [0, 3, 4, 5] [0, 1, 2] ?_
    refine WP.seq ?_
    refine Zp ?_
    refine Zm ?_
    refine Zf fo_53_3 ?_
    refine Zl 1 ag_48 ?_
    refine Zh sl_48 hu ?_
    refine Zi ?_
    refine Ze ?_
    refine WP.ite rfl (fun hlt => ?_) (fun hge => ?_)
    · refine Zb ?_
      obtain ⟨l, gl⟩ : ∃ l, x.args[(i : Int).toNat]? = some l := ⟨_, List.getElem?_eq_getElem (by omega)⟩
      have gl' : x.args[i]? = some l := gl
      have hln := (place_near hF (h.pl l (List.mem_of_getElem? gl))).1
      have hrl := readsC_len S (x.args.take i) 0
      rw [List.length_take] at hrl
      have hlen : (is ++ readsC S 0 (x.args.take i)).length ≤ 1900000000 := by rw [List.length_append]; omega
      have ha3 : ∀ k, (arrI x.args k).length = 3 := fun k => rfl
      have er : ragV x.args i = if l.kind = 2 then 8 + (i : Int) else l.n := by unfold ragV; rw [gl']; rfl
      have es : is ++ readsC S 0 (x.args.take i) ++ (if l.kind = 2 then loadC S (8 + (i : Int)) l else []) = is ++ readsC S 0 (x.args.take (i + 1)) := by
        rw [List.take_add_one, gl']
        show _ = is ++ readsC S 0 (x.args.take i ++ [l])
        rw [reads_snoc2, List.length_take, Nat.zero_add, Nat.min_eq_left hi, List.append_assoc]
      have ea := arr_set (l := x.args) (i := i) (by omega)
      refine WP.seq ?_
      refine WP.block ?_
      refine Zc ?_
      refine Zm ?_
      refine Zm ?_
      refine Zf fo_53_3 ?_
      refine Zl 1 ag_48 ?_
      refine Zm ?_
      refine Zx sl_48 hu ?_
      refine Run.loadRagg rfl rfl ag_46 rfl rfl (SlR.row hu gl) rfl ?_
      refine Zm ?_
      refine Za ?_
      refine Run.callP [0] ok_112 (brought_ok hR bm S (is ++ readsC S 0 (x.args.take i)) js l (8 + (i : Int)) hS hln (by omega)) ?_; rintro _ _ ⟨rfl, rfl⟩; refine Run.eqv (v' := vI (ragV x.args i)) (by rw [er]) ?_
      refine Run.idxArr rfl rfl rfl ar_152 rfl rfl (by first | omega | (simp <;> omega)) (by first | omega | (simp <;> omega)) ?_
      refine Run.storeArr 2 (i := i) (h := arrI x.args i) rfl rfl rfl ag_3 rfl rfl rfl (by rw [ha3]; omega) ?_
      refine Run.nil ?_
      refine blk_norm ?_; refine thn_next ?_
      refine Zc ?_
      refine Zm ?_
      refine Za ?_
      refine Zm ?_
      refine Run.nil ?_
      refine thn_next ⟨i + 1, by omega, by omega, Ko.go, ?_⟩
      rw [← ea, ← es]; exact ent.go
    · refine Zj ?_
      have e : i = x.args.length := by omega
      subst e
      refine thn_next ⟨(), trivial, Ko.go, ?_⟩
      rw [List.take_length]; exact ent.gc
  intro _ _
  have hop : 1 ≤ x.op ∧ x.op ≤ 30 := by
    unfold argsN at hal
    split at hal
    · omega
    · split at hal
      · omega
      · split at hal
        · omega
        · split at hal <;> omega
  have h3 : x.args.length ≤ 3 := by omega
  rw [arr_all h3]
  have eI : insC S x = readsC S 0 x.args ++ [opC x] ++ (if x.dst.kind = 2 then storeC S x.dst 8 else []) := by unfold insC; rw [if_neg h25, if_neg h31]
  have hrl := readsC_len S x.args 0
  have hl2 : (is ++ readsC S 0 x.args).length ≤ 1800000008 := by rw [List.length_append]; omega
  rw [eI, ← List.append_assoc, ← List.append_assoc]
  generalize is ++ readsC S 0 x.args = is2 at hl2 ⊢
  refine Zp ?_
  refine Zf fo_53_2 ?_
  refine Zf fo_46_1 ?_
  refine Zl 1 ag_3 ?_
  refine Zm ?_
  refine Ze ?_
  refine WP.trim [0, 3, 4, 6] [0, 1, 2] ?_
  refine WP.meetC (α := Unit) (fun _ => True) (fun _ => [(6, vI (dstR x))]) (fun _ => []) ?_ ?_
  · refine Zp ?_
    refine Zf fo_53_2 ?_
    refine Zf fo_46_0 ?_
    refine Zl 1 ag_3 ?_
    refine Zi ?_
    refine Ze ?_
    refine WP.ite rfl (fun h2 => ?_) (fun h2 => ?_)
    · refine Zc ?_
      refine Zm ?_
      refine Run.nil ?_
      exact thn_next ⟨(), trivial, by unfold dstR; rw [if_pos h2]; exact Ko.go, ent.gc⟩
    · refine WP.skip ?_
      exact thn_next ⟨(), trivial, by unfold dstR; rw [if_neg h2]; exact Ko.go, ent.gc⟩
  intro _ _
  refine WP.trim [0, 3, 4, 6] [0, 1, 2] ?_
  refine WP.meetC (α := Unit) (fun _ => True) (fun _ => []) (fun _ => [(0, rkP bm S (is2 ++ [opC x]) js)]) ?_ ?_
  · refine WP.block ?_
    refine Zp ?_
    refine Zf fo_53_0 ?_
    refine Zl 1 ag_3 ?_
    refine Zi ?_
    refine Zm ?_
    refine Ze ?_
    refine WP.ite rfl (fun h9 => ?_) (fun h9 => ?_)
    · have e : opC x = ⟨1, dstR x, 0, 0, x.imm⟩ := by simp [opC, argR_rag, h9]
      rw [e]
      refine Zc ?_
      refine Zm ?_
      refine Zm ?_
      refine Zf fo_53_1 ?_
      refine Zl 1 ag_3 ?_
      refine Run.callP [0] ok_111 (put111_ok hR bm S is2 js ⟨1, dstR x, 0, 0, x.imm⟩ (by omega)) ?_; rintro _ _ rfl
      refine Run.nil ?_
      refine blk_norm ?_
      exact thn_next ⟨(), trivial, Ko.go, ent.gc⟩
    refine Zp ?_
    refine Zf fo_53_0 ?_
    refine Zl 1 ag_3 ?_
    refine Zi ?_
    refine Zm ?_
    refine Ze ?_
    refine WP.ite rfl (fun h11 => ?_) (fun h11 => ?_)
    · have e : opC x = ⟨x.op + 1, dstR x, ragV x.args 0, ragV x.args 1, 0⟩ := by simp [opC, argR_rag, h9, h11]
      rw [e]
      refine Zc ?_
      refine Zm ?_
      refine Zf fo_53_0 ?_
      refine Zl 1 ag_3 ?_
      refine Za ?_
      refine Zm ?_
      refine Run.idxArr rfl rfl rfl ar_152 rfl rfl (by first | omega | (simp <;> omega)) (by first | omega | (simp <;> omega)) ?_
      refine Run.loadArr 2 (i := 0) (h := [ragV x.args 0, ragV x.args 1, ragV x.args 2]) rfl rfl ag_3 rfl rfl rfl rfl rfl ?_
      refine Run.idxArr rfl rfl rfl ar_152 rfl rfl (by first | omega | (simp <;> omega)) (by first | omega | (simp <;> omega)) ?_
      refine Run.loadArr 2 (i := 1) (h := [ragV x.args 0, ragV x.args 1, ragV x.args 2]) rfl rfl ag_3 rfl rfl rfl rfl rfl ?_
      refine Run.callP [0] ok_111 (put111_ok hR bm S is2 js ⟨x.op + 1, dstR x, ragV x.args 0, ragV x.args 1, 0⟩ (by omega)) ?_; rintro _ _ rfl
      refine Run.nil ?_
      refine blk_norm ?_
      exact thn_next ⟨(), trivial, Ko.go, ent.gc⟩
    refine Zp ?_
    refine Zf fo_53_0 ?_
    refine Zl 1 ag_3 ?_
    refine Zi ?_
    refine Zm ?_
    refine Ze ?_
    refine WP.ite rfl (fun h13 => ?_) (fun h13 => ?_)
    · have e : opC x = ⟨x.op + 1, dstR x, ragV x.args 0, 0, 0⟩ := by simp [opC, argR_rag, h9, h11, h13]
      rw [e]
      refine Zc ?_
      refine Zm ?_
      refine Zf fo_53_0 ?_
      refine Zl 1 ag_3 ?_
      refine Za ?_
      refine Zm ?_
      refine Run.idxArr rfl rfl rfl ar_152 rfl rfl (by first | omega | (simp <;> omega)) (by first | omega | (simp <;> omega)) ?_
      refine Run.loadArr 2 (i := 0) (h := [ragV x.args 0, ragV x.args 1, ragV x.args 2]) rfl rfl ag_3 rfl rfl rfl rfl rfl ?_
      refine Run.callP [0] ok_111 (put111_ok hR bm S is2 js ⟨x.op + 1, dstR x, ragV x.args 0, 0, 0⟩ (by omega)) ?_; rintro _ _ rfl
      refine Run.nil ?_
      refine blk_norm ?_
      exact thn_next ⟨(), trivial, Ko.go, ent.gc⟩
    refine Zp ?_
    refine Zf fo_53_0 ?_
    refine Zl 1 ag_3 ?_
    refine Zi ?_
    refine Zm ?_
    refine Ze ?_
    refine WP.ite rfl (fun h15 => ?_) (fun h15 => ?_)
    · have e : opC x = ⟨29, dstR x, ragV x.args 0, 0, 0⟩ := by simp [opC, argR_rag, h9, h11, h13, h15]
      rw [e]
      refine Zc ?_
      refine Zm ?_
      refine Zm ?_
      refine Run.idxArr rfl rfl rfl ar_152 rfl rfl (by first | omega | (simp <;> omega)) (by first | omega | (simp <;> omega)) ?_
      refine Run.loadArr 2 (i := 0) (h := [ragV x.args 0, ragV x.args 1, ragV x.args 2]) rfl rfl ag_3 rfl rfl rfl rfl rfl ?_
      refine Run.callP [0] ok_111 (put111_ok hR bm S is2 js ⟨29, dstR x, ragV x.args 0, 0, 0⟩ (by omega)) ?_; rintro _ _ rfl
      refine Run.nil ?_
      refine blk_norm ?_
      exact thn_next ⟨(), trivial, Ko.go, ent.gc⟩
    refine Zp ?_
    refine Zf fo_53_0 ?_
    refine Zl 1 ag_3 ?_
    refine Zi ?_
    refine Zm ?_
    refine Ze ?_
    refine WP.ite rfl (fun h17 => ?_) (fun h17 => ?_)
    · have e : opC x = ⟨30, dstR x, ragV x.args 0, ragV x.args 1, 0⟩ := by simp [opC, argR_rag, h9, h11, h13, h15, h17]
      rw [e]
      refine Zc ?_
      refine Zm ?_
      refine Zm ?_
      refine Run.idxArr rfl rfl rfl ar_152 rfl rfl (by first | omega | (simp <;> omega)) (by first | omega | (simp <;> omega)) ?_
      refine Run.loadArr 2 (i := 0) (h := [ragV x.args 0, ragV x.args 1, ragV x.args 2]) rfl rfl ag_3 rfl rfl rfl rfl rfl ?_
      refine Run.idxArr rfl rfl rfl ar_152 rfl rfl (by first | omega | (simp <;> omega)) (by first | omega | (simp <;> omega)) ?_
      refine Run.loadArr 2 (i := 1) (h := [ragV x.args 0, ragV x.args 1, ragV x.args 2]) rfl rfl ag_3 rfl rfl rfl rfl rfl ?_
      refine Run.callP [0] ok_111 (put111_ok hR bm S is2 js ⟨30, dstR x, ragV x.args 0, ragV x.args 1, 0⟩ (by omega)) ?_; rintro _ _ rfl
      refine Run.nil ?_
      refine blk_norm ?_
      exact thn_next ⟨(), trivial, Ko.go, ent.gc⟩
    refine Zp ?_
    refine Zf fo_53_0 ?_
    refine Zl 1 ag_3 ?_
    refine Zi ?_
    refine Zm ?_
    refine Ze ?_
    refine WP.ite rfl (fun h19 => ?_) (fun h19 => ?_)
    · have e : opC x = ⟨31, ragV x.args 2, ragV x.args 0, ragV x.args 1, 0⟩ := by simp [opC, argR_rag, h9, h11, h13, h15, h17, h19]
      rw [e]
      refine Zc ?_
      refine Zm ?_
      refine Run.idxArr rfl rfl rfl ar_152 rfl rfl (by first | omega | (simp <;> omega)) (by first | omega | (simp <;> omega)) ?_
      refine Run.loadArr 2 (i := 2) (h := [ragV x.args 0, ragV x.args 1, ragV x.args 2]) rfl rfl ag_3 rfl rfl rfl rfl rfl ?_
      refine Run.idxArr rfl rfl rfl ar_152 rfl rfl (by first | omega | (simp <;> omega)) (by first | omega | (simp <;> omega)) ?_
      refine Run.loadArr 2 (i := 0) (h := [ragV x.args 0, ragV x.args 1, ragV x.args 2]) rfl rfl ag_3 rfl rfl rfl rfl rfl ?_
      refine Run.idxArr rfl rfl rfl ar_152 rfl rfl (by first | omega | (simp <;> omega)) (by first | omega | (simp <;> omega)) ?_
      refine Run.loadArr 2 (i := 1) (h := [ragV x.args 0, ragV x.args 1, ragV x.args 2]) rfl rfl ag_3 rfl rfl rfl rfl rfl ?_
      refine Run.callP [0] ok_111 (put111_ok hR bm S is2 js ⟨31, ragV x.args 2, ragV x.args 0, ragV x.args 1, 0⟩ (by omega)) ?_; rintro _ _ rfl
      refine Run.nil ?_
      refine blk_norm ?_
      exact thn_next ⟨(), trivial, Ko.go, ent.gc⟩
    refine Zp ?_
    refine Zf fo_53_0 ?_
    refine Zl 1 ag_3 ?_
    refine Zi ?_
    refine Zm ?_
    refine Ze ?_
    refine WP.ite rfl (fun h21 => ?_) (fun h21 => ?_)
    · have e : opC x = ⟨28, dstR x, ragV x.args 0, 0, 0⟩ := by simp [opC, argR_rag, h9, h11, h13, h15, h17, h19, h21]
      rw [e]
      refine Zc ?_
      refine Zm ?_
      refine Zm ?_
      refine Run.idxArr rfl rfl rfl ar_152 rfl rfl (by first | omega | (simp <;> omega)) (by first | omega | (simp <;> omega)) ?_
      refine Run.loadArr 2 (i := 0) (h := [ragV x.args 0, ragV x.args 1, ragV x.args 2]) rfl rfl ag_3 rfl rfl rfl rfl rfl ?_
      refine Run.callP [0] ok_111 (put111_ok hR bm S is2 js ⟨28, dstR x, ragV x.args 0, 0, 0⟩ (by omega)) ?_; rintro _ _ rfl
      refine Run.nil ?_
      refine blk_norm ?_
      exact thn_next ⟨(), trivial, Ko.go, ent.gc⟩
    refine Zp ?_
    refine Zf fo_53_0 ?_
    refine Zl 1 ag_3 ?_
    refine Zi ?_
    refine Zm ?_
    refine Ze ?_
    refine WP.ite rfl (fun h23 => ?_) (fun h23 => ?_)
    · have e : opC x = ⟨36, dstR x, 0, 0, 0⟩ := by simp [opC, argR_rag, h9, h11, h13, h15, h17, h19, h21, h23]
      rw [e]
      refine Zc ?_
      refine Zm ?_
      refine Zm ?_
      refine Run.callP [0] ok_111 (put111_ok hR bm S is2 js ⟨36, dstR x, 0, 0, 0⟩ (by omega)) ?_; rintro _ _ rfl
      refine Run.nil ?_
      refine blk_norm ?_
      exact thn_next ⟨(), trivial, Ko.go, ent.gc⟩
    refine Zp ?_
    refine Zf fo_53_0 ?_
    refine Zl 1 ag_3 ?_
    refine Zi ?_
    refine Zm ?_
    refine Ze ?_
    refine WP.ite rfl (fun h25 => ?_) (fun h25 => ?_)
    · have e : opC x = ⟨37, ragV x.args 0, 0, 0, 0⟩ := by simp [opC, argR_rag, h9, h11, h13, h15, h17, h19, h21, h23, h25]
      rw [e]
      refine Zc ?_
      refine Zm ?_
      refine Run.idxArr rfl rfl rfl ar_152 rfl rfl (by first | omega | (simp <;> omega)) (by first | omega | (simp <;> omega)) ?_
      refine Run.loadArr 2 (i := 0) (h := [ragV x.args 0, ragV x.args 1, ragV x.args 2]) rfl rfl ag_3 rfl rfl rfl rfl rfl ?_
      refine Run.callP [0] ok_111 (put111_ok hR bm S is2 js ⟨37, ragV x.args 0, 0, 0, 0⟩ (by omega)) ?_; rintro _ _ rfl
      refine Run.nil ?_
      refine blk_norm ?_
      exact thn_next ⟨(), trivial, Ko.go, ent.gc⟩
    refine Zp ?_
    refine Zf fo_53_0 ?_
    refine Zl 1 ag_3 ?_
    refine Zi ?_
    refine Zm ?_
    refine Ze ?_
    refine WP.ite rfl (fun h27 => ?_) (fun h27 => ?_)
    · have e : opC x = ⟨38, ragV x.args 0, 0, 0, 0⟩ := by simp [opC, argR_rag, h9, h11, h13, h15, h17, h19, h21, h23, h25, h27]
      rw [e]
      refine Zc ?_
      refine Zm ?_
      refine Run.idxArr rfl rfl rfl ar_152 rfl rfl (by first | omega | (simp <;> omega)) (by first | omega | (simp <;> omega)) ?_
      refine Run.loadArr 2 (i := 0) (h := [ragV x.args 0, ragV x.args 1, ragV x.args 2]) rfl rfl ag_3 rfl rfl rfl rfl rfl ?_
      refine Run.callP [0] ok_111 (put111_ok hR bm S is2 js ⟨38, ragV x.args 0, 0, 0, 0⟩ (by omega)) ?_; rintro _ _ rfl
      refine Run.nil ?_
      refine blk_norm ?_
      exact thn_next ⟨(), trivial, Ko.go, ent.gc⟩
    refine Zp ?_
    refine Zf fo_53_0 ?_
    refine Zl 1 ag_3 ?_
    refine Zi ?_
    refine Zm ?_
    refine Ze ?_
    refine WP.ite rfl (fun h29 => ?_) (fun h29 => ?_)
    · have e : opC x = ⟨32, ragV x.args 0, 0, 0, x.imm⟩ := by simp [opC, argR_rag, h9, h11, h13, h15, h17, h19, h21, h23, h25, h27, h29]
      rw [e]
      refine Zc ?_
      refine Zm ?_
      refine Run.idxArr rfl rfl rfl ar_152 rfl rfl (by first | omega | (simp <;> omega)) (by first | omega | (simp <;> omega)) ?_
      refine Run.loadArr 2 (i := 0) (h := [ragV x.args 0, ragV x.args 1, ragV x.args 2]) rfl rfl ag_3 rfl rfl rfl rfl rfl ?_
      refine Zf fo_53_1 ?_
      refine Zl 1 ag_3 ?_
      refine Run.callP [0] ok_111 (put111_ok hR bm S is2 js ⟨32, ragV x.args 0, 0, 0, x.imm⟩ (by omega)) ?_; rintro _ _ rfl
      refine Run.nil ?_
      refine blk_norm ?_
      exact thn_next ⟨(), trivial, Ko.go, ent.gc⟩
    refine Zp ?_
    refine Zf fo_53_0 ?_
    refine Zl 1 ag_3 ?_
    refine Zi ?_
    refine Zm ?_
    refine Ze ?_
    refine WP.ite rfl (fun h31 => ?_) (fun h31 => ?_)
    · have e : opC x = ⟨33, ragV x.args 0, 0, 0, x.imm⟩ := by simp [opC, argR_rag, h9, h11, h13, h15, h17, h19, h21, h23, h25, h27, h29, h31]
      rw [e]
      refine Zc ?_
      refine Zm ?_
      refine Run.idxArr rfl rfl rfl ar_152 rfl rfl (by first | omega | (simp <;> omega)) (by first | omega | (simp <;> omega)) ?_
      refine Run.loadArr 2 (i := 0) (h := [ragV x.args 0, ragV x.args 1, ragV x.args 2]) rfl rfl ag_3 rfl rfl rfl rfl rfl ?_
      refine Zf fo_53_1 ?_
      refine Zl 1 ag_3 ?_
      refine Run.callP [0] ok_111 (put111_ok hR bm S is2 js ⟨33, ragV x.args 0, 0, 0, x.imm⟩ (by omega)) ?_; rintro _ _ rfl
      refine Run.nil ?_
      refine blk_norm ?_
      exact thn_next ⟨(), trivial, Ko.go, ent.gc⟩
    refine Zp ?_
    refine Zf fo_53_0 ?_
    refine Zl 1 ag_3 ?_
    refine Zi ?_
    refine Zm ?_
    refine Ze ?_
    refine WP.ite rfl (fun h33 => ?_) (fun h33 => ?_)
    · have e : opC x = ⟨34, ragV x.args 0, ragV x.args 1, 0, x.imm⟩ := by simp [opC, argR_rag, h9, h11, h13, h15, h17, h19, h21, h23, h25, h27, h29, h31, h33]
      rw [e]
      refine Zc ?_
      refine Zm ?_
      refine Run.idxArr rfl rfl rfl ar_152 rfl rfl (by first | omega | (simp <;> omega)) (by first | omega | (simp <;> omega)) ?_
      refine Run.loadArr 2 (i := 0) (h := [ragV x.args 0, ragV x.args 1, ragV x.args 2]) rfl rfl ag_3 rfl rfl rfl rfl rfl ?_
      refine Run.idxArr rfl rfl rfl ar_152 rfl rfl (by first | omega | (simp <;> omega)) (by first | omega | (simp <;> omega)) ?_
      refine Run.loadArr 2 (i := 1) (h := [ragV x.args 0, ragV x.args 1, ragV x.args 2]) rfl rfl ag_3 rfl rfl rfl rfl rfl ?_
      refine Zf fo_53_1 ?_
      refine Zl 1 ag_3 ?_
      refine Run.callP [0] ok_111 (put111_ok hR bm S is2 js ⟨34, ragV x.args 0, ragV x.args 1, 0, x.imm⟩ (by omega)) ?_; rintro _ _ rfl
      refine Run.nil ?_
      refine blk_norm ?_
      exact thn_next ⟨(), trivial, Ko.go, ent.gc⟩
    exact absurd hop (by omega)
  intro _ _
  refine WP.trim [0, 3] [0, 1] ?_
  refine Zp ?_
  refine Zf fo_53_2 ?_
  refine Zf fo_46_0 ?_
  refine Zl 1 ag_3 ?_
  refine Zi ?_
  refine Ze ?_
  refine WP.ite rfl (fun hk2 => ?_) (fun hk2 => ?_)
  · have e : storeC S x.dst 8 = [⟨25, 8, 0, 0, slotW S x.dst.n⟩] := by unfold storeC; rw [if_pos hk2]
    rw [if_pos hk2, e]
    generalize hsw : slotW S x.dst.n = sw
    have hl6 : (is2 ++ [opC x]).length ≤ 1800000009 := by rw [List.length_append, List.length_singleton]; omega
    refine Zc ?_
    refine Zm ?_
    refine Zm ?_
    refine Zf fo_53_2 ?_
    refine Zf fo_46_1 ?_
    refine Zl 1 ag_3 ?_
    refine Run.callP [0] ok_28 (word28_ok hR bm S (is2 ++ [opC x]) js x.dst.n hdn) ?_; rintro _ _ ⟨rfl, rfl⟩; refine Run.eqv (v' := vI sw) (by rw [hS.word, hsw]) ?_
    refine Run.callP [0] ok_111 (put111_ok hR bm S (is2 ++ [opC x]) js ⟨25, 8, 0, 0, sw⟩ (by omega)) ?_; rintro _ _ rfl
    refine Run.nil ?_
    exact retN [] [] rfl rfl ⟨[rkP bm S ((is2 ++ [opC x]) ++ [⟨25, 8, 0, 0, sw⟩]) js], ent.go, rfl⟩
  · refine WP.skip ?_
    rw [if_neg hk2, List.append_nil]
    exact retN [] [] rfl rfl ⟨[rkP bm S (is2 ++ [opC x]) js], ent.go, rfl⟩
end
end Go.Proofs.YtfaokbjpinlcaaaGreat
end
section
/- The document's maker of code: the flags of a function; walked. -/
namespace Go.Proofs.YtfaokbjpinlcaaaGreat
open Go.Sep
set_option linter.unusedSimpArgs false
set_option linter.unusedVariables false
set_option maxRecDepth 100000
attribute [local irreducible] blk slA mp mpF rows rowsBut many mpK mpE
theorem flg_snoc (S : List Int) (i r : Int) : flg (S ++ [r]) i = if i = r then .bool true else flg S i := by
  by_cases h : i = r <;> simp [flg, h]
theorem flag_set {S : List Int} {iv jv : Value} {r : Int} (h0 : 0 ≤ r) (h8 : r < 8) : setManyL (rkV S iv jv) r.toNat [.bool true] = rkV (S ++ [r]) iv jv := by
  have e : r = 0 ∨ r = 1 ∨ r = 2 ∨ r = 3 ∨ r = 4 ∨ r = 5 ∨ r = 6 ∨ r = 7 := by omega
  unfold rkV
  simp only [flg_snoc]
  rcases e with rfl | rfl | rfl | rfl | rfl | rfl | rfl | rfl <;> simp [setManyL]
theorem flg_eq {S S' : List Int} (h : ∀ r, r ∈ S ↔ r ∈ S') (i : Int) : flg S i = flg S' i := by
  unfold flg; rw [decide_eq_decide.2 (h i)]
theorem rkV_eq {S S' : List Int} (h : ∀ r, r ∈ S ↔ r ∈ S') (iv jv : Value) : rkV S iv jv = rkV S' iv jv := by
  unfold rkV; simp only [flg_eq h]
end Go.Proofs.YtfaokbjpinlcaaaGreat
end
section
/- How long a function's code may be; the places of its blocks as a list; plain. -/
namespace Go.Proofs.YtfaokbjpinlcaaaGreat
open Go.Sep
set_option linter.unusedVariables false
theorem Ord.length_le {temp : Lc} {l o : List Mv} (h : Ord temp l o) : o.length ≤ l.length + l.countP fun m => decide (m.from_ ≠ temp) := by
  induction h with
  | nil => simp
  | @put a b o m h1 h2 h ih =>
    simp only [List.countP_append, List.countP_cons, List.length_append, List.length_cons] at ih ⊢
    omega
  | @brk b o m h1 h ih =>
    by_cases e : m.from_ = temp
    · have em : (⟨m.to, temp⟩ : Mv) = m := by rw [← e]
      rw [em] at h
      have := congrArg List.length (h.uniq (Ord.brk h1 (by rw [em]; exact h)))
      simp only [List.length_cons] at this
      omega
    · simp only [List.countP_cons, List.length_cons] at ih ⊢
      simp only [e, ne_eq, not_true_eq_false, decide_false, decide_true, not_false_eq_true, if_true, Bool.false_eq_true, if_false] at ih ⊢
      omega
theorem ordF_len (temp : Lc) (l : List Mv) : (ordF temp l).length ≤ 2 * l.length := by
  by_cases h : ∃ o, Ord temp l o
  · obtain ⟨o, h⟩ := h
    rw [ordF_eq h]
    have h1 := h.length_le
    have h2 := List.countP_le_length (p := fun m : Mv => decide (m.from_ ≠ temp)) (l := l)
    omega
  · unfold ordF; rw [dif_neg h]; simp
theorem movesC_le (S : List Int) (l : List Mv) : (movesC S l).length ≤ 4 * l.length := by
  have h1 := moves_len S (ordF (regL 11) (l.filter fun m => decide (m.from_ ≠ m.to)))
  have h2 := ordF_len (regL 11) (l.filter fun m => decide (m.from_ ≠ m.to))
  have h3 := List.length_filter_le (fun m : Mv => decide (m.from_ ≠ m.to)) l
  unfold movesC; omega
theorem insC_le {F : AF} {S : List Int} {x : AI} (h : InsOk F S x) : (insC S x).length ≤ 100 := by
  have h1 := h.sl
  have h2 := h.al
  have hst := storeC_len S 8 x.dst
  by_cases h25 : x.op = 25
  · have hm := movesC_le S (numbered x.args fun k l => ⟨regL k, l⟩)
    rw [numb_len] at hm
    have e1 : (if noneB x.dst then [] else [(⟨2, 8, 0, 0, 0⟩ : RI)]).length ≤ 1 := by split <;> simp
    have e2 : (if noneB x.dst then [] else storeC S x.dst 8).length ≤ 1 := by split <;> first | (simp; done) | omega
    unfold insC; rw [if_pos h25, callC_eq]
    simp only [List.length_append, savC_len, List.length_singleton]; omega
  · by_cases h31 : x.op = 31
    · unfold insC; rw [if_neg h25, if_pos h31]
      split
      · rename_i l _ _
        have := moveC_len S x.dst l; omega
      · simp
    · have hr := readsC_len S x.args 0
      have e2 : (if x.dst.kind = 2 then storeC S x.dst 8 else []).length ≤ 1 := by split <;> first | (simp; done) | omega
      unfold insC; rw [if_neg h25, if_neg h31]
      simp only [List.length_append, List.length_singleton]; omega
theorem termC_le (S : List Int) (k : Int) (t : AT) : (termC S k t).length ≤ 5 := by
  have hr := readsC_len S [t.value] 0
  have hl := loadC_len S 0 t.value
  simp only [List.length_singleton] at hr
  unfold termC
  split
  · split
    · split <;> simp
    · simp
  · split
    · split
      · rw [List.length_append, List.length_map]
        split
        · simp; omega
        · simp only [List.length_cons]; split <;> simp <;> omega
      · simp
    · split
      · rw [List.length_map, List.length_append, List.length_singleton]
        split
        · simp
        · omega
      · rw [List.length_map, List.length_append, List.length_singleton]; omega
theorem raw_len {F : AF} (h : FunOk F) : ∀ k, k ≤ F.blocks.length → (rawC (savS F) F k).length ≤ 32 + 100 * sumB F k + 5 * k
  | 0, _ => by
    have hm := movesC_le (savS F) (numbered F.params fun k l => ⟨l, regL k⟩)
    have := h.pl
    rw [numb_len] at hm
    rw [raw_zero]; unfold preC; rw [List.length_map]; omega
  | k + 1, hk => by
    obtain ⟨b, gb⟩ : ∃ b, F.blocks[k]? = some b := ⟨_, List.getElem?_eq_getElem (by omega)⟩
    have h1 := raw_len h k (by omega)
    have h2 := bodN_len (F := F) (b := b) (fun x hx => insC_le (h.ins b (List.mem_of_getElem? gb) x hx)) b.body.length (Nat.le_refl _)
    have h3 := termC_le (savS F) k b.term
    rw [raw_step gb, blk_eq, sumB_step gb, List.length_append, List.length_append, List.length_map]; omega
/-- the places of the first k blocks -/
noncomputable def plsL (S : List Int) (F : AF) (first : Int) (k : Nat) : List Int := (List.range k).map fun i : Nat => placeC S F first (i : Int)
theorem plsL_zero (S : List Int) (F : AF) (first : Int) : plsL S F first 0 = [] := rfl
theorem plsL_step (S : List Int) (F : AF) (first : Int) (k : Nat) : plsL S F first (k + 1) = plsL S F first k ++ [first + ((rawC S F k).length : Int)] := by
  unfold plsL; rw [List.range_succ, List.map_append]; rfl
theorem plsL_len (S : List Int) (F : AF) (first : Int) (k : Nat) : (plsL S F first k).length = k := by unfold plsL; simp
theorem plsL_get {S : List Int} {F : AF} {first : Int} {k : Nat} {q : Int} (h0 : 0 ≤ q) (h1 : q < (k : Int)) : (plsL S F first k)[q.toNat]? = some (placeC S F first q) := by
  unfold plsL
  rw [List.getElem?_map, List.getElem?_range (by omega), Option.map_some, Int.toNat_of_nonneg h0]
end Go.Proofs.YtfaokbjpinlcaaaGreat
end
section
/- The document's maker of code: one function; walked. -/
namespace Go.Proofs.YtfaokbjpinlcaaaGreat
open Go.Sep
set_option linter.unusedSimpArgs false
set_option linter.unusedVariables false
set_option maxRecDepth 100000
attribute [local irreducible] blk slA mp mpF rows rowsBut many mpK mpE
theorem rkV_nil : rkV [] nilS.val nilS.val = [.bool false, .bool false, .bool false, .bool false, .bool false, .bool false, .bool false, .bool false, nilS.val, nilS.val] := by simp [rkV, flg]
set_option maxHeartbeats 8000000 in
theorem function27_ok (hR : Heap) (F : AF) (pu pv : SV) (hv : AFv hR F pu.val pv.val) (h : FunOk F) (htv : ∀ b ∈ F.blocks, noneB b.term.value = true ∨ placeB F b.term.value = true) (first : Int) (hfi : 0 ≤ first ∧ first ≤ 2000000000) :
    Tri Tryz.prog hR 27 #[.agg ⟨afv F pu.val pv.val⟩, vI first] [] fun v Γ' => (∃ (bm : Nat) (js : List Int), v = ptrV bm ∧ Γ' = [rkP bm (savS F) (codeC (savS F) F first) js]) ∧ (codeC (savS F) F first).length ≤ 3000000 := by
  have hu := hv.hu
  have hb := hv.hv
  have hsb := h.sm.sb
  have hsi := h.sm.si
  refine Tri.ent (Tri.of (args := [.agg ⟨afv F pu.val pv.val⟩, vI first]) Tryz.func27 rfl Tryz.ntmps27 (by simp) ?_)
  refine Zp ?_
  refine Run.box rfl rfl rfl rfl rfl ?_
  intro b2
  refine Zm ?_
  refine Ze ?_
  refine Zp ?_
  refine Run.build rfl bd_92 rfl rfl rfl rfl ?_
  refine Run.box rfl rfl rfl rfl rfl ?_
  intro b18
  refine Zm ?_
  refine Ze ?_
  refine WP.trim [1, 2, 4, 5] [0, 1] ?_
  refine WP.via (Γ' := [blk b2 (afv F pu.val pv.val) 51, blk b18 (rkV [] nilS.val nilS.val) 92]) (by rw [rkV_nil]; exact ent.go) ?_
  refine WP.meetC (α := Unit) (fun _ => True) (fun _ => []) (fun _ => [(1, blk b18 (rkV (allS F) nilS.val nilS.val) 92)]) ?_ ?_
  · refine Zp ?_
    refine Zm ?_
    refine Ze ?_
    refine WP.block ?_
    refine WP.trim [1, 2, 4, 5, 6] [0, 1] ?_
    refine WP.loopC (α := Nat) (fun i => i ≤ F.blocks.length) (fun i => [(6, vI (i : Int))]) (fun i => [(1, blk b18 (rkV ((F.blocks.take i).flatMap fun b => b.body.flatMap AI.saves) nilS.val nilS.val) 92)]) (fun i => F.blocks.length - i) 0 (Nat.zero_le _) ?_
    intro i hi
    refine WP.trim [1, 2, 4, 5, 6] [0, 1] ?_
    refine WP.seq ?_
    refine Zp ?_
    refine Zm ?_
    refine Zf fo_51_4 ?_
    refine Zl 0 ag_49 ?_
    refine Zh sl_49 hb ?_
    refine Zi ?_
    refine Ze ?_
    refine WP.ite rfl (fun hlt => ?_) (fun hge => ?_)
    · refine Zb ?_
      obtain ⟨b, gb⟩ : ∃ b, F.blocks[(i : Int).toNat]? = some b := ⟨_, List.getElem?_eq_getElem (by omega)⟩
      have gb' : F.blocks[i]? = some b := gb
      obtain ⟨hbs1, hbs2, hbs3⟩ := hsi b (List.mem_of_getElem? gb)
      obtain ⟨_, ⟨bu0, bt0, rfl, hbu, hbt⟩, hrow⟩ := hb.at gb
      obtain ⟨bu, rfl, _, _⟩ := SlR.sv hbu
      generalize hS1 : ((F.blocks.take i).flatMap fun b => b.body.flatMap AI.saves) = S1
      refine WP.seq ?_
      refine WP.block ?_
      refine Zp ?_
      refine Zm ?_
      refine Ze ?_
      refine WP.block ?_
      refine WP.trim [1, 2, 4, 5, 6, 7] [0, 1] ?_
      refine WP.loopC (α := Nat) (fun j => j ≤ b.body.length) (fun j => [(7, vI (j : Int))]) (fun j => [(1, blk b18 (rkV (S1 ++ (b.body.take j).flatMap AI.saves) nilS.val nilS.val) 92)]) (fun j => b.body.length - j) 0 (Nat.zero_le _) ?_ (he := by rw [List.take_zero]; show ent _ (chgs [(1, blk b18 (rkV (S1 ++ []) nilS.val nilS.val) 92)] _); rw [List.append_nil]; exact ent.gc)
      intro j hj
      refine WP.trim [1, 2, 4, 5, 6, 7] [0, 1] ?_
      refine WP.seq ?_
      refine Zp ?_
      refine Zm ?_
      refine Zf fo_51_4 ?_
      refine Zl 0 ag_49 ?_
      refine Zm ?_
      refine Zx sl_49 hb ?_
      refine Zf fo_58_0 ?_
      refine Zr ag_54 (hrow 0 _ rfl) ?_
      refine Zh sl_54 hbu ?_
      refine Zi ?_
      refine Ze ?_
      refine WP.ite rfl (fun hlt2 => ?_) (fun hge2 => ?_)
      · refine Zb ?_
        obtain ⟨x, gx⟩ : ∃ x, b.body[(j : Int).toNat]? = some x := ⟨_, List.getElem?_eq_getElem (by omega)⟩
        have gx' : b.body[j]? = some x := gx
        obtain ⟨hx1, hx2⟩ := hbs3 x (List.mem_of_getElem? gx)
        obtain ⟨_, ⟨xu0, xs0, rfl, hxu, hxv⟩, hxrow⟩ := hbu.at gx
        obtain ⟨xv, rfl, _, _⟩ := SlR.sv hxv
        have hsvs : ∀ r ∈ x.saves, 0 ≤ r ∧ r < 8 := fun r hr => h.sv r (by unfold allS; exact List.mem_flatMap.2 ⟨b, List.mem_of_getElem? gb, List.mem_flatMap.2 ⟨x, List.mem_of_getElem? gx, hr⟩⟩)
        generalize hS2 : S1 ++ (b.body.take j).flatMap AI.saves = S2
        refine WP.seq ?_
        refine WP.block ?_
        refine Zp ?_
        refine Zf fo_51_4 ?_
        refine Zl 0 ag_49 ?_
        refine Zm ?_
        refine Zx sl_49 hb ?_
        refine Zf fo_58_0 ?_
        refine Zr ag_54 (hrow 0 _ rfl) ?_
        refine Zm ?_
        refine Zx sl_54 hbu ?_
        refine Zf fo_53_4 ?_
        refine Zr ag_44 (hxrow 5 _ rfl) ?_
        refine Zm ?_
        refine Ze ?_
        refine Zp ?_
        refine Zm ?_
        refine Ze ?_
        refine WP.block ?_
        refine WP.trim [1, 2, 4, 5, 6, 7, 8, 9] [0, 1] ?_
        refine WP.loopC (α := Nat) (fun k => k ≤ x.saves.length) (fun k => [(9, vI (k : Int))]) (fun k => [(1, blk b18 (rkV (S2 ++ x.saves.take k) nilS.val nilS.val) 92)]) (fun k => x.saves.length - k) 0 (Nat.zero_le _) ?_ (he := by rw [List.take_zero, List.append_nil]; exact ent.gc)
        intro k hk
        refine WP.trim [1, 2, 4, 5, 6, 7, 8, 9] [0, 1] ?_
        refine WP.seq ?_
        refine Zp ?_
        refine Zm ?_
        refine Zm ?_
        refine Zh sl_44 hxv ?_
        refine Zi ?_
        refine Ze ?_
        refine WP.ite rfl (fun hlt3 => ?_) (fun hge3 => ?_)
        · refine Zb ?_
          obtain ⟨r, gr⟩ : ∃ r, x.saves[(k : Int).toNat]? = some r := ⟨_, List.getElem?_eq_getElem (by omega)⟩
          have gr' : x.saves[k]? = some r := gr
          have hr8 := hsvs r (List.mem_of_getElem? gr)
          refine WP.seq ?_
          refine WP.block ?_
          refine WP.drawn0 cf0 mixed rfl (by kernel_rfl) ?_
          iterate 3 refine Zm ?_
          refine Zx sl_44 hxv ?_
          refine Zr ag_3 (SlR.cell0 hxv gr rfl) ?_
          refine Zn ?_
          refine Zf fo_92_0 ?_
          refine Run.idxArr rfl rfl rfl ar_90 rfl rfl (by first | omega | (simp <;> omega)) (by first | omega | (simp <;> omega)) ?_
          refine Run.storeB 1 (off := r.toNat) rfl rfl rfl rfl ag_4 rfl rfl rfl (add_at (k := r) (i := r.toNat) (by omega)) (by refine Nat.ble_eq_true_of_le ?_; show r.toNat + 1 ≤ 10; omega) ?_; rw [flag_set hr8.1 hr8.2]
          refine Run.nil ?_
          refine blk_norm ?_; refine thn_next ?_
          refine Zc ?_
          refine Zm ?_
          refine Za ?_
          refine Zm ?_
          refine Run.nil ?_
          refine thn_next ⟨k + 1, by omega, by omega, Ko.go, ?_⟩
          rw [List.take_add_one, gr', ← List.append_assoc]; exact ent.gc
        · refine Zj ?_; refine blk_norm ?_; refine thn_next ?_
          refine Zc ?_
          refine Zm ?_
          refine Za ?_
          refine Zm ?_
          refine Run.nil ?_
          refine thn_next ⟨j + 1, by omega, by omega, Ko.go, ?_⟩
          rw [List.take_of_length_le (by omega), ← hS2, List.take_add_one, gx', List.flatMap_append, List.append_assoc]
          show ent _ (chgs [(1, blk b18 (rkV (S1 ++ ((b.body.take j).flatMap AI.saves ++ [x].flatMap AI.saves)) nilS.val nilS.val) 92)] _)
          rw [List.flatMap_singleton]; exact ent.gc
      · refine Zj ?_; refine blk_norm ?_; refine thn_next ?_
        refine Zc ?_
        refine Zm ?_
        refine Za ?_
        refine Zm ?_
        refine Run.nil ?_
        refine thn_next ⟨i + 1, by omega, by omega, Ko.go, ?_⟩
        rw [List.take_of_length_le (by omega), List.take_add_one, gb', List.flatMap_append, hS1]
        show ent _ (chgs [(1, blk b18 (rkV (S1 ++ [b].flatMap fun b => b.body.flatMap AI.saves) nilS.val nilS.val) 92)] _)
        rw [List.flatMap_singleton]; exact ent.gc
    · refine Zj ?_
      have e : i = F.blocks.length := by omega
      subst e
      refine thn_next ⟨(), trivial, Ko.go, ?_⟩
      rw [List.take_length]; exact ent.gc
  intro _ _
  have hmem := savS_mem h.sv
  have hSo : SvOk (savS F) := ⟨savS_lt F, fun r hr => h.sv r ((hmem r).1 hr)⟩
  have hS8 := savS_len F
  have hrwl := raw_len h
  generalize hSS : savS F = S at hmem hSo hS8 hrwl ⊢
  refine WP.trim [1, 2, 4, 5] [0, 1] ?_
  refine WP.via (Γ' := [blk b2 (afv F pu.val pv.val) 51, blk b18 (rkV S nilS.val nilS.val) 92]) (by rw [rkV_eq hmem]; exact ent.go) ?_
  refine WP.via (Γ' := [blk b2 (afv F pu.val pv.val) 51, blk b18 (rkV S nilS.val nilS.val) 92, slA 38 encRI nilS.val [], slA 3 encI nilS.val []]) ((slA_nil 38 encRI _).trans (slA_nil 3 encI _)) ?_
  refine WP.trim [1, 2, 4, 5] [1, 2, 3, 0] ?_
  refine WP.via (Γ' := [rkP b18 S [] [], blk b2 (afv F pu.val pv.val) 51]) (rkP_shut (is := []) (js := []) ⟨nilS, nilS⟩ [blk b2 (afv F pu.val pv.val) 51]) ?_
  -- the parameters
  refine Zp ?_
  refine Zm ?_
  refine Ze ?_
  refine WP.trim [1, 2, 4, 5, 10] [0, 1] ?_
  refine WP.via (Γ' := [rkP b18 S [] [], blk b2 (afv F pu.val pv.val) 51, slA 121 encMv nilS.val []]) (slA_nil 121 encMv _) ?_
  refine WP.meetC (α := SV) (fun _ => True) (fun sv => [(10, sv.val)]) (fun sv => [(2, slA 121 encMv sv.val (numbered F.params fun k l => ⟨l, regL k⟩))]) ?_ ?_
  · refine Zp ?_
    refine Zm ?_
    refine Ze ?_
    refine WP.block ?_
    refine WP.trim [1, 2, 4, 5, 10, 11] [0, 1, 2] ?_
    refine WP.loopC (α := Nat × SV) (fun z => z.1 ≤ F.params.length) (fun z => [(11, vI (z.1 : Int)), (10, z.2.val)]) (fun z => [(2, slA 121 encMv z.2.val ((numbered F.params fun k l => ⟨l, regL k⟩).take z.1))]) (fun z => F.params.length - z.1) (0, nilS) (Nat.zero_le _) ?_
    rintro ⟨i, lv⟩ hi
    simp only at hi ⊢
    have hpl := h.pl
    refine WP.trim [1, 2, 4, 5, 10, 11] [0, 1, 2] ?_
    refine WP.seq ?_
    refine Zp ?_
    refine Zm ?_
    refine Zf fo_51_1 ?_
    refine Zl 1 ag_48 ?_
    refine Zh sl_48 hu ?_
    refine Zi ?_
    refine Ze ?_
    refine WP.ite rfl (fun hlt => ?_) (fun hge => ?_)
    · refine Zb ?_
      obtain ⟨l, gl⟩ : ∃ x', F.params[(i : Int).toNat]? = some x' := ⟨_, List.getElem?_eq_getElem (by omega)⟩
      have gl' : F.params[i]? = some l := gl
      have hst2 : (numbered F.params fun k l => (⟨l, regL k⟩ : Mv)).take (i + 1) = (numbered F.params fun k l => (⟨l, regL k⟩ : Mv)).take i ++ [⟨l, regL i⟩] := by rw [List.take_add_one, numb_get, gl']; rfl
      refine WP.seq ?_
      refine WP.block ?_
      refine Zc ?_
      refine Zm ?_
      refine Zf fo_51_1 ?_
      refine Zl 1 ag_48 ?_
      refine Zm ?_
      refine Zx sl_48 hu ?_
      refine Run.loadRagg rfl rfl ag_46 rfl rfl (SlR.row hu gl) rfl ?_
      refine Zm ?_
      refine Run.build rfl bd_46 rfl rfl rfl rfl ?_
      refine Run.build rfl bd_121 rfl rfl rfl rfl ?_
      refine Run.buildSlice (E := encMv) rfl sl_119 zr_121 ([(⟨l, regL i⟩ : Mv)]) rfl rfl rfl (by decide) rfl rfl ?_
      intro b77
      refine Run.append (E := encMv) (xs := (numbered F.params fun k l => ⟨l, regL k⟩).take i) (ys := [(⟨l, regL i⟩ : Mv)]) 2 rfl rfl rfl rfl rfl rfl sl_119 zr_121 rfl (src_own 3 rfl) (by rw [List.length_take, numb_len]; simp only [List.length_singleton]; omega) (by rw [List.length_take, numb_len]; simp only [List.length_singleton]; omega) ?_
      intro sv78 hv78
      refine Zm ?_
      refine Run.nil ?_
      refine blk_norm ?_; refine thn_next ?_
      refine Zc ?_
      refine Zm ?_
      refine Za ?_
      refine Zm ?_
      refine Run.nil ?_
      refine thn_next ⟨(i + 1, sv78), by simp only; omega, by simp only; omega, Ko.go, by simp only [hst2]; exact ent.gc⟩
    · refine Zj ?_
      have e : i = F.params.length := by omega
      subst e
      refine thn_next ⟨lv, trivial, Ko.go, ?_⟩
      rw [List.take_of_length_le (by rw [numb_len]; exact Nat.le_refl _)]; exact ent.gc
  intro lv _
  refine WP.trim [1, 2, 4, 5, 10] [0, 1, 2] ?_
  have hpl := h.pl
  have hkk : ∀ m ∈ numbered F.params (fun k l => (⟨l, regL k⟩ : Mv)), (m.to.kind = 1 ∨ m.to.kind = 2) ∧ (m.from_.kind = 1 ∨ m.from_.kind = 2) := fun m hm => by
    obtain ⟨j, hj⟩ := List.getElem?_of_mem hm
    rw [numb_get] at hj
    cases hxj : F.params[j]? with
    | none => rw [hxj] at hj; simp at hj
    | some l =>
      rw [hxj] at hj; simp only [Option.map_some, Option.some.injEq] at hj
      subst hj
      exact ⟨(place_near h.sl.2 (h.pp l (List.mem_of_getElem? hxj))).2.2.2, .inl rfl⟩
  refine Zp ?_
  refine Zm ?_
  refine Zm ?_
  refine Run.callL [0] [2] ok_52 (fun g hg hd => moves52_ok (un hR g) b18 S [] [] lv _ (lent_at 0 rfl hg hd) (by rw [numb_len]; omega) (good_par h) (near_par h) hkk hSo (by simp)) ?_; rintro _ _ ⟨rfl, hml⟩
  refine Ze ?_
  have hraw0 : movesC S (numbered F.params fun k l => ⟨l, regL k⟩) = (rawC S F 0).map Prod.fst := by rw [raw_zero]; unfold preC; rw [fst_none]
  have hjmp0 : jmpI 0 (rawC S F 0) = [] := by rw [raw_zero]; unfold preC; rw [jmpI_none]
  refine WP.trim [1, 2, 4, 5] [0, 2] ?_
  rw [List.nil_append, hraw0]
  -- block by block
  refine Zp ?_
  refine Zm ?_
  refine Ze ?_
  refine WP.trim [1, 2, 4, 5, 12] [0, 1] ?_
  refine WP.via (Γ' := [rkP b18 S ((rawC S F 0).map Prod.fst) [], blk b2 (afv F pu.val pv.val) 51, slA 3 encI nilS.val []]) (slA_nil 3 encI _) ?_
  refine WP.meetC (α := SV) (fun _ => True) (fun sv => [(12, sv.val)]) (fun sv => [(0, rkP b18 S ((rawC S F F.blocks.length).map Prod.fst) (jmpI 0 (rawC S F F.blocks.length))), (2, slA 3 encI sv.val (plsL S F first F.blocks.length))]) ?_ ?_
  · refine Zp ?_
    refine Zm ?_
    refine Ze ?_
    refine WP.block ?_
    refine WP.trim [1, 2, 4, 5, 12, 13] [0, 1, 2] ?_
    refine WP.loopC (α := Nat × SV) (fun z => z.1 ≤ F.blocks.length) (fun z => [(13, vI (z.1 : Int)), (12, z.2.val)]) (fun z => [(0, rkP b18 S ((rawC S F z.1).map Prod.fst) (jmpI 0 (rawC S F z.1))), (2, slA 3 encI z.2.val (plsL S F first z.1))]) (fun z => F.blocks.length - z.1) (0, nilS) (Nat.zero_le _) ?_ (he := by simp only [hjmp0, plsL_zero]; exact ent.gc)
    rintro ⟨k, qv⟩ hk
    simp only at hk ⊢
    refine WP.trim [1, 2, 4, 5, 12, 13] [0, 1, 2] ?_
    refine WP.seq ?_
    refine Zp ?_
    refine Zm ?_
    refine Zf fo_51_4 ?_
    refine Zl 1 ag_49 ?_
    refine Zh sl_49 hb ?_
    refine Zi ?_
    refine Ze ?_
    refine WP.ite rfl (fun hlt => ?_) (fun hge => ?_)
    · refine Zb ?_
      obtain ⟨b, gb⟩ : ∃ b, F.blocks[(k : Int).toNat]? = some b := ⟨_, List.getElem?_eq_getElem (by omega)⟩
      have gb' : F.blocks[k]? = some b := gb
      have hbm := List.mem_of_getElem? gb
      have hbody := (hsi b hbm).1
      have hrl := hrwl k hk
      have hs1 := sumB_le F k
      have hst := h.sm.st
      have hpl2 := plsL_len S F first k
      obtain ⟨hT, hTt⟩ := h.trm b hbm
      obtain ⟨hz, hzk⟩ : noneB b.term.value = decide (b.term.value.kind = 0) ∧ (b.term.value.kind = 0 ∨ b.term.value.kind = 1 ∨ b.term.value.kind = 2) := by
        rcases htv b hbm with hh | hh
        · have h0 : b.term.value.kind = 0 := by unfold noneB at hh; simp only [decide_eq_true_eq] at hh; exact hh.1
          rw [hh, h0]; exact ⟨rfl, .inl rfl⟩
        · have h0 := (place_near h.sl.2 hh).2.2.2
          have h1 : ¬ b.term.value.kind = 0 := by omega
          refine ⟨?_, .inr h0⟩
          unfold noneB; simp [h1]
      obtain ⟨_, ⟨bu0, bt0, rfl, hbu, hbt⟩, hrow⟩ := hb.at gb
      obtain ⟨bu, rfl, _, _⟩ := SlR.sv hbu
      obtain ⟨bt, rfl, _, _⟩ := SlR.sv hbt
      refine WP.seq ?_
      refine WP.block ?_
      refine WP.seq ?_
      refine WP.openX 0 ?_
      rintro ⟨iv, jv⟩ _
      refine Zc ?_
      iterate 3 refine Zm ?_
      refine Zn ?_
      refine Zf fo_92_1 ?_
      refine Zl 0 ag_29 ?_
      refine Run.lenO 1 rfl rfl sl_29 rfl rfl rfl ?_; refine Run.eqv (v' := vI ((rawC S F k).length : Int)) (by rw [List.length_map]) ?_
      refine Za ?_
      refine Run.buildSlice (E := encI) rfl sl_44 zr_3 ([first + ((rawC S F k).length : Int)]) rfl rfl rfl (by decide) rfl rfl ?_
      intro b97
      refine Run.append (E := encI) (xs := plsL S F first k) (ys := [first + ((rawC S F k).length : Int)]) 4 rfl rfl rfl rfl rfl rfl sl_44 zr_3 rfl (src_own 5 rfl) (by simp only [List.length_singleton]; omega) (by simp only [List.length_singleton]; omega) ?_
      intro sv98 hv98
      refine Zm ?_
      refine Ze ?_
      refine WP.trim [1, 2, 4, 5, 12, 13] [0, 1, 2, 3, 4] ?_
      rw [← plsL_step]
      refine WP.via (Γ' := [rkP b18 S ((rawC S F k).map Prod.fst) (jmpI 0 (rawC S F k)), blk b2 (afv F pu.val pv.val) 51, slA 3 encI sv98.val (plsL S F first (k + 1))]) (rkP_shut (is := (rawC S F k).map Prod.fst) (js := jmpI 0 (rawC S F k)) ⟨iv, jv⟩ [blk b2 (afv F pu.val pv.val) 51, slA 3 encI sv98.val (plsL S F first (k + 1))]) ?_
      refine WP.meetC (α := Unit) (fun _ => True) (fun _ => []) (fun _ => [(0, rkP b18 S ((rawC S F k).map Prod.fst ++ bodN S b b.body.length) (jmpI 0 (rawC S F k)))]) ?_ ?_
      · refine Zp ?_
        refine Zm ?_
        refine Ze ?_
        refine WP.block ?_
        refine WP.trim [1, 2, 4, 5, 12, 13, 14] [0, 1, 2] ?_
        refine WP.loopC (α := Nat) (fun j => j ≤ b.body.length ∧ (bodN S b j).length ≤ 100 * j) (fun j => [(14, vI (j : Int))]) (fun j => [(0, rkP b18 S ((rawC S F k).map Prod.fst ++ bodN S b j) (jmpI 0 (rawC S F k)))]) (fun j => b.body.length - j) 0 ⟨Nat.zero_le _, by simp [bodN]⟩ ?_ (he := by show ent _ (chgs [(0, rkP b18 S ((rawC S F k).map Prod.fst ++ []) (jmpI 0 (rawC S F k)))] _); rw [List.append_nil]; exact ent.gc)
        rintro j ⟨hj, hjl⟩
        refine WP.trim [1, 2, 4, 5, 12, 13, 14] [0, 1, 2] ?_
        refine WP.seq ?_
        refine Zp ?_
        refine Zm ?_
        refine Zf fo_51_4 ?_
        refine Zl 1 ag_49 ?_
        refine Zm ?_
        refine Zx sl_49 hb ?_
        refine Zf fo_58_0 ?_
        refine Zr ag_54 (hrow 0 _ rfl) ?_
        refine Zh sl_54 hbu ?_
        refine Zi ?_
        refine Ze ?_
        refine WP.ite rfl (fun hlt2 => ?_) (fun hge2 => ?_)
        · refine Zb ?_
          obtain ⟨x, gx⟩ : ∃ x, b.body[(j : Int).toNat]? = some x := ⟨_, List.getElem?_eq_getElem (by omega)⟩
          have gx' : b.body[j]? = some x := gx
          have hI := h.ins b hbm x (List.mem_of_getElem? gx)
          rw [hSS] at hI
          have hil := insC_le hI
          have hstp := bodN_step (S := S) gx'
          have hisl : ((rawC S F k).map Prod.fst ++ bodN S b j).length ≤ 1800000000 := by rw [List.length_append, List.length_map]; omega
          obtain ⟨_, ⟨xu0, xs0, rfl, hxu, hxv⟩, hxrow⟩ := hbu.at gx
          obtain ⟨xv, rfl, _, _⟩ := SlR.sv hxv
          obtain ⟨xu, rfl, _, _⟩ := SlR.sv hxu
          generalize hisS : (rawC S F k).map Prod.fst ++ bodN S b j = is1 at hisl ⊢
          refine WP.seq ?_
          refine WP.block ?_
          refine Zp ?_
          refine Zf fo_51_4 ?_
          refine Zl 1 ag_49 ?_
          refine Zm ?_
          refine Zx sl_49 hb ?_
          refine Zf fo_58_0 ?_
          refine Zr ag_54 (hrow 0 _ rfl) ?_
          refine Zm ?_
          refine Zx sl_54 hbu ?_
          refine Run.loadRagg rfl rfl ag_53 rfl rfl hxrow (by rfl) ?_
          refine Run.alloc rfl zr_53 rfl rfl rfl ?_
          intro b15
          refine Run.storeB 3 rfl rfl rfl rfl ag_53 rfl rfl rfl rfl rfl ?_
          refine Ze ?_
          refine Zp ?_
          refine Zf fo_53_0 ?_
          refine Zl 3 ag_3 ?_
          refine Ze ?_
          refine WP.block ?_
          refine Zp ?_
          refine Zi ?_
          refine Zm ?_
          refine Ze ?_
          refine WP.ite rfl (fun h25 => ?_) (fun h25 => ?_)
          · have e : insC S x = callC S x := by simp [insC, h25]
            refine Zc ?_
            refine Zm ?_
            refine Run.loadBagg 3 rfl rfl ag_53 rfl rfl rfl rfl rfl ?_
            refine Run.callP [0] ok_53 (call53_ok hR b18 S is1 (jmpI 0 (rawC S F k)) F x xu xv ⟨hxu, hxv⟩ h.sl.2 hI hSo hisl) ?_; rintro _ _ rfl
            refine Run.nil ?_
            refine blk_norm ?_; refine blk_norm ?_; refine thn_next ?_
            refine Zc ?_
            refine Zm ?_
            refine Za ?_
            refine Zm ?_
            refine Run.nil ?_
            refine thn_next ⟨j + 1, ⟨by omega, by rw [hstp, List.length_append]; omega⟩, by omega, Ko.go, ?_⟩
            rw [hstp, ← List.append_assoc, hisS, e]; exact ent.go
          refine Zp ?_
          refine Zi ?_
          refine Zm ?_
          refine Ze ?_
          refine WP.ite rfl (fun h31 => ?_) (fun h31 => ?_)
          · obtain ⟨hal, hset, _⟩ := hI.nc h25
            have hc := argsN_cases hal h25
            obtain ⟨l, gl⟩ : ∃ l, x.args = [l] := by
              match hx : x.args with
              | [] => rw [hx] at hc; simp at hc; omega
              | [l] => exact ⟨l, rfl⟩
              | a :: b :: c => rw [hx] at hc; simp at hc; omega
            have gl0 : x.args[(0 : Int).toNat]? = some l := by rw [gl]; rfl
            have hdp : placeB F x.dst = true := by
              rcases hI.ds with hd | hd
              · rw [hd, h31] at hset; exact absurd hset (by decide)
              · exact hd
            have hd4 := place_near h.sl.2 hdp
            have hl4 := place_near h.sl.2 (hI.pl l (by rw [gl]; simp))
            have e : insC S x = moveC S x.dst l := by simp [insC, h31, gl]
            refine WP.via (Γ' := [rkP b18 S is1 (jmpI 0 (rawC S F k)), blk b2 (afv F pu.val pv.val) 51, slA 3 encI sv98.val (plsL S F first (k + 1))] ++ [blk b15 (aiv x xu.val xv.val) 53]) (ent.refl _) ?_
            refine WP.freeze (Γ := [rkP b18 S is1 (jmpI 0 (rawC S F k)), blk b2 (afv F pu.val pv.val) 51, slA 3 encI sv98.val (plsL S F first (k + 1))]) [blk b15 (aiv x xu.val xv.val) 53] fun g hg hd => ?_
            have hxu' : SlR rdLc (un hR g) xu.val x.args := hxu.mono (Sub.un_left _ _)
            refine WP.drawn0 cfF mixed rfl (by kernel_rfl) ?_
            refine Zm ?_
            refine Zf fo_53_2 ?_
            refine Run.loadFagg rfl rfl ag_46 rfl rfl (lent_row 0 2 2 hg hd) rfl ?_
            refine Zf fo_53_3 ?_
            refine Run.loadF rfl rfl ag_48 rfl rfl (lent_blk (v := xu.val) 0 4 rfl rfl hg hd) ?_
            refine Run.idxR rfl rfl rfl sl_48 rfl rfl hxu' (by rfl) (by omega) (by rw [gl]; simp) ?_
            refine Run.loadFagg rfl rfl ag_46 rfl rfl (SlR.row hxu' gl0) rfl ?_
            refine Run.callP [0] ok_54 (move54_ok (un hR g) b18 S is1 (jmpI 0 (rawC S F k)) x.dst l hSo hd4.1 hl4.1 hd4.2.2.2 hl4.2.2.2 (by omega)) ?_; rintro _ _ rfl
            refine Run.nil ?_
            refine blk_norm ?_; refine blk_norm ?_; refine thn_next ?_
            refine Zc ?_
            refine Zm ?_
            refine Za ?_
            refine Zm ?_
            refine Run.nil ?_
            refine thn_next ⟨j + 1, ⟨by omega, by rw [hstp, List.length_append]; omega⟩, by omega, Ko.go, ?_⟩
            rw [hstp, ← List.append_assoc, hisS, e]; exact ent.go
          refine Zc ?_
          refine Zm ?_
          refine Run.loadBagg 3 rfl rfl ag_53 rfl rfl rfl rfl rfl ?_
          refine Run.callP [0] ok_55 (one55_ok hR b18 S is1 (jmpI 0 (rawC S F k)) F x xu xv ⟨hxu, hxv⟩ h.sl.2 hI hSo h25 h31 hisl) ?_; rintro _ _ rfl
          refine Run.nil ?_
          refine blk_norm ?_; refine blk_norm ?_; refine thn_next ?_
          refine Zc ?_
          refine Zm ?_
          refine Za ?_
          refine Zm ?_
          refine Run.nil ?_
          refine thn_next ⟨j + 1, ⟨by omega, by rw [hstp, List.length_append]; omega⟩, by omega, Ko.go, ?_⟩
          rw [hstp, ← List.append_assoc, hisS]; exact ent.go
        · refine Zj ?_
          have e : j = b.body.length := by omega
          subst e
          exact thn_next ⟨(), trivial, Ko.go, ent.gc⟩
      intro _ _
      refine WP.trim [1, 2, 4, 5, 12, 13] [0, 1, 2] ?_
      have hrl2 := hrwl (k + 1) (by omega)
      have hs2 := sumB_le F (k + 1)
      have e1 : (rawC S F (k + 1)).map Prod.fst = (rawC S F k).map Prod.fst ++ bodN S b b.body.length ++ (termC S k b.term).map Prod.fst := by
        rw [raw_step gb', blk_eq, List.map_append, List.map_append, fst_none, List.append_assoc]
      have e3 : (rawC S F (k + 1)).length = (rawC S F k).length + ((bodN S b b.body.length).length + (termC S k b.term).length) := by
        rw [raw_step gb', blk_eq, List.length_append, List.length_append, List.length_map]
      have hisl : ((rawC S F k).map Prod.fst ++ bodN S b b.body.length).length = (rawC S F k).length + (bodN S b b.body.length).length := by rw [List.length_append, List.length_map]
      have hjl2 := jmpI_len (rawC S F k) 0
      have e2 : jmpI 0 (rawC S F (k + 1)) = jmpI 0 (rawC S F k) ++ jmpI ((rawC S F k).map Prod.fst ++ bodN S b b.body.length).length (termC S k b.term) := by
        rw [raw_step gb', blk_eq, jmpI_app, jmpI_app, jmpI_none, List.nil_append, List.length_map, hisl, Nat.zero_add]
      refine Zc ?_
      refine Zm ?_
      refine Zm ?_
      refine Zf fo_51_4 ?_
      refine Zl 1 ag_49 ?_
      refine Zm ?_
      refine Zx sl_49 hb ?_
      refine Zf fo_58_1 ?_
      refine Run.loadRagg rfl rfl ag_56 rfl rfl (hrow.part 1 4) rfl ?_
      refine Run.callP [0] ok_56 (term56_ok hR b18 S ((rawC S F k).map Prod.fst ++ bodN S b b.body.length) (jmpI 0 (rawC S F k)) k b.term bt hbt hT hz hzk hSo (by omega) (by omega) (by omega)) ?_; rintro _ _ rfl
      refine Run.nil ?_
      refine blk_norm ?_; refine thn_next ?_
      refine Zc ?_
      refine Zm ?_
      refine Za ?_
      refine Zm ?_
      refine Run.nil ?_
      refine thn_next ⟨(k + 1, sv98), by simp only; omega, by simp only; omega, Ko.go, ?_⟩
      simp only [e1, e2]; exact ent.go
    · refine Zj ?_
      have e : k = F.blocks.length := by omega
      subst e
      exact thn_next ⟨qv, trivial, Ko.go, ent.gc⟩
  intro qv _
  -- the jumps
  have hrl := hrwl F.blocks.length (Nat.le_refl _)
  have hcl : (codeC S F first).length = (rawC S F F.blocks.length).length := by rw [codeC_eq, List.length_map]
  have hflag := raw_flag (S := S) h F.blocks.length (Nat.le_refl _)
  have hs1 := sumB_le F F.blocks.length
  have hst := h.sm.st
  have hpll := plsL_len S F first F.blocks.length
  rw [codeC_eq] at hcl ⊢
  generalize hraw : rawC S F F.blocks.length = raw at hrl hcl hflag ⊢
  have hjl := jmpI_len raw 0
  refine WP.trim [1, 2, 4, 5, 12] [0, 1, 2] ?_
  refine WP.openX 0 ?_
  rintro ⟨iv, jv⟩ _
  refine WP.seq ?_
  refine Zp ?_
  refine Zm ?_
  refine Ze ?_
  refine WP.block ?_
  refine WP.trim [1, 2, 4, 5, 12, 16] [0, 1, 2, 3, 4] ?_
  refine WP.loopC (α := Nat × List (RI × Bool) × List (RI × Bool)) (fun z => raw = z.2.1 ++ z.2.2 ∧ z.1 ≤ (jmpI 0 raw).length ∧ (jmpI 0 raw).drop z.1 = jmpI z.2.1.length z.2.2) (fun z => [(16, vI (z.1 : Int))]) (fun z => [(1, slA 38 encRI iv.val (z.2.1.map (patC S F first) ++ z.2.2.map Prod.fst))]) (fun z => (jmpI 0 raw).length - z.1) (0, [], raw) ⟨rfl, Nat.zero_le _, rfl⟩ ?_
  rintro ⟨i, A, B⟩ ⟨hAB, hi, hdrop⟩
  simp only at hAB hi hdrop ⊢
  refine WP.trim [1, 2, 4, 5, 12, 16] [0, 1, 2, 3, 4] ?_
  refine WP.seq ?_
  refine Zp ?_
  refine Zm ?_
  refine Zm ?_
  refine Zn ?_
  refine Zf fo_92_2 ?_
  refine Zl 0 ag_44 ?_
  refine Run.lenO 2 rfl rfl sl_44 rfl rfl rfl ?_
  refine Zi ?_
  refine Ze ?_
  refine WP.ite rfl (fun hlt => ?_) (fun hge => ?_)
  · refine Zb ?_
    obtain ⟨j, gj⟩ : ∃ j, (jmpI 0 raw)[i]? = some j := ⟨_, List.getElem?_eq_getElem (by omega)⟩
    have hd : (jmpI 0 raw).drop i = j :: (jmpI 0 raw).drop (i + 1) := by
      obtain ⟨h1, h2⟩ := List.getElem?_eq_some_iff.1 gj
      rw [List.drop_eq_getElem_cons h1, h2]
    rw [hd] at hdrop
    obtain ⟨C, x, D, rfl, hC, rfl, hrest⟩ := jmp_split hdrop.symm
    have hxr : (x, true) ∈ raw := by rw [hAB]; simp
    obtain ⟨hn0, hn1⟩ := hflag _ hxr rfl
    simp only at hn0 hn1
    have gx : (A.map (patC S F first) ++ (C ++ (x, true) :: D).map Prod.fst)[A.length + C.length]? = some x := by
      rw [List.getElem?_append_right (by simp), List.map_append, List.length_map, Nat.add_sub_cancel_left, List.getElem?_append_right (by simp), List.length_map, Nat.sub_self]; rfl
    have hlt2 := (List.getElem?_eq_some_iff.1 gx).1
    have gp := plsL_get (S := S) (F := F) (first := first) hn0 hn1
    have hnn : ((x.n.toNat : Nat) : Int) = x.n := Int.toNat_of_nonneg hn0
    refine WP.seq ?_
    refine WP.block ?_
    refine WP.drawn0 cf0 mixed rfl (by kernel_rfl) ?_
    refine Zm ?_
    refine Zn ?_
    refine Zf fo_92_1 ?_
    refine Zl 0 ag_29 ?_
    refine Zm ?_
    refine Zn ?_
    refine Zf fo_92_2 ?_
    refine Zl 0 ag_44 ?_
    refine Zm ?_
    refine Run.idxO 2 rfl rfl rfl sl_44 rfl rfl rfl rfl (by omega) (by omega) ?_
    refine Run.loadO 2 i 0 rfl rfl ag_3 rfl rfl rfl rfl gj rfl ?_
    refine Zm ?_
    refine Zm ?_
    refine Zn ?_
    refine Zf fo_92_1 ?_
    refine Zl 0 ag_29 ?_
    refine Zm ?_
    refine Zn ?_
    refine Zf fo_92_2 ?_
    refine Zl 0 ag_44 ?_
    refine Zm ?_
    refine Run.idxO 2 rfl rfl rfl sl_44 rfl rfl rfl rfl (by omega) (by omega) ?_
    refine Run.loadO 2 i 0 rfl rfl ag_3 rfl rfl rfl rfl gj rfl ?_
    refine Run.idxO 1 rfl rfl rfl sl_29 rfl rfl rfl rfl (by omega) (by omega) ?_
    refine Zf fo_38_4 ?_
    refine Run.loadO 1 (A.length + C.length) 4 rfl rfl ag_3 rfl rfl rfl rfl gx rfl ?_
    refine Run.idxO 4 rfl rfl rfl sl_44 rfl rfl rfl rfl (by omega) (by omega) ?_
    refine Run.loadO 4 x.n.toNat 0 rfl rfl ag_3 rfl rfl rfl rfl gp rfl ?_
    refine Run.idxO 1 rfl rfl rfl sl_29 rfl rfl rfl rfl (by omega) (by omega) ?_
    refine Zf fo_38_4 ?_
    refine Run.storeO 1 (A.length + C.length) 4 rfl rfl rfl rfl ag_3 rfl rfl rfl rfl gx (y' := { x with n := placeC S F first x.n }) rfl rfl ?_
    refine Run.nil ?_
    refine blk_norm ?_; refine thn_next ?_
    refine Zc ?_
    refine Zm ?_
    refine Za ?_
    refine Zm ?_
    refine Run.nil ?_
    have e : (A.map (patC S F first) ++ (C ++ (x, true) :: D).map Prod.fst).set (A.length + C.length) { x with n := placeC S F first x.n } = (A ++ (C ++ [(x, true)])).map (patC S F first) ++ D.map Prod.fst := by
      rw [List.set_append_right _ _ (by simp), List.length_map, Nat.add_sub_cancel_left, List.map_append, List.set_append_right _ _ (by simp), List.length_map, Nat.sub_self]
      rw [List.map_append, List.map_append, pat_none hC]
      simp [patC]
    refine thn_next ⟨(i + 1, A ++ (C ++ [(x, true)]), D), ⟨by rw [hAB]; simp, by omega, ?_⟩, by omega, Ko.go, by simp only [← e]; exact ent.gc⟩
    simp only
    rw [hrest]; congr 1
    simp only [List.length_append, List.length_singleton]; omega
  · refine Zj ?_; refine thn_next ?_
    have hnil : jmpI A.length B = [] := by rw [← hdrop]; exact List.drop_eq_nil_of_le (by omega)
    have e : A.map (patC S F first) ++ B.map Prod.fst = raw.map (patC S F first) := by
      rw [hAB, List.map_append, pat_none (jmp_nil hnil)]
    rw [e]
    refine Zp ?_
    refine Zm ?_
    refine Zm ?_
    refine Ze ?_
    refine WP.ret ?_
    exact retT [4] _ rfl rfl ⟨[rkP b18 S (raw.map (patC S F first)) (jmpI 0 raw)], (show ent _ (rkC b18 S (raw.map (patC S F first)) (jmpI 0 raw) ⟨iv, jv⟩) from ent.go).trans (rkP_shut (is := raw.map (patC S F first)) (js := jmpI 0 raw) ⟨iv, jv⟩ []), ⟨b18, _, rfl, rfl⟩, by rw [List.length_map]; omega⟩
end Go.Proofs.YtfaokbjpinlcaaaGreat
end
section
/- The document's code of a program; walked. -/
namespace Go.Proofs.YtfaokbjpinlcaaaGreat
open Go.Sep
set_option linter.unusedSimpArgs false
set_option linter.unusedVariables false
set_option maxRecDepth 100000
attribute [local irreducible] blk slA mp mpF rows rowsBut many mpK mpE nameL
theorem flag_row {hR : Heap} {bm : Nat} {S : List Int} {iv jv : Value} (hc : rowH hR ⟨bm, 0, none⟩ (rkV S iv jv)) {i : Nat} (hi : i < 8) : cellH hR ((Addr.mk bm 0 none).add ((i : Int).toNat * 1)) (flg S (i : Int)) := by
  have := hc i _ (flag_at hi)
  simpa using this
set_option maxHeartbeats 2000000 in
theorem countR_ok (hR : Heap) (bm : Nat) (S : List Int) (iv jv : Value) (hc : rowH hR ⟨bm, 0, none⟩ (rkV S iv jv)) (r : Nat) (hr : r ≤ 8) : Tri Tryz.prog hR 57 #[ptrV bm, vI (r : Int)] [] fun v Γ' => v = vI (belowN S r : Int) ∧ Γ' = [] := by
  refine Tri.ent (Tri.of (args := [ptrV bm, vI (r : Int)]) Tryz.func57 rfl Tryz.ntmps57 (by simp) ?_)
  refine Zp ?_
  refine Zm ?_
  refine Ze ?_
  refine Zp ?_
  refine Zm ?_
  refine Ze ?_
  refine WP.trim [0, 1, 4, 5] [] ?_
  refine WP.meetC (α := Unit) (fun _ => True) (fun _ => [(5, vI (belowN S r : Int))]) (fun _ => []) ?_ ?_
  · refine Zp ?_
    refine Zm ?_
    refine Ze ?_
    refine WP.block ?_
    refine WP.trim [0, 1, 4, 5, 6] [] ?_
    refine WP.loopC (α := Nat) (fun i => i ≤ r) (fun i => [(5, vI (belowN S i : Int)), (6, vI (i : Int))]) (fun _ => []) (fun i => r - i) 0 (Nat.zero_le _) ?_
    rintro i hi
    refine WP.trim [0, 1, 4, 5, 6] [] ?_
    have hbl : belowN S i ≤ i := by
      unfold belowN
      have := List.countP_le_length (p := fun i : Nat => decide ((i : Int) ∈ S)) (l := List.range i)
      rwa [List.length_range] at this
    refine WP.seq ?_
    refine Zp ?_
    refine Zm ?_
    refine Zm ?_
    refine Zi ?_
    refine Ze ?_
    refine WP.ite rfl (fun hlt => ?_) (fun hge => ?_)
    · refine Zb ?_
      have hs := belowN_succ S i
      refine WP.seq ?_
      refine WP.block ?_
      refine Zp ?_
      refine Zm ?_
      refine Zm ?_
      refine Zn ?_
      refine Zf fo_92_0 ?_
      refine Run.idxArr rfl rfl rfl ar_90 rfl rfl (by first | omega | (simp <;> omega)) (by first | omega | (simp <;> omega)) ?_
      refine Run.loadR rfl rfl ag_4 rfl rfl (flag_row hc (by omega)) ?_
      refine Ze ?_
      refine WP.ite rfl (fun hy => ?_) (fun hy => ?_)
      · rw [if_pos hy] at hs
        refine Zc ?_
        refine Zm ?_
        refine Za ?_
        refine Zm ?_
        refine Run.nil ?_
        refine blk_norm ?_; refine thn_next ?_
        refine Zc ?_
        refine Zm ?_
        refine Za ?_
        refine Zm ?_
        refine Run.nil ?_
        exact thn_next ⟨i + 1, by omega, by omega, by rw [hs]; exact Ko.go, ent.gc⟩
      · rw [if_neg hy] at hs
        refine WP.skip ?_; refine blk_norm ?_; refine thn_next ?_
        refine Zc ?_
        refine Zm ?_
        refine Za ?_
        refine Zm ?_
        refine Run.nil ?_
        exact thn_next ⟨i + 1, by omega, by omega, by rw [hs]; exact Ko.go, ent.gc⟩
    · refine Zj ?_
      obtain rfl : i = r := by omega
      exact thn_next ⟨(), trivial, Ko.go, ent.gc⟩
  intro _ _
  refine Zp ?_
  refine Zm ?_
  refine Zm ?_
  refine Ze ?_
  refine WP.ret ?_
  exact retT [4] _ rfl rfl ⟨_, ent.none _, rfl, rfl⟩
theorem word28R_ok (hR : Heap) (bm : Nat) (S : List Int) (iv jv : Value) (hc : rowH hR ⟨bm, 0, none⟩ (rkV S iv jv)) (hS : SvOk S) (s : Int) (hs : -1000000 ≤ s ∧ s ≤ 1000000) : Tri Tryz.prog hR 28 #[ptrV bm, vI s] [] fun v Γ' => v = vI (slotW S s) ∧ Γ' = [] := by
  have hbl : belowN S 8 ≤ 8 := by
    unfold belowN
    have := List.countP_le_length (p := fun i : Nat => decide ((i : Int) ∈ S)) (l := List.range 8)
    rwa [List.length_range] at this
  refine Tri.ent (Tri.of (args := [ptrV bm, vI s]) Tryz.func28 rfl Tryz.ntmps28 (by simp) ?_)
  refine Zp ?_
  refine Zm ?_
  refine Ze ?_
  refine Zp ?_
  refine Zm ?_
  refine Run.callP [] ok_57 (countR_ok hR bm S iv jv hc 8 (Nat.le_refl _)) ?_; rintro _ _ ⟨rfl, rfl⟩
  refine Za ?_
  refine Zm ?_
  refine Za ?_
  refine Zm ?_
  refine Ze ?_
  refine WP.ret ?_
  exact retT [4] _ rfl rfl ⟨_, ent.none _, by rw [hS.word]; rfl, rfl⟩
theorem okA_trm {nm : ByteArray → Bool} {A : AL} (h : okA nm A = true) {F : AF} (hF : F ∈ A.funcs) : ∀ b ∈ F.blocks, noneB b.term.value = true ∨ placeB F b.term.value = true := fun b hb => by
  unfold okA at h
  rw [Bool.and_eq_true, Bool.and_eq_true, Bool.and_eq_true] at h
  have := List.all_eq_true.1 h.1.1.1 F hF
  rw [Bool.and_eq_true] at this
  have ht := ((funB_spec this.2).2.2.2 b hb).2
  unfold termB at ht
  rw [Bool.and_eq_true, Bool.and_eq_true, Bool.or_eq_true] at ht
  exact ht.1.1
set_option maxHeartbeats 4000000 in
theorem emit11_ok (hR : Heap) (A : AL) (fv : SV) (hA : ALv hR A fv) :
    Tri Tryz.prog hR 11 #[.agg ⟨alv A fv⟩] [] fun v Γ' => (okA nmB A = true ∧ ∃ iv gv : SV, v = .tuple #[.agg ⟨[iv.val, gv.val, vI A.main]⟩, vI 0] ∧ Γ' = [slA 38 encRI iv.val (emL A.funcs).1, slA 77 encRF gv.val (emL A.funcs).2]) ∨
      (okA nmB A = false ∧ v = .tuple #[.agg ⟨[nilS.val, nilS.val, vI 0]⟩, vI 190] ∧ Γ' = []) := by
  have hf := hA.hf
  have hl1 := hA.sm.sf
  refine Tri.ent (Tri.of (args := [.agg ⟨alv A fv⟩]) Tryz.func11 rfl Tryz.ntmps11 (by simp) ?_)
  refine Zp ?_
  refine Run.box rfl rfl rfl rfl rfl ?_
  intro b1
  refine Run.alloc rfl zr_32 rfl rfl rfl ?_
  intro b2
  refine Zm ?_
  refine Ze ?_
  refine WP.seq ?_
  refine Zp ?_
  refine Run.loadBagg 0 rfl rfl ag_24 rfl rfl rfl rfl rfl ?_
  refine Run.callP [] ok_26 (check26_ok hR A fv hA) ?_; rintro _ _ ⟨rfl, rfl⟩
  refine Zi ?_
  refine Run.eqv (v' := .bool (decide (okA nmB A = false))) (by cases okA nmB A <;> rfl) ?_
  refine Ze ?_
  refine WP.ite rfl (fun hbad => ?_) (fun hgood => ?_)
  · rw [hbad]
    refine Zp ?_
    refine Run.build rfl bd_32 rfl rfl rfl rfl ?_
    refine Run.storeB 1 rfl rfl rfl rfl ag_32 rfl rfl rfl rfl rfl ?_
    refine Zm ?_
    refine Ze ?_
    refine WP.ret ?_; refine thn_ret ?_
    exact retCT 2 1 3 ag_32 rfl rfl rfl rfl rfl ⟨_, ent.none _, .inr ⟨rfl, rfl, rfl⟩⟩
  refine Zb ?_
  have hok := btrue hgood
  rw [hok]
  refine WP.trim [1, 2, 3] [0, 1] ?_
  refine Zp ?_
  refine Zf fo_24_1 ?_
  refine Zl 0 ag_3 ?_
  refine Run.build rfl bd_32 rfl rfl rfl rfl ?_
  refine Run.alloc rfl zr_32 rfl rfl rfl ?_
  intro b4
  refine Run.storeB 2 rfl rfl rfl rfl ag_32 rfl rfl rfl rfl rfl ?_
  refine Ze ?_
  refine WP.trim [1, 2, 3, 4] [0, 1, 2] ?_
  refine WP.via (Γ' := [blk b1 (alv A fv) 24, blk b2 [nilS.val, nilS.val, vI 0] 32, blk b4 [nilS.val, nilS.val, vI A.main] 32, slA 38 encRI nilS.val [], slA 77 encRF nilS.val []]) ((slA_nil 38 encRI _).trans (slA_nil 77 encRF _)) ?_
  refine WP.meetC (α := SV × SV) (fun _ => True) (fun _ => []) (fun z => [(2, blk b4 [z.1.val, z.2.val, vI A.main] 32), (3, slA 38 encRI z.1.val (emL A.funcs).1), (4, slA 77 encRF z.2.val (emL A.funcs).2)]) ?_ ?_
  · refine Zp ?_
    refine Zm ?_
    refine Ze ?_
    refine WP.block ?_
    refine WP.trim [1, 2, 3, 4, 5] [0, 1, 2, 3, 4] ?_
    refine WP.loopC (α := Nat × SV × SV) (fun z => z.1 ≤ A.funcs.length ∧ (emL (A.funcs.take z.1)).1.length ≤ 3000000 * z.1 ∧ (emL (A.funcs.take z.1)).2.length = z.1) (fun z => [(5, vI (z.1 : Int))]) (fun z => [(2, blk b4 [z.2.1.val, z.2.2.val, vI A.main] 32), (3, slA 38 encRI z.2.1.val (emL (A.funcs.take z.1)).1), (4, slA 77 encRF z.2.2.val (emL (A.funcs.take z.1)).2)]) (fun z => A.funcs.length - z.1) (0, nilS, nilS) ⟨Nat.zero_le _, Nat.zero_le _, rfl⟩ ?_
    rintro ⟨i, iv, gv⟩ ⟨hi, hlI, hlF⟩
    simp only at hi hlI hlF ⊢
    refine WP.trim [1, 2, 3, 4, 5] [0, 1, 2, 3, 4] ?_
    refine WP.seq ?_
    refine Zp ?_
    refine Zm ?_
    refine Zf fo_24_0 ?_
    refine Zl 0 ag_22 ?_
    refine Zh sl_22 hf ?_
    refine Zi ?_
    refine Ze ?_
    refine WP.ite rfl (fun hlt => ?_) (fun hge => ?_)
    · refine Zb ?_
      obtain ⟨F, gF⟩ : ∃ b, A.funcs[(i : Int).toNat]? = some b := ⟨_, List.getElem?_eq_getElem (by omega)⟩
      have gF' : A.funcs[i]? = some F := gF
      have hstep := emL_step gF'
      have hFo := okA_fun hok hA.sm (List.mem_of_getElem? gF)
      have htv := okA_trm hok (List.mem_of_getElem? gF)
      obtain ⟨_, ⟨fu0, fv0, rfl, hfu, hfv⟩, hrow⟩ := hf.at gF
      obtain ⟨fu, rfl, _, _⟩ := SlR.sv hfu
      obtain ⟨fw, rfl, _, _⟩ := SlR.sv hfv
      generalize emL (A.funcs.take i) = st at hlI hlF hstep ⊢
      obtain ⟨is, gs⟩ := st
      simp only at hlI hlF ⊢
      refine WP.seq ?_
      refine WP.block ?_
      refine Zp ?_
      refine Zf fo_24_0 ?_
      refine Zl 0 ag_22 ?_
      refine Zm ?_
      refine Zx sl_22 hf ?_
      refine Run.loadRagg rfl rfl ag_51 rfl rfl hrow (by rfl) ?_
      refine Run.alloc rfl zr_51 rfl rfl rfl ?_
      intro b6
      refine Run.storeB 5 rfl rfl rfl rfl ag_51 rfl rfl rfl rfl rfl ?_
      refine Ze ?_
      refine WP.trim [1, 2, 3, 4, 5, 6] [0, 1, 2, 3, 4, 5] ?_
      refine Zp ?_
      refine Run.loadBagg 5 rfl rfl ag_51 rfl rfl rfl rfl rfl ?_
      refine Zf fo_32_0 ?_
      refine Zl 2 ag_29 ?_
      refine Run.lenO 3 rfl rfl sl_29 rfl rfl rfl ?_
      refine Run.callP [] ok_27 (function27_ok hR F fu fw ⟨hfu, hfv⟩ hFo htv (is.length : Int) ⟨by omega, by omega⟩) ?_; rintro _ _ ⟨⟨bm, js, rfl, rfl⟩, hcl⟩
      refine Zm ?_
      refine Ze ?_
      have hSo : SvOk (savS F) := ⟨savS_lt F, fun r hr => hFo.sv r ((savS_mem hFo.sv r).1 hr)⟩
      have hS8 := savS_len F
      have hsl := hFo.sl
      have e2 : emS (is, gs) F = (is ++ codeC (savS F) F (is.length : Int), gs ++ [⟨F.name, slotW (savS F) F.slots, is.length, (codeC (savS F) F (is.length : Int)).length, F.params.length⟩]) := rfl
      generalize savS F = S at hS8 hSo hcl e2 ⊢
      generalize codeC S F (is.length : Int) = code at hcl e2 ⊢
      refine WP.openX 0 ?_
      rintro ⟨cv, jv⟩ _
      refine WP.trim [1, 2, 3, 4, 5, 6, 7] [3, 4, 6, 7, 1, 5, 8, 0] ?_
      refine WP.seq ?_
      refine WP.via (Γ' := [blk b1 (alv A fv) 24, blk b2 [nilS.val, nilS.val, vI 0] 32, slA 38 encRI iv.val is, slA 77 encRF gv.val gs, slA 38 encRI cv.val code] ++ [blk b4 [iv.val, gv.val, vI A.main] 32, blk b6 (afv F fu.val fw.val) 51, blk bm (rkV S cv.val jv.val) 92]) (ent.refl _) ?_
      refine WP.drawnF cfF [0, 1, 2, 3, 4, 5, 6, 7, 8, 9, 10, 11, 12, 13, 14, 15, 16, 17, 18, 19, 20, 21, 22] [23] ([blk b4 [iv.val, gv.val, vI A.main] 32, blk b6 (afv F fu.val fw.val) 51, blk bm (rkV S cv.val jv.val) 92]) mixed rfl rfl (by kernel_rfl) (fun gF hgF hdF => ?_)
      refine Zf fo_32_1 ?_
      refine Run.loadF rfl rfl ag_30 rfl rfl (lent_blk (v := gv.val) 0 1 rfl rfl hgF hdF) ?_
      refine Zf fo_51_0 ?_
      refine Run.loadF rfl rfl ag_9 rfl rfl (lent_blk (v := .string F.name) 1 0 rfl rfl hgF hdF) ?_
      refine Zm ?_
      refine Zf fo_51_3 ?_
      refine Run.loadF rfl rfl ag_3 rfl rfl (lent_blk (v := vI F.slots) 1 3 rfl rfl hgF hdF) ?_
      refine Run.callP [] ok_28 (word28R_ok (un hR gF) bm S cv.val jv.val (lent_row 2 0 10 hgF hdF) hSo F.slots (by omega)) ?_; rintro _ _ ⟨rfl, rfl⟩
      refine Zf fo_32_0 ?_
      refine Run.loadF rfl rfl ag_29 rfl rfl (lent_blk (v := iv.val) 0 0 rfl rfl hgF hdF) ?_
      refine Run.lenO 2 rfl rfl sl_29 rfl rfl rfl ?_
      refine Zm ?_
      refine Zn ?_
      refine Zf fo_92_1 ?_
      refine Run.loadF rfl rfl ag_29 rfl rfl (lent_blk (v := cv.val) 2 8 rfl rfl hgF hdF) ?_
      refine Run.lenO 4 rfl rfl sl_29 rfl rfl rfl ?_
      refine Zf fo_51_1 ?_
      refine Run.loadF rfl rfl ag_48 rfl rfl (lent_blk (v := fu.val) 1 1 rfl rfl hgF hdF) ?_
      refine Zh sl_48 (hfu.mono (Sub.un_left _ _)) ?_
      refine Run.build rfl bd_77 rfl rfl rfl rfl ?_
      refine Run.buildSlice (E := encRF) rfl sl_30 zr_77 ([(⟨F.name, slotW S F.slots, is.length, code.length, F.params.length⟩ : RF)]) rfl rfl rfl (by decide) rfl rfl ?_
      intro b53
      refine Run.append (E := encRF) (xs := gs) (ys := [(⟨F.name, slotW S F.slots, is.length, code.length, F.params.length⟩ : RF)]) 3 rfl rfl rfl rfl rfl rfl sl_30 zr_77 rfl (src_own 5 rfl) (by simp only [List.length_singleton]; omega) (by simp only [List.length_singleton]; omega) ?_
      intro gv2 hgv2
      refine Zf fo_32_1 ?_
      refine Run.nil ?_
      refine Run.storeB 6 rfl rfl rfl rfl ag_30 rfl rfl rfl rfl rfl ?_
      refine Ze ?_
      refine WP.trim [1, 2, 3, 4, 5, 6, 7] [0, 1, 6, 2, 3, 7, 8, 4] ?_
      refine Zp ?_
      refine Zm ?_
      refine Ze ?_
      refine WP.block ?_
      refine WP.trim [1, 2, 3, 4, 5, 6, 7, 8] [0, 1, 2, 3, 4, 5, 6, 7] ?_
      refine WP.loopC (α := Nat × SV) (fun z => z.1 ≤ code.length) (fun z => [(8, vI (z.1 : Int))]) (fun z => [(2, blk b4 [z.2.val, gv2.val, vI A.main] 32), (3, slA 38 encRI z.2.val (is ++ code.take z.1))]) (fun z => code.length - z.1) (0, iv) (Nat.zero_le _) ?_ (he := by simp only [List.take_zero, List.append_nil]; exact ent.gc)
      rintro ⟨j, iv2⟩ hj
      simp only at hj ⊢
      refine WP.trim [1, 2, 3, 4, 5, 6, 7, 8] [0, 1, 2, 3, 4, 5, 6, 7] ?_
      refine WP.seq ?_
      refine Zp ?_
      refine Zm ?_
      refine Zm ?_
      refine Zn ?_
      refine Zf fo_92_1 ?_
      refine Zl 6 ag_29 ?_
      refine Run.lenO 7 rfl rfl sl_29 rfl rfl rfl ?_
      refine Zi ?_
      refine Ze ?_
      refine WP.ite rfl (fun hlt2 => ?_) (fun hge2 => ?_)
      · refine Zb ?_
        obtain ⟨x, gx⟩ : ∃ b, code[j]? = some b := ⟨_, List.getElem?_eq_getElem (by omega)⟩
        have hlen2 : (is ++ code.take j).length = is.length + j := by rw [List.length_append, List.length_take]; omega
        refine WP.seq ?_
        refine WP.block ?_
        refine WP.drawn0 cf0 mixed rfl (by kernel_rfl) ?_
        refine Zf fo_32_0 ?_
        refine Zl 2 ag_29 ?_
        refine Zm ?_
        refine Zn ?_
        refine Zf fo_92_1 ?_
        refine Zl 6 ag_29 ?_
        refine Zm ?_
        refine Run.idxO 7 rfl rfl rfl sl_29 rfl rfl rfl rfl (by omega) (by omega) ?_
        refine Run.loadOagg 7 j rfl rfl ag_38 rfl rfl rfl rfl rfl gx ?_
        refine Run.buildSlice (E := encRI) rfl sl_29 zr_38 ([x]) rfl rfl rfl (by decide) rfl rfl ?_
        intro b74
        refine Run.append (E := encRI) (xs := is ++ code.take j) (ys := [x]) 3 rfl rfl rfl rfl rfl rfl sl_29 zr_38 rfl (src_own 8 rfl) (by simp only [List.length_singleton]; omega) (by simp only [List.length_singleton]; omega) ?_
        intro iv3 hiv3
        refine Zf fo_32_0 ?_
        refine Run.storeB 2 rfl rfl rfl rfl ag_29 rfl rfl rfl rfl rfl ?_
        refine Run.nil ?_
        refine blk_norm ?_; refine thn_next ?_
        refine Zc ?_
        refine Zm ?_
        refine Za ?_
        refine Zm ?_
        refine Run.nil ?_
        have e : is ++ code.take (j + 1) = (is ++ code.take j) ++ [x] := by rw [List.take_add_one, gx, List.append_assoc]; rfl
        refine thn_next ⟨(j + 1, iv3), by simp only; omega, by simp only; omega, Ko.go, by simp only [e]; exact ent.gc⟩
      · refine Zj ?_; refine blk_norm ?_; refine thn_next ?_
        rw [List.take_of_length_le (by omega)]
        refine Zc ?_
        refine Zm ?_
        refine Za ?_
        refine Zm ?_
        refine Run.nil ?_
        refine thn_next ⟨(i + 1, iv2, gv2), ⟨by simp only; omega, ?_, ?_⟩, by simp only; omega, Ko.go, ?_⟩
        · simp only; rw [hstep, e2, List.length_append]; omega
        · simp only; rw [hstep, e2, List.length_append, List.length_singleton, hlF]
        · simp only [hstep, e2]; exact ent.gc
    · refine Zj ?_
      obtain rfl : i = A.funcs.length := by omega
      rw [List.take_length]
      exact thn_next ⟨(iv, gv), trivial, Ko.go, ent.gc⟩
  rintro ⟨iv, gv⟩ _
  simp only
  refine Zp ?_
  refine Run.loadBagg 2 rfl rfl ag_32 rfl rfl rfl rfl rfl ?_
  refine Run.storeB 1 rfl rfl rfl rfl ag_32 rfl rfl rfl rfl rfl ?_
  refine Zm ?_
  refine Ze ?_
  refine WP.ret ?_
  exact retCT 2 1 3 ag_32 rfl rfl rfl rfl rfl ⟨[slA 38 encRI iv.val (emL A.funcs).1, slA 77 encRF gv.val (emL A.funcs).2], ent.go, .inl ⟨trivial, iv, gv, rfl, rfl⟩⟩
end Go.Proofs.YtfaokbjpinlcaaaGreat
end
section
/- alive: what a program that does nothing does not tell; walked. -/
namespace Go.Proofs.YtfaokbjpinlcaaaGreat
open Go.Sep
set_option linter.unusedSimpArgs false
set_option linter.unusedVariables false
set_option maxRecDepth 100000
attribute [local irreducible] blk slA mp mpF rows rowsBut many mpK mpE
theorem emit_good (hR : Heap) (A : AL) (fv : SV) (hA : ALv hR A fv) (hok : okA nmB A = true) : Tri Tryz.prog hR 9 #[.agg ⟨alv A fv⟩] [] fun v Γ' => ∃ iv gv : SV, v = .tuple #[.agg ⟨[iv.val, gv.val, vI A.main]⟩, vI 0] ∧ Γ' = [slA 38 encRI iv.val (emL A.funcs).1, slA 77 encRF gv.val (emL A.funcs).2] :=
  Tri.mono (fun v Γ h => by
    rcases h with ⟨_, h⟩ | ⟨h, _⟩
    · exact h
    · rw [hok] at h; cases h) (emit_ok hR A fv hA)
theorem emit_bad (hR : Heap) (A : AL) (fv : SV) (hA : ALv hR A fv) (hok : okA nmB A = false) : Tri Tryz.prog hR 9 #[.agg ⟨alv A fv⟩] [] fun v Γ' => v = .tuple #[.agg ⟨[nilS.val, nilS.val, vI 0]⟩, vI 190] ∧ Γ' = [] :=
  Tri.mono (fun v Γ h => by
    rcases h with ⟨h, _⟩ | ⟨_, h⟩
    · rw [hok] at h; cases h
    · exact h) (emit_ok hR A fv hA)
def sIs : List RI := [⟨1, 0, 0, 0, 7⟩, ⟨27, 0, 0, 0, 0⟩, ⟨36, 0, 0, 0, 0⟩, ⟨25, 0, 0, 0, 2⟩, ⟨26, 0, 0, 0, 0⟩, ⟨2, 8, 0, 0, 0⟩, ⟨24, 0, 0, 0, 2⟩, ⟨2, 1, 8, 0, 0⟩, ⟨37, 0, 0, 0, 0⟩, ⟨37, 1, 0, 0, 0⟩, ⟨25, 1, 0, 0, 3⟩, ⟨26, 0, 0, 0, 0⟩, ⟨24, 8, 0, 0, 3⟩, ⟨37, 8, 0, 0, 0⟩, ⟨27, 0, 0, 0, 0⟩]
def sFs : List RF := [⟨sevenF.name, 2, 0, 2, 0⟩, ⟨mainF.name, 4, 2, 13, 0⟩]
theorem emit_samp (hR : Heap) (fv : SV) (hA : ALv hR sampA fv) : Tri Tryz.prog hR 9 #[.agg ⟨alv sampA fv⟩] [] fun v Γ' => ∃ iv gv : SV, v = .tuple #[.agg ⟨[iv.val, gv.val, vI 1]⟩, vI 0] ∧ Γ' = [slA 38 encRI iv.val sIs, slA 77 encRF gv.val sFs] := by
  have h := emit_good hR sampA fv hA samp_ok
  rw [samp_code] at h
  exact h
theorem none_bad : okA nmB ⟨[], 0⟩ = false := by decide
theorem none_v (hR : Heap) : ALv hR ⟨[], 0⟩ nilS := ⟨nil_read _ _, ⟨by simp, fun F hF => by cases hF⟩⟩
set_option maxHeartbeats 2000000 in
theorem alive_ok (hR : Heap) : Tri Tryz.prog hR 7 #[] [] fun r Γ' => r = .bool true ∧ Γ' = [] := by
  refine Tri.ent (Tri.of (args := []) Tryz.func7 rfl Tryz.ntmps7 (by simp) ?_)
  refine Zp ?_
  refine Zm ?_
  refine Ze ?_
  refine Zp ?_
  refine Run.callP [] ok_18 (sample_ok hR) ?_; rintro _ _ ⟨w1, w2, w3, w4, w5, w6, w7, w8, w9, w10, rfl, rfl⟩
  refine Run.callL [] [0, 1, 2, 3, 4, 5, 6, 7, 8, 9] ok_9 (fun g hg hd => emit_samp (un hR g) w10 (samp_reads hg hd)) ?_; rintro _ _ ⟨iv, gv, rfl, rfl⟩
  refine Zm ?_
  refine Run.extract rfl rfl rfl rfl rfl ?_
  refine Run.extract rfl rfl rfl rfl rfl ?_
  refine Run.alloc rfl zr_32 rfl rfl rfl ?_
  intro b1
  refine Run.storeB 12 rfl rfl rfl rfl ag_32 rfl rfl rfl rfl rfl ?_
  refine Zm ?_
  refine Ze ?_
  refine WP.trim [0, 1, 2] [0, 1, 12] ?_
  refine WP.seq ?_
  refine Zp ?_
  refine Zm ?_
  refine Run.callP [] ok_16 (num_ok hR 0) ?_; rintro _ _ ⟨rfl, rfl⟩
  refine Zi ?_
  refine Run.ff (fun h => h rfl) ?_
  refine Zm ?_
  refine Zf fo_32_1 ?_
  refine Zl 2 ag_30 ?_
  refine Run.lenO 1 rfl rfl sl_30 rfl rfl rfl ?_
  refine Zi ?_
  refine Run.ff (by decide) ?_
  refine Zq ?_
  refine Zm ?_
  refine Zf fo_32_0 ?_
  refine Zl 2 ag_29 ?_
  refine Run.lenO 0 rfl rfl sl_29 rfl rfl rfl ?_
  refine Zi ?_
  refine Run.ff (by decide) ?_
  refine Zq ?_
  refine Zm ?_
  refine Zf fo_32_2 ?_
  refine Zl 2 ag_3 ?_
  refine Zi ?_
  refine Run.ff (fun h => h rfl) ?_
  refine Zq ?_
  refine Zm ?_
  refine Zf fo_32_1 ?_
  refine Zl 2 ag_30 ?_
  refine Run.idxO 1 rfl rfl rfl sl_30 rfl rfl rfl rfl (by decide) (by decide) ?_
  refine Zf fo_77_1 ?_
  refine Run.loadO 1 1 1 (y := ⟨mainF.name, 4, 2, 13, 0⟩) rfl rfl ag_3 rfl rfl rfl rfl rfl rfl ?_
  refine Zi ?_
  refine Run.ff (by decide) ?_
  refine Zq ?_
  refine Zm ?_
  refine Zf fo_32_1 ?_
  refine Zl 2 ag_30 ?_
  refine Run.idxO 1 rfl rfl rfl sl_30 rfl rfl rfl rfl (by decide) (by decide) ?_
  refine Zf fo_77_2 ?_
  refine Run.loadO 1 1 2 (y := ⟨mainF.name, 4, 2, 13, 0⟩) rfl rfl ag_3 rfl rfl rfl rfl rfl rfl ?_
  refine Zi ?_
  refine Run.ff (by decide) ?_
  refine Zq ?_
  refine Ze ?_
  refine Zno ?_
  refine Zb ?_
  refine WP.trim [0, 1, 2] [0, 1, 2] ?_
  refine Zp ?_
  refine Run.build rfl bd_24 rfl rfl rfl rfl ?_
  refine Run.callP [] ok_9 (emit_bad hR ⟨[], 0⟩ nilS (none_v hR) none_bad) ?_; rintro _ _ ⟨rfl, rfl⟩
  refine Zm ?_
  refine Run.extract rfl rfl rfl rfl rfl ?_
  refine Run.extract rfl rfl rfl rfl rfl ?_
  refine Run.alloc rfl zr_32 rfl rfl rfl ?_
  intro b3
  refine Run.storeB 3 rfl rfl rfl rfl ag_32 rfl rfl rfl rfl rfl ?_
  refine Zm ?_
  refine Ze ?_
  refine WP.trim [0, 1, 2, 4] [0, 1, 2] ?_
  refine Zp ?_
  refine Zm ?_
  refine Run.callP [] ok_16 (num_ok hR 190) ?_; rintro _ _ ⟨rfl, rfl⟩
  refine Zi ?_
  refine Run.tt rfl ?_
  refine Zm ?_
  refine Zf fo_32_0 ?_
  refine Zl 2 ag_29 ?_
  refine Run.idxO 0 rfl rfl rfl sl_29 rfl rfl rfl rfl (by decide) (by decide) ?_
  refine Run.loadOagg 0 3 rfl rfl ag_38 rfl rfl rfl rfl rfl (y := ⟨25, 0, 0, 0, 2⟩) rfl ?_
  refine Run.build rfl bd_38 rfl rfl rfl rfl ?_
  refine Run.eqS rfl rfl rfl is_38 nf_38 rfl rfl rfl rfl ?_
  refine Run.eqv (v' := .bool true) (by simp) ?_
  refine Zq ?_
  refine Zm ?_
  refine Zf fo_32_0 ?_
  refine Zl 2 ag_29 ?_
  refine Run.idxO 0 rfl rfl rfl sl_29 rfl rfl rfl rfl (by decide) (by decide) ?_
  refine Run.loadOagg 0 7 rfl rfl ag_38 rfl rfl rfl rfl rfl (y := ⟨2, 1, 8, 0, 0⟩) rfl ?_
  refine Run.build rfl bd_38 rfl rfl rfl rfl ?_
  refine Run.eqS rfl rfl rfl is_38 nf_38 rfl rfl rfl rfl ?_
  refine Run.eqv (v' := .bool true) (by simp) ?_
  refine Zq ?_
  refine Zm ?_
  refine Zf fo_32_0 ?_
  refine Zl 2 ag_29 ?_
  refine Run.idxO 0 rfl rfl rfl sl_29 rfl rfl rfl rfl (by decide) (by decide) ?_
  refine Run.loadOagg 0 12 rfl rfl ag_38 rfl rfl rfl rfl rfl (y := ⟨24, 8, 0, 0, 3⟩) rfl ?_
  refine Run.build rfl bd_38 rfl rfl rfl rfl ?_
  refine Run.eqS rfl rfl rfl is_38 nf_38 rfl rfl rfl rfl ?_
  refine Run.eqv (v' := .bool true) (by simp) ?_
  refine Zq ?_
  refine Zm ?_
  refine Ze ?_
  refine WP.ret ?_
  exact retT [0] _ rfl rfl ⟨_, ent.none _, rfl, rfl⟩
end Go.Proofs.YtfaokbjpinlcaaaGreat
end
section
/- The laws' lists with a mark behind them: locs, ints; walked. -/
namespace Go.Proofs.YtfaokbjpinlcaaaGreat
open Go.Sep
set_option linter.unusedSimpArgs false
set_option linter.unusedVariables false
set_option maxRecDepth 100000
attribute [local irreducible] blk slA mp mpF rows rowsBut many mpK mpE
theorem locs_ok (hR : Heap) (lv : SV) (l : List Lc) (hl : SlR rdLc hR lv.val l) (hlen : l.length ≤ 1000000) : Tri Tryz.prog hR 39 #[lv.val] [] fun v Γ' => ∃ u : SV, v = u.val ∧ Γ' = [locsP u l] := by
  refine Tri.ent (Tri.of (args := [lv.val]) Tryz.func39 rfl Tryz.ntmps39 (by simp) ?_)
  refine Zp ?_
  refine Zm ?_
  refine Ze ?_
  refine WP.seq ?_
  refine WP.via (Γ' := [slA 46 encLc nilS.val []]) (slA_nil 46 encLc _) ?_
  refine Zc ?_
  refine Zm ?_
  refine Run.append (E := encLc) (xs := []) (ys := l) 0 rfl rfl rfl rfl rfl rfl sl_48 zr_46 rfl (src_ro hl) (by simp; omega) (by simp; omega) ?_
  intro sv5 hv5
  refine Zm ?_
  refine Ze ?_
  rw [List.nil_append]
  refine Zp ?_
  refine Zm ?_
  refine Run.build rfl bd_46 rfl rfl rfl rfl ?_
  refine Run.buildSlice (E := encLc) rfl sl_48 zr_46 ([mkL]) rfl rfl rfl (by decide) rfl rfl ?_
  intro b8
  refine Run.append (E := encLc) (xs := l) (ys := [mkL]) 0 rfl rfl rfl rfl rfl rfl sl_48 zr_46 rfl (src_own 1 rfl) (by simp only [List.length_singleton]; omega) (by simp only [List.length_singleton]; omega) ?_
  intro sv9 hv9
  refine Zm ?_
  refine Ze ?_
  refine WP.trim [0, 2, 3] [0] ?_
  refine WP.know (slA_know 0 rfl) (fun hk => ?_)
  obtain ⟨hk1, hk2⟩ := hk
  simp only [List.length_append, List.length_singleton] at hk2
  refine Zp ?_
  refine Zm ?_
  refine Zm ?_
  refine Zh sl_48 hl ?_
  refine Run.sliceV (sv := sv9) rfl rfl sl_48 rfl rfl rfl rfl (by omega) (by omega) (by omega) ?_
  refine Zm ?_
  refine Ze ?_
  refine WP.ret ?_
  exact retT [2] _ rfl rfl ⟨_, leaf_shut (E := encLc) sv9 l [], sv9.cut 2 0 l.length, rfl, rfl⟩
theorem ints_ok (hR : Heap) (lv : SV) (l : List Int) (hl : SlR rdI hR lv.val l) (hlen : l.length ≤ 1000000) : Tri Tryz.prog hR 40 #[lv.val] [] fun v Γ' => ∃ u : SV, v = u.val ∧ Γ' = [intsP u l] := by
  refine Tri.ent (Tri.of (args := [lv.val]) Tryz.func40 rfl Tryz.ntmps40 (by simp) ?_)
  refine Zp ?_
  refine Zm ?_
  refine Ze ?_
  refine WP.seq ?_
  refine WP.via (Γ' := [slA 3 encI nilS.val []]) (slA_nil 3 encI _) ?_
  refine Zc ?_
  refine Zm ?_
  refine Run.append (E := encI) (xs := []) (ys := l) 0 rfl rfl rfl rfl rfl rfl sl_44 zr_3 rfl (src_ro hl) (by simp; omega) (by simp; omega) ?_
  intro sv5 hv5
  refine Zm ?_
  refine Ze ?_
  rw [List.nil_append]
  refine Zp ?_
  refine Zm ?_
  refine Run.buildSlice (E := encI) rfl sl_44 zr_3 ([(-71 : Int)]) rfl rfl rfl (by decide) rfl rfl ?_
  intro b7
  refine Run.append (E := encI) (xs := l) (ys := [(-71 : Int)]) 0 rfl rfl rfl rfl rfl rfl sl_44 zr_3 rfl (src_own 1 rfl) (by simp only [List.length_singleton]; omega) (by simp only [List.length_singleton]; omega) ?_
  intro sv9 hv9
  refine Zm ?_
  refine Ze ?_
  refine WP.trim [0, 2, 3] [0] ?_
  refine WP.know (slA_know 0 rfl) (fun hk => ?_)
  obtain ⟨hk1, hk2⟩ := hk
  simp only [List.length_append, List.length_singleton] at hk2
  refine Zp ?_
  refine Zm ?_
  refine Zm ?_
  refine Zh sl_44 hl ?_
  refine Run.sliceV (sv := sv9) rfl rfl sl_44 rfl rfl rfl rfl (by omega) (by omega) (by omega) ?_
  refine Zm ?_
  refine Ze ?_
  refine WP.ret ?_
  exact retT [2] _ rfl rfl ⟨_, leaf_shut (E := encI) sv9 l [], sv9.cut 1 0 l.length, rfl, rfl⟩
end Go.Proofs.YtfaokbjpinlcaaaGreat
end
