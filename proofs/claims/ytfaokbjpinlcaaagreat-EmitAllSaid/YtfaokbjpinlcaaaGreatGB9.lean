/- EmitAll: program after program, code marked, then grown; walked. -/
import Derived.Test.YtfaokbjpinlcaaaGreatGA4
import Derived.Test.YtfaokbjpinlcaaaGreatGB8
section
/- EmitAll: program after program, code marked, then grown; walked. -/
namespace Go.Proofs.YtfaokbjpinlcaaaGreat
open Go.Sep
set_option linter.unusedSimpArgs false
set_option linter.unusedVariables false
set_option maxRecDepth 100000
attribute [local irreducible] blk slA mp mpF rows rowsBut many mpK mpE lstQ codeQ turned
noncomputable def cdU (A : AL) : CD := ⟨(codeU A).1, (codeU A).2, mainU A⟩
noncomputable def allC (l : List AL) : List CD := l.flatMap fun A => [cdU A, cdU A]
theorem allC_step {l : List AL} {i : Nat} {A : AL} (h : l[i]? = some A) : allC (l.take (i + 1)) = allC (l.take i) ++ [cdU A, cdU A] := by
  unfold allC; rw [List.take_add_one, h, List.flatMap_append]; rfl
theorem allC_len : ∀ l : List AL, (allC l).length = 2 * l.length
  | [] => rfl
  | A :: l => by
    have := allC_len l
    unfold allC at this ⊢
    simp only [List.flatMap_cons, List.length_append, List.length_cons, List.length_nil, this]; omega
theorem allC_get : ∀ {l : List AL} {k : Nat} {A : AL}, l[k / 2]? = some A → (allC l)[k]? = some (cdU A)
  | B :: l, 0, A, h => by simp at h; subst h; rfl
  | B :: l, 1, A, h => by simp at h; subst h; rfl
  | B :: l, k + 2, A, h => by
    have h' : l[k / 2]? = some A := by rw [show (k + 2) / 2 = k / 2 + 1 by omega, List.getElem?_cons_succ] at h; exact h
    have := allC_get h'
    show (([cdU B, cdU B] ++ allC l))[k + 2]? = _
    exact this
theorem allC_small {l : List AL} (h : ∀ A ∈ l, SmallA A) : ∀ c ∈ allC l, c.is.length ≤ 2000000000 ∧ c.fs.length ≤ 2000000000 := fun c hc => by
  unfold allC at hc
  obtain ⟨A, hA, hc⟩ := List.mem_flatMap.1 hc
  have := codeU_len (h A hA)
  simp at hc; subst hc; exact this
theorem quo2 {a : Nat} (h : a ≤ 140737488355327) : IntKind.i64.wrap ((a : Int).tdiv 2) = ((a / 2 : Nat) : Int) := by
  have e : (a : Int).tdiv 2 = ((a / 2 : Nat) : Int) := (Int.ofNat_tdiv a 2).symm
  rw [e]
  exact wrapI (by omega) (by omega)
def mk9 : RI := ⟨-9, 0, 0, 0, 0⟩
set_option maxHeartbeats 8000000 in
theorem emitAll_ok (hR : Heap) (lv : SV) (As : List AL) (hl : SlR rdAL hR lv.val As) (hW : ∀ A ∈ As, WideA A) (hal : As.length ≤ 17592186044416) : Tri Tryz.prog hR 4 #[lv.val] [] fun r Γ' => r = .bool true ∧ Γ' = [] := by
  refine Tri.ent (Tri.of (args := [lv.val]) Tryz.func4 rfl Tryz.ntmps4 (by simp) ?_)
  refine Zp ?_
  refine Zm ?_
  refine Ze ?_
  refine WP.seq ?_
  refine Zp ?_
  refine Zm ?_
  refine Zh sl_27 hl ?_
  refine Zi ?_
  refine Ze ?_
  refine WP.ite rfl (fun hbig => ?_) (fun hsm => ?_)
  · refine Zp ?_
    refine Zm ?_
    refine Ze ?_
    refine WP.ret ?_; refine thn_ret ?_
    exact retT [2] _ rfl rfl ⟨_, ent.none _, rfl, rfl⟩
  refine Zb ?_
  refine WP.trim [0, 2] [] ?_
  -- all are small
  refine WP.meetC (α := Unit) (fun _ => ∀ A ∈ As, SmallA A) (fun _ => []) (fun _ => []) ?_ ?_
  · refine Zp ?_
    refine Zm ?_
    refine Ze ?_
    refine WP.block ?_
    refine WP.trim [0, 2, 3] [] ?_
    refine WP.loopC (α := Nat) (fun i => i ≤ As.length ∧ ∀ (k : Nat) (A : AL), k < i → As[k]? = some A → SmallA A) (fun i => [(3, vI (i : Int))]) (fun i => []) (fun i => As.length - i) 0 ⟨Nat.zero_le _, fun k A h => by omega⟩ ?_
    rintro i ⟨hi, his⟩
    refine WP.trim [0, 2, 3] [] ?_
    refine WP.seq ?_
    refine Zp ?_
    refine Zm ?_
    refine Zm ?_
    refine Zh sl_27 hl ?_
    refine Zi ?_
    refine Ze ?_
    refine WP.ite rfl (fun hlt => ?_) (fun hge => ?_)
    · refine Zb ?_
      obtain ⟨A, gA⟩ : ∃ y, As[(i : Int).toNat]? = some y := ⟨_, List.getElem?_eq_getElem (by omega)⟩
      have gA' : As[i]? = some A := gA
      obtain ⟨_, ⟨fv0, rfl, hfv⟩, hrow⟩ := hl.at gA
      obtain ⟨fv, rfl, _, _⟩ := SlR.sv hfv
      refine WP.seq ?_
      refine WP.block ?_
      refine Zp ?_
      refine Zm ?_
      refine Zm ?_
      refine Zx sl_27 hl ?_
      refine Run.loadRagg rfl rfl ag_24 rfl rfl hrow (by rfl) ?_
      refine Run.callP [] ok_6 (fits_ok hR A fv hfv (hW A (List.mem_of_getElem? gA))) ?_; rintro _ _ ⟨⟨s, rfl, hs⟩, rfl⟩
      refine Zm ?_
      refine Ze ?_
      refine WP.trim [0, 2, 3, 4] [] ?_
      refine Zp ?_
      refine Zm ?_
      refine Run.bnotB rfl rfl rfl rfl ?_
      refine Run.eqv (v' := .bool (decide (s = false))) (by cases s <;> rfl) ?_
      refine Ze ?_
      refine WP.ite rfl (fun hn => ?_) (fun hn => ?_)
      · refine Zp ?_
        refine Zm ?_
        refine Ze ?_
        refine WP.ret ?_; refine blk_ret ?_; refine thn_ret ?_; refine thn_ret ?_; refine blk_ret ?_; refine thn_ret ?_
        exact retT [2] _ rfl rfl ⟨_, ent.none _, rfl, rfl⟩
      refine WP.skip ?_; refine blk_norm ?_; refine thn_next ?_
      refine Zc ?_
      refine Zm ?_
      refine Za ?_
      refine Zm ?_
      refine Run.nil ?_
      refine thn_next ⟨i + 1, ⟨by omega, fun k B hk gB => ?_⟩, by omega, Ko.go, ent.gc⟩
      by_cases e : k = i
      · subst e; rw [gA'] at gB; cases gB; exact hs (by cases s; exact absurd rfl hn; rfl)
      · exact his k B (by omega) gB
    · refine Zj ?_
      refine thn_next ⟨(), fun A hA => ?_, Ko.go, ent.gc⟩
      obtain ⟨k, hk⟩ := List.getElem?_of_mem hA
      exact his k A (by have := (List.getElem?_eq_some_iff.1 hk).1; omega) hk
  intro _ hsm2
  refine WP.trim [0, 2] [] ?_
  refine WP.seq ?_
  refine Zp ?_
  refine Run.callP [] ok_7 (alive_ok hR) ?_; rintro _ _ ⟨rfl, rfl⟩
  refine Run.bnotB rfl rfl rfl rfl ?_
  refine Run.eqv (v' := .bool false) rfl ?_
  refine Ze ?_
  refine Zno ?_
  refine Zb ?_
  refine WP.trim [0, 2] [] ?_
  -- program after program
  refine Zp ?_
  refine Zm ?_
  refine Ze ?_
  refine WP.via (Γ' := [many [], slA 32 encXC nilS.val []]) ((slA_nil 32 encXC _).trans (many_in [] _)) ?_
  refine WP.trim [0, 2, 5] [1, 0] ?_
  refine WP.via (lstQ_shut (T := 32) (E := encXC) (p := codeQ) nilS [] (xs := []) rfl []) ?_
  refine WP.meetC (α := SV) (fun _ => True) (fun z => [(5, z.val)]) (fun z => [(0, codesQ z (allC As))]) ?_ ?_
  · refine Zp ?_
    refine Zm ?_
    refine Ze ?_
    refine WP.block ?_
    refine WP.trim [0, 2, 5, 6] [0] ?_
    refine WP.loopC (α := Nat × SV) (fun z => z.1 ≤ As.length) (fun z => [(6, vI (z.1 : Int)), (5, z.2.val)]) (fun z => [(0, codesQ z.2 (allC (As.take z.1)))]) (fun z => As.length - z.1) (0, nilS) (Nat.zero_le _) ?_
    rintro ⟨i, cv⟩ hi
    simp only at hi ⊢
    refine WP.trim [0, 2, 5, 6] [0] ?_
    refine WP.seq ?_
    refine Zp ?_
    refine Zm ?_
    refine Zm ?_
    refine Zh sl_27 hl ?_
    refine Zi ?_
    refine Ze ?_
    refine WP.ite rfl (fun hlt => ?_) (fun hge => ?_)
    · refine Zb ?_
      obtain ⟨A, gA⟩ : ∃ y, As[(i : Int).toNat]? = some y := ⟨_, List.getElem?_eq_getElem (by omega)⟩
      have gA' : As[i]? = some A := gA
      have hs := hsm2 A (List.mem_of_getElem? gA)
      obtain ⟨n1, n2⟩ := codeU_len hs
      obtain ⟨_, ⟨fv0, rfl, hfv⟩, hrow⟩ := hl.at gA
      obtain ⟨fv, rfl, _, _⟩ := SlR.sv hfv
      have hA : ALv hR A fv := ⟨hfv, hs⟩
      have hst := allC_step gA'
      have htl : (As.take i).length = i := by rw [List.length_take]; omega
      have hcl := allC_len (As.take i)
      generalize allC (As.take i) = cs at hst hcl ⊢
      refine WP.seq ?_
      refine WP.block ?_
      refine WP.seq ?_
      refine Zp ?_
      refine Zm ?_
      refine Zm ?_
      refine Zx sl_27 hl ?_
      refine Run.loadRagg rfl rfl ag_24 rfl rfl hrow (by rfl) ?_
      refine Run.callP [] ok_8 (emitted_ok hR A fv hA) ?_; rintro _ _ ⟨rfl, rfl⟩
      refine Run.bnotB rfl rfl rfl rfl ?_
      refine Run.eqv (v' := .bool false) rfl ?_
      refine Ze ?_
      refine Zno ?_
      refine Zb ?_
      refine WP.trim [0, 2, 5, 6] [0] ?_
      refine Zp ?_
      refine Zm ?_
      refine Zm ?_
      refine Zx sl_27 hl ?_
      refine Run.loadRagg rfl rfl ag_24 rfl rfl hrow (by rfl) ?_
      refine Run.callP [] ok_9 (emitU_ok hR A fv hA) ?_; rintro _ _ ⟨ia, ga, rfl, rfl⟩
      refine Zm ?_
      refine Run.extract rfl rfl rfl rfl rfl ?_
      refine Run.extract rfl rfl rfl rfl rfl ?_
      refine Run.alloc rfl zr_32 rfl rfl rfl ?_
      intro b7
      refine Run.storeB 3 rfl rfl rfl rfl ag_32 rfl rfl rfl rfl rfl ?_
      refine Zm ?_
      refine Ze ?_
      refine WP.trim [0, 2, 5, 6, 7] [2, 3, 0, 1] ?_
      refine Zp ?_
      refine Zm ?_
      refine Zm ?_
      refine Zx sl_27 hl ?_
      refine Run.loadRagg rfl rfl ag_24 rfl rfl hrow (by rfl) ?_
      refine Run.callP [] ok_9 (emitU_ok hR A fv hA) ?_; rintro _ _ ⟨ib, gb, rfl, rfl⟩
      refine Zm ?_
      refine Run.extract rfl rfl rfl rfl rfl ?_
      refine Run.extract rfl rfl rfl rfl rfl ?_
      refine Run.alloc rfl zr_32 rfl rfl rfl ?_
      intro b9
      refine Run.storeB 6 rfl rfl rfl rfl ag_32 rfl rfl rfl rfl rfl ?_
      refine Zm ?_
      refine Ze ?_
      refine WP.trim [0, 2, 5, 6, 7, 9] [2, 3, 4, 5, 6, 0, 1] ?_
      refine Zp ?_
      refine Zm ?_
      refine Zm ?_
      refine Zx sl_27 hl ?_
      refine Run.loadRagg rfl rfl ag_24 rfl rfl hrow (by rfl) ?_
      refine Run.callP [] ok_9 (emitU_ok hR A fv hA) ?_; rintro _ _ ⟨ic, gc, rfl, rfl⟩
      refine Zm ?_
      refine Run.extract rfl rfl rfl rfl rfl ?_
      refine Run.extract rfl rfl rfl rfl rfl ?_
      refine Run.alloc rfl zr_32 rfl rfl rfl ?_
      intro b11
      refine Run.storeB 9 rfl rfl rfl rfl ag_32 rfl rfl rfl rfl rfl ?_
      refine Zm ?_
      refine Ze ?_
      refine WP.trim [0, 2, 5, 6, 7, 9, 11] [2, 3, 4, 5, 6, 7, 8, 9, 0, 1] ?_
      refine WP.seq ?_
      refine Zp ?_
      refine Run.loadBagg 1 rfl rfl ag_32 rfl rfl rfl rfl rfl ?_
      refine Run.loadBagg 4 rfl rfl ag_32 rfl rfl rfl rfl rfl ?_
      refine Run.callL [] [2, 3, 5, 6] ok_10 (fun g hg hd => same_ok (un hR g) ia ga ib gb (mainU A) (codeU A).1 (codeU A).2 (lent_at 0 rfl hg hd) (lent_at 1 rfl hg hd) (lent_at 2 rfl hg hd) (lent_at 3 rfl hg hd) n1 n2) ?_; rintro _ _ ⟨rfl, rfl⟩; refine Run.pk [4, 5, 0, 1, 6, 2, 3, 7, 8, 9] ?_
      refine Run.bnotB rfl rfl rfl rfl ?_
      refine Run.eqv (v' := .bool false) rfl ?_
      refine Zm ?_
      refine Run.loadBagg 1 rfl rfl ag_32 rfl rfl rfl rfl rfl ?_
      refine Run.loadBagg 7 rfl rfl ag_32 rfl rfl rfl rfl rfl ?_
      refine Run.callL [] [2, 3, 8, 9] ok_10 (fun g hg hd => same_ok (un hR g) ia ga ic gc (mainU A) (codeU A).1 (codeU A).2 (lent_at 0 rfl hg hd) (lent_at 1 rfl hg hd) (lent_at 2 rfl hg hd) (lent_at 3 rfl hg hd) n1 n2) ?_; rintro _ _ ⟨rfl, rfl⟩
      refine Run.bnotB rfl rfl rfl rfl ?_
      refine Run.eqv (v' := .bool false) rfl ?_
      refine Zq ?_
      refine Ze ?_
      refine Zno ?_
      refine Zb ?_
      refine WP.trim [0, 2, 5, 6, 7, 9, 11] [4, 5, 0, 1, 6, 7, 8, 9, 2] ?_
      refine WP.meetC (α := Unit) (fun _ => True) (fun _ => []) (fun _ => [(8, slA 38 encRI ic.val (turned (fun _ => mk9) (codeU A).1 (codeU A).1.length))]) ?_ ?_
      · refine Zp ?_
        refine Zm ?_
        refine Ze ?_
        refine WP.block ?_
        refine WP.trim [0, 2, 5, 6, 7, 9, 11, 13] [0, 1, 2, 3, 4, 5, 6, 7, 8] ?_
        refine WP.loopC (α := Nat) (fun k => k ≤ (codeU A).1.length) (fun k => [(13, vI (k : Int))]) (fun k => [(8, slA 38 encRI ic.val (turned (fun _ => mk9) (codeU A).1 k))]) (fun k => (codeU A).1.length - k) 0 (Nat.zero_le _) ?_ (he := by rw [turned_zero]; exact ent.refl _)
        intro k hk
        refine WP.trim [0, 2, 5, 6, 7, 9, 11, 13] [0, 1, 2, 3, 4, 5, 6, 7, 8] ?_
        have htn : (turned (fun _ => mk9) (codeU A).1 k).length = (codeU A).1.length := turned_len _ _ _
        refine WP.seq ?_
        refine Zp ?_
        refine Zm ?_
        refine Zf fo_32_0 ?_
        refine Zl 7 ag_29 ?_
        refine Run.lenO 8 rfl rfl sl_29 rfl rfl rfl ?_
        refine Zi ?_
        refine Ze ?_
        refine WP.ite rfl (fun hlt3 => ?_) (fun hge3 => ?_)
        · refine Zb ?_
          obtain ⟨x, gx⟩ : ∃ y, (codeU A).1[k]? = some y := ⟨_, List.getElem?_eq_getElem (by omega)⟩
          have gt : (turned (fun _ => mk9) (codeU A).1 k)[k]? = some x := turned_get gx
          have hts : turned (fun _ => mk9) (codeU A).1 (k + 1) = (turned (fun _ => mk9) (codeU A).1 k).set k mk9 := turned_succ gx
          refine WP.seq ?_
          refine WP.block ?_
          refine Zc ?_
          refine Zf fo_32_0 ?_
          refine Zl 7 ag_29 ?_
          refine Zm ?_
          refine Run.build rfl bd_38 rfl rfl rfl rfl ?_
          refine Run.idxO 8 rfl rfl rfl sl_29 rfl rfl rfl rfl (by omega) (by omega) ?_
          refine Run.storeO 8 k 0 (y' := mk9) rfl rfl rfl rfl ag_38 rfl rfl rfl rfl gt rfl rfl ?_
          refine Run.nil ?_
          refine blk_norm ?_; refine thn_next ?_
          rw [← hts]
          refine Zc ?_
          refine Zm ?_
          refine Za ?_
          refine Zm ?_
          refine Run.nil ?_
          exact thn_next ⟨k + 1, by omega, by omega, Ko.go, ent.refl _⟩
        · refine Zj ?_
          obtain rfl : k = (codeU A).1.length := by omega
          exact thn_next ⟨(), trivial, Ko.go, ent.refl _⟩
      intro _ _
      refine WP.trim [0, 2, 5, 6, 7, 9] [0, 1, 2, 3, 4, 5, 6] ?_
      refine WP.opens lstQ_open ?_
      rintro ⟨ws, hwl⟩
      simp only at hwl ⊢
      have hzl : (cs.zip ws).length = cs.length := by simp [hwl]
      refine WP.trim [0, 2, 5, 6, 7, 9] [0, 1, 2, 3, 4, 5, 6, 7] ?_
      refine Zc ?_
      refine Zm ?_
      refine Run.loadBagg 2 rfl rfl ag_32 rfl rfl rfl rfl rfl ?_
      refine Run.loadBagg 5 rfl rfl ag_32 rfl rfl rfl rfl rfl ?_
      refine Run.buildSlice (E := encXC) rfl sl_28 zr_32 ([((cdU A, ia, ga) : CD × SV2), (cdU A, ib, gb)]) rfl rfl rfl (by decide) rfl rfl ?_
      intro b96
      refine Run.append (E := encXC) (xs := cs.zip ws) (ys := [((cdU A, ia, ga) : CD × SV2), (cdU A, ib, gb)]) 0 rfl rfl rfl rfl rfl rfl sl_28 zr_32 rfl (src_own 8 rfl) (by simp only [List.length_cons, List.length_nil]; omega) (by simp only [List.length_cons, List.length_nil]; omega) ?_
      intro cv2 hcv2
      refine Zm ?_
      refine Run.nil ?_
      refine blk_norm ?_; refine thn_next ?_
      refine WP.trim [0, 2, 5, 6] [3, 4, 6, 7, 0, 1] ?_
      refine WP.via (code_shut (c := cdU A) _) ?_
      refine WP.trim [0, 2, 5, 6] [1, 2, 0, 3, 4] ?_
      refine WP.via (code_shut (c := cdU A) _) ?_
      refine WP.trim [0, 2, 5, 6] [2, 3, 1, 0] ?_
      refine WP.via (codes_push hwl []) ?_
      rw [← hst]
      refine Zc ?_
      refine Zm ?_
      refine Za ?_
      refine Zm ?_
      refine Run.nil ?_
      exact thn_next ⟨(i + 1, cv2), by simp only; omega, by simp only; omega, Ko.go, ent.refl _⟩
    · refine Zj ?_
      obtain rfl : i = As.length := by omega
      rw [List.take_length]
      exact thn_next ⟨cv, trivial, Ko.go, ent.refl _⟩
  intro cv _
  refine WP.trim [0, 2, 5] [0] ?_
  have hcl := allC_len As
  have hcsm := allC_small hsm2
  -- all that was answered is told apart at the end
  refine WP.meetC (α := Unit) (fun _ => True) (fun _ => []) (fun _ => []) ?_ ?_
  · refine WP.via (Γ' := [] ++ [codesQ cv (allC As)]) (ent.refl _) ?_
    refine WP.freeze (Γ := []) [codesQ cv (allC As)] fun g hg hd => ?_
    obtain ⟨g1, a1, s1⟩ := lent_sub 0 rfl hg hd
    have hcd := codes_r a1 s1
    have hl2 := hl.mono (Sub.un_left hR g)
    refine Zp ?_
    refine Zm ?_
    refine Ze ?_
    refine WP.block ?_
    refine WP.trim [0, 2, 5, 14] [] ?_
    refine WP.loopC (α := Nat) (fun k => k ≤ (allC As).length) (fun k => [(14, vI (k : Int))]) (fun k => []) (fun k => (allC As).length - k) 0 (Nat.zero_le _) ?_
    intro k hk
    refine WP.trim [0, 2, 5, 14] [] ?_
    refine WP.seq ?_
    refine Zp ?_
    refine Zm ?_
    refine Zm ?_
    refine Zh sl_28 hcd ?_
    refine Zi ?_
    refine Ze ?_
    refine WP.ite rfl (fun hlt => ?_) (fun hge => ?_)
    · refine Zb ?_
      obtain ⟨A, gA⟩ : ∃ y, As[((k / 2 : Nat) : Int).toNat]? = some y := ⟨_, List.getElem?_eq_getElem (by omega)⟩
      have gA' : As[k / 2]? = some A := gA
      have hs := hsm2 A (List.mem_of_getElem? gA)
      obtain ⟨n1, n2⟩ := codeU_len hs
      have gC : (allC As)[(k : Int).toNat]? = some (cdU A) := allC_get gA'
      obtain ⟨_, ⟨fv0, rfl, hfv⟩, hrow⟩ := hl2.at gA
      obtain ⟨fv, rfl, _, _⟩ := SlR.sv hfv
      obtain ⟨_, ⟨u, v, rfl, hu, hv⟩, hcrow⟩ := hcd.at gC
      refine WP.seq ?_
      refine WP.block ?_
      refine Zp ?_
      refine Zm ?_
      refine Zm ?_
      refine Zi ?_
      refine Run.eqv (v' := vI ((k / 2 : Nat) : Int)) (by rw [quo2 (by omega)]) ?_
      refine Zx sl_27 hl2 ?_
      refine Run.loadRagg rfl rfl ag_24 rfl rfl hrow (by rfl) ?_
      refine Run.callP [] ok_11 (docU_ok (un hR g) A fv ⟨hfv, hs⟩) ?_; rintro _ _ ⟨i4, g4, rfl, rfl⟩
      refine Zm ?_
      refine Run.extract rfl rfl rfl rfl rfl ?_
      refine Run.extract rfl rfl rfl rfl rfl ?_
      refine Run.alloc rfl zr_32 rfl rfl rfl ?_
      intro b15
      refine Run.storeB 2 rfl rfl rfl rfl ag_32 rfl rfl rfl rfl rfl ?_
      refine Zm ?_
      refine Ze ?_
      refine WP.trim [0, 2, 5, 14, 15] [0, 1, 2] ?_
      refine WP.seq ?_
      refine WP.via (Γ' := [] ++ [slA 38 encRI i4.val (codeU A).1, slA 77 encRF g4.val (codeU A).2, blk b15 [i4.val, g4.val, vI (mainU A)] 32]) (ent.refl _) ?_
      refine WP.drawnF cfF [0, 1, 2, 3, 4, 5] [6] ([slA 38 encRI i4.val (codeU A).1, slA 77 encRF g4.val (codeU A).2, blk b15 [i4.val, g4.val, vI (mainU A)] 32]) mixed rfl rfl (by kernel_rfl) (fun gF hgF hdF => ?_)
      refine Zm ?_
      refine Zm ?_
      have sF := sub_un_left (un hR g) gF; refine Zx sl_28 (hcd.mono sF) ?_
      refine Run.loadFagg rfl rfl ag_32 rfl rfl (hcrow.mono sF) rfl ?_
      refine Run.loadFagg rfl rfl ag_32 rfl rfl (lent_row 2 0 3 hgF hdF) rfl ?_
      refine Run.callP [] ok_10 (same_ok (un (un hR g) gF) u v i4 g4 (mainU A) (codeU A).1 (codeU A).2 (hu.mono sF) (hv.mono sF) (lent_at 0 rfl hgF hdF) (lent_at 1 rfl hgF hdF) n1 n2) ?_; rintro _ _ ⟨rfl, rfl⟩
      refine Run.nil ?_
      refine Run.bnotB rfl rfl rfl rfl ?_
      refine Run.eqv (v' := .bool false) rfl ?_
      refine Ze ?_
      refine Zno ?_
      refine WP.skip ?_; refine blk_norm ?_; refine thn_next ?_
      refine WP.trim [0, 2, 5, 14] [] ?_
      refine Zc ?_
      refine Zm ?_
      refine Za ?_
      refine Zm ?_
      refine Run.nil ?_
      exact thn_next ⟨k + 1, by omega, by omega, Ko.go, ent.gc⟩
    · refine Zj ?_
      exact thn_next ⟨(), trivial, Ko.go, ent.refl _⟩
  intro _ _
  refine WP.trim [0, 2, 5] [0] ?_
  refine Zp ?_
  refine Zm ?_
  refine Run.callP [0] ok_12 (apart_ok hR cv (allC As) (by omega) hcsm) ?_; rintro _ _ ⟨rfl, rfl⟩
  refine Zm ?_
  refine Ze ?_
  refine WP.ret ?_
  exact retT [2] _ rfl rfl ⟨_, ent.none _, rfl, rfl⟩
end Go.Proofs.YtfaokbjpinlcaaaGreat
end
