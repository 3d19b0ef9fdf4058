/- Intervals; slices.IndexFunc and slices.DeleteFunc at them; walked. -/
import Derived.Test.YtjjfehdlmdhhmaaDoorGL7
import Derived.Test.YtjjfehdlmdhhmaaDoorGT5
import Derived.Test.YtjjfehdlmdhhmaaDoorGL5
import Derived.Shelf.Sort.Plain
import Derived.Shelf.Slices.CompactI
import Derived.Shelf.Slices.In.SortNone
import Derived.Ground.NamesProg
import Derived.Ground.Names2Prog
import Derived.Test.YtjjfehdlmdhhmaaDoorProg
import Derived.Test.YtjjfehdlmdhhmaaDoorGT4
section
/- Intervals; slices.IndexFunc and slices.DeleteFunc at them; walked. -/
namespace Go.Proofs.YtjjfehdlmdhhmaaDoor
open Go.Sep
set_option linter.unusedSimpArgs false
set_option linter.unusedVariables false
attribute [local irreducible] blk slA mp mpF rows rowsBut many
structure Iv where
  reg : Int
  fr : Int
  to : Int
def encIv : Enc Iv := ⟨3, fun x => [.int .i64 x.reg, .int .i64 x.fr, .int .i64 x.to], fun _ => rfl, fun _ => rfl⟩
abbrev ivV (x : Iv) : Value := .agg ⟨[.int .i64 x.reg, .int .i64 x.fr, .int .i64 x.to]⟩
theorem ok_43 : calleeOk Tryd.prog 43 = true := by kernel_rfl
theorem neg_ok (hR : Heap) (x : Iv) : Tri Tryd.prog hR 43 #[ivV x] [] fun v Γ' => v = .bool (decide (x.reg < 0)) ∧ Γ' = [] := by
  refine Tri.ent (Tri.of (args := [ivV x]) Tryd.func43 rfl Tryd.ntmps43 (by simp) ?_)
  refine Zp ?_
  refine Run.box rfl rfl rfl rfl rfl ?_
  intro b1
  refine Zm ?_
  refine Ze ?_
  refine Zp ?_
  refine Zf fo_62_0 ?_
  refine Zl 0 ag_3 ?_
  refine Zi ?_
  refine Zm ?_
  refine Ze ?_
  refine WP.ret ?_
  exact retT [2] _ rfl rfl ⟨[], ent.go, rfl, rfl⟩
abbrev negF : Value := .func (.func 43) #[] #[]
def keepB (x : Iv) : Bool := decide (0 ≤ x.reg)
set_option maxRecDepth 100000 in
theorem indexFunc_ok (hR : Heap) (sv : SV) (xs : List Iv) (hl : xs.length ≤ 1000000) :
    Tri Tryd.prog hR 70 #[sv.val, negF] [slA 62 encIv sv.val xs] fun v Γ' => ∃ r : Int, v = .int .i64 r ∧ ((r = -1 ∧ xs.filter keepB = xs) ∨ ∃ i : Nat, r = (i : Int) ∧ i < xs.length ∧ (xs.take i).filter keepB = xs.take i ∧ ∃ x, xs[i]? = some x ∧ keepB x = false) ∧ Γ' = [slA 62 encIv sv.val xs] := by
  refine Tri.ent (Tri.of (args := [sv.val, negF]) Tryd.func70 rfl Tryd.ntmps70 (by simp) ?_)
  refine Zp ?_
  refine Zm ?_
  refine Ze ?_
  refine WP.meetK (α := Unit) (fun _ => xs.filter keepB = xs) (fun _ => []) (fun _ => [slA 62 encIv sv.val xs]) ?_ ?_
  · refine Zp ?_
    refine Zm ?_
    refine Run.lenO 0 rfl rfl sl_44 rfl rfl rfl ?_
    refine Zm ?_
    refine Ze ?_
    refine WP.block ?_
    refine WP.loopK (α := Nat) (fun z => z ≤ xs.length ∧ (xs.take z).filter keepB = xs.take z) (fun z => [(8, .int .i64 (z : Int))]) (fun z => [slA 62 encIv sv.val xs]) (fun z => xs.length - z) 0 ⟨Nat.zero_le _, rfl⟩ ⟨(by repeat first | exact trivial | refine ⟨rfl, ?_⟩), rfl, rfl⟩ (ent.refl _) ?_
    rintro i ⟨hi, hk⟩
    refine Zp ?_
    refine Zi ?_
    refine Ze ?_
    refine WP.seq ?_
    refine WP.ite rfl (fun hlt => ?_) (fun hge => ?_)
    · refine Zb ?_
      obtain ⟨x, gx⟩ : ∃ y, xs[i]? = some y := ⟨_, List.getElem?_eq_getElem (by omega)⟩
      have htk : xs.take (i + 1) = xs.take i ++ [x] := by rw [List.take_add_one, gx]; rfl
      refine WP.seq ?_
      refine WP.block ?_
      refine Zp ?_
      refine Zm ?_
      refine Zm ?_
      refine Ze ?_
      refine Zp ?_
      iterate 3 refine Zm ?_
      refine Run.idxO 0 rfl rfl rfl sl_44 rfl rfl rfl rfl (by omega) (by omega) ?_
      refine Run.loadOagg 0 i rfl rfl ag_62 rfl rfl rfl rfl rfl gx ?_
      refine Run.call (Δ := []) (Θ := [slA 62 encIv sv.val xs]) rfl rfl rfl rfl ok_43 rfl rfl ent.go (neg_ok hR x) ?_; rintro _ _ ⟨rfl, rfl⟩
      refine Ze ?_
      refine WP.ite rfl (fun hn => ?_) (fun hn => ?_)
      · refine Zp ?_
        refine Zm ?_
        refine Zm ?_
        refine Ze ?_
        refine WP.ret ?_; refine blk_ret ?_; refine thn_ret ?_; refine thn_ret ?_; refine blk_ret ?_; refine thn_ret ?_
        refine retT [4] _ rfl rfl ⟨_, ent.go, _, rfl, .inr ⟨i, rfl, by omega, hk, x, gx, by unfold keepB; simp; omega⟩, rfl⟩
      · refine WP.skip ?_; refine blk_norm ?_; refine thn_next ?_
        refine Zc ?_
        refine Za ?_
        refine Zm ?_
        refine Run.nil ?_
        refine thn_next ⟨i + 1, ⟨by omega, ?_⟩, by omega, ⟨(by repeat first | exact trivial | refine ⟨rfl, ?_⟩), rfl, rfl⟩, ent.go⟩
        have : keepB x = true := by unfold keepB; simp; omega
        rw [htk, List.filter_append, hk]; simp [this]
    · refine Zj ?_
      have e : i = xs.length := by omega
      subst e
      rw [List.take_length] at hk
      exact thn_next ⟨(), hk, ⟨(by repeat first | exact trivial | refine ⟨rfl, ?_⟩), rfl, rfl⟩, ent.go⟩
  rintro _ hk
  refine Zp ?_
  refine Zm ?_
  refine Ze ?_
  refine WP.ret ?_
  exact retT [4] _ rfl rfl ⟨_, ent.go, _, rfl, .inl ⟨rfl, hk⟩, rfl⟩
set_option maxRecDepth 100000 in
theorem deleteFunc_ok (hR : Heap) (sv : SV) (xs : List Iv) (hl : xs.length ≤ 1000000) :
    Tri Tryd.prog hR 42 #[sv.val, negF] [slA 62 encIv sv.val xs] fun v Γ' => ∃ out : SV, v = out.val ∧ Γ' = [slA 62 encIv out.val (xs.filter keepB)] := by
  refine Tri.ent (Tri.of (args := [sv.val, negF]) Tryd.func42 rfl Tryd.ntmps42 (by simp) ?_)
  refine WP.know (slA_know 0 rfl) ?_
  rintro ⟨hn, hc⟩
  refine Zp ?_
  refine Zm ?_
  refine Ze ?_
  refine Zp ?_
  refine Zm ?_
  refine Zm ?_
  refine Run.call (Δ := [slA 62 encIv sv.val xs]) (Θ := []) rfl rfl rfl rfl ok_70 rfl rfl ent.go (indexFunc_ok hR sv xs hl) ?_; rintro _ _ ⟨r, rfl, hr, rfl⟩
  refine Zm ?_
  refine Ze ?_
  refine WP.seq ?_
  refine Zp ?_
  refine Zm ?_
  refine Zi ?_
  refine Ze ?_
  rcases hr with ⟨rfl, hall⟩ | ⟨i0, rfl, hi0, hk0, x0, gx0, hx0⟩
  · refine WP.ite rfl (fun h => ?_) (fun h => absurd rfl h)
    refine Zp ?_
    refine Zm ?_
    refine Zm ?_
    refine Ze ?_
    refine WP.ret ?_; refine thn_ret ?_
    exact retT [4] _ rfl rfl ⟨[slA 62 encIv sv.val xs], ent.go, sv, rfl, by rw [hall]⟩
  refine WP.ite rfl (fun h => ?_) (fun h => ?_)
  · exfalso; omega
  refine Zb ?_
  refine WP.meetK (α := Nat × List Iv) (fun z => z.1 ≤ xs.length ∧ z.2.length = xs.length ∧ z.2.take z.1 = xs.filter keepB) (fun z => [(5, .int .i64 (z.1 : Int))]) (fun z => [slA 62 encIv sv.val z.2]) ?_ ?_
  · refine Zp ?_
    refine Zm ?_
    refine Za ?_
    refine Zm ?_
    refine Ze ?_
    refine WP.block ?_
    have h0 : (xs.take (i0 + 1)).filter keepB = xs.take i0 := by rw [List.take_add_one, gx0, List.filter_append, hk0]; simp [hx0]
    refine WP.loopK (α := Nat × Nat × List Iv) (fun z => z.1 < z.2.1 ∧ z.2.1 ≤ xs.length ∧ z.2.2.length = xs.length ∧ z.2.2.take z.1 = (xs.take z.2.1).filter keepB ∧ z.2.2.drop z.2.1 = xs.drop z.2.1) (fun z => [(5, .int .i64 (z.1 : Int)), (6, .int .i64 (z.2.1 : Int))]) (fun z => [slA 62 encIv sv.val z.2.2]) (fun z => xs.length - z.2.1) (i0, i0 + 1, xs) ⟨by simp, by simp only; omega, rfl, h0.symm, rfl⟩ ⟨(by repeat first | exact trivial | refine ⟨rfl, ?_⟩), rfl, rfl⟩ (ent.refl _) ?_
    rintro ⟨i, j, ys⟩ ⟨hij, hj, hyl, htk, hdr⟩
    simp only at hij hj hyl htk hdr ⊢
    refine WP.seq ?_
    refine Zp ?_
    refine Zm ?_
    refine Zm ?_
    refine Run.lenO 0 rfl rfl sl_44 rfl rfl rfl ?_
    refine Zi ?_
    refine Ze ?_
    refine WP.ite rfl (fun hlt => ?_) (fun hge => ?_)
    · refine Zb ?_
      obtain ⟨x, gx⟩ : ∃ y, xs[j]? = some y := ⟨_, List.getElem?_eq_getElem (by omega)⟩
      have gy : ys[j]? = some x := by
        have := congrArg (fun l => l[0]?) hdr
        simpa [List.getElem?_drop, gx] using this
      obtain ⟨y, gi⟩ : ∃ y, ys[i]? = some y := ⟨_, List.getElem?_eq_getElem (by omega)⟩
      have htk2 : (xs.take (j + 1)).filter keepB = (xs.take j).filter keepB ++ [x].filter keepB := by rw [List.take_add_one, gx, List.filter_append]; rfl
      refine WP.seq ?_
      refine WP.block ?_
      refine Zp ?_
      refine Zm ?_
      refine Zm ?_
      refine Run.idxO 0 rfl rfl rfl sl_44 rfl rfl rfl rfl (by omega) (by omega) ?_
      refine Run.loadOagg 0 j rfl rfl ag_62 rfl rfl rfl rfl rfl gy ?_
      refine Run.alloc rfl zr_62 rfl rfl rfl ?_
      intro b7
      refine Run.storeB 1 rfl rfl rfl rfl ag_62 rfl rfl rfl rfl rfl ?_
      refine Ze ?_
      refine Zp ?_
      refine Zm ?_
      refine Run.loadBagg 1 rfl rfl ag_62 rfl rfl rfl rfl rfl ?_
      refine Run.call (Δ := []) (Θ := [slA 62 encIv sv.val ys, blk b7 [.int .i64 x.reg, .int .i64 x.fr, .int .i64 x.to] 62]) rfl rfl rfl rfl ok_43 rfl rfl ent.go (neg_ok hR x) ?_; rintro _ _ ⟨rfl, rfl⟩
      refine Run.bnot rfl rfl rfl rfl ?_
      refine Ze ?_
      refine WP.ite rfl (fun hn => ?_) (fun hn => ?_)
      · have hkx : keepB x = true := by unfold keepB; simp; omega
        refine Zp ?_
        refine Zm ?_
        refine Zm ?_
        refine Run.loadBagg 1 rfl rfl ag_62 rfl rfl rfl rfl rfl ?_
        refine Run.idxO 0 rfl rfl rfl sl_44 rfl rfl rfl rfl (by omega) (by omega) ?_
        refine Run.storeO 0 i 0 (y' := x) rfl rfl rfl rfl ag_62 rfl rfl rfl rfl gi rfl rfl ?_
        refine Ze ?_
        refine Zc ?_
        refine Zm ?_
        refine Za ?_
        refine Zm ?_
        refine Run.nil ?_
        refine blk_norm ?_; refine thn_next ?_
        refine Zc ?_
        refine Zm ?_
        refine Za ?_
        refine Zm ?_
        refine Run.nil ?_
        refine thn_next ⟨(i + 1, j + 1, ys.set i x), ⟨by simp only; omega, by simp only; omega, by simp [hyl], ?_, ?_⟩, by simp only; omega, ⟨(by repeat first | exact trivial | refine ⟨rfl, ?_⟩), rfl, rfl⟩, ent.go⟩
        · simp only
          rw [List.take_add_one, List.getElem?_set_self (by omega), List.take_set_of_le (Nat.le_refl _), htk, htk2]; simp [hkx]
        · simp only
          rw [List.drop_set_of_lt (by omega)]
          have := congrArg (List.drop 1) hdr
          simpa [List.drop_drop, Nat.add_comm] using this
      · have hkx : keepB x = false := by unfold keepB; simp; omega
        refine WP.skip ?_; refine blk_norm ?_; refine thn_next ?_
        refine Zc ?_
        refine Zm ?_
        refine Za ?_
        refine Zm ?_
        refine Run.nil ?_
        refine thn_next ⟨(i, j + 1, ys), ⟨by simp only; omega, by simp only; omega, hyl, ?_, ?_⟩, by simp only; omega, ⟨(by repeat first | exact trivial | refine ⟨rfl, ?_⟩), rfl, rfl⟩, ent.go⟩
        · simp only
          rw [htk, htk2]; simp [hkx]
        · simp only
          have := congrArg (List.drop 1) hdr
          simpa [List.drop_drop, Nat.add_comm] using this
    · refine Zj ?_
      have e : j = xs.length := by omega
      subst e
      rw [List.take_length] at htk
      exact thn_next ⟨(i, ys), ⟨by simp only; omega, hyl, htk⟩, ⟨(by repeat first | exact trivial | refine ⟨rfl, ?_⟩), rfl, rfl⟩, ent.go⟩
  rintro ⟨i, ys⟩ ⟨hi, hyl, htk⟩
  simp only at hi hyl htk ⊢
  refine Zp ?_
  refine Zm ?_
  refine Zm ?_
  refine Run.sliceV rfl rfl sl_44 rfl rfl rfl rfl (by omega) (by omega) (by omega) ?_
  refine Run.clearTail 0 i (z0 := (⟨0, 0, 0⟩ : Iv)) rfl rfl rfl rfl sl_44 zr_62 rfl (by omega) ?_
  refine Ze ?_
  refine Zp ?_
  refine Zm ?_
  refine Zm ?_
  refine Run.sliceV rfl rfl sl_44 rfl rfl rfl rfl (by omega) (by omega) (by omega) ?_
  refine Zm ?_
  refine Ze ?_
  refine WP.ret ?_
  refine retT [4] _ rfl rfl ⟨[slA 62 encIv (sv.cut 3 0 i).val (ys.take i)], ent.go, sv.cut 3 0 i, rfl, by rw [htk]⟩
end Go.Proofs.YtjjfehdlmdhhmaaDoor
end
section
/- The library's stable sort at intervals, of at most twenty: insertion; walked. -/
namespace Go.Proofs.YtjjfehdlmdhhmaaDoor
open Go.Sep
set_option linter.unusedSimpArgs false
set_option linter.unusedVariables false
attribute [local irreducible] blk slA mp mpF rows rowsBut many
/-- by From, then by Reg -/
def ltV (x y : Iv) : Prop := x.fr < y.fr ∨ (x.fr = y.fr ∧ x.reg < y.reg)
abbrev cmpF : Value := .func (.func 45) #[] #[]
def smallV (x : Iv) : Prop := -10000000000000 ≤ x.fr ∧ x.fr ≤ 10000000000000
theorem cmp_ok (hR : Heap) (x y : Iv) (hx : smallV x) (hy : smallV y) : Tri Tryd.prog hR 45 #[ivV x, ivV y] [] fun v Γ' => v = .int .i64 (x.fr - y.fr) ∧ Γ' = [] := by
  refine Tri.ent (Tri.of (args := [ivV x, ivV y]) Tryd.func45 rfl Tryd.ntmps45 (by simp) ?_)
  have h1 := hx.1
  have h2 := hx.2
  have h3 := hy.1
  have h4 := hy.2
  refine Zp ?_
  refine Run.box rfl rfl rfl rfl rfl ?_
  intro b2
  refine Run.box rfl rfl rfl rfl rfl ?_
  intro b3
  refine Zm ?_
  refine Ze ?_
  refine Zp ?_
  refine Zf fo_62_1 ?_
  refine Zl 0 ag_3 ?_
  refine Zf fo_62_1 ?_
  refine Zl 1 ag_3 ?_
  refine Zs ?_
  refine Zm ?_
  refine Ze ?_
  refine WP.ret ?_
  exact retT [4] _ rfl rfl ⟨[], ent.go, rfl, rfl⟩
theorem insert_ok {P Q : List Iv} {x : Iv} (hS : (P ++ Q).Pairwise ltV) (hr : ∀ y ∈ P ++ Q, y.reg < x.reg) (hQ : ∀ q ∈ Q, x.fr < q.fr) (hP : ∀ P' p, P = P' ++ [p] → ¬ x.fr < p.fr) : (P ++ x :: Q).Pairwise ltV := by
  rw [List.pairwise_append] at hS ⊢
  obtain ⟨h1, h2, h3⟩ := hS
  refine ⟨h1, List.pairwise_cons.2 ⟨fun q hq => .inl (hQ q hq), h2⟩, fun y hy z hz => ?_⟩
  rcases List.mem_cons.1 hz with e | hz
  · subst e
    rcases List.eq_nil_or_concat P with e | ⟨P', p, e⟩
    · subst e; cases hy
    · have e' : P = P' ++ [p] := by simpa using e
      have hp := hP P' p e'
      have hpr := hr p (by rw [e']; simp)
      have hyr := hr y (List.mem_append_left _ hy)
      rw [e'] at hy h1
      rw [List.pairwise_append] at h1
      rcases List.mem_append.1 hy with hy | hy
      · have := h1.2.2 y hy p (by simp)
        unfold ltV at this ⊢
        omega
      · simp at hy; subst hy
        unfold ltV; omega
  · exact h3 y hy z hz
theorem ok_45 : calleeOk Tryd.prog 45 = true := by kernel_rfl
set_option maxHeartbeats 1000000 in
set_option maxRecDepth 100000 in
theorem insertion_ok (hR : Heap) (sv : SV) (pre seg post : List Iv) (hreg : seg.Pairwise fun x y => x.reg < y.reg) (hsm : ∀ x ∈ seg, smallV x) (hl : (pre ++ (seg ++ post)).length ≤ 1000000) :
    Tri Tryd.prog hR 89 #[sv.val, .int .i64 (pre.length : Int), .int .i64 ((pre.length + seg.length : Nat) : Int), cmpF] [slA 62 encIv sv.val (pre ++ (seg ++ post))] fun _ Γ' => ∃ seg' : List Iv, seg'.Perm seg ∧ seg'.Pairwise ltV ∧ Γ' = [slA 62 encIv sv.val (pre ++ (seg' ++ post))] := by
  refine Tri.ent (Tri.of (args := [sv.val, .int .i64 (pre.length : Int), .int .i64 ((pre.length + seg.length : Nat) : Int), cmpF]) Tryd.func89 rfl Tryd.ntmps89 (by simp) ?_)
  simp only [List.length_append] at hl
  refine Zp ?_
  refine Zm ?_
  refine Za ?_
  refine Zm ?_
  refine Ze ?_
  refine WP.block ?_
  refine WP.sup (ρ' := [(8, .int .i64 ((pre.length : Int) + 1)), (0, sv.val), (1, .int .i64 (pre.length : Int)), (2, .int .i64 ((pre.length + seg.length : Nat) : Int)), (3, cmpF)]) (Γ' := [slA 62 encIv sv.val (pre ++ (seg ++ post))]) (covers_get ⟨rfl, rfl, rfl, rfl, rfl, trivial⟩) (ent.refl _) ?_
  refine WP.loopK (α := Nat × List Iv) (fun z => z.1 + 1 ≤ max seg.length 1 ∧ z.2.Perm (seg.take (z.1 + 1)) ∧ z.2.Pairwise ltV) (fun z => [(8, .int .i64 ((pre.length : Int) + 1 + (z.1 : Int)))]) (fun z => [slA 62 encIv sv.val (pre ++ (z.2 ++ (seg.drop (z.1 + 1) ++ post)))]) (fun z => seg.length - z.1) (0, seg.take 1) ⟨by simp only; omega, List.Perm.refl _, by cases seg <;> simp⟩ ⟨⟨by simp [Env.get], trivial⟩, rfl, rfl⟩ ?_ ?_
  · simp only [Nat.zero_add]
    rw [← List.append_assoc (seg.take 1), List.take_append_drop]; exact ent.refl _
  rintro ⟨k, S⟩ ⟨hk, hSp, hSs⟩
  simp only at hk hSp hSs ⊢
  refine WP.seq ?_
  refine Zp ?_
  refine Zm ?_
  refine Zm ?_
  refine Zi ?_
  refine Ze ?_
  refine WP.ite rfl (fun hlt => ?_) (fun hge => ?_)
  · refine Zb ?_
    have hkl : k + 1 < seg.length := by omega
    obtain ⟨x, gx⟩ : ∃ y, seg[k + 1]? = some y := ⟨_, List.getElem?_eq_getElem hkl⟩
    have hdr : seg.drop (k + 1) = x :: seg.drop (k + 2) := by rw [List.drop_eq_getElem_cons hkl]; congr 1; rw [List.getElem?_eq_getElem hkl] at gx; exact Option.some.inj gx
    have htk : seg.take (k + 2) = seg.take (k + 1) ++ [x] := by rw [List.take_add_one, gx]; rfl
    have hxm := hsm x (List.mem_of_getElem? gx)
    have hSl : S.length = k + 1 := by have := hSp.length_eq; rw [List.length_take] at this; omega
    have hSm : ∀ y ∈ S, smallV y ∧ y.reg < x.reg := fun y hy => by
      have h1 := hSp.mem_iff.1 hy
      have h2 : (seg.take (k + 1) ++ seg.drop (k + 1)).Pairwise fun x y => x.reg < y.reg := by rw [List.take_append_drop]; exact hreg
      rw [List.pairwise_append] at h2
      exact ⟨hsm y (List.mem_of_mem_take h1), h2.2.2 y h1 x (by rw [hdr]; simp)⟩
    refine WP.seq ?_
    refine WP.block ?_
    refine Zp ?_
    refine Zm ?_
    refine Zm ?_
    refine Ze ?_
    refine WP.sup (ρ' := [(9, .int .i64 ((pre.length + S.length : Nat) : Int)), (8, .int .i64 ((pre.length : Int) + 1 + (k : Int))), (8, .int .i64 ((pre.length : Int) + 1)), (0, sv.val), (1, .int .i64 (pre.length : Int)), (2, .int .i64 ((pre.length + seg.length : Nat) : Int)), (3, cmpF)]) (Γ' := [slA 62 encIv sv.val (pre ++ (S ++ (x :: ([] ++ (seg.drop (k + 2) ++ post)))))]) ?_ (by rw [hdr]; exact ent.refl _) ?_
    · have : ((pre.length : Int) + 1 + (k : Int)) = ((pre.length + S.length : Nat) : Int) := by omega
      rw [← this]; exact Kp.sup (car := [(9, .int .i64 ((pre.length : Int) + 1 + (k : Int))), (8, .int .i64 ((pre.length : Int) + 1 + (k : Int)))]) (ρ := [(8, .int .i64 ((pre.length : Int) + 1)), (0, sv.val), (1, .int .i64 (pre.length : Int)), (2, .int .i64 ((pre.length + seg.length : Nat) : Int)), (3, cmpF)]) ⟨(by repeat first | exact trivial | refine ⟨rfl, ?_⟩), rfl, rfl⟩
    refine WP.block ?_
    refine WP.loopK (α := List Iv × List Iv) (fun z => z.1 ++ z.2 = S ∧ ∀ q ∈ z.2, x.fr < q.fr) (fun z => [(9, .int .i64 ((pre.length + z.1.length : Nat) : Int))]) (fun z => [slA 62 encIv sv.val (pre ++ (z.1 ++ (x :: (z.2 ++ (seg.drop (k + 2) ++ post)))))]) (fun z => z.1.length) (S, []) ⟨by simp, by simp⟩ ⟨(by repeat first | exact trivial | refine ⟨rfl, ?_⟩), rfl, rfl⟩ (ent.refl _) ?_
    rintro ⟨P, Q⟩ ⟨hPQ, hQx⟩
    simp only at hPQ hQx ⊢
    have hlen : (pre ++ (P ++ (x :: (Q ++ (seg.drop (k + 2) ++ post))))).length ≤ 1000000 := by
      have h1 := congrArg List.length hPQ
      simp only [List.length_append, List.length_cons, List.length_drop] at h1 ⊢; omega
    have hSr : ∀ y ∈ P ++ Q, y.reg < x.reg := fun y hy => (hSm y (hPQ ▸ hy)).2
    have hSs' : (P ++ Q).Pairwise ltV := by rw [hPQ]; exact hSs
    refine WP.seq ?_
    refine WP.seq ?_
    rcases List.eq_nil_or_concat P with eP | ⟨P', p, eP⟩
    · subst eP
      have hins := insert_ok (P := []) (Q := Q) (x := x) hSs' hSr hQx (fun P' p h => by simp at h)
      refine WP.drawn0 cf0 mixed rfl (by kernel_rfl) ?_
      refine Zm ?_
      refine Zm ?_
      refine Zi ?_
      refine Run.ff (by simp) ?_
      refine Zm ?_
      iterate 12 refine Zv ?_
      refine Zq ?_
      refine Ze ?_
      refine Zno ?_
      refine Zj ?_; refine blk_norm ?_; refine thn_next ?_
      generalize hP0 : ([] : List Iv) = P at hPQ hins ⊢
      refine Zc ?_
      refine Zm ?_
      refine Za ?_
      refine Zm ?_
      refine Run.nil ?_
      refine thn_next ⟨(k + 1, P ++ x :: Q), ⟨by simp only; omega, ?_, hins⟩, by simp only; omega, ⟨⟨?_, trivial⟩, rfl, rfl⟩, ?_⟩
      · simp only
        rw [htk]
        refine List.Perm.trans ?_ (List.Perm.append hSp (List.Perm.refl [x]))
        rw [← hPQ, List.append_assoc]
        exact List.Perm.append_left P (List.perm_append_comm (l₁ := [x]) (l₂ := Q))
      · simp [Env.get]; omega
      · simp only [List.append_assoc, List.cons_append]; exact ent.refl _
    · have eP' : P = P' ++ [p] := by simpa using eP
      have hpm := (hSm p (by rw [← hPQ, eP']; simp)).1
      have gx0 : (pre ++ (P ++ (x :: (Q ++ (seg.drop (k + 2) ++ post)))))[pre.length + P.length]? = some x := by
        rw [List.getElem?_append_right (by omega), Nat.add_sub_cancel_left, List.getElem?_append_right (Nat.le_refl _), Nat.sub_self]; rfl
      have gp0 : (pre ++ (P ++ (x :: (Q ++ (seg.drop (k + 2) ++ post)))))[pre.length + P'.length]? = some p := by
        rw [List.getElem?_append_right (by omega), Nat.add_sub_cancel_left, eP', List.append_assoc, List.getElem?_append_right (Nat.le_refl _), Nat.sub_self]; rfl
      have hPl : P.length = P'.length + 1 := by rw [eP']; simp
      have hjl : pre.length + P.length < (pre ++ (P ++ (x :: (Q ++ (seg.drop (k + 2) ++ post))))).length := by simp only [List.length_append, List.length_cons]; omega
      have hj1 : ((pre.length + P.length : Nat) : Int) - 1 = ((pre.length + P'.length : Nat) : Int) := by omega
      generalize hD : (pre ++ (P ++ (x :: (Q ++ (seg.drop (k + 2) ++ post))))) = D at hlen gx0 gp0 hjl ⊢
      refine WP.drawn0 cf0 mixed rfl (by kernel_rfl) ?_
      refine Zm ?_
      refine Zm ?_
      refine Zi ?_
      refine Run.tt (by omega) ?_
      iterate 4 refine Zm ?_
      refine Run.idxO 0 rfl rfl rfl sl_44 rfl rfl rfl rfl (by omega) (by omega) ?_
      refine Run.loadOagg 0 (pre.length + P.length) rfl rfl ag_62 rfl rfl rfl rfl rfl gx0 ?_
      refine Zm ?_
      refine Zm ?_
      refine Zs ?_
      refine Run.eqv (v' := .int .i64 ((pre.length + P'.length : Nat) : Int)) (by rw [hj1]) ?_
      refine Run.idxO 0 rfl rfl rfl sl_44 rfl rfl rfl rfl (by omega) (by omega) ?_
      refine Run.loadOagg 0 (pre.length + P'.length) rfl rfl ag_62 rfl rfl rfl rfl rfl gp0 ?_
      refine Run.call (Δ := []) (Θ := [slA 62 encIv sv.val D]) rfl rfl rfl rfl ok_45 rfl rfl ent.go (cmp_ok hR x p hxm hpm) ?_; rintro _ _ ⟨rfl, rfl⟩
      refine Zi ?_
      refine Zq ?_
      refine Ze ?_
      refine WP.ite rfl (fun hc => ?_) (fun hc => ?_)
      · refine Zb ?_
        refine WP.seq ?_
        refine WP.block ?_
        have gp1 : (D.set (pre.length + P.length) p)[pre.length + P'.length]? = some p := by rw [List.getElem?_set_ne (by omega)]; exact gp0
        refine WP.drawn0 cf0 mixed rfl (by kernel_rfl) ?_
        iterate 4 refine Zm ?_
        refine Zs ?_
        refine Run.eqv (v' := .int .i64 ((pre.length + P'.length : Nat) : Int)) (by rw [hj1]) ?_
        refine Zm ?_
        refine Zm ?_
        refine Zs ?_
        refine Run.eqv (v' := .int .i64 ((pre.length + P'.length : Nat) : Int)) (by rw [hj1]) ?_
        refine Run.idxO 0 rfl rfl rfl sl_44 rfl rfl rfl rfl (by omega) (by omega) ?_
        refine Run.loadOagg 0 (pre.length + P'.length) rfl rfl ag_62 rfl rfl rfl rfl rfl gp0 ?_
        refine Zm ?_
        refine Zm ?_
        refine Run.idxO 0 rfl rfl rfl sl_44 rfl rfl rfl rfl (by omega) (by omega) ?_
        refine Run.loadOagg 0 (pre.length + P.length) rfl rfl ag_62 rfl rfl rfl rfl rfl gx0 ?_
        refine Run.idxO 0 rfl rfl rfl sl_44 rfl rfl rfl rfl (by omega) (by omega) ?_
        refine Run.storeO 0 (pre.length + P.length) 0 (y' := p) rfl rfl rfl rfl ag_62 rfl rfl rfl rfl gx0 rfl rfl ?_
        refine Run.idxO 0 rfl rfl rfl sl_44 rfl rfl rfl rfl (by omega) (by rw [List.length_set]; omega) ?_
        refine Run.storeO 0 (pre.length + P'.length) 0 (y' := x) rfl rfl rfl rfl ag_62 rfl rfl rfl rfl gp1 rfl rfl ?_
        refine Run.nil ?_
        refine blk_norm ?_; refine thn_next ?_
        refine Zc ?_
        refine Zm ?_
        refine Zs ?_
        refine Zm ?_
        refine Run.nil ?_
        have hD2 : (D.set (pre.length + P.length) p).set (pre.length + P'.length) x = pre ++ (P' ++ (x :: ((p :: Q) ++ (seg.drop (k + 2) ++ post)))) := by
          rw [← hD, eP', List.append_assoc]
          rw [List.set_append_right _ _ (by simp), List.set_append_right _ _ (by simp)]
          congr 1
          have a1 : pre.length + (P' ++ [p]).length - pre.length = P'.length + 1 := by simp
          have a2 : pre.length + P'.length - pre.length = P'.length := by omega
          rw [a1, a2, List.set_append_right _ _ (by omega), List.set_append_right _ _ (by omega)]
          congr 1
          have a3 : P'.length + 1 - P'.length = 1 := by omega
          rw [a3, Nat.sub_self]; rfl
        refine thn_next ⟨(P', p :: Q), ⟨by rw [← hPQ, eP']; simp, fun q hq => ?_⟩, by simp only; omega, ⟨⟨?_, trivial⟩, rfl, rfl⟩, ?_⟩
        · rcases List.mem_cons.1 hq with e | hq
          · subst e; omega
          · exact hQx q hq
        · simp only [← hj1]; rfl
        · simp only
          rw [← hD2]; exact ent.gn
      · have hins := insert_ok (P := P) (Q := Q) (x := x) hSs' hSr hQx (fun P2 p2 h => by
          rw [eP'] at h
          have := List.append_inj_right' h rfl
          simp at this; subst this; omega)
        refine Zj ?_; refine blk_norm ?_; refine thn_next ?_
        rw [← hD]
        refine Zc ?_
        refine Zm ?_
        refine Za ?_
        refine Zm ?_
        refine Run.nil ?_
        refine thn_next ⟨(k + 1, P ++ x :: Q), ⟨by simp only; omega, ?_, hins⟩, by simp only; omega, ⟨⟨?_, trivial⟩, rfl, rfl⟩, ?_⟩
        · simp only
          rw [htk]
          refine List.Perm.trans ?_ (List.Perm.append hSp (List.Perm.refl [x]))
          rw [← hPQ, List.append_assoc]
          exact List.Perm.append_left P (List.perm_append_comm (l₁ := [x]) (l₂ := Q))
        · simp [Env.get]; omega
        · simp only [List.append_assoc, List.cons_append]; exact ent.refl _
  · refine Zj ?_
    have e1 : seg.take (k + 1) = seg := List.take_of_length_le (by omega)
    have e2 : seg.drop (k + 1) = [] := List.drop_of_length_le (by omega)
    rw [e1] at hSp
    refine retN [] [] rfl rfl ⟨_, ?_, S, hSp, hSs, rfl⟩
    rw [e2]; exact ent.refl _
end Go.Proofs.YtjjfehdlmdhhmaaDoor
end
section
/- The library's stable sort at intervals, of at most twenty; walked. -/
namespace Go.Proofs.YtjjfehdlmdhhmaaDoor
open Go.Sep
set_option linter.unusedSimpArgs false
set_option linter.unusedVariables false
attribute [local irreducible] blk slA mp mpF rows rowsBut many
set_option maxHeartbeats 1000000 in
set_option maxRecDepth 100000 in
theorem stable20_ok (hR : Heap) (sv : SV) (xs : List Iv) (hreg : xs.Pairwise fun x y => x.reg < y.reg) (hsm : ∀ x ∈ xs, smallV x) (hl : xs.length ≤ 20) :
    Tri Tryd.prog hR 71 #[sv.val, .int .i64 (xs.length : Int), cmpF] [slA 62 encIv sv.val xs] fun _ Γ' => ∃ ys : List Iv, ys.Perm xs ∧ ys.Pairwise ltV ∧ Γ' = [slA 62 encIv sv.val ys] := by
  refine Tri.ent (Tri.of (args := [sv.val, .int .i64 (xs.length : Int), cmpF]) Tryd.func71 rfl Tryd.ntmps71 (by simp) ?_)
  refine Zp ?_
  refine Zm ?_
  refine Ze ?_
  refine Zp ?_
  iterate 3 refine Zm ?_
  refine Ze ?_
  refine WP.sup (ρ' := [(0, sv.val), (1, .int .i64 (xs.length : Int)), (2, cmpF), (6, .int .i64 20), (7, .int .i64 0), (8, .int .i64 20)]) (Γ' := [slA 62 encIv sv.val xs]) (covers_get ⟨rfl, rfl, rfl, rfl, rfl, rfl, trivial⟩) (ent.refl _) ?_
  refine WP.meetK (α := Nat × List Iv) (fun z => z.2.Perm xs ∧ ((z.1 = 0 ∧ z.2 = xs) ∨ (z.1 = 1 ∧ xs.length = 20 ∧ z.2.Pairwise ltV))) (fun z => [(7, .int .i64 (20 * (z.1 : Int))), (8, .int .i64 (20 * (z.1 : Int) + 20))]) (fun z => [slA 62 encIv sv.val z.2]) ?_ ?_
  · refine WP.block ?_
    refine WP.loopK (α := Nat × List Iv) (fun z => z.2.Perm xs ∧ ((z.1 = 0 ∧ z.2 = xs) ∨ (z.1 = 1 ∧ xs.length = 20 ∧ z.2.Pairwise ltV))) (fun z => [(7, .int .i64 (20 * (z.1 : Int))), (8, .int .i64 (20 * (z.1 : Int) + 20))]) (fun z => [slA 62 encIv sv.val z.2]) (fun z => 1 - z.1) (0, xs) ⟨List.Perm.refl _, .inl ⟨rfl, rfl⟩⟩ ⟨(by repeat first | exact trivial | refine ⟨rfl, ?_⟩), rfl, rfl⟩ (ent.refl _) ?_
    rintro ⟨t, D⟩ ⟨hp, ht⟩
    simp only at hp ht ⊢
    refine WP.seq ?_
    refine Zp ?_
    refine Zm ?_
    refine Zm ?_
    refine Zi ?_
    refine Ze ?_
    refine WP.ite rfl (fun hlt => ?_) (fun hge => ?_)
    · refine Zb ?_
      rcases ht with ⟨rfl, rfl⟩ | ⟨rfl, h20, _⟩
      · have hlen : D.length = 20 := by omega
        refine WP.block ?_
        refine Zp ?_
        iterate 4 refine Zm ?_
        refine Run.call (Δ := [slA 62 encIv sv.val D]) (Θ := []) rfl rfl rfl rfl ok_89 rfl rfl ent.go (by
          have h := insertion_ok hR sv [] D [] hreg hsm (by simp; omega)
          simp only [List.nil_append, List.append_nil, List.length_nil, Nat.zero_add, hlen] at h
          exact h) ?_; rintro _ _ ⟨D', hp', hs', rfl⟩
        refine Ze ?_
        refine Zp ?_
        refine Zm ?_
        refine Zm ?_
        refine Ze ?_
        refine Zc ?_
        refine Zm ?_
        refine Zm ?_
        refine Za ?_
        refine Zm ?_
        refine Run.nil ?_
        refine blk_norm ?_
        exact thn_next ⟨(1, D'), ⟨hp', .inr ⟨rfl, hlen, hs'⟩⟩, by simp only; omega, ⟨(by repeat first | exact trivial | refine ⟨rfl, ?_⟩), rfl, rfl⟩, ent.go⟩
      · exfalso; omega
    · refine Zj ?_
      exact thn_next ⟨(t, D), ⟨hp, ht⟩, ⟨(by repeat first | exact trivial | refine ⟨rfl, ?_⟩), rfl, rfl⟩, ent.go⟩
  rintro ⟨t, D⟩ ⟨hp, ht⟩
  simp only at hp ht ⊢
  have hDl := hp.length_eq
  refine WP.meetK (α := List Iv) (fun z => z.Perm xs ∧ z.Pairwise ltV) (fun _ => []) (fun z => [slA 62 encIv sv.val z]) ?_ ?_
  · rcases ht with ⟨rfl, rfl⟩ | ⟨rfl, h20, hs⟩
    · refine Zc ?_
      iterate 4 refine Zm ?_
      refine Run.call (Δ := [slA 62 encIv sv.val D]) (Θ := []) rfl rfl rfl rfl ok_89 rfl rfl ent.go (by
        have h := insertion_ok hR sv [] D [] hreg hsm (by simp; omega)
        simp only [List.nil_append, List.append_nil, List.length_nil, Nat.zero_add] at h
        exact h) ?_; rintro _ _ ⟨D', hp', hs', rfl⟩
      refine Run.nil ?_
      exact thn_next ⟨D', ⟨hp', hs'⟩, ⟨(by repeat first | exact trivial | refine ⟨rfl, ?_⟩), rfl, rfl⟩, ent.go⟩
    · refine Zc ?_
      iterate 4 refine Zm ?_
      refine Run.call (Δ := [slA 62 encIv sv.val D]) (Θ := []) rfl rfl rfl rfl ok_89 rfl rfl ent.go (by
        have h := insertion_ok hR sv D [] [] List.Pairwise.nil (fun x hx => by cases hx) (by simp; omega)
        simp only [List.append_nil, List.length_nil, Nat.add_zero, hDl, h20] at h
        rw [h20]
        exact h) ?_; rintro _ _ ⟨D', hp', hs', rfl⟩
      refine Run.nil ?_
      have hn : D' = [] := List.Perm.eq_nil hp'
      subst hn
      refine thn_next ⟨D, ⟨hp, hs⟩, ⟨(by repeat first | exact trivial | refine ⟨rfl, ?_⟩), rfl, rfl⟩, ?_⟩
      simp only [List.nil_append, List.append_nil]; exact ent.go
  rintro D2 ⟨hp2, hs2⟩
  refine WP.block ?_
  refine WP.loopK (α := Unit) (fun _ => True) (fun _ => []) (fun _ => [slA 62 encIv sv.val D2]) (fun _ => 0) () trivial ⟨(by repeat first | exact trivial | refine ⟨rfl, ?_⟩), rfl, rfl⟩ (ent.refl _) ?_
  rintro _ _
  refine WP.seq ?_
  refine Zp ?_
  refine Zm ?_
  refine Zm ?_
  refine Zi ?_
  refine Ze ?_
  refine WP.ite rfl (fun hlt => ?_) (fun hge => ?_)
  · exfalso; omega
  · refine Zj ?_
    exact retN [] [] rfl rfl ⟨_, ent.go, D2, hp2, hs2, rfl⟩
set_option maxRecDepth 100000 in
theorem sortStable20_ok (hR : Heap) (sv : SV) (xs : List Iv) (hreg : xs.Pairwise fun x y => x.reg < y.reg) (hsm : ∀ x ∈ xs, smallV x) (hl : xs.length ≤ 20) :
    Tri Tryd.prog hR 44 #[sv.val, cmpF] [slA 62 encIv sv.val xs] fun _ Γ' => ∃ ys : List Iv, ys.Perm xs ∧ ys.Pairwise ltV ∧ Γ' = [slA 62 encIv sv.val ys] := by
  refine Tri.ent (Tri.of (args := [sv.val, cmpF]) Tryd.func44 rfl Tryd.ntmps44 (by simp) ?_)
  refine Zc ?_
  refine Zm ?_
  refine Zm ?_
  refine Run.lenO 0 rfl rfl sl_44 rfl rfl rfl ?_
  refine Zm ?_
  refine Run.call (Δ := [slA 62 encIv sv.val xs]) (Θ := []) rfl rfl rfl rfl ok_71 rfl rfl ent.go (stable20_ok hR sv xs hreg hsm hl) ?_; rintro _ _ ⟨ys, h1, h2, rfl⟩
  refine Run.nil ?_
  exact retN [] [] rfl rfl ⟨_, ent.go, ys, h1, h2, rfl⟩
end Go.Proofs.YtjjfehdlmdhhmaaDoor
end
section
/- The library's sort and its compaction of numbers, off the shelf, in the words of pieces. -/
namespace Go.Proofs
open Go.Shelf
def Tryd.lays189_ren : Go.Shelf.Ren := ⟨fun | 189 => 68 | 125 => 88 | 257 => 87 | 128 => 101 | 129 => 102 | 294 => 92 | 295 => 93 | 296 => 94 | 297 => 95 | 298 => 96 | 299 => 97 | 216 => 98 | 300 => 99 | 301 => 100 | 328 => 104 | 329 => 105 | 330 => 106 | 331 => 107 | 332 => 108 | 215 => 109 | 343 => 111 | n => n, fun | 28 => 22 | 3 => 3 | 46 => 140 | 0 => 0 | 51 => 154 | 53 => 134 | 4 => 4 | 183 => 147 | 182 => 146 | 131 => 128 | 5 => 5 | 9 => 9 | 218 => 155 | 222 => 159 | 228 => 161 | 229 => 63 | n => n, fun | n => n⟩
theorem Tryd.lays189 : Go.Proofs.Lays.n189 Tryd.prog Tryd.lays189_ren := {
  mixed := by kernel_rfl
  f125 := Tryd.func88.trans (congrArg some (by kernel_rfl))
  f128 := Tryd.func101.trans (congrArg some (by kernel_rfl))
  f129 := Tryd.func102.trans (congrArg some (by kernel_rfl))
  f189 := Tryd.func68.trans (congrArg some (by kernel_rfl))
  f215 := Tryd.func109.trans (congrArg some (by kernel_rfl))
  f216 := Tryd.func98.trans (congrArg some (by kernel_rfl))
  f257 := Tryd.func87.trans (congrArg some (by kernel_rfl))
  f294 := Tryd.func92.trans (congrArg some (by kernel_rfl))
  f295 := Tryd.func93.trans (congrArg some (by kernel_rfl))
  f296 := Tryd.func94.trans (congrArg some (by kernel_rfl))
  f297 := Tryd.func95.trans (congrArg some (by kernel_rfl))
  f298 := Tryd.func96.trans (congrArg some (by kernel_rfl))
  f299 := Tryd.func97.trans (congrArg some (by kernel_rfl))
  f300 := Tryd.func99.trans (congrArg some (by kernel_rfl))
  f301 := Tryd.func100.trans (congrArg some (by kernel_rfl))
  f328 := Tryd.func104.trans (congrArg some (by kernel_rfl))
  f329 := Tryd.func105.trans (congrArg some (by kernel_rfl))
  f330 := Tryd.func106.trans (congrArg some (by kernel_rfl))
  f331 := Tryd.func107.trans (congrArg some (by kernel_rfl))
  f332 := Tryd.func108.trans (congrArg some (by kernel_rfl))
  f343 := Tryd.func111.trans (congrArg some (by kernel_rfl))
  t0 := Tryd.underlying0
  a0 := Tryd.isAgg0
  z0 := Tryd.sizeOf0
  v0 := Tryd.zeroValue0
  t3 := Tryd.underlying3
  a3 := Tryd.isAgg3
  z3 := Tryd.sizeOf3
  v3 := Tryd.zeroValue3
  t4 := Tryd.underlying4
  a4 := Tryd.isAgg4
  z4 := Tryd.sizeOf4
  v4 := Tryd.zeroValue4
  t5 := Tryd.underlying5
  a5 := Tryd.isAgg5
  z5 := Tryd.sizeOf5
  v5 := Tryd.zeroValue5
  t9 := Tryd.underlying9
  a9 := Tryd.isAgg9
  z9 := Tryd.sizeOf9
  v9 := Tryd.zeroValue9
  t28 := Tryd.underlying22
  a28 := Tryd.isAgg22
  z28 := Tryd.sizeOf22
  v28 := Tryd.zeroValue22
  t46 := Tryd.underlying140
  a46 := Tryd.isAgg140
  z46 := Tryd.sizeOf140
  v46 := Tryd.zeroValue140
  t51 := Tryd.underlying154
  a51 := Tryd.isAgg154
  z51 := Tryd.sizeOf154
  v51 := Tryd.zeroValue154
  t53 := Tryd.underlying134
  a53 := Tryd.isAgg134
  z53 := Tryd.sizeOf134
  v53 := Tryd.zeroValue134
  t131 := Tryd.underlying128
  a131 := Tryd.isAgg128
  z131 := Tryd.sizeOf128
  v131 := Tryd.zeroValue128
  t182 := Tryd.underlying146
  a182 := Tryd.isAgg146
  z182 := Tryd.sizeOf146
  v182 := Tryd.zeroValue146
  t183 := Tryd.underlying147
  a183 := Tryd.isAgg147
  z183 := Tryd.sizeOf147
  v183 := Tryd.zeroValue147
  t218 := Tryd.underlying155
  a218 := Tryd.isAgg155
  z218 := Tryd.sizeOf155
  v218 := Tryd.zeroValue155
  t222 := Tryd.underlying159
  a222 := Tryd.isAgg159
  z222 := Tryd.sizeOf159
  v222 := Tryd.zeroValue159
  t228 := Tryd.underlying161
  a228 := Tryd.isAgg161
  z228 := Tryd.sizeOf161
  v228 := Tryd.zeroValue161
  t229 := Tryd.underlying63
  a229 := Tryd.isAgg63
  z229 := Tryd.sizeOf63
  v229 := Tryd.zeroValue63 }
def Tryd.laysNm220_ren : Go.Shelf.Ren := ⟨fun | 20 => 39 | n => n, fun | 22 => 22 | 3 => 3 | 4 => 4 | 0 => 0 | n => n, fun | n => n⟩
theorem Tryd.laysNm220 : Go.Proofs.Lays2.n20 Tryd.prog Tryd.laysNm220_ren := {
  mixed := by kernel_rfl
  f20 := Tryd.func39.trans (congrArg some (by kernel_rfl))
  t0 := Tryd.underlying0
  a0 := Tryd.isAgg0
  z0 := Tryd.sizeOf0
  v0 := Tryd.zeroValue0
  t3 := Tryd.underlying3
  a3 := Tryd.isAgg3
  z3 := Tryd.sizeOf3
  v3 := Tryd.zeroValue3
  t4 := Tryd.underlying4
  a4 := Tryd.isAgg4
  z4 := Tryd.sizeOf4
  v4 := Tryd.zeroValue4
  t22 := Tryd.underlying22
  a22 := Tryd.isAgg22
  z22 := Tryd.sizeOf22
  v22 := Tryd.zeroValue22
  i3 := by kernel_rfl }
end Go.Proofs
namespace Go.Proofs.YtjjfehdlmdhhmaaDoor
open Go.Sep Go.Sort
set_option linter.unusedSimpArgs false
set_option linter.unusedVariables false
theorem hp_row {w : World} {b o n : Nat} {os : Array Obj} {T : TypeId} {pre X post : List Value} {ys : List Int} (hb : hp w b = some (.cells ⟨pre ++ X ++ post⟩ T (0, 0))) (ho : pre.length = o) (hl : ys.length = X.length) :
    hp (grow (putRow (Value.int .i64) (Sort.ahead w n) b o ys.toArray) os) b = some (.cells ⟨pre ++ ys.map (Value.int .i64) ++ post⟩ T (0, 0)) := by
  have hlt := hp_lt hb
  have hb' : w.heap[b]? = some (.cells ⟨pre ++ X ++ post⟩ T (0, 0)) := hb
  unfold hp grow putRow mapBlock Sort.ahead
  simp only
  rw [Array.getElem?_append_left (by simpa using hlt), Array.getElem?_modify, if_pos rfl, hb']
  simp only [Option.map_some, onCells]
  congr 2
  unfold putCells
  apply Array.ext_getElem?
  intro k
  rw [Array.getElem?_mapIdx]
  simp only [List.getElem?_toArray, List.size_toArray]
  by_cases h1 : o ≤ k ∧ k < o + ys.length
  · have e1 : (pre ++ X ++ post)[k]? = X[k - o]? := by rw [List.append_assoc, List.getElem?_append_right (by omega), List.getElem?_append_left (by omega), ho]
    have e2 : (pre ++ ys.map (Value.int .i64) ++ post)[k]? = (ys.map (Value.int .i64))[k - o]? := by rw [List.append_assoc, List.getElem?_append_right (by omega), List.getElem?_append_left (by simp; omega), ho]
    rw [e1, e2, List.getElem?_eq_getElem (by omega : k - o < X.length), List.getElem?_map, List.getElem?_eq_getElem (by omega : k - o < ys.length)]
    simp only [Option.map_some, h1, and_self, if_true]
    rw [getElem!_pos ys.toArray (k - o) (by simp; omega)]
    simp
  · have e : (pre ++ X ++ post)[k]? = (pre ++ ys.map (Value.int .i64) ++ post)[k]? := by
      rw [List.append_assoc, List.append_assoc]
      by_cases h2 : k < o
      · rw [List.getElem?_append_left (by omega), List.getElem?_append_left (by omega)]
      · rw [List.getElem?_append_right (by omega), List.getElem?_append_right (by omega), List.getElem?_append_right (by omega), List.getElem?_append_right (by simp; omega)]
        congr 1; simp; omega
    rw [← e]
    cases (pre ++ X ++ post)[k]? with
    | none => rfl
    | some x => simp [h1]
theorem hp_other {w : World} {b o n c : Nat} {os : Array Obj} {ys : List Int} (hc : c < w.heap.size) (hne : c ≠ b) : hp (grow (putRow (Value.int .i64) (Sort.ahead w n) b o ys.toArray) os) c = hp w c := by
  unfold hp grow putRow mapBlock Sort.ahead
  simp only
  rw [Array.getElem?_append_left (by simpa using hc), Array.getElem?_modify, if_neg (Ne.symm hne)]
theorem step_row {w : World} {h : Heap} {b o n : Nat} {os : Array Obj} {T : TypeId} {pre X post : List Value} {ys : List Int} (hh : h = put emp b (.cells ⟨pre ++ X ++ post⟩ T (0, 0))) (hs : Sub h (hp w)) (ho : pre.length = o) (hl : ys.length = X.length) :
    Step w h (grow (putRow (Value.int .i64) (Sort.ahead w n) b o ys.toArray) os) (put emp b (.cells ⟨pre ++ ys.map (Value.int .i64) ++ post⟩ T (0, 0))) := by
  subst hh
  have hb : hp w b = some (.cells ⟨pre ++ X ++ post⟩ T (0, 0)) := hs b _ put_emp_self
  refine ⟨fun c x hc => ?_, by simp [grow, putRow, mapBlock, Sort.ahead], fun c hc hn => ?_, fun c hc => ?_, ⟨rfl, rfl, rfl⟩⟩
  · unfold put at hc
    split at hc
    · rename_i e; subst e; cases hc; exact hp_row hb ho hl
    · cases hc
  · have e : c ≠ b := fun e => by subst e; simp [put] at hn
    exact hp_other hc e
  · left
    unfold put at hc ⊢
    split at hc
    · rename_i e; simp [e]
    · exact absurd rfl hc
theorem holds_of {w : World} {b o : Nat} {T : TypeId} {pre post : List Value} {xs : List Int} (hb : hp w b = some (.cells ⟨pre ++ xs.flatMap (Enc.int .i64).cells ++ post⟩ T (0, 0))) (ho : pre.length = o) : Holds (Value.int .i64) w b o xs.toArray := by
  intro j hj
  have hj' : j < xs.length := by simpa using hj
  refine ⟨?_, ?_⟩
  · refine cell?_of hb rfl ?_
    simp only [List.getElem?_toArray]
    have hfl := flat_len (Enc.int .i64) xs
    have hsz : (Enc.int .i64).sz = 1 := rfl
    rw [List.append_assoc, List.getElem?_append_right (by omega), List.getElem?_append_left (by rw [hfl, hsz]; omega)]
    have := flat_get (Enc.int .i64) xs j 0 xs[j] (List.getElem?_eq_getElem hj') (by decide)
    rw [hsz] at this
    have e : o + j - pre.length = j * 1 + 0 := by omega
    rw [e, this, getElem!_pos xs.toArray j hj]
    simp [Enc.int]
  · have hb' : w.heap[b]? = _ := hb
    simp [World.frozen?, hb']
theorem ints_map (xs : List Int) : xs.flatMap (Enc.int .i64).cells = xs.map (Value.int .i64) := by
  induction xs with
  | nil => rfl
  | cons x xs ih => rw [List.flatMap_cons, ih]; rfl
theorem sort_ok (hR : Heap) (sv : SV) (xs : List Int) (hl : xs.length ≤ 1000000000000000) :
    Tri Tryd.prog hR 68 #[sv.val] [slA 3 (Enc.int .i64) sv.val xs] fun _ Γ' => Γ' = [slA 3 (Enc.int .i64) sv.val (xs.mergeSort fun x y => decide (x ≤ y))] := by
  intro h w hs hf
  obtain ⟨h1, h2, g1, _, hd, rfl⟩ := hs
  have hml : (xs.mergeSort fun x y => decide (x ≤ y)).length = xs.length := List.length_mergeSort xs
  rcases g1 with ⟨hv, hx, hg⟩ | ⟨b, o, c, pre, post, hv, q1, q2, q3, q4⟩
  · rw [hv]
    refine (Any.slices_Sort_int_none Tryd.lays189 none 0 w).mono ?_
    rintro e w' ⟨rfl, rfl⟩
    refine ⟨_, un h1 h2, _, rfl, .refl hf.own, ?_, rfl⟩
    refine ⟨h1, h2, .inl ⟨rfl, List.length_eq_zero_iff.1 (by rw [hml, hx]; rfl), hg⟩, trivial, hd, rfl⟩
  · have hbw : hp w b = some (.cells ⟨pre ++ xs.flatMap (Enc.int .i64).cells ++ post⟩ 3 (0, 0)) := hf.own b _ (by subst q4; exact un_left_some put_emp_self)
    rw [hv]
    refine (Any.slices_Sort_int Tryd.lays189 b o c xs w (holds_of hbw q2) (hp_lt hbw) (by omega)).mono ?_
    rintro e w' ⟨rfl, n, os, rfl⟩
    have hst := step_row (n := n) (os := os) (ys := xs.mergeSort fun x y => decide (x ≤ y)) q4 (fun b o hb => hf.own b o (un_left_some hb)) q2 (by rw [hml, ints_map]; simp)
    have hst2 := hst.frame (fun b o hb => hf.own b o (by rw [un_comm hd]; exact un_left_some hb)) hd
    refine ⟨_, _, [slA 3 (Enc.int .i64) (.slice (some ⟨b, o, none⟩) xs.length c) (xs.mergeSort fun x y => decide (x ≤ y))], rfl, hst2.1, ⟨_, h2, .inr ⟨b, o, c, pre, post, by rw [hml], by rw [hml]; exact q1, q2, by rw [hml]; exact q3, by rw [ints_map]⟩, trivial, hst2.2, rfl⟩, rfl⟩
theorem compact_ok (hR : Heap) (sv : SV) (xs : List Int) (hl : xs.length ≤ 1000000000000000) :
    Tri Tryd.prog hR 39 #[sv.val] [slA 3 (Enc.int .i64) sv.val xs] fun v Γ' => ∃ ys : SV, v = ys.val ∧ ys.n = (Lib.compact xs).length ∧ Γ' = [] := by
  intro h w hs hf
  obtain ⟨h1, h2, g1, _, hd, rfl⟩ := hs
  rcases g1 with ⟨hv, hx, hg⟩ | ⟨b, o, c, pre, post, hv, q1, q2, q3, q4⟩
  · rw [hv]
    refine (Any.slices_Compact_int_empty Tryd.laysNm220 none 0 w).mono ?_
    rintro e w' ⟨rfl, rfl⟩
    exact ⟨_, un h1 h2, [], rfl, .refl hf.own, trivial, ⟨none, 0, 0⟩, rfl, by subst hx; rfl, rfl⟩
  · have hbw : hp w b = some (.cells ⟨pre ++ xs.flatMap (Enc.int .i64).cells ++ post⟩ 3 (0, 0)) := hf.own b _ (by subst q4; exact un_left_some put_emp_self)
    rw [hv]
    refine (Any.slices_Compact_int Tryd.laysNm220 b o c xs w (holds_of hbw q2) (by omega) q1).mono ?_
    rintro e w' ⟨rfl, n, rfl⟩
    have hcl : (Lib.compact xs).length ≤ xs.length := by
      unfold Lib.compact Lib.compactUpTo
      rw [List.length_map]
      exact Nat.le_trans (List.length_filter_le _ _) (by simp)
    have hst := step_row (n := n) (os := #[]) (ys := Lib.compact xs ++ List.replicate (xs.length - (Lib.compact xs).length) 0) q4 (fun b o hb => hf.own b o (un_left_some hb)) q2 (by rw [ints_map]; simp; omega)
    have hst2 := hst.frame (fun b o hb => hf.own b o (by rw [un_comm hd]; exact un_left_some hb)) hd
    rw [grow_empty] at hst2
    exact ⟨_, _, [], rfl, hst2.1, trivial, ⟨some ⟨b, o, none⟩, (Lib.compact xs).length, c⟩, rfl, rfl, rfl⟩
end Go.Proofs.YtjjfehdlmdhhmaaDoor
end
section
/- slices.Sorted of slices.Values; walked (the sort itself off the shelf). -/
namespace Go.Proofs.YtjjfehdlmdhhmaaDoor
open Go.Sep
set_option linter.unusedSimpArgs false
set_option linter.unusedVariables false
attribute [local irreducible] blk slA mp mpF rows rowsBut many
theorem values_ok (hR : Heap) (lv : SV) : Tri Tryd.prog hR 38 #[lv.val] [] fun v Γ' => ∃ b1, v = .func (.func 69) #[] #[.pointer (some ⟨b1, 0, none⟩)] ∧ Γ' = [blk b1 [lv.val] 22] := by
  refine Tri.of (args := [lv.val]) Tryd.func38 rfl Tryd.ntmps38 (by simp) ?_
  refine Zp ?_
  refine Run.box rfl rfl rfl rfl rfl ?_
  intro b1
  refine Zm ?_
  refine Ze ?_
  refine Zp ?_
  refine Run.makeFunc rfl (fs := _) rfl (cs := _) rfl rfl rfl ?_
  refine Zm ?_
  refine Ze ?_
  refine WP.ret ?_
  exact retT [2] _ rfl rfl ⟨_, rfl, rfl⟩
set_option maxRecDepth 100000 in
theorem values_iter (hR : Heap) (b1 : Nat) (lv : SV) (xs : List Int) (hlv : SlR rdI hR lv.val xs) (hlen : xs.length ≤ 1000000000000000)
    (H : Nat → List HProp) (l : Nat) (r : Loop) (hY : ∀ i x, xs[i]? = some x → Yld Tryd.prog hR l [.int .i64 x] (lop l r :: blk b1 [lv.val] 22 :: H i) (fun v Γ' => v = .bool true ∧ Γ' = lop l r :: blk b1 [lv.val] 22 :: H (i + 1))) :
    Tri Tryd.prog hR 69 #[yv l, .pointer (some ⟨b1, 0, none⟩)] (lop l r :: blk b1 [lv.val] 22 :: H 0) (fun _ Γ' => Γ' = lop l r :: blk b1 [lv.val] 22 :: H xs.length) := by
  refine Tri.of (args := [yv l, .pointer (some ⟨b1, 0, none⟩)]) Tryd.func69 rfl Tryd.ntmps69 (by simp) ?_
  refine Zp ?_
  refine Zl 1 ag_22 ?_
  refine Zh sl_22 hlv ?_
  refine Zm ?_
  refine Ze ?_
  refine WP.block ?_
  refine WP.loopK (α := Nat) (fun z => z ≤ xs.length) (fun z => [(7, .int .i64 (z : Int))]) (fun z => lop l r :: blk b1 [lv.val] 22 :: H z) (fun z => xs.length - z) 0 (Nat.zero_le _) ⟨(by repeat first | exact trivial | refine ⟨rfl, ?_⟩), rfl, rfl⟩ (ent.refl _) ?_
  rintro i hi
  refine Zp ?_
  refine Zi ?_
  refine Ze ?_
  refine WP.seq ?_
  refine WP.ite rfl (fun hlt => ?_) (fun hge => ?_)
  · refine Zb ?_
    obtain ⟨x, gx⟩ : ∃ y, xs[i]? = some y := ⟨_, List.getElem?_eq_getElem (by omega)⟩
    have hy := hY i x gx
    refine WP.seq ?_
    refine WP.block ?_
    refine Zp ?_
    refine Zx sl_22 hlv ?_
    refine Zr ag_3 (SlR.cell0 hlv gx rfl) ?_
    refine Zm ?_
    refine Ze ?_
    refine WP.seq ?_
    refine WP.plainYk 2 cf0 (m := l) rfl rfl rfl rfl rfl rfl rfl rfl ?_
    refine Zm ?_
    refine Zm ?_
    refine Run.nil ?_
    refine ⟨_, _, [], _, rfl, rfl, ?_, hy, ?_⟩
    · rw [List.append_nil]; exact ent.refl _
    rintro _ _ ⟨rfl, rfl⟩
    refine Run.bnotB rfl rfl rfl rfl ?_
    refine Ze ?_
    refine Zno ?_
    refine WP.skip ?_; refine blk_norm ?_; refine thn_next ?_
    refine Zc ?_
    refine Za ?_
    refine Zm ?_
    refine Run.nil ?_
    refine thn_next ⟨i + 1, by omega, by omega, ⟨(by repeat first | exact trivial | refine ⟨rfl, ?_⟩), rfl, rfl⟩, by rw [List.append_nil]; exact ent.refl _⟩
  · refine Zj ?_
    have e : i = xs.length := by omega
    subst e
    exact retN [] [] rfl rfl rfl
/-- what has been put together -/
def grown (b2 : Nat) (xs : List Int) : HProp := fun h => ∃ sv : SV, sat [blk b2 [sv.val] 22, slA 3 (Enc.int .i64) sv.val xs] h
theorem grown_in (b2 : Nat) (xs : List Int) (sv : SV) (Γ : List HProp) : ent (blk b2 [sv.val] 22 :: slA 3 (Enc.int .i64) sv.val xs :: Γ) (grown b2 xs :: Γ) := fun h hs => by
  obtain ⟨h1, h2, g1, g2, hd, e⟩ := (sat_append (Γ := [blk b2 [sv.val] 22, slA 3 (Enc.int .i64) sv.val xs]) (Δ := Γ)).1 hs
  exact ⟨h1, h2, ⟨sv, g1⟩, g2, hd, e⟩
theorem grown_out (b2 : Nat) (xs : List Int) (Γ : List HProp) : ∀ h, sat (grown b2 xs :: Γ) h → ∃ sv : SV, sat (blk b2 [sv.val] 22 :: slA 3 (Enc.int .i64) sv.val xs :: Γ) h := fun h ⟨h1, h2, ⟨sv, g1⟩, g2, hd, e⟩ =>
  ⟨sv, (sat_append (Γ := [blk b2 [sv.val] 22, slA 3 (Enc.int .i64) sv.val xs]) (Δ := Γ)).2 ⟨h1, h2, g1, g2, hd, e⟩⟩
theorem ok_69 : calleeOk Tryd.prog 69 = true := by kernel_rfl
set_option maxRecDepth 100000 in
theorem appendSeq_ok (hR : Heap) (lv : SV) (xs : List Int) (hlv : SlR rdI hR lv.val xs) (hlen : xs.length ≤ 17592186043906) (b1 : Nat) :
    Tri Tryd.prog hR 86 #[.slice none 0 0, .func (.func 69) #[] #[.pointer (some ⟨b1, 0, none⟩)]] [blk b1 [lv.val] 22] fun v Γ' => ∃ sv : SV, v = sv.val ∧ Γ' = [slA 3 (Enc.int .i64) sv.val xs] := by
  refine Tri.ent (Tri.ofWX (args := [.slice none 0 0, .func (.func 69) #[] #[.pointer (some ⟨b1, 0, none⟩)]]) Tryd.func86 rfl Tryd.ntmps86 (by simp) ?_)
  refine WX.pre ?_
  refine Zc ?_
  refine Run.box rfl rfl rfl rfl rfl ?_
  intro b2
  refine Zm ?_
  refine Run.nil ?_
  refine ⟨rfl, ?_⟩
  refine WX.sup (ρ' := [(1, .func (.func 69) #[] #[.pointer (some ⟨b1, 0, none⟩)]), (2, .pointer (some ⟨b2, 0, none⟩)), (4, .slice none 0 0)]) (Γ' := [blk b1 [lv.val] 22, grown b2 []]) (covers_get ⟨rfl, rfl, rfl, trivial⟩) ?_ ?_
  · refine ent.trans (slA_nil 3 (Enc.int .i64) _) ?_
    refine ent.trans (Δ := blk b2 [nilS.val] 22 :: slA 3 (Enc.int .i64) nilS.val [] :: [blk b1 [lv.val] 22]) ent.go ?_
    exact (grown_in b2 [] nilS _).trans ent.go
  refine WX.mid rfl ?_
  refine Zc ?_
  refine Zm ?_
  refine Run.nil ?_
  refine ⟨rfl, fun i => blk b1 [lv.val] 22 :: [grown b2 (xs.take i)], xs.length, fun i => [.int .i64 (xs.getD i 0)], 69, #[.pointer (some ⟨b1, 0, none⟩)], ⟨rfl, ok_69, fun _ => rfl, ?_, ?_, ?_⟩, ?_⟩
  · exact ent.go
  · intro l r hY
    refine values_iter hR b1 lv xs hlv (by omega) (fun i => [grown b2 (xs.take i)]) l r fun i x hx => ?_
    have := hY i (List.getElem?_eq_some_iff.1 hx).1
    simp only [List.getD_eq_getElem?_getD, hx, Option.getD_some] at this
    exact this
  · intro l i hi
    obtain ⟨x, gx⟩ : ∃ y, xs[i]? = some y := ⟨_, List.getElem?_eq_getElem hi⟩
    have htk : xs.take (i + 1) = xs.take i ++ [x] := by rw [List.take_add_one, gx]; rfl
    have htl : (xs.take i).length ≤ xs.length := by rw [List.length_take]; omega
    have h1l : [x].length = 1 := rfl
    rw [List.getD_eq_getElem?_getD, gx, htk]
    simp only [Option.getD_some]
    refine WP.plain cf0 rfl ?_ (hn := nd_of rfl)
    refine Zm ?_
    refine Run.nil ?_
    refine ⟨rfl, ?_⟩
    refine WP.block ?_
    refine WP.via (Γ' := grown b2 (xs.take i) :: [blk b1 [lv.val] 22]) ent.go ?_
    refine WP.opens (grown_out b2 (xs.take i) _) fun sv => ?_
    refine WP.plain cf0 rfl ?_ (hn := nd_of rfl)
    refine Zl 0 ag_22 ?_
    refine Zm ?_
    refine Run.buildSlice (E := (Enc.int .i64)) rfl sl_22 zr_3 ([x]) rfl rfl rfl (by decide) rfl rfl ?_
    intro b10
    refine Run.append 1 rfl rfl rfl rfl rfl rfl sl_22 zr_3 rfl (src_own 3 rfl) (by first | omega | (simp <;> omega)) (by first | omega | (simp <;> omega)) ?_
    intro sv11 hv11
    refine Run.storeB 0 rfl rfl rfl rfl ag_22 rfl rfl rfl rfl rfl ?_
    refine Run.nil ?_
    refine blk_norm ?_
    refine ⟨rfl, ?_⟩
    refine ent.trans (Δ := blk b2 [sv11.val] 22 :: slA 3 (Enc.int .i64) sv11.val (xs.take i ++ [x]) :: [blk b1 [lv.val] 22]) ent.gn ?_
    exact (grown_in b2 _ sv11 _).trans ent.go
  · intro D
    refine WP.via (Γ' := grown b2 xs :: [blk b1 [lv.val] 22]) (by simp only [List.take_length]; exact ent.go) ?_
    refine WP.opens (grown_out b2 xs _) fun sv => ?_
    refine Zp ?_
    refine Zl 0 ag_22 ?_
    refine Zm ?_
    refine Ze ?_
    refine WP.ret ?_
    exact retT [4] _ rfl rfl ⟨_, ent.go, sv, rfl, rfl⟩
set_option maxRecDepth 100000 in
theorem collect_ok (hR : Heap) (lv : SV) (xs : List Int) (hlv : SlR rdI hR lv.val xs) (hlen : xs.length ≤ 17592186043906) (b1 : Nat) :
    Tri Tryd.prog hR 67 #[.func (.func 69) #[] #[.pointer (some ⟨b1, 0, none⟩)]] [blk b1 [lv.val] 22] fun v Γ' => ∃ sv : SV, v = sv.val ∧ Γ' = [slA 3 (Enc.int .i64) sv.val xs] := by
  refine Tri.ent (Tri.of (args := [.func (.func 69) #[] #[.pointer (some ⟨b1, 0, none⟩)]]) Tryd.func67 rfl Tryd.ntmps67 (by simp) ?_)
  refine Zp ?_
  refine Zm ?_
  refine Ze ?_
  refine Zp ?_
  refine Zm ?_
  refine Run.call (Δ := [blk b1 [lv.val] 22]) (Θ := []) rfl rfl rfl rfl ok_86 rfl rfl ent.go (appendSeq_ok hR lv xs hlv hlen b1) ?_; rintro _ _ ⟨sv, rfl, rfl⟩
  refine Zm ?_
  refine Ze ?_
  refine WP.ret ?_
  exact retT [2] _ rfl rfl ⟨_, ent.go, sv, rfl, rfl⟩
set_option maxRecDepth 100000 in
theorem sorted_ok (hR : Heap) (lv : SV) (xs : List Int) (hlv : SlR rdI hR lv.val xs) (hlen : xs.length ≤ 17592186043906) (b1 : Nat) :
    Tri Tryd.prog hR 37 #[.func (.func 69) #[] #[.pointer (some ⟨b1, 0, none⟩)]] [blk b1 [lv.val] 22] fun v Γ' => ∃ sv : SV, v = sv.val ∧ Γ' = [slA 3 (Enc.int .i64) sv.val (xs.mergeSort fun x y => decide (x ≤ y))] := by
  refine Tri.ent (Tri.of (args := [.func (.func 69) #[] #[.pointer (some ⟨b1, 0, none⟩)]]) Tryd.func37 rfl Tryd.ntmps37 (by simp) ?_)
  refine Zp ?_
  refine Zm ?_
  refine Ze ?_
  refine Zp ?_
  refine Zm ?_
  refine Run.call (Δ := [blk b1 [lv.val] 22]) (Θ := []) rfl rfl rfl rfl ok_67 rfl rfl ent.go (collect_ok hR lv xs hlv hlen b1) ?_; rintro _ _ ⟨sv, rfl, rfl⟩
  refine Zm ?_
  refine Ze ?_
  refine Zp ?_
  refine Zm ?_
  refine Run.call (Δ := [slA 3 (Enc.int .i64) sv.val xs]) (Θ := []) rfl rfl rfl rfl ok_68 rfl rfl ent.go (sort_ok hR sv xs (by omega)) ?_; rintro _ _ rfl
  refine Ze ?_
  refine Zp ?_
  refine Zm ?_
  refine Zm ?_
  refine Ze ?_
  refine WP.ret ?_
  exact retT [2] _ rfl rfl ⟨_, ent.go, sv, rfl, rfl⟩
end Go.Proofs.YtjjfehdlmdhhmaaDoor
end
