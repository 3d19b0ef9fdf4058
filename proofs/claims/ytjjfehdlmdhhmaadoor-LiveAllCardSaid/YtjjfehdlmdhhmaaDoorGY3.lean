/- What is kept: fronts of grown slices that are full of their marks; plain. -/
import Derived.Test.YtjjfehdlmdhhmaaDoorGT8
import Derived.Test.YtjjfehdlmdhhmaaDoorGT1
import Derived.Test.YtjjfehdlmdhhmaaDoorGL7
import Derived.Test.YtjjfehdlmdhhmaaDoorGU1
section
/- What is kept: fronts of grown slices that are full of their marks; plain. -/
namespace Go.Proofs.YtjjfehdlmdhhmaaDoor
open Go.Sep
set_option linter.unusedSimpArgs false
set_option linter.unusedVariables false
attribute [local irreducible] blk slA mp mpF rows rowsBut many
section
variable {A : Type}
/-- a slice that is the front of one of the rows, and holds only what is of its mark -/
def Pre (G : List (SV × List A)) (φ : A → Prop) (v : SV) : Prop := v.n = 0 ∨ ∃ g xs, (g, xs) ∈ G ∧ v.a = g.a ∧ v.c = g.c ∧ v.n ≤ xs.length ∧ ∀ x ∈ xs.take v.n, φ x
theorem Pre.mono {G G' : List (SV × List A)} {φ ψ : A → Prop} {v : SV} (h : ∀ q ∈ G, q ∈ G') (hf : ∀ x, φ x → ψ x) (hp : Pre G φ v) : Pre G' ψ v :=
  hp.imp id fun ⟨g, xs, h1, h2, h3, h4, h5⟩ => ⟨g, xs, h _ h1, h2, h3, h4, fun x hx => hf x (h5 x hx)⟩
theorem Pre.top {G : List (SV × List A)} {φ : A → Prop} {v : SV} {xs : List A} (hn : v.n = xs.length) (h : (v, xs) ∈ G) (hf : ∀ x ∈ xs, φ x) : Pre G φ v :=
  .inr ⟨v, _, h, rfl, rfl, by omega, fun x hx => hf x (List.mem_of_mem_take hx)⟩
theorem Pre.grow {G G' : List (SV × List A)} {φ : A → Prop} {v f f' : SV} {xs ys : List A} (hp : Pre (G ++ [(f, xs)]) φ v) (hor : (G' = G ∧ f'.a = f.a ∧ f'.c = f.c) ∨ G' = G ++ [(f, xs)]) : Pre (G' ++ [(f', xs ++ ys)]) φ v := by
  rcases hor with ⟨rfl, ha, hc⟩ | rfl
  · refine hp.imp id ?_
    rintro ⟨g, zs, h1, h2, h3, h4, h5⟩
    rcases List.mem_append.1 h1 with h1 | h1
    · exact ⟨g, zs, by simp [h1], h2, h3, h4, h5⟩
    · simp at h1
      obtain ⟨rfl, rfl⟩ := h1
      refine ⟨f', zs ++ ys, by simp, by rw [ha]; exact h2, by rw [hc]; exact h3, by simp; omega, fun x hx => h5 x ?_⟩
      rwa [List.take_append_of_le_length h4] at hx
  · exact hp.mono (fun q hq => by simp at hq ⊢; rcases hq with h | h <;> simp [h]) fun _ h => h
theorem Pre.read {T : TypeId} {E : Enc A} {G : List (SV × List A)} {φ : A → Prop} {v : SV} (hp : Pre G φ v) {h : Heap} (hs : rows T E G h) : ∃ xs : List A, xs.length = v.n ∧ (∀ x ∈ xs, φ x) ∧ SlR E.rd h v.val xs := by
  rcases hp with h0 | ⟨g, xs, h1, h2, h3, h4, h5⟩
  · exact ⟨[], by simp [h0], fun x hx => (by cases hx), v.a, v.c, by simp [SV.val, h0], Nat.zero_le _, fun h => absurd rfl h⟩
  · obtain ⟨i, hi⟩ := List.getElem?_of_mem h1
    obtain ⟨a, cc, q1, q2, q3⟩ := sat_rows hs hi
    simp only [SV.val, Value.slice.injEq] at q1
    obtain ⟨r1, r2, r3⟩ := q1
    refine ⟨xs.take v.n, by simp; omega, h5, v.a, v.c, by simp [SV.val]; omega, by simp; omega, fun hne => ?_⟩
    obtain ⟨ad, r4, r5⟩ := q3 (fun e => by subst e; simp at hne)
    refine ⟨ad, by rw [h2, r1, r4], fun j x hx => r5 j x ?_⟩
    rw [List.getElem?_take] at hx
    split at hx
    · exact hx
    · cases hx
structure Views (φ : Int → A → Prop) (V : List SV) (M : List Int) (G : List (SV × List A)) : Prop where
  len : V.length = M.length
  pre : ∀ (i : Nat) (v : SV) (m : Int), V[i]? = some v → M[i]? = some m → Pre G (φ m) v ∧ 0 ≤ m ∧ m ≤ 1000000 ∧ v.n ≤ 1000000000
theorem Views.mono {φ ψ : Int → A → Prop} {V : List SV} {M : List Int} {G G' : List (SV × List A)} (h : Views φ V M G) (hG : ∀ m v, Pre G (φ m) v → Pre G' (ψ m) v) : Views ψ V M G' :=
  ⟨h.len, fun i v m hv hm => ⟨hG _ _ (h.pre i v m hv hm).1, (h.pre i v m hv hm).2⟩⟩
theorem Views.snoc {φ : Int → A → Prop} {V : List SV} {M : List Int} {G : List (SV × List A)} (h : Views φ V M G) {v : SV} {m : Int} (hp : Pre G (φ m) v) (h0 : 0 ≤ m) (h1 : m ≤ 1000000) (hn : v.n ≤ 1000000000) : Views φ (V ++ [v]) (M ++ [m]) G := by
  refine ⟨by simp [h.len], fun i v' m' hv hm => ?_⟩
  have hl := h.len
  by_cases e : i < V.length
  · rw [List.getElem?_append_left e] at hv
    rw [List.getElem?_append_left (by omega)] at hm
    exact h.pre i v' m' hv hm
  · have h2 := (List.getElem?_eq_some_iff.1 hv).1
    simp at h2
    have h3 : i = V.length := by omega
    subst h3
    rw [List.getElem?_append_right (by omega)] at hv hm
    simp [hl] at hv hm
    subst hv; subst hm
    exact ⟨hp, h0, h1, hn⟩
theorem Views.nil (φ : Int → A → Prop) : Views φ [] [] ([] : List (SV × List A)) := ⟨rfl, fun i v m h => by simp at h⟩
structure HS (A : Type) where
  i : Nat
  far : SV
  ys : List A
  V : List SV
  M : List Int
  G : List (SV × List A)
  H : List (SV × List Int)
  ls : SV
  ms : SV
end
def φS (m : Int) (x : Iv) : Prop := x = ⟨-9, m, 0⟩
def φI (m : Int) (x : Int) : Prop := x = -9 - m
def φL (H : List (SV × List Int)) (m : Int) (x : SV) : Prop := (x, [m, -9]) ∈ H
abbrev Ei : Enc Int := Enc.int .i64
def subH (H H' : List (SV × List Int)) : Prop := ∀ q ∈ H, q ∈ H'
theorem subH.refl (H : List (SV × List Int)) : subH H H := fun _ h => h
theorem subH.trans {A B C : List (SV × List Int)} (h1 : subH A B) (h2 : subH B C) : subH A C := fun q h => h2 q (h1 q h)
theorem subH.snoc (H : List (SV × List Int)) (q : SV × List Int) : subH H (H ++ [q]) := fun _ h => List.mem_append_left _ h
theorem φL.mono {H H' : List (SV × List Int)} (h : subH H H') {m : Int} {x : SV} (hx : φL H m x) : φL H' m x := h _ hx
end Go.Proofs.YtjjfehdlmdhhmaaDoor
end
section
/- What is kept is written full, and held as it grows; walked. -/
namespace Go.Proofs.YtjjfehdlmdhhmaaDoor
open Go.Sep
set_option linter.unusedSimpArgs false
set_option linter.unusedVariables false
attribute [local irreducible] blk slA mp mpF rows rowsBut many

set_option maxHeartbeats 1000000 in
set_option maxRecDepth 100000 in
theorem fillS_ok (hR : Heap) (l : SV) (m : Int) (xs : List Iv) (h0 : 0 ≤ m) (h1 : m ≤ 1000000) (hlen : xs.length ≤ 1000000000) :
    Tri Tryd.prog hR 56 #[l.val, .int .i64 m] [slA 62 encIv l.val xs] fun u Γ' => ∃ ys : List Iv, ys.length = xs.length ∧ (∀ x ∈ ys, φS m x) ∧ Γ' = [slA 62 encIv l.val ys] := by
  refine Tri.ent (Tri.of (args := [l.val, .int .i64 m]) Tryd.func56 rfl Tryd.ntmps56 (by simp) ?_)
  refine Zp ?_
  refine Zm ?_
  refine Ze ?_
  refine WP.block ?_
  refine WP.trim [4, 0, 1] [0] ?_
  refine WP.loopC (α := Nat × List Iv) (fun z => z.1 ≤ xs.length ∧ z.2.length = xs.length ∧ ∀ (q : Nat) (x : Iv), q < z.1 → z.2[q]? = some x → φS m x) (fun z => [(4, .int .i64 (z.1 : Int))]) (fun z => [(0, slA 62 encIv l.val z.2)]) (fun z => xs.length - z.1) (0, xs) ⟨Nat.zero_le _, rfl, fun q x hq => by simp at hq⟩ ?_
  rintro ⟨i, ys⟩ ⟨hi, hl, hk⟩
  simp only at hi hl hk
  refine WP.trim [4, 0, 1] [0] ?_
  try simp only
  refine WP.seq ?_
  refine Zp ?_
  refine Zm ?_
  refine Zm ?_
  refine Run.lenO 0 rfl rfl sl_44 rfl rfl rfl ?_
  refine Zi ?_
  refine Ze ?_
  refine WP.ite rfl (fun hlt => ?_) (fun hge => ?_)
  · refine Zb ?_
    have hlt' : i < ys.length := by omega
    obtain ⟨y, gy⟩ : ∃ x, ys[i]? = some x := ⟨_, List.getElem?_eq_getElem hlt'⟩
    refine WP.seq ?_
    refine WP.block ?_
    refine Zc ?_
    iterate 3 refine Zm ?_
    refine Run.build rfl bd_62 rfl rfl rfl rfl ?_
    refine Run.idxO 0 rfl rfl rfl sl_44 rfl rfl rfl rfl (by omega) (by omega) ?_
    refine Run.storeO 0 i 0 (y' := (⟨-9, m, 0⟩ : Iv)) rfl rfl rfl rfl ag_62 rfl rfl rfl rfl gy rfl rfl ?_
    refine Run.nil ?_
    refine blk_norm ?_; refine thn_next ?_
    refine Zc ?_
    refine Zm ?_
    refine Za ?_
    refine Zm ?_
    refine Run.nil ?_
    refine thn_next ⟨(i + 1, ys.set i (⟨-9, m, 0⟩ : Iv)), ⟨by simp only; omega, by simp [hl], fun q x hq hx => ?_⟩, by simp only; omega, Ko.go, ent.gc⟩
    simp only at hq hx
    by_cases e : q = i
    · subst e; rw [List.getElem?_set_self hlt'] at hx; cases hx; exact rfl
    · rw [List.getElem?_set_ne (Ne.symm e)] at hx; exact hk q x (by omega) hx
  · refine Zj ?_
    refine retN [] [] rfl rfl ⟨_, ent.refl _, ys, hl, fun x hx => ?_, rfl⟩
    obtain ⟨j, hj⟩ := List.getElem?_of_mem hx
    exact hk j x (by have := (List.getElem?_eq_some_iff.1 hj).1; omega) hj
set_option maxHeartbeats 2000000 in
set_option maxRecDepth 100000 in
theorem holdS_ok (hR : Heap) (kb : Nat) (ls ms l : SV) (c0 c2 c4 c5 c6 c7 c8 c9 : Value) (V : List SV) (M : List Int) (G : List (SV × List Iv)) (m : Int) (xs : List Iv) (hV : Views (φS) V M G) (h0 : 0 ≤ m) (h1 : m ≤ 1000000) (hn : xs.length ≤ 1000000) (hVl : V.length ≤ 1000000) (hxs : ∀ x ∈ xs, φS m x) :
    Tri Tryd.prog hR 57 #[.pointer (some ⟨kb, 0, none⟩), l.val, .int .i64 m] [blk kb [c0, ls.val, c2, ms.val, c4, c5, c6, c7, c8, c9] 73, slA 44 Enc.slice ls.val V, slA 3 Ei ms.val M, rows 62 encIv G, slA 62 encIv l.val xs]
      fun u Γ' => ∃ (V' : List SV) (M' : List Int) (G' : List (SV × List Iv)) (ls' ms' : SV), Γ' = [blk kb [c0, ls'.val, c2, ms'.val, c4, c5, c6, c7, c8, c9] 73, slA 44 Enc.slice ls'.val V', slA 3 Ei ms'.val M', rows 62 encIv G'] ∧ Views (φS) V' M' G' ∧ V'.length ≤ V.length + 41 := by
  refine Tri.ent (Tri.of (args := [.pointer (some ⟨kb, 0, none⟩), l.val, .int .i64 m]) Tryd.func57 rfl Tryd.ntmps57 (by simp) ?_)
  have hMl := hV.len
  refine WP.know (slA_know 4 rfl) fun hkn => ?_
  have hln : l.n = xs.length := hkn.1
  have h1l : [l].length = 1 := rfl
  have h1m : [m].length = 1 := rfl
  refine Zp ?_
  refine Zm ?_
  refine Zm ?_
  refine Zn ?_
  refine Zf fo_73_1 ?_
  refine Zl 0 ag_70 ?_
  refine Zm ?_
  refine Run.buildSlice (E := Enc.slice) rfl sl_70 zr_44 ([l]) rfl rfl rfl (by decide) rfl rfl ?_
  intro b14
  refine Run.append 1 rfl rfl rfl rfl rfl rfl sl_70 zr_44 rfl (src_own 5 rfl) (by first | omega | (simp <;> omega)) (by first | omega | (simp <;> omega)) ?_
  intro sv15 hv15
  refine Zn ?_
  refine Zf fo_73_1 ?_
  refine Run.storeB 0 rfl rfl rfl rfl ag_70 rfl rfl rfl rfl rfl ?_
  refine Ze ?_
  refine WP.trim [0, 1, 2] [0, 1, 2, 3, 4] ?_
  refine Zp ?_
  refine Zm ?_
  refine Zm ?_
  refine Zn ?_
  refine Zf fo_73_3 ?_
  refine Zl 0 ag_22 ?_
  refine Zm ?_
  refine Run.buildSlice (E := Ei) rfl sl_22 zr_3 ([m]) rfl rfl rfl (by decide) rfl rfl ?_
  intro b24
  refine Run.append 2 rfl rfl rfl rfl rfl rfl sl_22 zr_3 rfl (src_own 5 rfl) (by first | omega | (simp <;> omega)) (by first | omega | (simp <;> omega)) ?_
  intro sv25 hv25
  refine Zn ?_
  refine Zf fo_73_3 ?_
  refine Run.storeB 0 rfl rfl rfl rfl ag_22 rfl rfl rfl rfl rfl ?_
  refine Ze ?_
  refine Zp ?_
  refine Zm ?_
  refine Zm ?_
  refine Ze ?_
  refine Zp ?_
  refine Zm ?_
  refine Ze ?_
  refine WP.block ?_
  refine WP.trim [6, 7, 0, 2] [0, 1, 2, 3, 4] ?_
  refine WP.loopC (α := HS Iv) (fun z => z.i ≤ 40 ∧ z.ys.length = xs.length + z.i ∧ (∀ x ∈ z.ys, φS m x) ∧ Views (φS) z.V z.M (z.G ++ [(z.far, z.ys)]) ∧ z.V.length ≤ V.length + 1 + z.i ∧ z.far.n = xs.length + z.i) (fun z => [(6, z.far.val), (7, .int .i64 (z.i : Int))])
    (fun z => [(0, blk kb [c0, z.ls.val, c2, z.ms.val, c4, c5, c6, c7, c8, c9] 73), (1, slA 44 Enc.slice z.ls.val z.V), (2, slA 3 Ei z.ms.val z.M), (3, rows 62 encIv z.G), (4, slA 62 encIv z.far.val z.ys)]) (fun z => 40 - z.i)
    ⟨0, l, xs, V ++ [l], M ++ [m], G, [], sv15, sv25⟩ ⟨Nat.zero_le _, rfl, hxs, (hV.mono fun c v hp => hp.mono (fun q hq => by simp [hq]) fun _ h => h).snoc (Pre.top hln (by simp) hxs) h0 h1 (by omega), by simp, hln⟩ ?_
  rintro ⟨i, far, ys, V1, M1, G1, H1, ls1, ms1⟩ ⟨hi, hyl, hys, hV1, hVl1, hfn⟩
  simp only at hi hyl hys hV1 hVl1 hfn
  have hMl1 := hV1.len
  refine WP.trim [6, 7, 0, 2] [0, 1, 2, 3, 4] ?_
  try simp only
  refine WP.seq ?_
  refine Zp ?_
  refine Zm ?_
  refine Zi ?_
  refine Ze ?_
  refine WP.ite rfl (fun hlt => ?_) (fun hge => ?_)
  · refine Zb ?_
    have h1n : [(⟨-9, m, 0⟩ : Iv)].length = 1 := rfl
    refine WP.trim [6, 7, 0, 2] [0, 1, 2, 3, 4] ?_
    refine WP.meetC (α := HS Iv) (fun z => z.ys.length = xs.length + (i + 1) ∧ (∀ x ∈ z.ys, φS m x) ∧ Views (φS) z.V z.M (z.G ++ [(z.far, z.ys)]) ∧ z.V.length ≤ V.length + 1 + (i + 1) ∧ z.far.n = xs.length + (i + 1)) (fun z => [(6, z.far.val)])
      (fun z => [(0, blk kb [c0, z.ls.val, c2, z.ms.val, c4, c5, c6, c7, c8, c9] 73), (1, slA 44 Enc.slice z.ls.val z.V), (2, slA 3 Ei z.ms.val z.M), (3, rows 62 encIv z.G), (4, slA 62 encIv z.far.val z.ys)]) ?_ ?_
    · refine WP.block ?_
      refine Zp ?_
      refine Zm ?_
      refine Zm ?_
      refine Run.build rfl bd_62 rfl rfl rfl rfl ?_
      refine Run.buildSlice (E := encIv) rfl sl_44 zr_62 ([(⟨-9, m, 0⟩ : Iv)]) rfl rfl rfl (by decide) rfl rfl ?_
      intro b36
      refine Run.appendG 4 3 rfl rfl rfl rfl rfl rfl sl_44 zr_62 rfl rfl (by decide) (src_own 5 rfl) (by simp <;> omega) (by simp <;> omega) ?_; intro sv37 G2 hv37 hG2
      refine Zm ?_
      refine Ze ?_
      have hyl2 : (ys ++ [(⟨-9, m, 0⟩ : Iv)]).length = xs.length + (i + 1) := by rw [List.length_append]; simp; omega
      have hfn2 : sv37.n = xs.length + (i + 1) := by rw [hv37]; simp; omega
      have hys2 : ∀ x ∈ ys ++ [(⟨-9, m, 0⟩ : Iv)], φS m x := fun x hx => by
        rcases List.mem_append.1 hx with hx | hx
        · exact hys x hx
        · rw [List.mem_singleton.1 hx]; exact rfl
      have hV2 : Views φS V1 M1 (G2 ++ [(sv37, ys ++ [(⟨-9, m, 0⟩ : Iv)])]) := hV1.mono fun c v hp => hp.grow hG2
      refine WP.trim [6, 7, 0, 2] [0, 1, 2, 3, 4] ?_
      generalize ys ++ [(⟨-9, m, 0⟩ : Iv)] = ys2 at hyl2 hys2 hV2 ⊢
      have h1f : [sv37].length = 1 := rfl
      refine WP.seq ?_
      by_cases h16 : (i : Int) < 16
      · refine Zc ?_
        refine Zm ?_
        refine Zi ?_
        refine Run.tt h16 ?_
        refine Zm ?_
        refine Zv ?_
        refine Zv ?_
        refine Zq ?_
        refine Ze ?_
        refine Zyes ?_
        refine WP.trim [6, 7, 0, 2] [0, 1, 2, 3, 4] ?_
        refine Zp ?_
        refine Zm ?_
        refine Zm ?_
        refine Zn ?_
        refine Zf fo_73_1 ?_
        refine Zl 0 ag_70 ?_
        refine Zm ?_
        refine Run.buildSlice (E := Enc.slice) rfl sl_70 zr_44 ([sv37]) rfl rfl rfl (by decide) rfl rfl ?_
        intro b50
        refine Run.append 1 rfl rfl rfl rfl rfl rfl sl_70 zr_44 rfl (src_own 5 rfl) (by first | omega | (simp <;> omega)) (by first | omega | (simp <;> omega)) ?_
        intro sv51 hv51
        refine Zn ?_
        refine Zf fo_73_1 ?_
        refine Run.storeB 0 rfl rfl rfl rfl ag_70 rfl rfl rfl rfl rfl ?_
        refine Ze ?_
        refine WP.trim [6, 7, 0, 2] [0, 1, 2, 3, 4] ?_
        refine Zc ?_
        refine Zm ?_
        refine Zm ?_
        refine Zn ?_
        refine Zf fo_73_3 ?_
        refine Zl 0 ag_22 ?_
        refine Zm ?_
        refine Run.buildSlice (E := Ei) rfl sl_22 zr_3 ([m]) rfl rfl rfl (by decide) rfl rfl ?_
        intro b60
        refine Run.append 2 rfl rfl rfl rfl rfl rfl sl_22 zr_3 rfl (src_own 5 rfl) (by first | omega | (simp <;> omega)) (by first | omega | (simp <;> omega)) ?_
        intro sv61 hv61
        refine Zn ?_
        refine Zf fo_73_3 ?_
        refine Run.storeB 0 rfl rfl rfl rfl ag_22 rfl rfl rfl rfl rfl ?_
        refine Run.nil ?_
        refine blk_norm ?_
        exact thn_next ⟨⟨i + 1, sv37, ys2, V1 ++ [sv37], M1 ++ [m], G2, H1, sv51, sv61⟩, ⟨hyl2, hys2, hV2.snoc (Pre.top (by omega) (by simp) hys2) h0 h1 (by omega), by simp; omega, hfn2⟩, Ko.go, ent.gc⟩
      by_cases h39 : (i : Int) = 39
      · refine Zc ?_
        refine Zm ?_
        refine Zi ?_
        refine Run.ff h16 ?_
        refine Zm ?_
        refine Zm ?_
        refine Zi ?_
        refine Run.tt h39 ?_
        refine Zq ?_
        refine Ze ?_
        refine Zyes ?_
        refine WP.trim [6, 7, 0, 2] [0, 1, 2, 3, 4] ?_
        refine Zp ?_
        refine Zm ?_
        refine Zm ?_
        refine Zn ?_
        refine Zf fo_73_1 ?_
        refine Zl 0 ag_70 ?_
        refine Zm ?_
        refine Run.buildSlice (E := Enc.slice) rfl sl_70 zr_44 ([sv37]) rfl rfl rfl (by decide) rfl rfl ?_
        intro b50
        refine Run.append 1 rfl rfl rfl rfl rfl rfl sl_70 zr_44 rfl (src_own 5 rfl) (by first | omega | (simp <;> omega)) (by first | omega | (simp <;> omega)) ?_
        intro sv51 hv51
        refine Zn ?_
        refine Zf fo_73_1 ?_
        refine Run.storeB 0 rfl rfl rfl rfl ag_70 rfl rfl rfl rfl rfl ?_
        refine Ze ?_
        refine WP.trim [6, 7, 0, 2] [0, 1, 2, 3, 4] ?_
        refine Zc ?_
        refine Zm ?_
        refine Zm ?_
        refine Zn ?_
        refine Zf fo_73_3 ?_
        refine Zl 0 ag_22 ?_
        refine Zm ?_
        refine Run.buildSlice (E := Ei) rfl sl_22 zr_3 ([m]) rfl rfl rfl (by decide) rfl rfl ?_
        intro b60
        refine Run.append 2 rfl rfl rfl rfl rfl rfl sl_22 zr_3 rfl (src_own 5 rfl) (by first | omega | (simp <;> omega)) (by first | omega | (simp <;> omega)) ?_
        intro sv61 hv61
        refine Zn ?_
        refine Zf fo_73_3 ?_
        refine Run.storeB 0 rfl rfl rfl rfl ag_22 rfl rfl rfl rfl rfl ?_
        refine Run.nil ?_
        refine blk_norm ?_
        exact thn_next ⟨⟨i + 1, sv37, ys2, V1 ++ [sv37], M1 ++ [m], G2, H1, sv51, sv61⟩, ⟨hyl2, hys2, hV2.snoc (Pre.top (by omega) (by simp) hys2) h0 h1 (by omega), by simp; omega, hfn2⟩, Ko.go, ent.gc⟩
      · refine Zc ?_
        refine Zm ?_
        refine Zi ?_
        refine Run.ff h16 ?_
        refine Zm ?_
        refine Zm ?_
        refine Zi ?_
        refine Run.ff h39 ?_
        refine Zq ?_
        refine Ze ?_
        refine Zno ?_
        refine WP.skip ?_; refine blk_norm ?_
        exact thn_next ⟨⟨i + 1, sv37, ys2, V1, M1, G2, H1, ls1, ms1⟩, ⟨hyl2, hys2, hV2, by simp only; omega, hfn2⟩, Ko.go, ent.gc⟩
    rintro ⟨_, far, ys, V1, M1, G1, H1, ls1, ms1⟩ ⟨hyl, hys, hV1, hVl1, hfn⟩
    refine WP.trim [6, 7, 0, 2] [0, 1, 2, 3, 4] ?_
    try simp only
    refine Zc ?_
    refine Zm ?_
    refine Za ?_
    refine Zm ?_
    refine Run.nil ?_
    exact thn_next ⟨⟨i + 1, far, ys, V1, M1, G1, H1, ls1, ms1⟩, ⟨by simp only; omega, hyl, hys, hV1, hVl1, hfn⟩, by simp only; omega, Ko.go, ent.gc⟩
  · refine Zj ?_
    refine retN [] [] rfl rfl ⟨[blk kb [c0, ls1.val, c2, ms1.val, c4, c5, c6, c7, c8, c9] 73, slA 44 Enc.slice ls1.val V1, slA 3 Ei ms1.val M1, rows 62 encIv (G1 ++ [(far, ys)])], ?_, V1, M1, G1 ++ [(far, ys)], ls1, ms1, rfl, hV1, by omega⟩
    exact ent.trans (Δ := rows 62 encIv G1 :: slA 62 encIv far.val ys :: [blk kb [c0, ls1.val, c2, ms1.val, c4, c5, c6, c7, c8, c9] 73, slA 44 Enc.slice ls1.val V1, slA 3 Ei ms1.val M1]) ent.gc ((rows_snoc _).trans ent.go)
set_option maxHeartbeats 1000000 in
set_option maxRecDepth 100000 in
theorem fillL_ok (hR : Heap) (l : SV) (m : Int) (xs : List SV) (H : List (SV × List Int)) (h0 : 0 ≤ m) (h1 : m ≤ 1000000) (hlen : xs.length ≤ 1000000000) :
    Tri Tryd.prog hR 75 #[l.val, .int .i64 m] [slA 22 Enc.slice l.val xs, rows 3 Ei H] fun u Γ' => ∃ (ys : List SV) (H' : List (SV × List Int)), subH H H' ∧ ys.length = xs.length ∧ (∀ x ∈ ys, φL H' m x) ∧ Γ' = [slA 22 Enc.slice l.val ys, rows 3 Ei H'] := by
  refine Tri.ent (Tri.of (args := [l.val, .int .i64 m]) Tryd.func75 rfl Tryd.ntmps75 (by simp) ?_)
  refine Zp ?_
  refine Zm ?_
  refine Ze ?_
  refine WP.block ?_
  refine WP.trim [4, 0, 1] [0, 1] ?_
  refine WP.loopC (α := Nat × List SV × List (SV × List Int)) (fun z => z.1 ≤ xs.length ∧ z.2.1.length = xs.length ∧ subH H z.2.2 ∧ ∀ (q : Nat) (x : SV), q < z.1 → z.2.1[q]? = some x → φL z.2.2 m x) (fun z => [(4, .int .i64 (z.1 : Int))]) (fun z => [(0, slA 22 Enc.slice l.val z.2.1), (1, rows 3 Ei z.2.2)]) (fun z => xs.length - z.1) (0, xs, H) ⟨Nat.zero_le _, rfl, subH.refl H, fun q x hq => by simp at hq⟩ ?_
  rintro ⟨i, ys, H1⟩ ⟨hi, hl, hs, hk⟩
  simp only at hi hl hs hk
  refine WP.trim [4, 0, 1] [0, 1] ?_
  try simp only
  refine WP.seq ?_
  refine Zp ?_
  refine Zm ?_
  refine Zm ?_
  refine Run.lenO 0 rfl rfl sl_30 rfl rfl rfl ?_
  refine Zi ?_
  refine Ze ?_
  refine WP.ite rfl (fun hlt => ?_) (fun hge => ?_)
  · refine Zb ?_
    have hlt' : i < ys.length := by omega
    obtain ⟨y, gy⟩ : ∃ x, ys[i]? = some x := ⟨_, List.getElem?_eq_getElem hlt'⟩
    refine WP.seq ?_
    refine WP.block ?_
    refine Zc ?_
    iterate 3 refine Zm ?_
    refine Run.buildSlice (E := Ei) rfl sl_22 zr_3 ([m, -9]) rfl rfl rfl (by decide) rfl rfl ?_
    intro b14
    refine Run.idxO 0 rfl rfl rfl sl_30 rfl rfl rfl rfl (by omega) (by omega) ?_
    refine Run.storeO 0 i 0 (y' := (⟨some ⟨b14, 0, none⟩, 2, 2⟩ : SV)) rfl rfl rfl rfl ag_22 rfl rfl rfl rfl gy rfl rfl ?_
    refine Run.nil ?_
    refine blk_norm ?_; refine thn_next ?_
    refine WP.trim [4, 0, 1] [1, 2, 0] ?_
    refine WP.via (rows_snoc (sv := (⟨some ⟨b14, 0, none⟩, 2, 2⟩ : SV)) _) ?_
    refine Zc ?_
    refine Zm ?_
    refine Za ?_
    refine Zm ?_
    refine Run.nil ?_
    refine thn_next ⟨(i + 1, ys.set i (⟨some ⟨b14, 0, none⟩, 2, 2⟩ : SV), H1 ++ [((⟨some ⟨b14, 0, none⟩, 2, 2⟩ : SV), [m, -9])]), ⟨by simp only; omega, by simp [hl], hs.trans (subH.snoc _ _), fun q x hq hx => ?_⟩, by simp only; omega, Ko.go, ent.gc⟩
    simp only at hq hx
    by_cases e : q = i
    · subst e; rw [List.getElem?_set_self hlt'] at hx; cases hx; exact List.mem_append_right _ (by simp)
    · rw [List.getElem?_set_ne (Ne.symm e)] at hx; exact φL.mono (subH.snoc _ _) (hk q x (by omega) hx)
  · refine Zj ?_
    refine retN [] [] rfl rfl ⟨_, ent.refl _, ys, H1, hs, hl, fun x hx => ?_, rfl⟩
    obtain ⟨j, hj⟩ := List.getElem?_of_mem hx
    exact hk j x (by have := (List.getElem?_eq_some_iff.1 hj).1; omega) hj
set_option maxHeartbeats 2000000 in
set_option maxRecDepth 100000 in
theorem holdL_ok (hR : Heap) (kb : Nat) (ls ms l : SV) (c0 c1 c2 c3 c5 c7 c8 c9 : Value) (V : List SV) (M : List Int) (G : List (SV × List SV)) (H : List (SV × List Int)) (m : Int) (xs : List SV) (hV : Views (φL H) V M G) (h0 : 0 ≤ m) (h1 : m ≤ 1000000) (hn : xs.length ≤ 1000000) (hVl : V.length ≤ 1000000) (hxs : ∀ x ∈ xs, φL H m x) :
    Tri Tryd.prog hR 76 #[.pointer (some ⟨kb, 0, none⟩), l.val, .int .i64 m] [blk kb [c0, c1, c2, c3, ls.val, c5, ms.val, c7, c8, c9] 73, slA 30 Enc.slice ls.val V, slA 3 Ei ms.val M, rows 22 Enc.slice G, rows 3 Ei H, slA 22 Enc.slice l.val xs]
      fun u Γ' => ∃ (V' : List SV) (M' : List Int) (G' : List (SV × List SV)) (H2 : List (SV × List Int)) (ls' ms' : SV), Γ' = [blk kb [c0, c1, c2, c3, ls'.val, c5, ms'.val, c7, c8, c9] 73, slA 30 Enc.slice ls'.val V', slA 3 Ei ms'.val M', rows 22 Enc.slice G', rows 3 Ei H2] ∧ Views (φL H2) V' M' G' ∧ V'.length ≤ V.length + 41 ∧ subH H H2 := by
  refine Tri.ent (Tri.of (args := [.pointer (some ⟨kb, 0, none⟩), l.val, .int .i64 m]) Tryd.func76 rfl Tryd.ntmps76 (by simp) ?_)
  have hMl := hV.len
  refine WP.know (slA_know 5 rfl) fun hkn => ?_
  have hln : l.n = xs.length := hkn.1
  have h1l : [l].length = 1 := rfl
  have h1m : [m].length = 1 := rfl
  refine Zp ?_
  refine Zm ?_
  refine Zm ?_
  refine Zn ?_
  refine Zf fo_73_4 ?_
  refine Zl 0 ag_71 ?_
  refine Zm ?_
  refine Run.buildSlice (E := Enc.slice) rfl sl_71 zr_30 ([l]) rfl rfl rfl (by decide) rfl rfl ?_
  intro b14
  refine Run.append 1 rfl rfl rfl rfl rfl rfl sl_71 zr_30 rfl (src_own 6 rfl) (by first | omega | (simp <;> omega)) (by first | omega | (simp <;> omega)) ?_
  intro sv15 hv15
  refine Zn ?_
  refine Zf fo_73_4 ?_
  refine Run.storeB 0 rfl rfl rfl rfl ag_71 rfl rfl rfl rfl rfl ?_
  refine Ze ?_
  refine WP.trim [0, 1, 2] [0, 1, 2, 3, 4, 5] ?_
  refine Zp ?_
  refine Zm ?_
  refine Zm ?_
  refine Zn ?_
  refine Zf fo_73_6 ?_
  refine Zl 0 ag_22 ?_
  refine Zm ?_
  refine Run.buildSlice (E := Ei) rfl sl_22 zr_3 ([m]) rfl rfl rfl (by decide) rfl rfl ?_
  intro b24
  refine Run.append 2 rfl rfl rfl rfl rfl rfl sl_22 zr_3 rfl (src_own 6 rfl) (by first | omega | (simp <;> omega)) (by first | omega | (simp <;> omega)) ?_
  intro sv25 hv25
  refine Zn ?_
  refine Zf fo_73_6 ?_
  refine Run.storeB 0 rfl rfl rfl rfl ag_22 rfl rfl rfl rfl rfl ?_
  refine Ze ?_
  refine Zp ?_
  refine Zm ?_
  refine Zm ?_
  refine Ze ?_
  refine Zp ?_
  refine Zm ?_
  refine Ze ?_
  refine WP.block ?_
  refine WP.trim [6, 7, 0, 2] [0, 1, 2, 3, 4, 5] ?_
  refine WP.loopC (α := HS SV) (fun z => z.i ≤ 24 ∧ z.ys.length = xs.length + z.i ∧ (∀ x ∈ z.ys, φL z.H m x) ∧ Views (φL z.H) z.V z.M (z.G ++ [(z.far, z.ys)]) ∧ z.V.length ≤ V.length + 1 + z.i ∧ z.far.n = xs.length + z.i ∧ subH H z.H) (fun z => [(6, z.far.val), (7, .int .i64 (z.i : Int))])
    (fun z => [(0, blk kb [c0, c1, c2, c3, z.ls.val, c5, z.ms.val, c7, c8, c9] 73), (1, slA 30 Enc.slice z.ls.val z.V), (2, slA 3 Ei z.ms.val z.M), (3, rows 22 Enc.slice z.G), (4, rows 3 Ei z.H), (5, slA 22 Enc.slice z.far.val z.ys)]) (fun z => 24 - z.i)
    ⟨0, l, xs, V ++ [l], M ++ [m], G, H, sv15, sv25⟩ ⟨Nat.zero_le _, rfl, hxs, (hV.mono fun c v hp => hp.mono (fun q hq => by simp [hq]) fun _ h => h).snoc (Pre.top hln (by simp) hxs) h0 h1 (by omega), by simp, hln, subH.refl H⟩ ?_
  rintro ⟨i, far, ys, V1, M1, G1, H1, ls1, ms1⟩ ⟨hi, hyl, hys, hV1, hVl1, hfn, hsH⟩
  simp only at hi hyl hys hV1 hVl1 hfn hsH
  have hMl1 := hV1.len
  refine WP.trim [6, 7, 0, 2] [0, 1, 2, 3, 4, 5] ?_
  try simp only
  refine WP.seq ?_
  refine Zp ?_
  refine Zm ?_
  refine Zi ?_
  refine Ze ?_
  refine WP.ite rfl (fun hlt => ?_) (fun hge => ?_)
  · refine Zb ?_
    have h1n : [(⟨some ⟨0, 0, none⟩, 2, 2⟩ : SV)].length = 1 := rfl
    refine WP.trim [6, 7, 0, 2] [0, 1, 2, 3, 4, 5] ?_
    refine WP.meetC (α := HS SV) (fun z => z.ys.length = xs.length + (i + 1) ∧ (∀ x ∈ z.ys, φL z.H m x) ∧ Views (φL z.H) z.V z.M (z.G ++ [(z.far, z.ys)]) ∧ z.V.length ≤ V.length + 1 + (i + 1) ∧ z.far.n = xs.length + (i + 1) ∧ subH H z.H) (fun z => [(6, z.far.val)])
      (fun z => [(0, blk kb [c0, c1, c2, c3, z.ls.val, c5, z.ms.val, c7, c8, c9] 73), (1, slA 30 Enc.slice z.ls.val z.V), (2, slA 3 Ei z.ms.val z.M), (3, rows 22 Enc.slice z.G), (4, rows 3 Ei z.H), (5, slA 22 Enc.slice z.far.val z.ys)]) ?_ ?_
    · refine WP.block ?_
      refine Zp ?_
      refine Zm ?_
      refine Zm ?_
      refine Run.buildSlice (E := Ei) rfl sl_22 zr_3 ([m, -9]) rfl rfl rfl (by decide) rfl rfl ?_
      intro b35
      refine Run.buildSlice (E := Enc.slice) rfl sl_30 zr_22 ([(⟨some ⟨b35, 0, none⟩, 2, 2⟩ : SV)]) rfl rfl rfl (by decide) rfl rfl ?_
      intro b36
      refine Run.appendG 5 3 rfl rfl rfl rfl rfl rfl sl_30 zr_22 rfl rfl (by decide) (src_own 7 rfl) (by simp <;> omega) (by simp <;> omega) ?_; intro sv37 G2 hv37 hG2
      refine Zm ?_
      refine Ze ?_
      have hyl2 : (ys ++ [(⟨some ⟨b35, 0, none⟩, 2, 2⟩ : SV)]).length = xs.length + (i + 1) := by rw [List.length_append]; simp; omega
      have hfn2 : sv37.n = xs.length + (i + 1) := by rw [hv37]; simp; omega
      have hH2 : subH H1 (H1 ++ [((⟨some ⟨b35, 0, none⟩, 2, 2⟩ : SV), [m, -9])]) := subH.snoc _ _
      have hys2 : ∀ x ∈ ys ++ [(⟨some ⟨b35, 0, none⟩, 2, 2⟩ : SV)], φL (H1 ++ [((⟨some ⟨b35, 0, none⟩, 2, 2⟩ : SV), [m, -9])]) m x := fun x hx => by
        rcases List.mem_append.1 hx with hx | hx
        · exact φL.mono hH2 (hys x hx)
        · rw [List.mem_singleton.1 hx]; exact List.mem_append_right _ (by simp)
      have hV2 : Views (φL (H1 ++ [((⟨some ⟨b35, 0, none⟩, 2, 2⟩ : SV), [m, -9])])) V1 M1 (G2 ++ [(sv37, ys ++ [(⟨some ⟨b35, 0, none⟩, 2, 2⟩ : SV)])]) := hV1.mono fun c v hp => (hp.grow hG2).mono (fun _ h => h) fun _ h => φL.mono hH2 h
      have hsH2 := hsH.trans hH2
      refine WP.trim [6, 7, 0, 2] [4, 6, 0, 1, 2, 3, 5] ?_
      refine WP.via (rows_snoc (sv := (⟨some ⟨b35, 0, none⟩, 2, 2⟩ : SV)) _) ?_
      refine WP.trim [6, 7, 0, 2] [1, 2, 3, 4, 0, 5] ?_
      generalize (⟨some ⟨b35, 0, none⟩, 2, 2⟩ : SV) = nv at hyl2 hys2 hV2 hsH2 ⊢
      generalize H1 ++ [(nv, [m, -9])] = H2 at hys2 hV2 hsH2 ⊢
      generalize ys ++ [nv] = ys2 at hyl2 hys2 hV2 ⊢
      have h1f : [sv37].length = 1 := rfl
      refine WP.seq ?_
      by_cases h16 : (i : Int) < 16
      · refine Zc ?_
        refine Zm ?_
        refine Zi ?_
        refine Run.tt h16 ?_
        refine Zm ?_
        refine Zv ?_
        refine Zv ?_
        refine Zq ?_
        refine Ze ?_
        refine Zyes ?_
        refine WP.trim [6, 7, 0, 2] [0, 1, 2, 3, 4, 5] ?_
        refine Zp ?_
        refine Zm ?_
        refine Zm ?_
        refine Zn ?_
        refine Zf fo_73_4 ?_
        refine Zl 0 ag_71 ?_
        refine Zm ?_
        refine Run.buildSlice (E := Enc.slice) rfl sl_71 zr_30 ([sv37]) rfl rfl rfl (by decide) rfl rfl ?_
        intro b50
        refine Run.append 1 rfl rfl rfl rfl rfl rfl sl_71 zr_30 rfl (src_own 6 rfl) (by first | omega | (simp <;> omega)) (by first | omega | (simp <;> omega)) ?_
        intro sv51 hv51
        refine Zn ?_
        refine Zf fo_73_4 ?_
        refine Run.storeB 0 rfl rfl rfl rfl ag_71 rfl rfl rfl rfl rfl ?_
        refine Ze ?_
        refine WP.trim [6, 7, 0, 2] [0, 1, 2, 3, 4, 5] ?_
        refine Zc ?_
        refine Zm ?_
        refine Zm ?_
        refine Zn ?_
        refine Zf fo_73_6 ?_
        refine Zl 0 ag_22 ?_
        refine Zm ?_
        refine Run.buildSlice (E := Ei) rfl sl_22 zr_3 ([m]) rfl rfl rfl (by decide) rfl rfl ?_
        intro b60
        refine Run.append 2 rfl rfl rfl rfl rfl rfl sl_22 zr_3 rfl (src_own 6 rfl) (by first | omega | (simp <;> omega)) (by first | omega | (simp <;> omega)) ?_
        intro sv61 hv61
        refine Zn ?_
        refine Zf fo_73_6 ?_
        refine Run.storeB 0 rfl rfl rfl rfl ag_22 rfl rfl rfl rfl rfl ?_
        refine Run.nil ?_
        refine blk_norm ?_
        exact thn_next ⟨⟨i + 1, sv37, ys2, V1 ++ [sv37], M1 ++ [m], G2, H2, sv51, sv61⟩, ⟨hyl2, hys2, hV2.snoc (Pre.top (by omega) (by simp) hys2) h0 h1 (by omega), by simp; omega, hfn2, hsH2⟩, Ko.go, ent.gc⟩
      by_cases h39 : (i : Int) = 23
      · refine Zc ?_
        refine Zm ?_
        refine Zi ?_
        refine Run.ff h16 ?_
        refine Zm ?_
        refine Zm ?_
        refine Zi ?_
        refine Run.tt h39 ?_
        refine Zq ?_
        refine Ze ?_
        refine Zyes ?_
        refine WP.trim [6, 7, 0, 2] [0, 1, 2, 3, 4, 5] ?_
        refine Zp ?_
        refine Zm ?_
        refine Zm ?_
        refine Zn ?_
        refine Zf fo_73_4 ?_
        refine Zl 0 ag_71 ?_
        refine Zm ?_
        refine Run.buildSlice (E := Enc.slice) rfl sl_71 zr_30 ([sv37]) rfl rfl rfl (by decide) rfl rfl ?_
        intro b50
        refine Run.append 1 rfl rfl rfl rfl rfl rfl sl_71 zr_30 rfl (src_own 6 rfl) (by first | omega | (simp <;> omega)) (by first | omega | (simp <;> omega)) ?_
        intro sv51 hv51
        refine Zn ?_
        refine Zf fo_73_4 ?_
        refine Run.storeB 0 rfl rfl rfl rfl ag_71 rfl rfl rfl rfl rfl ?_
        refine Ze ?_
        refine WP.trim [6, 7, 0, 2] [0, 1, 2, 3, 4, 5] ?_
        refine Zc ?_
        refine Zm ?_
        refine Zm ?_
        refine Zn ?_
        refine Zf fo_73_6 ?_
        refine Zl 0 ag_22 ?_
        refine Zm ?_
        refine Run.buildSlice (E := Ei) rfl sl_22 zr_3 ([m]) rfl rfl rfl (by decide) rfl rfl ?_
        intro b60
        refine Run.append 2 rfl rfl rfl rfl rfl rfl sl_22 zr_3 rfl (src_own 6 rfl) (by first | omega | (simp <;> omega)) (by first | omega | (simp <;> omega)) ?_
        intro sv61 hv61
        refine Zn ?_
        refine Zf fo_73_6 ?_
        refine Run.storeB 0 rfl rfl rfl rfl ag_22 rfl rfl rfl rfl rfl ?_
        refine Run.nil ?_
        refine blk_norm ?_
        exact thn_next ⟨⟨i + 1, sv37, ys2, V1 ++ [sv37], M1 ++ [m], G2, H2, sv51, sv61⟩, ⟨hyl2, hys2, hV2.snoc (Pre.top (by omega) (by simp) hys2) h0 h1 (by omega), by simp; omega, hfn2, hsH2⟩, Ko.go, ent.gc⟩
      · refine Zc ?_
        refine Zm ?_
        refine Zi ?_
        refine Run.ff h16 ?_
        refine Zm ?_
        refine Zm ?_
        refine Zi ?_
        refine Run.ff h39 ?_
        refine Zq ?_
        refine Ze ?_
        refine Zno ?_
        refine WP.skip ?_; refine blk_norm ?_
        exact thn_next ⟨⟨i + 1, sv37, ys2, V1, M1, G2, H2, ls1, ms1⟩, ⟨hyl2, hys2, hV2, by simp only; omega, hfn2, hsH2⟩, Ko.go, ent.gc⟩
    rintro ⟨_, far, ys, V1, M1, G1, H1, ls1, ms1⟩ ⟨hyl, hys, hV1, hVl1, hfn, hsH⟩
    refine WP.trim [6, 7, 0, 2] [0, 1, 2, 3, 4, 5] ?_
    try simp only
    refine Zc ?_
    refine Zm ?_
    refine Za ?_
    refine Zm ?_
    refine Run.nil ?_
    exact thn_next ⟨⟨i + 1, far, ys, V1, M1, G1, H1, ls1, ms1⟩, ⟨by simp only; omega, hyl, hys, hV1, hVl1, hfn, hsH⟩, by simp only; omega, Ko.go, ent.gc⟩
  · refine Zj ?_
    refine retN [] [] rfl rfl ⟨[blk kb [c0, c1, c2, c3, ls1.val, c5, ms1.val, c7, c8, c9] 73, slA 30 Enc.slice ls1.val V1, slA 3 Ei ms1.val M1, rows 22 Enc.slice (G1 ++ [(far, ys)]), rows 3 Ei H1], ?_, V1, M1, G1 ++ [(far, ys)], H1, ls1, ms1, rfl, hV1, by omega, hsH⟩
    exact ent.trans (Δ := rows 22 Enc.slice G1 :: slA 22 Enc.slice far.val ys :: [blk kb [c0, c1, c2, c3, ls1.val, c5, ms1.val, c7, c8, c9] 73, slA 30 Enc.slice ls1.val V1, slA 3 Ei ms1.val M1, rows 3 Ei H1]) ent.gc ((rows_snoc _).trans ent.go)
set_option maxHeartbeats 1000000 in
set_option maxRecDepth 100000 in
theorem fillI_ok (hR : Heap) (l : SV) (m : Int) (xs : List Int) (h0 : 0 ≤ m) (h1 : m ≤ 1000000) (hlen : xs.length ≤ 1000000000) :
    Tri Tryd.prog hR 73 #[l.val, .int .i64 m] [slA 3 Ei l.val xs] fun u Γ' => ∃ ys : List Int, ys.length = xs.length ∧ (∀ x ∈ ys, φI m x) ∧ Γ' = [slA 3 Ei l.val ys] := by
  refine Tri.ent (Tri.of (args := [l.val, .int .i64 m]) Tryd.func73 rfl Tryd.ntmps73 (by simp) ?_)
  refine Zp ?_
  refine Zm ?_
  refine Ze ?_
  refine WP.block ?_
  refine WP.trim [4, 0, 1] [0] ?_
  refine WP.loopC (α := Nat × List Int) (fun z => z.1 ≤ xs.length ∧ z.2.length = xs.length ∧ ∀ (q : Nat) (x : Int), q < z.1 → z.2[q]? = some x → φI m x) (fun z => [(4, .int .i64 (z.1 : Int))]) (fun z => [(0, slA 3 Ei l.val z.2)]) (fun z => xs.length - z.1) (0, xs) ⟨Nat.zero_le _, rfl, fun q x hq => by simp at hq⟩ ?_
  rintro ⟨i, ys⟩ ⟨hi, hl, hk⟩
  simp only at hi hl hk
  refine WP.trim [4, 0, 1] [0] ?_
  try simp only
  refine WP.seq ?_
  refine Zp ?_
  refine Zm ?_
  refine Zm ?_
  refine Run.lenO 0 rfl rfl sl_22 rfl rfl rfl ?_
  refine Zi ?_
  refine Ze ?_
  refine WP.ite rfl (fun hlt => ?_) (fun hge => ?_)
  · refine Zb ?_
    have hlt' : i < ys.length := by omega
    obtain ⟨y, gy⟩ : ∃ x, ys[i]? = some x := ⟨_, List.getElem?_eq_getElem hlt'⟩
    refine WP.seq ?_
    refine WP.block ?_
    refine Zc ?_
    iterate 3 refine Zm ?_
    refine Zs ?_
    refine Run.idxO 0 rfl rfl rfl sl_22 rfl rfl rfl rfl (by omega) (by omega) ?_
    refine Run.storeO 0 i 0 (y' := (-9 - m)) rfl rfl rfl rfl ag_3 rfl rfl rfl rfl gy rfl rfl ?_
    refine Run.nil ?_
    refine blk_norm ?_; refine thn_next ?_
    refine Zc ?_
    refine Zm ?_
    refine Za ?_
    refine Zm ?_
    refine Run.nil ?_
    refine thn_next ⟨(i + 1, ys.set i (-9 - m)), ⟨by simp only; omega, by simp [hl], fun q x hq hx => ?_⟩, by simp only; omega, Ko.go, ent.gc⟩
    simp only at hq hx
    by_cases e : q = i
    · subst e; rw [List.getElem?_set_self hlt'] at hx; cases hx; exact rfl
    · rw [List.getElem?_set_ne (Ne.symm e)] at hx; exact hk q x (by omega) hx
  · refine Zj ?_
    refine retN [] [] rfl rfl ⟨_, ent.refl _, ys, hl, fun x hx => ?_, rfl⟩
    obtain ⟨j, hj⟩ := List.getElem?_of_mem hx
    exact hk j x (by have := (List.getElem?_eq_some_iff.1 hj).1; omega) hj
set_option maxHeartbeats 2000000 in
set_option maxRecDepth 100000 in
theorem holdI_ok (hR : Heap) (kb : Nat) (ls ms l : SV) (c0 c1 c2 c3 c4 c5 c6 c8 : Value) (V : List SV) (M : List Int) (G : List (SV × List Int)) (m : Int) (xs : List Int) (hV : Views (φI) V M G) (h0 : 0 ≤ m) (h1 : m ≤ 1000000) (hn : xs.length ≤ 1000000) (hVl : V.length ≤ 1000000) (hxs : ∀ x ∈ xs, φI m x) :
    Tri Tryd.prog hR 74 #[.pointer (some ⟨kb, 0, none⟩), l.val, .int .i64 m] [blk kb [c0, c1, c2, c3, c4, c5, c6, ls.val, c8, ms.val] 73, slA 22 Enc.slice ls.val V, slA 3 Ei ms.val M, rows 3 Ei G, slA 3 Ei l.val xs]
      fun u Γ' => ∃ (V' : List SV) (M' : List Int) (G' : List (SV × List Int)) (ls' ms' : SV), Γ' = [blk kb [c0, c1, c2, c3, c4, c5, c6, ls'.val, c8, ms'.val] 73, slA 22 Enc.slice ls'.val V', slA 3 Ei ms'.val M', rows 3 Ei G'] ∧ Views (φI) V' M' G' ∧ V'.length ≤ V.length + 41 := by
  refine Tri.ent (Tri.of (args := [.pointer (some ⟨kb, 0, none⟩), l.val, .int .i64 m]) Tryd.func74 rfl Tryd.ntmps74 (by simp) ?_)
  have hMl := hV.len
  refine WP.know (slA_know 4 rfl) fun hkn => ?_
  have hln : l.n = xs.length := hkn.1
  have h1l : [l].length = 1 := rfl
  have h1m : [m].length = 1 := rfl
  refine Zp ?_
  refine Zm ?_
  refine Zm ?_
  refine Zn ?_
  refine Zf fo_73_7 ?_
  refine Zl 0 ag_30 ?_
  refine Zm ?_
  refine Run.buildSlice (E := Enc.slice) rfl sl_30 zr_22 ([l]) rfl rfl rfl (by decide) rfl rfl ?_
  intro b14
  refine Run.append 1 rfl rfl rfl rfl rfl rfl sl_30 zr_22 rfl (src_own 5 rfl) (by first | omega | (simp <;> omega)) (by first | omega | (simp <;> omega)) ?_
  intro sv15 hv15
  refine Zn ?_
  refine Zf fo_73_7 ?_
  refine Run.storeB 0 rfl rfl rfl rfl ag_30 rfl rfl rfl rfl rfl ?_
  refine Ze ?_
  refine WP.trim [0, 1, 2] [0, 1, 2, 3, 4] ?_
  refine Zp ?_
  refine Zm ?_
  refine Zm ?_
  refine Zn ?_
  refine Zf fo_73_9 ?_
  refine Zl 0 ag_22 ?_
  refine Zm ?_
  refine Run.buildSlice (E := Ei) rfl sl_22 zr_3 ([m]) rfl rfl rfl (by decide) rfl rfl ?_
  intro b24
  refine Run.append 2 rfl rfl rfl rfl rfl rfl sl_22 zr_3 rfl (src_own 5 rfl) (by first | omega | (simp <;> omega)) (by first | omega | (simp <;> omega)) ?_
  intro sv25 hv25
  refine Zn ?_
  refine Zf fo_73_9 ?_
  refine Run.storeB 0 rfl rfl rfl rfl ag_22 rfl rfl rfl rfl rfl ?_
  refine Ze ?_
  refine Zp ?_
  refine Zm ?_
  refine Zm ?_
  refine Ze ?_
  refine Zp ?_
  refine Zm ?_
  refine Ze ?_
  refine WP.block ?_
  refine WP.trim [6, 7, 0, 2] [0, 1, 2, 3, 4] ?_
  refine WP.loopC (α := HS Int) (fun z => z.i ≤ 24 ∧ z.ys.length = xs.length + z.i ∧ (∀ x ∈ z.ys, φI m x) ∧ Views (φI) z.V z.M (z.G ++ [(z.far, z.ys)]) ∧ z.V.length ≤ V.length + 1 + z.i ∧ z.far.n = xs.length + z.i) (fun z => [(6, z.far.val), (7, .int .i64 (z.i : Int))])
    (fun z => [(0, blk kb [c0, c1, c2, c3, c4, c5, c6, z.ls.val, c8, z.ms.val] 73), (1, slA 22 Enc.slice z.ls.val z.V), (2, slA 3 Ei z.ms.val z.M), (3, rows 3 Ei z.G), (4, slA 3 Ei z.far.val z.ys)]) (fun z => 24 - z.i)
    ⟨0, l, xs, V ++ [l], M ++ [m], G, [], sv15, sv25⟩ ⟨Nat.zero_le _, rfl, hxs, (hV.mono fun c v hp => hp.mono (fun q hq => by simp [hq]) fun _ h => h).snoc (Pre.top hln (by simp) hxs) h0 h1 (by omega), by simp, hln⟩ ?_
  rintro ⟨i, far, ys, V1, M1, G1, H1, ls1, ms1⟩ ⟨hi, hyl, hys, hV1, hVl1, hfn⟩
  simp only at hi hyl hys hV1 hVl1 hfn
  have hMl1 := hV1.len
  refine WP.trim [6, 7, 0, 2] [0, 1, 2, 3, 4] ?_
  try simp only
  refine WP.seq ?_
  refine Zp ?_
  refine Zm ?_
  refine Zi ?_
  refine Ze ?_
  refine WP.ite rfl (fun hlt => ?_) (fun hge => ?_)
  · refine Zb ?_
    have h1n : [(-9 - m)].length = 1 := rfl
    refine WP.trim [6, 7, 0, 2] [0, 1, 2, 3, 4] ?_
    refine WP.meetC (α := HS Int) (fun z => z.ys.length = xs.length + (i + 1) ∧ (∀ x ∈ z.ys, φI m x) ∧ Views (φI) z.V z.M (z.G ++ [(z.far, z.ys)]) ∧ z.V.length ≤ V.length + 1 + (i + 1) ∧ z.far.n = xs.length + (i + 1)) (fun z => [(6, z.far.val)])
      (fun z => [(0, blk kb [c0, c1, c2, c3, c4, c5, c6, z.ls.val, c8, z.ms.val] 73), (1, slA 22 Enc.slice z.ls.val z.V), (2, slA 3 Ei z.ms.val z.M), (3, rows 3 Ei z.G), (4, slA 3 Ei z.far.val z.ys)]) ?_ ?_
    · refine WP.block ?_
      refine Zp ?_
      refine Zm ?_
      refine Zm ?_
      refine Zs ?_
      refine Run.buildSlice (E := Ei) rfl sl_22 zr_3 ([(-9 - m)]) rfl rfl rfl (by decide) rfl rfl ?_
      intro b36
      refine Run.appendG 4 3 rfl rfl rfl rfl rfl rfl sl_22 zr_3 rfl rfl (by decide) (src_own 5 rfl) (by simp <;> omega) (by simp <;> omega) ?_; intro sv37 G2 hv37 hG2
      refine Zm ?_
      refine Ze ?_
      have hyl2 : (ys ++ [(-9 - m)]).length = xs.length + (i + 1) := by rw [List.length_append]; simp; omega
      have hfn2 : sv37.n = xs.length + (i + 1) := by rw [hv37]; simp; omega
      have hys2 : ∀ x ∈ ys ++ [(-9 - m)], φI m x := fun x hx => by
        rcases List.mem_append.1 hx with hx | hx
        · exact hys x hx
        · rw [List.mem_singleton.1 hx]; exact rfl
      have hV2 : Views φI V1 M1 (G2 ++ [(sv37, ys ++ [(-9 - m)])]) := hV1.mono fun c v hp => hp.grow hG2
      refine WP.trim [6, 7, 0, 2] [0, 1, 2, 3, 4] ?_
      generalize ys ++ [(-9 - m)] = ys2 at hyl2 hys2 hV2 ⊢
      have h1f : [sv37].length = 1 := rfl
      refine WP.seq ?_
      by_cases h16 : (i : Int) < 16
      · refine Zc ?_
        refine Zm ?_
        refine Zi ?_
        refine Run.tt h16 ?_
        refine Zm ?_
        refine Zv ?_
        refine Zv ?_
        refine Zq ?_
        refine Ze ?_
        refine Zyes ?_
        refine WP.trim [6, 7, 0, 2] [0, 1, 2, 3, 4] ?_
        refine Zp ?_
        refine Zm ?_
        refine Zm ?_
        refine Zn ?_
        refine Zf fo_73_7 ?_
        refine Zl 0 ag_30 ?_
        refine Zm ?_
        refine Run.buildSlice (E := Enc.slice) rfl sl_30 zr_22 ([sv37]) rfl rfl rfl (by decide) rfl rfl ?_
        intro b50
        refine Run.append 1 rfl rfl rfl rfl rfl rfl sl_30 zr_22 rfl (src_own 5 rfl) (by first | omega | (simp <;> omega)) (by first | omega | (simp <;> omega)) ?_
        intro sv51 hv51
        refine Zn ?_
        refine Zf fo_73_7 ?_
        refine Run.storeB 0 rfl rfl rfl rfl ag_30 rfl rfl rfl rfl rfl ?_
        refine Ze ?_
        refine WP.trim [6, 7, 0, 2] [0, 1, 2, 3, 4] ?_
        refine Zc ?_
        refine Zm ?_
        refine Zm ?_
        refine Zn ?_
        refine Zf fo_73_9 ?_
        refine Zl 0 ag_22 ?_
        refine Zm ?_
        refine Run.buildSlice (E := Ei) rfl sl_22 zr_3 ([m]) rfl rfl rfl (by decide) rfl rfl ?_
        intro b60
        refine Run.append 2 rfl rfl rfl rfl rfl rfl sl_22 zr_3 rfl (src_own 5 rfl) (by first | omega | (simp <;> omega)) (by first | omega | (simp <;> omega)) ?_
        intro sv61 hv61
        refine Zn ?_
        refine Zf fo_73_9 ?_
        refine Run.storeB 0 rfl rfl rfl rfl ag_22 rfl rfl rfl rfl rfl ?_
        refine Run.nil ?_
        refine blk_norm ?_
        exact thn_next ⟨⟨i + 1, sv37, ys2, V1 ++ [sv37], M1 ++ [m], G2, H1, sv51, sv61⟩, ⟨hyl2, hys2, hV2.snoc (Pre.top (by omega) (by simp) hys2) h0 h1 (by omega), by simp; omega, hfn2⟩, Ko.go, ent.gc⟩
      by_cases h39 : (i : Int) = 23
      · refine Zc ?_
        refine Zm ?_
        refine Zi ?_
        refine Run.ff h16 ?_
        refine Zm ?_
        refine Zm ?_
        refine Zi ?_
        refine Run.tt h39 ?_
        refine Zq ?_
        refine Ze ?_
        refine Zyes ?_
        refine WP.trim [6, 7, 0, 2] [0, 1, 2, 3, 4] ?_
        refine Zp ?_
        refine Zm ?_
        refine Zm ?_
        refine Zn ?_
        refine Zf fo_73_7 ?_
        refine Zl 0 ag_30 ?_
        refine Zm ?_
        refine Run.buildSlice (E := Enc.slice) rfl sl_30 zr_22 ([sv37]) rfl rfl rfl (by decide) rfl rfl ?_
        intro b50
        refine Run.append 1 rfl rfl rfl rfl rfl rfl sl_30 zr_22 rfl (src_own 5 rfl) (by first | omega | (simp <;> omega)) (by first | omega | (simp <;> omega)) ?_
        intro sv51 hv51
        refine Zn ?_
        refine Zf fo_73_7 ?_
        refine Run.storeB 0 rfl rfl rfl rfl ag_30 rfl rfl rfl rfl rfl ?_
        refine Ze ?_
        refine WP.trim [6, 7, 0, 2] [0, 1, 2, 3, 4] ?_
        refine Zc ?_
        refine Zm ?_
        refine Zm ?_
        refine Zn ?_
        refine Zf fo_73_9 ?_
        refine Zl 0 ag_22 ?_
        refine Zm ?_
        refine Run.buildSlice (E := Ei) rfl sl_22 zr_3 ([m]) rfl rfl rfl (by decide) rfl rfl ?_
        intro b60
        refine Run.append 2 rfl rfl rfl rfl rfl rfl sl_22 zr_3 rfl (src_own 5 rfl) (by first | omega | (simp <;> omega)) (by first | omega | (simp <;> omega)) ?_
        intro sv61 hv61
        refine Zn ?_
        refine Zf fo_73_9 ?_
        refine Run.storeB 0 rfl rfl rfl rfl ag_22 rfl rfl rfl rfl rfl ?_
        refine Run.nil ?_
        refine blk_norm ?_
        exact thn_next ⟨⟨i + 1, sv37, ys2, V1 ++ [sv37], M1 ++ [m], G2, H1, sv51, sv61⟩, ⟨hyl2, hys2, hV2.snoc (Pre.top (by omega) (by simp) hys2) h0 h1 (by omega), by simp; omega, hfn2⟩, Ko.go, ent.gc⟩
      · refine Zc ?_
        refine Zm ?_
        refine Zi ?_
        refine Run.ff h16 ?_
        refine Zm ?_
        refine Zm ?_
        refine Zi ?_
        refine Run.ff h39 ?_
        refine Zq ?_
        refine Ze ?_
        refine Zno ?_
        refine WP.skip ?_; refine blk_norm ?_
        exact thn_next ⟨⟨i + 1, sv37, ys2, V1, M1, G2, H1, ls1, ms1⟩, ⟨hyl2, hys2, hV2, by simp only; omega, hfn2⟩, Ko.go, ent.gc⟩
    rintro ⟨_, far, ys, V1, M1, G1, H1, ls1, ms1⟩ ⟨hyl, hys, hV1, hVl1, hfn⟩
    refine WP.trim [6, 7, 0, 2] [0, 1, 2, 3, 4] ?_
    try simp only
    refine Zc ?_
    refine Zm ?_
    refine Za ?_
    refine Zm ?_
    refine Run.nil ?_
    exact thn_next ⟨⟨i + 1, far, ys, V1, M1, G1, H1, ls1, ms1⟩, ⟨by simp only; omega, hyl, hys, hV1, hVl1, hfn⟩, by simp only; omega, Ko.go, ent.gc⟩
  · refine Zj ?_
    refine retN [] [] rfl rfl ⟨[blk kb [c0, c1, c2, c3, c4, c5, c6, ls1.val, c8, ms1.val] 73, slA 22 Enc.slice ls1.val V1, slA 3 Ei ms1.val M1, rows 3 Ei (G1 ++ [(far, ys)])], ?_, V1, M1, G1 ++ [(far, ys)], ls1, ms1, rfl, hV1, by omega⟩
    exact ent.trans (Δ := rows 3 Ei G1 :: slA 3 Ei far.val ys :: [blk kb [c0, c1, c2, c3, c4, c5, c6, ls1.val, c8, ms1.val] 73, slA 22 Enc.slice ls1.val V1, slA 3 Ei ms1.val M1]) ent.gc ((rows_snoc _).trans ent.go)
end Go.Proofs.YtjjfehdlmdhhmaaDoor
end
section
/- All that is kept is full of its marks; walked. -/
namespace Go.Proofs.YtjjfehdlmdhhmaaDoor
open Go.Sep
set_option linter.unusedSimpArgs false
set_option linter.unusedVariables false
attribute [local irreducible] blk slA mp mpF rows rowsBut many
/-- what a keep holds that writes at once -/
structure KD where
  V1 : List SV
  M1 : List Int
  G1 : List (SV × List Iv)
  V2 : List SV
  M2 : List Int
  G2 : List (SV × List SV)
  H : List (SV × List Int)
  V3 : List SV
  M3 : List Int
  G3 : List (SV × List Int)
  l1 : SV
  m1 : SV
  l2 : SV
  m2 : SV
  l3 : SV
  m3 : SV
def KN (kb : Nat) (c2 c5 c8 : Value) (k : KD) : List HProp :=
  [blk kb [.bool false, k.l1.val, c2, k.m1.val, k.l2.val, c5, k.m2.val, k.l3.val, c8, k.m3.val] 73,
   slA 44 Enc.slice k.l1.val k.V1, slA 3 Ei k.m1.val k.M1, rows 62 encIv k.G1,
   slA 30 Enc.slice k.l2.val k.V2, slA 3 Ei k.m2.val k.M2, rows 22 Enc.slice k.G2, rows 3 Ei k.H,
   slA 22 Enc.slice k.l3.val k.V3, slA 3 Ei k.m3.val k.M3, rows 3 Ei k.G3]
structure KOk (k : KD) : Prop where
  s : Views φS k.V1 k.M1 k.G1
  l : Views (φL k.H) k.V2 k.M2 k.G2
  i : Views φI k.V3 k.M3 k.G3
structure KFew (k : KD) (b : Nat) : Prop where
  s : k.V1.length ≤ b
  l : k.V2.length ≤ b
  i : k.V3.length ≤ b
theorem KFew.mono {k : KD} {b c : Nat} (h : KFew k b) (hb : b ≤ c) : KFew k c := ⟨by have := h.s; omega, by have := h.l; omega, by have := h.i; omega⟩
set_option maxHeartbeats 4000000 in
set_option maxRecDepth 100000 in
theorem wholeNow_ok (hR : Heap) (kb : Nat) (c2 c5 c8 : Value) (k : KD) (hK : KOk k) (hF : KFew k 1000000) :
    Tri Tryd.prog hR 29 #[.pointer (some ⟨kb, 0, none⟩)] (KN kb c2 c5 c8 k) fun u Γ' => u = .bool true ∧ Γ' = [] := by
  refine Tri.ent (Tri.of (args := [.pointer (some ⟨kb, 0, none⟩)]) Tryd.func29 rfl Tryd.ntmps29 (by simp) ?_)
  unfold KN
  have f1 := hF.s
  have f2 := hF.l
  have f3 := hF.i
  have n1 := hK.s.len
  have n2 := hK.l.len
  have n3 := hK.i.len
  refine Zp ?_
  refine Zm ?_
  refine Ze ?_
  refine WP.seq ?_
  refine Zp ?_
  refine Zm ?_
  refine Zn ?_
  refine Zf fo_73_0 ?_
  refine Zl 0 ag_4 ?_
  refine Ze ?_
  refine Zno ?_
  refine Zb ?_
  refine WP.sup (ρ' := [(0, .pointer (some ⟨kb, 0, none⟩))]) (covers_get ⟨rfl, trivial⟩) (ent.refl _) ?_
  refine WP.freeze (Γ := []) [blk kb [.bool false, k.l1.val, c2, k.m1.val, k.l2.val, c5, k.m2.val, k.l3.val, c8, k.m3.val] 73,
   slA 44 Enc.slice k.l1.val k.V1, slA 3 Ei k.m1.val k.M1, rows 62 encIv k.G1,
   slA 30 Enc.slice k.l2.val k.V2, slA 3 Ei k.m2.val k.M2, rows 22 Enc.slice k.G2, rows 3 Ei k.H,
   slA 22 Enc.slice k.l3.val k.V3, slA 3 Ei k.m3.val k.M3, rows 3 Ei k.G3] fun g hg hd => ?_
  have d1 := lent_blk (v := k.l1.val) 0 1 rfl rfl hg hd
  have d3 := lent_blk (v := k.m1.val) 0 3 rfl rfl hg hd
  have d4 := lent_blk (v := k.l2.val) 0 4 rfl rfl hg hd
  have d6 := lent_blk (v := k.m2.val) 0 6 rfl rfl hg hd
  have d7 := lent_blk (v := k.l3.val) 0 7 rfl rfl hg hd
  have d9 := lent_blk (v := k.m3.val) 0 9 rfl rfl hg hd
  have rV1 : SlR Enc.slice.rd (un hR g) k.l1.val k.V1 := lent_at 1 rfl hg hd
  have rM1 : SlR Ei.rd (un hR g) k.m1.val k.M1 := lent_at 2 rfl hg hd
  have rV2 : SlR Enc.slice.rd (un hR g) k.l2.val k.V2 := lent_at 4 rfl hg hd
  have rM2 : SlR Ei.rd (un hR g) k.m2.val k.M2 := lent_at 5 rfl hg hd
  have rV3 : SlR Enc.slice.rd (un hR g) k.l3.val k.V3 := lent_at 8 rfl hg hd
  have rM3 : SlR Ei.rd (un hR g) k.m3.val k.M3 := lent_at 9 rfl hg hd
  have rG1 : ∀ φ v, Pre k.G1 φ v → ∃ xs : List Iv, xs.length = v.n ∧ (∀ x ∈ xs, φ x) ∧ SlR encIv.rd (un hR g) v.val xs := fun φ v hp => by
    obtain ⟨h1, q1, q2⟩ := lent_sub 3 rfl hg hd
    obtain ⟨xs, a, b, c⟩ := hp.read q1
    exact ⟨xs, a, b, c.mono q2⟩
  have rG2 : ∀ φ v, Pre k.G2 φ v → ∃ xs : List SV, xs.length = v.n ∧ (∀ x ∈ xs, φ x) ∧ SlR Enc.slice.rd (un hR g) v.val xs := fun φ v hp => by
    obtain ⟨h1, q1, q2⟩ := lent_sub 6 rfl hg hd
    obtain ⟨xs, a, b, c⟩ := hp.read q1
    exact ⟨xs, a, b, c.mono q2⟩
  have rH : ∀ (u : SV) (y : List Int), (u, y) ∈ k.H → SlR Ei.rd (un hR g) u.val y := fun u y hy => by
    obtain ⟨h1, q1, q2⟩ := lent_sub 7 rfl hg hd
    obtain ⟨i, hi⟩ := List.getElem?_of_mem hy
    exact (sat_rows q1 hi).mono q2
  have rG3 : ∀ φ v, Pre k.G3 φ v → ∃ xs : List Int, xs.length = v.n ∧ (∀ x ∈ xs, φ x) ∧ SlR Ei.rd (un hR g) v.val xs := fun φ v hp => by
    obtain ⟨h1, q1, q2⟩ := lent_sub 10 rfl hg hd
    obtain ⟨xs, a, b, c⟩ := hp.read q1
    exact ⟨xs, a, b, c.mono q2⟩
  generalize un hR g = hX at d1 d3 d4 d6 d7 d9 rV1 rM1 rV2 rM2 rV3 rM3 rG1 rG2 rG3 rH
  clear hg hd

  refine WP.meetC (α := Unit) (fun _ => True) (fun _ => []) (fun _ => []) ?_ ?_
  · refine Zp ?_
    refine Zm ?_
    refine Ze ?_
    refine WP.block ?_
    refine WP.trim [3, 0] [] ?_
    refine WP.loopC (α := Nat) (fun i => i ≤ k.V1.length) (fun i => [(3, .int .i64 (i : Int))]) (fun _ => []) (fun i => k.V1.length - i) 0 (Nat.zero_le _) ?_
    intro i hi
    refine WP.trim [3, 0] [] ?_
    refine WP.seq ?_
    refine Zp ?_
    refine Zm ?_
    refine Zm ?_
    refine Zn ?_
    refine Zf fo_73_1 ?_
    refine Zr ag_70 d1 ?_
    refine Zh sl_70 rV1 ?_
    refine Zi ?_
    refine Ze ?_
    refine WP.ite rfl (fun hlt => ?_) (fun hge => ?_)
    · refine Zb ?_
      have hiV : i < k.V1.length := by omega
      obtain ⟨v, gv⟩ : ∃ x, k.V1[(i : Int).toNat]? = some x := ⟨_, List.getElem?_eq_getElem hiV⟩
      obtain ⟨m, gm⟩ : ∃ x, k.M1[(i : Int).toNat]? = some x := ⟨_, List.getElem?_eq_getElem (show i < k.M1.length by omega)⟩
      obtain ⟨hp, hm0, hm1, hvn⟩ := hK.s.pre i v m gv gm
      obtain ⟨xs, hxl, hxs, rx⟩ := rG1 _ _ hp
      refine WP.trim [3, 0] [] ?_
      refine WP.meetC (α := Unit) (fun _ => True) (fun _ => []) (fun _ => []) ?_ ?_
      · refine WP.block ?_
        refine Zp ?_
        refine Zm ?_
        refine Ze ?_
        refine WP.block ?_
        refine WP.trim [4, 3, 0] [] ?_
        refine WP.loopC (α := Nat) (fun j => j ≤ xs.length) (fun j => [(4, .int .i64 (j : Int))]) (fun _ => []) (fun j => xs.length - j) 0 (Nat.zero_le _) ?_
        intro j hj
        refine WP.trim [4, 3, 0] [] ?_
        refine WP.seq ?_
        refine Zp ?_
        refine Zm ?_
        refine Zm ?_
        refine Zn ?_
        refine Zf fo_73_1 ?_
        refine Zr ag_70 d1 ?_
        refine Zm ?_
        refine Zx sl_70 rV1 ?_
        refine Zr ag_44 (SlR.cell0 rV1 gv rfl) ?_
        refine Zh sl_44 rx ?_
        refine Zi ?_
        refine Ze ?_
        refine WP.ite rfl (fun hlt2 => ?_) (fun hge2 => ?_)
        · refine Zb ?_
          obtain ⟨x, gx⟩ : ∃ x, xs[(j : Int).toNat]? = some x := ⟨_, List.getElem?_eq_getElem (show j < xs.length by omega)⟩
          have hx := hxs x (List.mem_of_getElem? gx)
          refine WP.seq ?_
          refine WP.block ?_
          refine WP.seq ?_
          refine WP.drawn0 cf0 mixed rfl (by kernel_rfl) ?_
          refine Zm ?_
          refine Zn ?_
          refine Zf fo_73_1 ?_
          refine Zr ag_70 d1 ?_
          refine Zm ?_
          refine Zx sl_70 rV1 ?_
          refine Zr ag_44 (SlR.cell0 rV1 gv rfl) ?_
          refine Zm ?_
          refine Zx sl_44 rx ?_
          refine Run.loadRagg rfl rfl ag_62 rfl rfl (SlR.row rx gx) rfl ?_
          refine Zm ?_
          refine Zn ?_
          refine Zf fo_73_3 ?_
          refine Zr ag_22 d3 ?_
          refine Zm ?_
          refine Zx sl_22 rM1 ?_
          refine Zr ag_3 (SlR.cell0 rM1 gm rfl) ?_
          refine Run.build rfl bd_62 rfl rfl rfl rfl ?_
          refine Run.neS rfl rfl rfl is_62 nf_62 (eqI_iv x ⟨-9, m, 0⟩) rfl rfl rfl ?_
          refine Run.eqv (v' := .bool false) (by rw [show x = ⟨-9, m, 0⟩ from hx]; simp) ?_
          refine Ze ?_
          refine Zno ?_
          refine WP.skip ?_; refine blk_norm ?_; refine thn_next ?_
          refine Zc ?_
          refine Zm ?_
          refine Za ?_
          refine Zm ?_
          refine Run.nil ?_
          exact thn_next ⟨j + 1, by omega, by omega, Ko.go, ent.gc⟩
        · refine Zj ?_
          refine blk_norm ?_
          exact thn_next ⟨(), trivial, Ko.go, ent.gc⟩
      rintro _ _
      refine WP.trim [3, 0] [] ?_
      refine Zc ?_
      refine Zm ?_
      refine Za ?_
      refine Zm ?_
      refine Run.nil ?_
      exact thn_next ⟨i + 1, hiV, by omega, Ko.go, ent.gc⟩
    · refine Zj ?_
      exact thn_next ⟨(), trivial, Ko.go, ent.gc⟩
  rintro _ _
  refine WP.trim [0] [] ?_

  refine WP.meetC (α := Unit) (fun _ => True) (fun _ => []) (fun _ => []) ?_ ?_
  · refine Zp ?_
    refine Zm ?_
    refine Ze ?_
    refine WP.block ?_
    refine WP.trim [5, 0] [] ?_
    refine WP.loopC (α := Nat) (fun i => i ≤ k.V2.length) (fun i => [(5, .int .i64 (i : Int))]) (fun _ => []) (fun i => k.V2.length - i) 0 (Nat.zero_le _) ?_
    intro i hi
    refine WP.trim [5, 0] [] ?_
    refine WP.seq ?_
    refine Zp ?_
    refine Zm ?_
    refine Zm ?_
    refine Zn ?_
    refine Zf fo_73_4 ?_
    refine Zr ag_71 d4 ?_
    refine Zh sl_71 rV2 ?_
    refine Zi ?_
    refine Ze ?_
    refine WP.ite rfl (fun hlt => ?_) (fun hge => ?_)
    · refine Zb ?_
      have hiV : i < k.V2.length := by omega
      obtain ⟨v, gv⟩ : ∃ x, k.V2[(i : Int).toNat]? = some x := ⟨_, List.getElem?_eq_getElem hiV⟩
      obtain ⟨m, gm⟩ : ∃ x, k.M2[(i : Int).toNat]? = some x := ⟨_, List.getElem?_eq_getElem (show i < k.M2.length by omega)⟩
      obtain ⟨hp, hm0, hm1, hvn⟩ := hK.l.pre i v m gv gm
      obtain ⟨xs, hxl, hxs, rx⟩ := rG2 _ _ hp
      refine WP.trim [5, 0] [] ?_
      refine WP.meetC (α := Unit) (fun _ => True) (fun _ => []) (fun _ => []) ?_ ?_
      · refine WP.block ?_
        refine Zp ?_
        refine Zm ?_
        refine Ze ?_
        refine WP.block ?_
        refine WP.trim [6, 5, 0] [] ?_
        refine WP.loopC (α := Nat) (fun j => j ≤ xs.length) (fun j => [(6, .int .i64 (j : Int))]) (fun _ => []) (fun j => xs.length - j) 0 (Nat.zero_le _) ?_
        intro j hj
        refine WP.trim [6, 5, 0] [] ?_
        refine WP.seq ?_
        refine Zp ?_
        refine Zm ?_
        refine Zm ?_
        refine Zn ?_
        refine Zf fo_73_4 ?_
        refine Zr ag_71 d4 ?_
        refine Zm ?_
        refine Zx sl_71 rV2 ?_
        refine Zr ag_30 (SlR.cell0 rV2 gv rfl) ?_
        refine Zh sl_30 rx ?_
        refine Zi ?_
        refine Ze ?_
        refine WP.ite rfl (fun hlt2 => ?_) (fun hge2 => ?_)
        · refine Zb ?_
          obtain ⟨x, gx⟩ : ∃ x, xs[(j : Int).toNat]? = some x := ⟨_, List.getElem?_eq_getElem (show j < xs.length by omega)⟩
          have hx := hxs x (List.mem_of_getElem? gx)
          refine WP.seq ?_
          refine WP.block ?_
          refine WP.seq ?_
          have ru := rH x [m, -9] hx
          have g0 : [m, -9][(0 : Int).toNat]? = some m := rfl
          have lu : [m, -9].length = 2 := rfl
          refine WP.drawn0 cf0 mixed rfl (by kernel_rfl) ?_
          refine Zm ?_
          refine Zn ?_
          refine Zf fo_73_4 ?_
          refine Zr ag_71 d4 ?_
          refine Zm ?_
          refine Zx sl_71 rV2 ?_
          refine Zr ag_30 (SlR.cell0 rV2 gv rfl) ?_
          refine Zm ?_
          refine Zx sl_30 rx ?_
          refine Zr ag_22 (SlR.cell0 rx gx rfl) ?_
          refine Zh sl_22 ru ?_
          refine Zi ?_
          refine Run.ff (by simp) ?_
          refine Zm ?_
          refine Zm ?_
          refine Zn ?_
          refine Zf fo_73_4 ?_
          refine Zr ag_71 d4 ?_
          refine Zm ?_
          refine Zx sl_71 rV2 ?_
          refine Zr ag_30 (SlR.cell0 rV2 gv rfl) ?_
          refine Zm ?_
          refine Zx sl_30 rx ?_
          refine Zr ag_22 (SlR.cell0 rx gx rfl) ?_
          refine Zx sl_22 ru ?_
          refine Zr ag_3 (SlR.cell0 ru g0 rfl) ?_
          refine Zm ?_
          refine Zn ?_
          refine Zf fo_73_6 ?_
          refine Zr ag_22 d6 ?_
          refine Zm ?_
          refine Zx sl_22 rM2 ?_
          refine Zr ag_3 (SlR.cell0 rM2 gm rfl) ?_
          refine Zi ?_
          refine Run.ff (by simp) ?_
          refine Zq ?_
          refine Ze ?_
          refine Zno ?_
          refine WP.skip ?_; refine blk_norm ?_; refine thn_next ?_
          refine Zc ?_
          refine Zm ?_
          refine Za ?_
          refine Zm ?_
          refine Run.nil ?_
          exact thn_next ⟨j + 1, by omega, by omega, Ko.go, ent.gc⟩
        · refine Zj ?_
          refine blk_norm ?_
          exact thn_next ⟨(), trivial, Ko.go, ent.gc⟩
      rintro _ _
      refine WP.trim [5, 0] [] ?_
      refine Zc ?_
      refine Zm ?_
      refine Za ?_
      refine Zm ?_
      refine Run.nil ?_
      exact thn_next ⟨i + 1, hiV, by omega, Ko.go, ent.gc⟩
    · refine Zj ?_
      exact thn_next ⟨(), trivial, Ko.go, ent.gc⟩
  rintro _ _
  refine WP.trim [0] [] ?_

  refine WP.meetC (α := Unit) (fun _ => True) (fun _ => []) (fun _ => []) ?_ ?_
  · refine Zp ?_
    refine Zm ?_
    refine Ze ?_
    refine WP.block ?_
    refine WP.trim [7, 0] [] ?_
    refine WP.loopC (α := Nat) (fun i => i ≤ k.V3.length) (fun i => [(7, .int .i64 (i : Int))]) (fun _ => []) (fun i => k.V3.length - i) 0 (Nat.zero_le _) ?_
    intro i hi
    refine WP.trim [7, 0] [] ?_
    refine WP.seq ?_
    refine Zp ?_
    refine Zm ?_
    refine Zm ?_
    refine Zn ?_
    refine Zf fo_73_7 ?_
    refine Zr ag_30 d7 ?_
    refine Zh sl_30 rV3 ?_
    refine Zi ?_
    refine Ze ?_
    refine WP.ite rfl (fun hlt => ?_) (fun hge => ?_)
    · refine Zb ?_
      have hiV : i < k.V3.length := by omega
      obtain ⟨v, gv⟩ : ∃ x, k.V3[(i : Int).toNat]? = some x := ⟨_, List.getElem?_eq_getElem hiV⟩
      obtain ⟨m, gm⟩ : ∃ x, k.M3[(i : Int).toNat]? = some x := ⟨_, List.getElem?_eq_getElem (show i < k.M3.length by omega)⟩
      obtain ⟨hp, hm0, hm1, hvn⟩ := hK.i.pre i v m gv gm
      obtain ⟨xs, hxl, hxs, rx⟩ := rG3 _ _ hp
      refine WP.trim [7, 0] [] ?_
      refine WP.meetC (α := Unit) (fun _ => True) (fun _ => []) (fun _ => []) ?_ ?_
      · refine WP.block ?_
        refine Zp ?_
        refine Zm ?_
        refine Ze ?_
        refine WP.block ?_
        refine WP.trim [8, 7, 0] [] ?_
        refine WP.loopC (α := Nat) (fun j => j ≤ xs.length) (fun j => [(8, .int .i64 (j : Int))]) (fun _ => []) (fun j => xs.length - j) 0 (Nat.zero_le _) ?_
        intro j hj
        refine WP.trim [8, 7, 0] [] ?_
        refine WP.seq ?_
        refine Zp ?_
        refine Zm ?_
        refine Zm ?_
        refine Zn ?_
        refine Zf fo_73_7 ?_
        refine Zr ag_30 d7 ?_
        refine Zm ?_
        refine Zx sl_30 rV3 ?_
        refine Zr ag_22 (SlR.cell0 rV3 gv rfl) ?_
        refine Zh sl_22 rx ?_
        refine Zi ?_
        refine Ze ?_
        refine WP.ite rfl (fun hlt2 => ?_) (fun hge2 => ?_)
        · refine Zb ?_
          obtain ⟨x, gx⟩ : ∃ x, xs[(j : Int).toNat]? = some x := ⟨_, List.getElem?_eq_getElem (show j < xs.length by omega)⟩
          have hx := hxs x (List.mem_of_getElem? gx)
          refine WP.seq ?_
          refine WP.block ?_
          refine WP.seq ?_
          refine WP.drawn0 cf0 mixed rfl (by kernel_rfl) ?_
          refine Zm ?_
          refine Zn ?_
          refine Zf fo_73_7 ?_
          refine Zr ag_30 d7 ?_
          refine Zm ?_
          refine Zx sl_30 rV3 ?_
          refine Zr ag_22 (SlR.cell0 rV3 gv rfl) ?_
          refine Zm ?_
          refine Zx sl_22 rx ?_
          refine Zr ag_3 (SlR.cell0 rx gx rfl) ?_
          refine Zm ?_
          refine Zn ?_
          refine Zf fo_73_9 ?_
          refine Zr ag_22 d9 ?_
          refine Zm ?_
          refine Zx sl_22 rM3 ?_
          refine Zr ag_3 (SlR.cell0 rM3 gm rfl) ?_
          refine Zs ?_
          refine Zi ?_
          refine Run.ff (fun h => h hx) ?_
          refine Ze ?_
          refine Zno ?_
          refine WP.skip ?_; refine blk_norm ?_; refine thn_next ?_
          refine Zc ?_
          refine Zm ?_
          refine Za ?_
          refine Zm ?_
          refine Run.nil ?_
          exact thn_next ⟨j + 1, by omega, by omega, Ko.go, ent.gc⟩
        · refine Zj ?_
          refine blk_norm ?_
          exact thn_next ⟨(), trivial, Ko.go, ent.gc⟩
      rintro _ _
      refine WP.trim [7, 0] [] ?_
      refine Zc ?_
      refine Zm ?_
      refine Za ?_
      refine Zm ?_
      refine Run.nil ?_
      exact thn_next ⟨i + 1, hiV, by omega, Ko.go, ent.gc⟩
    · refine Zj ?_
      exact thn_next ⟨(), trivial, Ko.go, ent.gc⟩
  rintro _ _
  refine WP.trim [0] [] ?_

  refine Zp ?_
  refine Zm ?_
  refine Ze ?_
  refine WP.ret ?_
  exact retT [2] _ rfl rfl ⟨_, ent.none _, rfl, rfl⟩
end Go.Proofs.YtjjfehdlmdhhmaaDoor
end
section
/- What was answered is put away: at once, or left till the end; walked. -/
namespace Go.Proofs.YtjjfehdlmdhhmaaDoor
open Go.Sep
set_option linter.unusedSimpArgs false
set_option linter.unusedVariables false
attribute [local irreducible] blk slA mp mpF rows rowsBut many
structure KE where
  p1 : List (SV × List Iv)
  q1 : List (SV × List Iv)
  p2 : List (SV × List SV)
  q2 : List (SV × List SV)
  p3 : List (SV × List Int)
  q3 : List (SV × List Int)
  l1 : SV
  w1 : SV
  l2 : SV
  w2 : SV
  l3 : SV
  w3 : SV
def KL (kb : Nat) (c3 c6 c9 : Value) (e : KE) : List HProp :=
  [blk kb [.bool true, e.l1.val, e.w1.val, c3, e.l2.val, e.w2.val, c6, e.l3.val, e.w3.val, c9] 73,
   slA 44 Enc.slice e.l1.val (e.p1.map Prod.fst), rows 62 encIv e.p1, slA 44 Enc.slice e.w1.val (e.q1.map Prod.fst), rows 62 encIv e.q1,
   slA 30 Enc.slice e.l2.val (e.p2.map Prod.fst), rows 22 Enc.slice e.p2, slA 30 Enc.slice e.w2.val (e.q2.map Prod.fst), rows 22 Enc.slice e.q2,
   slA 22 Enc.slice e.l3.val (e.p3.map Prod.fst), rows 3 Ei e.p3, slA 22 Enc.slice e.w3.val (e.q3.map Prod.fst), rows 3 Ei e.q3]
structure LOk (e : KE) (b : Nat) : Prop where
  s : e.p1.map Prod.snd = e.q1.map Prod.snd
  l : e.p2.map Prod.snd = e.q2.map Prod.snd
  i : e.p3.map Prod.snd = e.q3.map Prod.snd
  has : ∀ q ∈ e.p2, ∀ u ∈ q.2, ∃ ys, (u, ys) ∈ e.p3
  s1 : ∀ q ∈ e.p1, q.2.length ≤ 1000000
  l1 : ∀ q ∈ e.p2, q.2.length ≤ 1000000
  i1 : ∀ q ∈ e.p3, q.2.length ≤ 1000000
  cs : e.p1.length ≤ b
  cl : e.p2.length ≤ b
  ci : e.p3.length ≤ b

set_option maxHeartbeats 1000000 in
set_option maxRecDepth 100000 in
theorem putSnow_ok (hR : Heap) (kb : Nat) (c2 c5 c8 : Value) (k : KD) (l : SV) (xs : List Iv) (b : Nat) (hK : KOk k) (hF : KFew k b) (hb : b ≤ 500000) (hn : xs.length ≤ 1000000) :
    Tri Tryd.prog hR 28 #[.pointer (some ⟨kb, 0, none⟩), l.val] (KN kb c2 c5 c8 k ++ [slA 62 encIv l.val xs]) fun u Γ' => ∃ k' : KD, Γ' = KN kb c2 c5 c8 k' ∧ KOk k' ∧ KFew k' (b + 41) := by
  refine Tri.ent (Tri.of (args := [.pointer (some ⟨kb, 0, none⟩), l.val]) Tryd.func28 rfl Tryd.ntmps28 (by simp) ?_)
  have hMl := hK.s.len
  have f1 := hF.s
  have f2 := hF.l
  have f3 := hF.i
  unfold KN
  refine WP.trim [0, 1] [0, 1, 2, 3, 4, 5, 6, 7, 8, 9, 10, 11] ?_
  refine WP.seq ?_
  refine Zp ?_
  refine Zm ?_
  refine Zn ?_
  refine Zf fo_73_0 ?_
  refine Zl 0 ag_4 ?_
  refine Ze ?_
  refine Zno ?_
  refine Zb ?_
  refine Zp ?_
  refine Zm ?_
  refine Zn ?_
  refine Zf fo_73_3 ?_
  refine Zl 0 ag_22 ?_
  refine Run.lenO 2 rfl rfl sl_22 rfl rfl rfl ?_
  refine Zm ?_
  refine Ze ?_
  refine Zp ?_
  refine Zm ?_
  refine Zm ?_
  refine Run.callP [11] ok_56 (fillS_ok hR l (k.M1.length : Int) xs (by omega) (by omega) (by omega)) ?_; rintro _ _ ⟨ys, hyl, hys, rfl⟩
  refine Ze ?_
  refine Zc ?_
  iterate 3 refine Zm ?_
  refine Run.callP [1, 2, 3, 4, 0] ok_57 (holdS_ok hR kb k.l1 k.m1 l (.bool false) c2 k.l2.val c5 k.m2.val k.l3.val c8 k.m3.val k.V1 k.M1 k.G1 (k.M1.length : Int) ys hK.s (by omega) (by omega) (by omega) (by omega) hys) ?_; rintro _ _ ⟨V', M', G', ls', ms', rfl, hV', hVl'⟩
  refine Run.nil ?_
  exact retN [] [] rfl rfl ⟨KN kb c2 c5 c8 { k with V1 := V', M1 := M', G1 := G', l1 := ls', m1 := ms' }, by unfold KN; exact ent.gn, { k with V1 := V', M1 := M', G1 := G', l1 := ls', m1 := ms' }, rfl, ⟨hV', hK.l, hK.i⟩, ⟨by simp only; omega, by simp only; omega, by simp only; omega⟩⟩

set_option maxHeartbeats 1000000 in
set_option maxRecDepth 100000 in
theorem putSlate_ok (hR : Heap) (kb : Nat) (c3 c6 c9 : Value) (e : KE) (l : SV) (xs : List Iv) (hn : xs.length ≤ 1000000) (hp : e.p1.length ≤ 1000000) (hq : e.q1.length ≤ 1000000) :
    Tri Tryd.prog hR 28 #[.pointer (some ⟨kb, 0, none⟩), l.val] (KL kb c3 c6 c9 e ++ [slA 62 encIv l.val xs]) fun u Γ' => ∃ c l' w' : SV, Γ' = KL kb c3 c6 c9 { e with p1 := e.p1 ++ [(l, xs)], q1 := e.q1 ++ [(c, xs)], l1 := l', w1 := w' } := by
  refine Tri.ent (Tri.of (args := [.pointer (some ⟨kb, 0, none⟩), l.val]) Tryd.func28 rfl Tryd.ntmps28 (by simp) ?_)
  have hpl : (e.p1.map Prod.fst).length = e.p1.length := by simp
  have hql : (e.q1.map Prod.fst).length = e.q1.length := by simp
  have h1l : [l].length = 1 := rfl
  unfold KL
  refine WP.trim [0, 1] [0, 1, 2, 3, 4, 5, 6, 7, 8, 9, 10, 11, 12, 13] ?_
  refine WP.seq ?_
  refine Zp ?_
  refine Zm ?_
  refine Zn ?_
  refine Zf fo_73_0 ?_
  refine Zl 0 ag_4 ?_
  refine Ze ?_
  refine Zyes ?_
  refine Zp ?_
  refine Zm ?_
  refine Zm ?_
  refine Zn ?_
  refine Zf fo_73_1 ?_
  refine Zl 0 ag_70 ?_
  refine Zm ?_
  refine Run.buildSlice (E := Enc.slice) rfl sl_70 zr_44 ([l]) rfl rfl rfl (by decide) rfl rfl ?_
  intro b15
  refine Run.append 1 rfl rfl rfl rfl rfl rfl sl_70 zr_44 rfl (src_own 14 rfl) (by first | omega | (simp <;> omega)) (by first | omega | (simp <;> omega)) ?_
  intro sv16 hv16
  refine Zn ?_
  refine Zf fo_73_1 ?_
  refine Run.storeB 0 rfl rfl rfl rfl ag_70 rfl rfl rfl rfl rfl ?_
  refine Ze ?_
  refine WP.seq ?_
  refine WP.sup (ρ' := [(0, .pointer (some ⟨kb, 0, none⟩)), (1, l.val)]) (Γ' := [slA 44 Enc.slice sv16.val (e.p1.map Prod.fst ++ [l]), rows 62 encIv e.p1, slA 44 Enc.slice e.w1.val (e.q1.map Prod.fst), rows 62 encIv e.q1, slA 30 Enc.slice e.l2.val (e.p2.map Prod.fst), rows 22 Enc.slice e.p2, slA 30 Enc.slice e.w2.val (e.q2.map Prod.fst), rows 22 Enc.slice e.q2, slA 22 Enc.slice e.l3.val (e.p3.map Prod.fst), rows 3 Ei e.p3, slA 22 Enc.slice e.w3.val (e.q3.map Prod.fst), rows 3 Ei e.q3, slA 62 encIv l.val xs, slA 62 encIv (.slice none 0 0) []] ++ [blk kb [.bool true, sv16.val, e.w1.val, c3, e.l2.val, e.w2.val, c6, e.l3.val, e.w3.val, c9] 73])
    (covers_get ⟨rfl, rfl, trivial⟩) ((slA_nil 62 encIv _).trans ent.gn) ?_
  refine WP.drawnF cfF [0, 1, 2, 3, 4, 5, 6, 7, 8, 9, 10] [11] ([blk kb [.bool true, sv16.val, e.w1.val, c3, e.l2.val, e.w2.val, c6, e.l3.val, e.w3.val, c9] 73]) mixed rfl rfl (by kernel_rfl) (fun gF hgF hdF => ?_)
  have cw := lent_blk (v := e.w1.val) 0 2 rfl rfl hgF hdF; refine Zm ?_
  refine Zm ?_
  refine Zn ?_
  refine Zf fo_73_2 ?_
  refine Run.loadF rfl rfl ag_70 rfl rfl cw ?_
  refine Zm ?_
  refine Run.append 13 rfl rfl rfl rfl rfl rfl sl_44 zr_62 rfl (src_own 12 rfl) (by first | omega | (simp <;> omega)) (by first | omega | (simp <;> omega)) ?_
  intro sv25 hv25
  refine Run.buildSlice (E := Enc.slice) rfl sl_70 zr_44 ([sv25]) rfl rfl rfl (by decide) rfl rfl ?_
  intro b26
  refine Run.append 2 rfl rfl rfl rfl rfl rfl sl_70 zr_44 rfl (src_own 14 rfl) (by first | omega | (simp <;> omega)) (by first | omega | (simp <;> omega)) ?_
  intro sv27 hv27
  refine Zn ?_
  refine Zf fo_73_2 ?_
  refine Run.nil ?_
  refine Run.storeB 15 rfl rfl rfl rfl ag_70 rfl rfl rfl rfl rfl ?_
  refine Ze ?_
  refine WP.ret ?_; refine thn_ret ?_
  refine retT [] [] rfl rfl ⟨KL kb c3 c6 c9 { e with p1 := e.p1 ++ [(l, xs)], q1 := e.q1 ++ [(sv25, xs)], l1 := sv16, w1 := sv27 }, ?_, sv25, sv16, sv27, rfl⟩
  unfold KL
  simp only [List.map_append, List.map_cons, List.map_nil]
  refine ent.trans (Δ := rows 62 encIv e.p1 :: slA 62 encIv l.val xs :: rows 62 encIv e.q1 :: slA 62 encIv sv25.val xs :: [blk kb [.bool true, sv16.val, sv27.val, c3, e.l2.val, e.w2.val, c6, e.l3.val, e.w3.val, c9] 73, slA 44 Enc.slice sv16.val (e.p1.map Prod.fst ++ [l]), slA 30 Enc.slice e.l2.val (e.p2.map Prod.fst), rows 22 Enc.slice e.p2, slA 30 Enc.slice e.w2.val (e.q2.map Prod.fst), rows 22 Enc.slice e.q2, slA 22 Enc.slice e.l3.val (e.p3.map Prod.fst), rows 3 Ei e.p3, slA 22 Enc.slice e.w3.val (e.q3.map Prod.fst), rows 3 Ei e.q3, slA 44 Enc.slice sv27.val (e.q1.map Prod.fst ++ [sv25])]) ent.gn ?_
  refine (rows_snoc _).trans ?_
  refine ent.trans (Δ := rows 62 encIv e.q1 :: slA 62 encIv sv25.val xs :: rows 62 encIv (e.p1 ++ [(l, xs)]) :: [blk kb [.bool true, sv16.val, sv27.val, c3, e.l2.val, e.w2.val, c6, e.l3.val, e.w3.val, c9] 73, slA 44 Enc.slice sv16.val (e.p1.map Prod.fst ++ [l]), slA 30 Enc.slice e.l2.val (e.p2.map Prod.fst), rows 22 Enc.slice e.p2, slA 30 Enc.slice e.w2.val (e.q2.map Prod.fst), rows 22 Enc.slice e.q2, slA 22 Enc.slice e.l3.val (e.p3.map Prod.fst), rows 3 Ei e.p3, slA 22 Enc.slice e.w3.val (e.q3.map Prod.fst), rows 3 Ei e.q3, slA 44 Enc.slice sv27.val (e.q1.map Prod.fst ++ [sv25])]) ent.go ?_
  exact (rows_snoc _).trans ent.go

set_option maxHeartbeats 1000000 in
set_option maxRecDepth 100000 in
theorem putLnow_ok (hR : Heap) (kb : Nat) (c2 c5 c8 : Value) (k : KD) (l : SV) (xs : List SV) (b : Nat) (hK : KOk k) (hF : KFew k b) (hb : b ≤ 500000) (hn : xs.length ≤ 1000000) :
    Tri Tryd.prog hR 55 #[.pointer (some ⟨kb, 0, none⟩), l.val] (KN kb c2 c5 c8 k ++ [slA 22 Enc.slice l.val xs]) fun u Γ' => ∃ k' : KD, Γ' = KN kb c2 c5 c8 k' ∧ KOk k' ∧ KFew k' (b + 41) := by
  refine Tri.ent (Tri.of (args := [.pointer (some ⟨kb, 0, none⟩), l.val]) Tryd.func55 rfl Tryd.ntmps55 (by simp) ?_)
  have hMl := hK.l.len
  have f1 := hF.s
  have f2 := hF.l
  have f3 := hF.i
  unfold KN
  refine WP.trim [0, 1] [0, 1, 2, 3, 4, 5, 6, 7, 8, 9, 10, 11] ?_
  refine WP.seq ?_
  refine Zp ?_
  refine Zm ?_
  refine Zn ?_
  refine Zf fo_73_0 ?_
  refine Zl 0 ag_4 ?_
  refine Ze ?_
  refine Zno ?_
  refine Zb ?_
  refine Zp ?_
  refine Zm ?_
  refine Zn ?_
  refine Zf fo_73_6 ?_
  refine Zl 0 ag_22 ?_
  refine Run.lenO 5 rfl rfl sl_22 rfl rfl rfl ?_
  refine Zm ?_
  refine Ze ?_
  refine Zp ?_
  refine Zm ?_
  refine Zm ?_
  refine Run.callP [11, 7] ok_75 (fillL_ok hR l (k.M2.length : Int) xs k.H (by omega) (by omega) (by omega)) ?_; rintro _ _ ⟨ys, H1, hsH, hyl, hys, rfl⟩
  refine Ze ?_
  refine Zc ?_
  iterate 3 refine Zm ?_
  refine Run.callP [2, 6, 7, 8, 1, 0] ok_76 (holdL_ok hR kb k.l2 k.m2 l (.bool false) k.l1.val c2 k.m1.val c5 k.l3.val c8 k.m3.val k.V2 k.M2 k.G2 H1 (k.M2.length : Int) ys (hK.l.mono fun _ _ hp => hp.mono (fun _ h => h) fun _ h => φL.mono hsH h) (by omega) (by omega) (by omega) (by omega) hys) ?_; rintro _ _ ⟨V', M', G', H', ls', ms', rfl, hV', hVl', hsH'⟩
  refine Run.nil ?_
  exact retN [] [] rfl rfl ⟨KN kb c2 c5 c8 { k with V2 := V', M2 := M', G2 := G', H := H', l2 := ls', m2 := ms' }, by unfold KN; exact ent.gn, { k with V2 := V', M2 := M', G2 := G', H := H', l2 := ls', m2 := ms' }, rfl, ⟨hK.s, hV', hK.i⟩, ⟨by simp only; omega, by simp only; omega, by simp only; omega⟩⟩

set_option maxHeartbeats 1000000 in
set_option maxRecDepth 100000 in
theorem putLlate_ok (hR : Heap) (kb : Nat) (c3 c6 c9 : Value) (e : KE) (l : SV) (xs : List SV) (hn : xs.length ≤ 1000000) (hp : e.p2.length ≤ 1000000) (hq : e.q2.length ≤ 1000000) :
    Tri Tryd.prog hR 55 #[.pointer (some ⟨kb, 0, none⟩), l.val] (KL kb c3 c6 c9 e ++ [slA 22 Enc.slice l.val xs]) fun u Γ' => ∃ c l' w' : SV, Γ' = KL kb c3 c6 c9 { e with p2 := e.p2 ++ [(l, xs)], q2 := e.q2 ++ [(c, xs)], l2 := l', w2 := w' } := by
  refine Tri.ent (Tri.of (args := [.pointer (some ⟨kb, 0, none⟩), l.val]) Tryd.func55 rfl Tryd.ntmps55 (by simp) ?_)
  have hpl : (e.p2.map Prod.fst).length = e.p2.length := by simp
  have hql : (e.q2.map Prod.fst).length = e.q2.length := by simp
  have h1l : [l].length = 1 := rfl
  unfold KL
  refine WP.trim [0, 1] [0, 1, 2, 3, 4, 5, 6, 7, 8, 9, 10, 11, 12, 13] ?_
  refine WP.seq ?_
  refine Zp ?_
  refine Zm ?_
  refine Zn ?_
  refine Zf fo_73_0 ?_
  refine Zl 0 ag_4 ?_
  refine Ze ?_
  refine Zyes ?_
  refine Zp ?_
  refine Zm ?_
  refine Zm ?_
  refine Zn ?_
  refine Zf fo_73_4 ?_
  refine Zl 0 ag_71 ?_
  refine Zm ?_
  refine Run.buildSlice (E := Enc.slice) rfl sl_71 zr_30 ([l]) rfl rfl rfl (by decide) rfl rfl ?_
  intro b15
  refine Run.append 5 rfl rfl rfl rfl rfl rfl sl_71 zr_30 rfl (src_own 14 rfl) (by first | omega | (simp <;> omega)) (by first | omega | (simp <;> omega)) ?_
  intro sv16 hv16
  refine Zn ?_
  refine Zf fo_73_4 ?_
  refine Run.storeB 0 rfl rfl rfl rfl ag_71 rfl rfl rfl rfl rfl ?_
  refine Ze ?_
  refine WP.seq ?_
  refine WP.sup (ρ' := [(0, .pointer (some ⟨kb, 0, none⟩)), (1, l.val)]) (Γ' := [slA 44 Enc.slice e.l1.val (e.p1.map Prod.fst), rows 62 encIv e.p1, slA 44 Enc.slice e.w1.val (e.q1.map Prod.fst), rows 62 encIv e.q1, slA 30 Enc.slice sv16.val (e.p2.map Prod.fst ++ [l]), rows 22 Enc.slice e.p2, slA 30 Enc.slice e.w2.val (e.q2.map Prod.fst), rows 22 Enc.slice e.q2, slA 22 Enc.slice e.l3.val (e.p3.map Prod.fst), rows 3 Ei e.p3, slA 22 Enc.slice e.w3.val (e.q3.map Prod.fst), rows 3 Ei e.q3, slA 22 Enc.slice l.val xs, slA 22 Enc.slice (.slice none 0 0) []] ++ [blk kb [.bool true, e.l1.val, e.w1.val, c3, sv16.val, e.w2.val, c6, e.l3.val, e.w3.val, c9] 73])
    (covers_get ⟨rfl, rfl, trivial⟩) ((slA_nil 22 Enc.slice _).trans ent.gn) ?_
  refine WP.drawnF cfF [0, 1, 2, 3, 4, 5, 6, 7, 8, 9, 10] [11] ([blk kb [.bool true, e.l1.val, e.w1.val, c3, sv16.val, e.w2.val, c6, e.l3.val, e.w3.val, c9] 73]) mixed rfl rfl (by kernel_rfl) (fun gF hgF hdF => ?_)
  have cw := lent_blk (v := e.w2.val) 0 5 rfl rfl hgF hdF; refine Zm ?_
  refine Zm ?_
  refine Zn ?_
  refine Zf fo_73_5 ?_
  refine Run.loadF rfl rfl ag_71 rfl rfl cw ?_
  refine Zm ?_
  refine Run.append 13 rfl rfl rfl rfl rfl rfl sl_30 zr_22 rfl (src_own 12 rfl) (by first | omega | (simp <;> omega)) (by first | omega | (simp <;> omega)) ?_
  intro sv25 hv25
  refine Run.buildSlice (E := Enc.slice) rfl sl_71 zr_30 ([sv25]) rfl rfl rfl (by decide) rfl rfl ?_
  intro b26
  refine Run.append 6 rfl rfl rfl rfl rfl rfl sl_71 zr_30 rfl (src_own 14 rfl) (by first | omega | (simp <;> omega)) (by first | omega | (simp <;> omega)) ?_
  intro sv27 hv27
  refine Zn ?_
  refine Zf fo_73_5 ?_
  refine Run.nil ?_
  refine Run.storeB 15 rfl rfl rfl rfl ag_71 rfl rfl rfl rfl rfl ?_
  refine Ze ?_
  refine WP.ret ?_; refine thn_ret ?_
  refine retT [] [] rfl rfl ⟨KL kb c3 c6 c9 { e with p2 := e.p2 ++ [(l, xs)], q2 := e.q2 ++ [(sv25, xs)], l2 := sv16, w2 := sv27 }, ?_, sv25, sv16, sv27, rfl⟩
  unfold KL
  simp only [List.map_append, List.map_cons, List.map_nil]
  refine ent.trans (Δ := rows 22 Enc.slice e.p2 :: slA 22 Enc.slice l.val xs :: rows 22 Enc.slice e.q2 :: slA 22 Enc.slice sv25.val xs :: [blk kb [.bool true, e.l1.val, e.w1.val, c3, sv16.val, sv27.val, c6, e.l3.val, e.w3.val, c9] 73, slA 44 Enc.slice e.l1.val (e.p1.map Prod.fst), rows 62 encIv e.p1, slA 44 Enc.slice e.w1.val (e.q1.map Prod.fst), rows 62 encIv e.q1, slA 30 Enc.slice sv16.val (e.p2.map Prod.fst ++ [l]), slA 22 Enc.slice e.l3.val (e.p3.map Prod.fst), rows 3 Ei e.p3, slA 22 Enc.slice e.w3.val (e.q3.map Prod.fst), rows 3 Ei e.q3, slA 30 Enc.slice sv27.val (e.q2.map Prod.fst ++ [sv25])]) ent.gn ?_
  refine (rows_snoc _).trans ?_
  refine ent.trans (Δ := rows 22 Enc.slice e.q2 :: slA 22 Enc.slice sv25.val xs :: rows 22 Enc.slice (e.p2 ++ [(l, xs)]) :: [blk kb [.bool true, e.l1.val, e.w1.val, c3, sv16.val, sv27.val, c6, e.l3.val, e.w3.val, c9] 73, slA 44 Enc.slice e.l1.val (e.p1.map Prod.fst), rows 62 encIv e.p1, slA 44 Enc.slice e.w1.val (e.q1.map Prod.fst), rows 62 encIv e.q1, slA 30 Enc.slice sv16.val (e.p2.map Prod.fst ++ [l]), slA 22 Enc.slice e.l3.val (e.p3.map Prod.fst), rows 3 Ei e.p3, slA 22 Enc.slice e.w3.val (e.q3.map Prod.fst), rows 3 Ei e.q3, slA 30 Enc.slice sv27.val (e.q2.map Prod.fst ++ [sv25])]) ent.go ?_
  exact (rows_snoc _).trans ent.go

set_option maxHeartbeats 1000000 in
set_option maxRecDepth 100000 in
theorem putInow_ok (hR : Heap) (kb : Nat) (c2 c5 c8 : Value) (k : KD) (l : SV) (xs : List Int) (b : Nat) (hK : KOk k) (hF : KFew k b) (hb : b ≤ 500000) (hn : xs.length ≤ 1000000) :
    Tri Tryd.prog hR 54 #[.pointer (some ⟨kb, 0, none⟩), l.val] (KN kb c2 c5 c8 k ++ [slA 3 Ei l.val xs]) fun u Γ' => ∃ k' : KD, Γ' = KN kb c2 c5 c8 k' ∧ KOk k' ∧ KFew k' (b + 41) := by
  refine Tri.ent (Tri.of (args := [.pointer (some ⟨kb, 0, none⟩), l.val]) Tryd.func54 rfl Tryd.ntmps54 (by simp) ?_)
  have hMl := hK.i.len
  have f1 := hF.s
  have f2 := hF.l
  have f3 := hF.i
  unfold KN
  refine WP.trim [0, 1] [0, 1, 2, 3, 4, 5, 6, 7, 8, 9, 10, 11] ?_
  refine WP.seq ?_
  refine Zp ?_
  refine Zm ?_
  refine Zn ?_
  refine Zf fo_73_0 ?_
  refine Zl 0 ag_4 ?_
  refine Ze ?_
  refine Zno ?_
  refine Zb ?_
  refine Zp ?_
  refine Zm ?_
  refine Zn ?_
  refine Zf fo_73_9 ?_
  refine Zl 0 ag_22 ?_
  refine Run.lenO 9 rfl rfl sl_22 rfl rfl rfl ?_
  refine Zm ?_
  refine Ze ?_
  refine Zp ?_
  refine Zm ?_
  refine Zm ?_
  refine Run.callP [11] ok_73 (fillI_ok hR l (k.M3.length : Int) xs (by omega) (by omega) (by omega)) ?_; rintro _ _ ⟨ys, hyl, hys, rfl⟩
  refine Ze ?_
  refine Zc ?_
  iterate 3 refine Zm ?_
  refine Run.callP [1, 9, 10, 11, 0] ok_74 (holdI_ok hR kb k.l3 k.m3 l (.bool false) k.l1.val c2 k.m1.val k.l2.val c5 k.m2.val c8 k.V3 k.M3 k.G3 (k.M3.length : Int) ys hK.i (by omega) (by omega) (by omega) (by omega) hys) ?_; rintro _ _ ⟨V', M', G', ls', ms', rfl, hV', hVl'⟩
  refine Run.nil ?_
  exact retN [] [] rfl rfl ⟨KN kb c2 c5 c8 { k with V3 := V', M3 := M', G3 := G', l3 := ls', m3 := ms' }, by unfold KN; exact ent.gn, { k with V3 := V', M3 := M', G3 := G', l3 := ls', m3 := ms' }, rfl, ⟨hK.s, hK.l, hV'⟩, ⟨by simp only; omega, by simp only; omega, by simp only; omega⟩⟩

set_option maxHeartbeats 1000000 in
set_option maxRecDepth 100000 in
theorem putIlate_ok (hR : Heap) (kb : Nat) (c3 c6 c9 : Value) (e : KE) (l : SV) (xs : List Int) (hn : xs.length ≤ 1000000) (hp : e.p3.length ≤ 1000000) (hq : e.q3.length ≤ 1000000) :
    Tri Tryd.prog hR 54 #[.pointer (some ⟨kb, 0, none⟩), l.val] (KL kb c3 c6 c9 e ++ [slA 3 Ei l.val xs]) fun u Γ' => ∃ c l' w' : SV, Γ' = KL kb c3 c6 c9 { e with p3 := e.p3 ++ [(l, xs)], q3 := e.q3 ++ [(c, xs)], l3 := l', w3 := w' } := by
  refine Tri.ent (Tri.of (args := [.pointer (some ⟨kb, 0, none⟩), l.val]) Tryd.func54 rfl Tryd.ntmps54 (by simp) ?_)
  have hpl : (e.p3.map Prod.fst).length = e.p3.length := by simp
  have hql : (e.q3.map Prod.fst).length = e.q3.length := by simp
  have h1l : [l].length = 1 := rfl
  unfold KL
  refine WP.trim [0, 1] [0, 1, 2, 3, 4, 5, 6, 7, 8, 9, 10, 11, 12, 13] ?_
  refine WP.seq ?_
  refine Zp ?_
  refine Zm ?_
  refine Zn ?_
  refine Zf fo_73_0 ?_
  refine Zl 0 ag_4 ?_
  refine Ze ?_
  refine Zyes ?_
  refine Zp ?_
  refine Zm ?_
  refine Zm ?_
  refine Zn ?_
  refine Zf fo_73_7 ?_
  refine Zl 0 ag_30 ?_
  refine Zm ?_
  refine Run.buildSlice (E := Enc.slice) rfl sl_30 zr_22 ([l]) rfl rfl rfl (by decide) rfl rfl ?_
  intro b15
  refine Run.append 9 rfl rfl rfl rfl rfl rfl sl_30 zr_22 rfl (src_own 14 rfl) (by first | omega | (simp <;> omega)) (by first | omega | (simp <;> omega)) ?_
  intro sv16 hv16
  refine Zn ?_
  refine Zf fo_73_7 ?_
  refine Run.storeB 0 rfl rfl rfl rfl ag_30 rfl rfl rfl rfl rfl ?_
  refine Ze ?_
  refine WP.seq ?_
  refine WP.sup (ρ' := [(0, .pointer (some ⟨kb, 0, none⟩)), (1, l.val)]) (Γ' := [slA 44 Enc.slice e.l1.val (e.p1.map Prod.fst), rows 62 encIv e.p1, slA 44 Enc.slice e.w1.val (e.q1.map Prod.fst), rows 62 encIv e.q1, slA 30 Enc.slice e.l2.val (e.p2.map Prod.fst), rows 22 Enc.slice e.p2, slA 30 Enc.slice e.w2.val (e.q2.map Prod.fst), rows 22 Enc.slice e.q2, slA 22 Enc.slice sv16.val (e.p3.map Prod.fst ++ [l]), rows 3 Ei e.p3, slA 22 Enc.slice e.w3.val (e.q3.map Prod.fst), rows 3 Ei e.q3, slA 3 Ei l.val xs, slA 3 Ei (.slice none 0 0) []] ++ [blk kb [.bool true, e.l1.val, e.w1.val, c3, e.l2.val, e.w2.val, c6, sv16.val, e.w3.val, c9] 73])
    (covers_get ⟨rfl, rfl, trivial⟩) ((slA_nil 3 Ei _).trans ent.gn) ?_
  refine WP.drawnF cfF [0, 1, 2, 3, 4, 5, 6, 7, 8, 9, 10] [11] ([blk kb [.bool true, e.l1.val, e.w1.val, c3, e.l2.val, e.w2.val, c6, sv16.val, e.w3.val, c9] 73]) mixed rfl rfl (by kernel_rfl) (fun gF hgF hdF => ?_)
  have cw := lent_blk (v := e.w3.val) 0 8 rfl rfl hgF hdF; refine Zm ?_
  refine Zm ?_
  refine Zn ?_
  refine Zf fo_73_8 ?_
  refine Run.loadF rfl rfl ag_30 rfl rfl cw ?_
  refine Zm ?_
  refine Run.append 13 rfl rfl rfl rfl rfl rfl sl_22 zr_3 rfl (src_own 12 rfl) (by first | omega | (simp <;> omega)) (by first | omega | (simp <;> omega)) ?_
  intro sv25 hv25
  refine Run.buildSlice (E := Enc.slice) rfl sl_30 zr_22 ([sv25]) rfl rfl rfl (by decide) rfl rfl ?_
  intro b26
  refine Run.append 10 rfl rfl rfl rfl rfl rfl sl_30 zr_22 rfl (src_own 14 rfl) (by first | omega | (simp <;> omega)) (by first | omega | (simp <;> omega)) ?_
  intro sv27 hv27
  refine Zn ?_
  refine Zf fo_73_8 ?_
  refine Run.nil ?_
  refine Run.storeB 15 rfl rfl rfl rfl ag_30 rfl rfl rfl rfl rfl ?_
  refine Ze ?_
  refine WP.ret ?_; refine thn_ret ?_
  refine retT [] [] rfl rfl ⟨KL kb c3 c6 c9 { e with p3 := e.p3 ++ [(l, xs)], q3 := e.q3 ++ [(sv25, xs)], l3 := sv16, w3 := sv27 }, ?_, sv25, sv16, sv27, rfl⟩
  unfold KL
  simp only [List.map_append, List.map_cons, List.map_nil]
  refine ent.trans (Δ := rows 3 Ei e.p3 :: slA 3 Ei l.val xs :: rows 3 Ei e.q3 :: slA 3 Ei sv25.val xs :: [blk kb [.bool true, e.l1.val, e.w1.val, c3, e.l2.val, e.w2.val, c6, sv16.val, sv27.val, c9] 73, slA 44 Enc.slice e.l1.val (e.p1.map Prod.fst), rows 62 encIv e.p1, slA 44 Enc.slice e.w1.val (e.q1.map Prod.fst), rows 62 encIv e.q1, slA 30 Enc.slice e.l2.val (e.p2.map Prod.fst), rows 22 Enc.slice e.p2, slA 30 Enc.slice e.w2.val (e.q2.map Prod.fst), rows 22 Enc.slice e.q2, slA 22 Enc.slice sv16.val (e.p3.map Prod.fst ++ [l]), slA 22 Enc.slice sv27.val (e.q3.map Prod.fst ++ [sv25])]) ent.gn ?_
  refine (rows_snoc _).trans ?_
  refine ent.trans (Δ := rows 3 Ei e.q3 :: slA 3 Ei sv25.val xs :: rows 3 Ei (e.p3 ++ [(l, xs)]) :: [blk kb [.bool true, e.l1.val, e.w1.val, c3, e.l2.val, e.w2.val, c6, sv16.val, sv27.val, c9] 73, slA 44 Enc.slice e.l1.val (e.p1.map Prod.fst), rows 62 encIv e.p1, slA 44 Enc.slice e.w1.val (e.q1.map Prod.fst), rows 62 encIv e.q1, slA 30 Enc.slice e.l2.val (e.p2.map Prod.fst), rows 22 Enc.slice e.p2, slA 30 Enc.slice e.w2.val (e.q2.map Prod.fst), rows 22 Enc.slice e.q2, slA 22 Enc.slice sv16.val (e.p3.map Prod.fst ++ [l]), slA 22 Enc.slice sv27.val (e.q3.map Prod.fst ++ [sv25])]) ent.go ?_
  exact (rows_snoc _).trans ent.go
end Go.Proofs.YtjjfehdlmdhhmaaDoor
end
