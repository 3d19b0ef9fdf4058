/- What was answered is kept: a list is written full of its mark, and what it becomes with more behind it is held; walked. -/
import Derived.Test.YtifpejpeophlbaaDWays
namespace Go.Proofs.Ytifpejpeophlbaa
open Go.Sep
set_option linter.unusedSimpArgs false
set_option linter.unusedVariables false
attribute [local irreducible] blk slA mp mpF rows rowsBut memL

abbrev keepB (kb : Nat) (late : Bool) (ls ws ms bs bw : SV) : HProp := blk kb [.bool late, ls.val, ws.val, ms.val, bs.val, bw.val] 43
/-- a slice that is the front of one of the rows, and holds nothing but one thing -/
def Pre {A : Type} (G : List (SV × List A)) (c : A) (v : SV) : Prop := v.n = 0 ∨ ∃ g xs, (g, xs) ∈ G ∧ v.a = g.a ∧ v.c = g.c ∧ v.n ≤ xs.length ∧ ∀ x ∈ xs.take v.n, x = c
theorem Pre.mono {A : Type} {G G' : List (SV × List A)} {c : A} {v : SV} (h : ∀ q ∈ G, q ∈ G') (hp : Pre G c v) : Pre G' c v :=
  hp.imp id fun ⟨g, xs, h1, h2⟩ => ⟨g, xs, h _ h1, h2⟩
theorem Pre.top {A : Type} {G : List (SV × List A)} {c : A} {v : SV} {n : Nat} (hn : v.n = n) (h : (v, List.replicate n c) ∈ G) : Pre G c v :=
  .inr ⟨v, _, h, rfl, rfl, by simp [hn], fun x hx => List.eq_of_mem_replicate (List.mem_of_mem_take hx)⟩
/-- the last of them grows -/
theorem Pre.grow {A : Type} {G G' : List (SV × List A)} {c : A} {v f f' : SV} {xs ys : List A} (hp : Pre (G ++ [(f, xs)]) c v) (hor : (G' = G ∧ f'.a = f.a ∧ f'.c = f.c) ∨ G' = G ++ [(f, xs)]) : Pre (G' ++ [(f', xs ++ ys)]) c v := by
  rcases hor with ⟨rfl, ha, hc⟩ | rfl
  · refine hp.imp id ?_
    rintro ⟨g, zs, h1, h2, h3, h4, h5⟩
    rcases List.mem_append.1 h1 with h1 | h1
    · exact ⟨g, zs, by simp [h1], h2, h3, h4, h5⟩
    · simp at h1
      obtain ⟨rfl, rfl⟩ := h1
      refine ⟨f', zs ++ ys, by simp, by rw [ha]; exact h2, by rw [hc]; exact h3, by simp; omega, fun x hx => h5 x ?_⟩
      rwa [List.take_append_of_le_length h4] at hx
  · exact hp.mono fun q hq => by simp at hq ⊢; rcases hq with h | h <;> simp [h]
/-- such a slice, read -/
theorem Pre.read {A : Type} {T : TypeId} {E : Enc A} {G : List (SV × List A)} {c : A} {v : SV} (hp : Pre G c v) {h : Heap} (hs : rows T E G h) : SlR E.rd h v.val (List.replicate v.n c) := by
  rcases hp with h0 | ⟨g, xs, h1, h2, h3, h4, h5⟩
  · rw [h0]
    exact ⟨v.a, v.c, by simp [SV.val, h0], Nat.zero_le _, fun h => absurd rfl h⟩
  · obtain ⟨i, hi⟩ := List.getElem?_of_mem h1
    obtain ⟨a, cc, q1, q2, q3⟩ := sat_rows hs hi
    simp only [SV.val, Value.slice.injEq] at q1
    obtain ⟨r1, r2, r3⟩ := q1
    have e : xs.take v.n = List.replicate v.n c := List.eq_replicate_iff.2 ⟨by simp; omega, h5⟩
    rw [← e]
    refine ⟨v.a, v.c, by simp [SV.val]; omega, by simp; omega, fun hne => ?_⟩
    obtain ⟨ad, r4, r5⟩ := q3 (fun e => by subst e; simp at hne)
    refine ⟨ad, by rw [h2, r1, r4], fun j x hx => r5 j x ?_⟩
    rw [List.getElem?_take] at hx
    split at hx
    · exact hx
    · cases hx

structure Views (V : List SV) (M : List Int) (G : List (SV × List Int)) : Prop where
  len : V.length = M.length
  pre : ∀ (i : Nat) (v : SV) (m : Int), V[i]? = some v → M[i]? = some m → Pre G (-9 - m) v ∧ 0 ≤ m ∧ m ≤ 1000000 ∧ v.n ≤ 1000000000
theorem Views.mono {V : List SV} {M : List Int} {G G' : List (SV × List Int)} (h : Views V M G) (hG : ∀ c v, Pre G c v → Pre G' c v) : Views V M G' :=
  ⟨h.len, fun i v m hv hm => ⟨hG _ _ (h.pre i v m hv hm).1, (h.pre i v m hv hm).2⟩⟩
theorem Views.snoc {V : List SV} {M : List Int} {G : List (SV × List Int)} (h : Views V M G) {v : SV} {m : Int} (hp : Pre G (-9 - m) v) (h0 : 0 ≤ m) (h1 : m ≤ 1000000) (hn : v.n ≤ 1000000000) : Views (V ++ [v]) (M ++ [m]) G := by
  refine ⟨by simp [h.len], fun i v' m' hv hm => ?_⟩
  have hl := h.len
  by_cases e : i < V.length
  · rw [List.getElem?_append_left e] at hv
    rw [List.getElem?_append_left (by omega)] at hm
    exact h.pre i v' m' hv hm
  · have h2 := (List.getElem?_eq_some_iff.1 hv).1
    simp at h2
    have h3 : i = V.length := by omega
    subst h3
    rw [List.getElem?_append_right (by omega)] at hv hm
    simp [hl] at hv hm
    subst hv; subst hm
    exact ⟨hp, h0, h1, hn⟩
def KN (kb : Nat) (ws bs bw : SV) (V : List SV) (M : List Int) (G : List (SV × List Int)) (ls ms : SV) : List HProp :=
  [keepB kb false ls ws ms bs bw, slA 31 Enc.slice ls.val V, slA 3 (Enc.int .i64) ms.val M, rows 3 (Enc.int .i64) G]

theorem fill_ok (hR : Heap) (l : SV) (m : Int) (xs : List Int) (h0 : 0 ≤ m) (h1 : m ≤ 1000000) (hlen : xs.length ≤ 1000000000) :
    Tri Try.prog hR 34 #[l.val, .int .i64 m] [slA 3 (Enc.int .i64) l.val xs] fun u Γ' => Γ' = [slA 3 (Enc.int .i64) l.val (List.replicate xs.length (-9 - m))] := by
  refine Tri.of (args := [l.val, .int .i64 m]) Try.func34 rfl Try.ntmps34 (by simp) ?_
  refine WP.seq ?_
  refine WP.plain cf0 rfl ?_
  refine Run.mv rfl rfl rfl rfl ?_
  refine Run.nil ?_
  refine thn_next ?_
  refine WP.block ?_
  refine WP.loop (α := Nat × List Int) (fun z => z.1 ≤ xs.length ∧ z.2.length = xs.length ∧ ∀ k, k < z.1 → z.2[k]? = some (-9 - m)) (fun z => [(0, l.val), (1, .int .i64 m), (4, .int .i64 (z.1 : Int))]) (fun z => [slA 3 (Enc.int .i64) l.val z.2]) (fun z => xs.length - z.1)
    (0, xs) ⟨Nat.zero_le _, rfl, fun k hk => by simp at hk⟩ ⟨rfl, rfl, rfl, trivial⟩ (ent.refl _) ?_
  rintro ⟨i, ys⟩ ⟨hi, hl, hk⟩
  simp only at hi hl hk ⊢
  refine WP.seq ?_
  refine WP.seq ?_
  refine WP.plain cf0 rfl ?_
  refine Run.mv rfl rfl rfl rfl ?_
  refine Run.mv rfl rfl rfl rfl ?_
  refine Run.lenO 0 rfl rfl sl_31 rfl rfl rfl ?_
  refine Run.int2 rfl rfl rfl rfl rfl rfl ?_
  refine Run.nil ?_
  refine thn_next ?_
  refine WP.ite rfl (fun hlt => ?_) (fun hge => ?_)
  · refine WP.skip ?_; refine thn_next ?_
    obtain ⟨y, gy⟩ : ∃ x, ys[i]? = some x := ⟨_, List.getElem?_eq_getElem (by omega)⟩
    refine WP.seq ?_
    refine WP.block ?_
    refine WP.plain cf0 rfl ?_
    refine Run.mv rfl rfl rfl rfl ?_
    refine Run.mv rfl rfl rfl rfl ?_
    refine Run.mv rfl rfl rfl rfl ?_
    refine Run.sub64 rfl rfl rfl rfl rfl (by first | omega | (simp <;> omega)) (by first | omega | (simp <;> omega)) ?_
    refine Run.idxO 0 rfl rfl rfl sl_31 rfl rfl rfl rfl (by first | omega | (simp <;> omega)) (by first | omega | (simp <;> omega)) ?_
    refine Run.storeO 0 i 0 (y' := -9 - m) rfl rfl rfl rfl ag_3 rfl rfl rfl rfl gy rfl rfl ?_
    refine Run.nil ?_
    refine blk_norm ?_; refine thn_next ?_
    refine WP.plain cf0 rfl ?_
    refine Run.mv rfl rfl rfl rfl ?_
    refine Run.add64 rfl rfl rfl rfl rfl (by first | omega | (simp <;> omega)) (by first | omega | (simp <;> omega)) ?_
    refine Run.mv rfl rfl rfl rfl ?_
    refine Run.nil ?_
    refine thn_next ⟨(i + 1, ys.set i (-9 - m)), ⟨by simp only; omega, by simp [hl], fun k hk2 => ?_⟩, by simp only; omega, ⟨rfl, rfl, rfl, trivial⟩, ent.refl _⟩
    by_cases e : k = i
    · subst e; rw [List.getElem?_set_self (by omega)]
    · rw [List.getElem?_set_ne (Ne.symm e)]; exact hk k (by simp only at hk2; omega)
  · refine WP.exit ?_; refine thn_exit ?_; refine thn_exit ?_; refine blk_hit ?_
    have e : ys = List.replicate xs.length (-9 - m) := by
      refine List.eq_replicate_iff.2 ⟨hl, fun x hx => ?_⟩
      obtain ⟨j, hj⟩ := List.getElem?_of_mem hx
      have := hk j (by have := (List.getElem?_eq_some_iff.1 hj).1; omega)
      rw [hj] at this; cases this; rfl
    subst e
    exact retN [] [] rfl rfl rfl

structure HS where
  i : Nat
  far : SV
  V : List SV
  M : List Int
  G : List (SV × List Int)
  ls : SV
  ms : SV

set_option maxHeartbeats 1000000 in
set_option maxRecDepth 100000 in
theorem hold_ok (hR : Heap) (kb : Nat) (ws bs bw ls ms l : SV) (V : List SV) (M : List Int) (G : List (SV × List Int)) (m : Int) (n0 : Nat) (hV : Views V M G) (h0 : 0 ≤ m) (h1 : m ≤ 1000000) (hn : n0 ≤ 1000000) (hVl : V.length ≤ 1000000) :
    Tri Try.prog hR 35 #[.pointer (some ⟨kb, 0, none⟩), l.val, .int .i64 m] (KN kb ws bs bw V M G ls ms ++ [slA 3 (Enc.int .i64) l.val (List.replicate n0 (-9 - m))])
      fun u Γ' => ∃ V' M' G' ls' ms', Γ' = KN kb ws bs bw V' M' G' ls' ms' ∧ Views V' M' G' ∧ V'.length ≤ V.length + 41 := by
  refine Tri.of (args := [.pointer (some ⟨kb, 0, none⟩), l.val, .int .i64 m]) Try.func35 rfl Try.ntmps35 (by simp) ?_
  unfold KN
  have hMl := hV.len
  refine WP.know (slA_know 4 rfl) fun hkn => ?_
  have hln : l.n = n0 := by simpa using hkn.1
  refine WP.seq ?_
  refine WP.plain cf0 rfl ?_
  refine Run.mv rfl rfl rfl rfl ?_
  refine Run.mv rfl rfl rfl rfl ?_
  refine Run.nilCheck rfl rfl rfl rfl ?_
  refine Run.fieldAddr rfl rfl fo_43_1 rfl rfl ?_
  refine Run.loadB 0 rfl rfl ag_22 rfl rfl rfl rfl rfl ?_
  refine Run.mv rfl rfl rfl rfl ?_
  refine Run.buildSlice (E := Enc.slice) rfl sl_22 zr_31 ([l]) rfl rfl rfl (by decide) rfl rfl ?_
  intro b14
  refine Run.append 1 rfl rfl rfl rfl rfl rfl sl_22 zr_31 rfl (src_own 5 rfl) (by first | omega | (simp <;> omega)) (by first | omega | (simp <;> omega)) ?_
  intro sv15 hv15
  refine Run.nilCheck rfl rfl rfl rfl ?_
  refine Run.fieldAddr rfl rfl fo_43_1 rfl rfl ?_
  refine Run.storeB 0 rfl rfl rfl rfl ag_22 rfl rfl rfl rfl rfl ?_
  refine Run.nil ?_
  refine thn_next ?_
  refine WP.seq ?_
  refine WP.plain cf0 rfl ?_
  refine Run.mv rfl rfl rfl rfl ?_
  refine Run.mv rfl rfl rfl rfl ?_
  refine Run.nilCheck rfl rfl rfl rfl ?_
  refine Run.fieldAddr rfl rfl fo_43_3 rfl rfl ?_
  refine Run.loadB 0 rfl rfl ag_31 rfl rfl rfl rfl rfl ?_
  refine Run.mv rfl rfl rfl rfl ?_
  refine Run.buildSlice (E := (Enc.int .i64)) rfl sl_31 zr_3 ([m]) rfl rfl rfl (by decide) rfl rfl ?_
  intro b24
  refine Run.append 2 rfl rfl rfl rfl rfl rfl sl_31 zr_3 rfl (src_own 6 rfl) (by first | omega | (simp <;> omega)) (by first | omega | (simp <;> omega)) ?_
  intro sv25 hv25
  refine Run.nilCheck rfl rfl rfl rfl ?_
  refine Run.fieldAddr rfl rfl fo_43_3 rfl rfl ?_
  refine Run.storeB 0 rfl rfl rfl rfl ag_31 rfl rfl rfl rfl rfl ?_
  refine Run.nil ?_
  refine thn_next ?_
  refine WP.seq ?_
  refine WP.plain cf0 rfl ?_
  refine Run.mv rfl rfl rfl rfl ?_
  refine Run.mv rfl rfl rfl rfl ?_
  refine Run.nil ?_
  refine thn_next ?_
  refine WP.seq ?_
  refine WP.plain cf0 rfl ?_
  refine Run.mv rfl rfl rfl rfl ?_
  refine Run.nil ?_
  refine thn_next ?_
  refine WP.block ?_
  refine WP.loop (α := HS) (fun z => z.i ≤ 40 ∧ Views z.V z.M (z.G ++ [(z.far, List.replicate (n0 + z.i) (-9 - m))]) ∧ z.V.length ≤ V.length + 1 + z.i ∧ z.far.n = n0 + z.i) (fun z => [(0, .pointer (some ⟨kb, 0, none⟩)), (2, .int .i64 m), (6, z.far.val), (7, .int .i64 (z.i : Int))])
    (fun z => [keepB kb false z.ls ws z.ms bs bw, slA 31 Enc.slice z.ls.val z.V, slA 3 (Enc.int .i64) z.ms.val z.M, rows 3 (Enc.int .i64) z.G, slA 3 (Enc.int .i64) z.far.val (List.replicate (n0 + z.i) (-9 - m))]) (fun z => 40 - z.i)
    ⟨0, l, V ++ [l], M ++ [m], G, sv15, sv25⟩ ⟨by simp, (hV.mono fun c v hp => hp.mono fun q hq => by simp [hq]).snoc (Pre.top hln (by simp)) h0 h1 (by omega), by simp, hln⟩ ⟨rfl, rfl, rfl, rfl, trivial⟩ (pick_only [0, 0, 0, 0, 0] _) ?_
  rintro ⟨i, far, V1, M1, G1, ls1, ms1⟩ ⟨hi, hV1, hVl1, hfn⟩
  simp only at hi hV1 hVl1 hfn ⊢
  have hMl1 := hV1.len
  have hrep : (List.replicate (n0 + i) (-9 - m)).length = n0 + i := by simp
  refine WP.seq ?_
  refine WP.seq ?_
  refine WP.plain cf0 rfl ?_
  refine Run.mv rfl rfl rfl rfl ?_
  refine Run.int2 rfl rfl rfl rfl rfl rfl ?_
  refine Run.nil ?_
  refine thn_next ?_
  refine WP.ite rfl (fun hlt => ?_) (fun hge => ?_)
  · refine WP.skip ?_; refine thn_next ?_
    refine WP.seqMeet (α := HS) (fun z => z.i = i + 1 ∧ Views z.V z.M (z.G ++ [(z.far, List.replicate (n0 + (i + 1)) (-9 - m))]) ∧ z.V.length ≤ V.length + 1 + (i + 1) ∧ z.far.n = n0 + (i + 1)) (fun z => [(0, .pointer (some ⟨kb, 0, none⟩)), (2, .int .i64 m), (6, z.far.val), (7, .int .i64 (i : Int))])
      (fun z => [keepB kb false z.ls ws z.ms bs bw, slA 31 Enc.slice z.ls.val z.V, slA 3 (Enc.int .i64) z.ms.val z.M, rows 3 (Enc.int .i64) z.G, slA 3 (Enc.int .i64) z.far.val (List.replicate (n0 + (i + 1)) (-9 - m))]) ?_ ?_
    · refine WP.block ?_
      refine WP.seq ?_
      refine WP.plain cf0 rfl ?_
      refine Run.mv rfl rfl rfl rfl ?_
      refine Run.mv rfl rfl rfl rfl ?_
      refine Run.sub64 rfl rfl rfl rfl rfl (by first | omega | (simp <;> omega)) (by first | omega | (simp <;> omega)) ?_
      refine Run.buildSlice (E := (Enc.int .i64)) rfl sl_31 zr_3 ([-9 - m]) rfl rfl rfl (by decide) rfl rfl ?_
      intro b36
      refine Run.appendG 4 3 rfl rfl rfl rfl rfl rfl sl_31 zr_3 rfl rfl (by decide) (src_own 5 rfl) (by simp <;> omega) (by simp <;> omega) ?_; intro sv37 G2 hv37 hG2
      refine Run.mv rfl rfl rfl rfl ?_
      refine Run.nil ?_
      refine thn_next ?_
      have hre : List.replicate (n0 + i) (-9 - m) ++ [-9 - m] = List.replicate (n0 + (i + 1)) (-9 - m) := by rw [← Nat.add_assoc, List.replicate_succ']
      have hV2 : Views V1 M1 (G2 ++ [(sv37, List.replicate (n0 + (i + 1)) (-9 - m))]) := hV1.mono fun c v hp => by rw [← hre]; exact hp.grow hG2
      have hfn2 : sv37.n = n0 + (i + 1) := by rw [hv37]; simp; omega
      refine WP.weaken (ρ' := [(0, .pointer (some ⟨kb, 0, none⟩)), (2, .int .i64 m), (6, sv37.val), (7, .int .i64 (i : Int))]) (Γ' := [keepB kb false ls1 ws ms1 bs bw, slA 31 Enc.slice ls1.val V1, slA 3 (Enc.int .i64) ms1.val M1, rows 3 (Enc.int .i64) G2, slA 3 (Enc.int .i64) sv37.val (List.replicate (n0 + (i + 1)) (-9 - m))])
        ⟨rfl, rfl, rfl, rfl, trivial⟩ (by rw [← hre]; exact pick_only [0, 0, 0, 0, 0] _) ?_
      refine WP.seqCut [(0, .pointer (some ⟨kb, 0, none⟩)), (2, .int .i64 m), (6, sv37.val), (7, .int .i64 (i : Int)), (43, .bool (decide ((i : Int) < 16 ∨ (i : Int) = 39)))] [keepB kb false ls1 ws ms1 bs bw, slA 31 Enc.slice ls1.val V1, slA 3 (Enc.int .i64) ms1.val M1, rows 3 (Enc.int .i64) G2, slA 3 (Enc.int .i64) sv37.val (List.replicate (n0 + (i + 1)) (-9 - m))] ?_ ?_
      · refine WP.plain cf0 rfl ?_
        all_goals (first | refine Run.mv rfl rfl rfl rfl ?_)
        all_goals (first | refine Run.int2 rfl rfl rfl rfl rfl rfl ?_)
        all_goals (first | refine Run.tt (by first | assumption | omega) ?_ | refine Run.ff (by first | assumption | omega) ?_ | refine Run.split (fun hc39 => ?_) (fun hc39 => ?_) | refine Run.splitB (fun hc39 => ?_) (fun hc39 => ?_) | skip)
        all_goals (first | refine Run.mv rfl rfl rfl rfl ?_)
        all_goals (first | refine Run.not rfl rfl ?_ | refine Run.mv rfl rfl rfl rfl ?_)
        all_goals (first | refine Run.not rfl rfl ?_ | refine Run.int2 rfl rfl rfl rfl rfl rfl ?_)
        all_goals (first | refine Run.pick rfl rfl rfl rfl rfl ?_)
        all_goals (refine Run.nil ?_)
        all_goals refine thn_next ⟨⟨rfl, rfl, rfl, rfl, ?_, trivial⟩, ent.refl _⟩
        all_goals simp [Env.get, *]
      refine WP.ite rfl (fun hc => ?_) (fun hc => ?_)
      · refine WP.seq ?_
        refine WP.plain cf0 rfl ?_
        refine Run.mv rfl rfl rfl rfl ?_
        refine Run.mv rfl rfl rfl rfl ?_
        refine Run.nilCheck rfl rfl rfl rfl ?_
        refine Run.fieldAddr rfl rfl fo_43_1 rfl rfl ?_
        refine Run.loadB 0 rfl rfl ag_22 rfl rfl rfl rfl rfl ?_
        refine Run.mv rfl rfl rfl rfl ?_
        refine Run.buildSlice (E := Enc.slice) rfl sl_22 zr_31 ([sv37]) rfl rfl rfl (by decide) rfl rfl ?_
        intro b50
        refine Run.append 1 rfl rfl rfl rfl rfl rfl sl_22 zr_31 rfl (src_own 5 rfl) (by first | omega | (simp <;> omega)) (by first | omega | (simp <;> omega)) ?_
        intro sv51 hv51
        refine Run.nilCheck rfl rfl rfl rfl ?_
        refine Run.fieldAddr rfl rfl fo_43_1 rfl rfl ?_
        refine Run.storeB 0 rfl rfl rfl rfl ag_22 rfl rfl rfl rfl rfl ?_
        refine Run.nil ?_
        refine thn_next ?_
        refine WP.plain cf0 rfl ?_
        refine Run.mv rfl rfl rfl rfl ?_
        refine Run.mv rfl rfl rfl rfl ?_
        refine Run.nilCheck rfl rfl rfl rfl ?_
        refine Run.fieldAddr rfl rfl fo_43_3 rfl rfl ?_
        refine Run.loadB 0 rfl rfl ag_31 rfl rfl rfl rfl rfl ?_
        refine Run.mv rfl rfl rfl rfl ?_
        refine Run.buildSlice (E := (Enc.int .i64)) rfl sl_31 zr_3 ([m]) rfl rfl rfl (by decide) rfl rfl ?_
        intro b60
        refine Run.append 2 rfl rfl rfl rfl rfl rfl sl_31 zr_3 rfl (src_own 6 rfl) (by first | omega | (simp <;> omega)) (by first | omega | (simp <;> omega)) ?_
        intro sv61 hv61
        refine Run.nilCheck rfl rfl rfl rfl ?_
        refine Run.fieldAddr rfl rfl fo_43_3 rfl rfl ?_
        refine Run.storeB 0 rfl rfl rfl rfl ag_31 rfl rfl rfl rfl rfl ?_
        refine Run.nil ?_
        refine blk_norm ?_
        refine thn_next ⟨⟨i + 1, sv37, V1 ++ [sv37], M1 ++ [m], G2, sv51, sv61⟩, ⟨rfl, hV2.snoc (Pre.top hfn2 (by simp)) h0 h1 (by omega), by simp; omega, hfn2⟩, ⟨rfl, rfl, rfl, rfl, trivial⟩, pick_only [0, 0, 0, 0, 0] _⟩
      · refine WP.skip ?_; refine blk_norm ?_
        refine thn_next ⟨⟨i + 1, sv37, V1, M1, G2, ls1, ms1⟩, ⟨rfl, hV2, by simp only; omega, hfn2⟩, ⟨rfl, rfl, rfl, rfl, trivial⟩, ent.refl _⟩
    rintro ⟨i2, far2, V2, M2, G2, ls2, ms2⟩ ⟨hi2, hV2, hVl2, hfn2⟩
    simp only at hi2 hV2 hVl2 hfn2 ⊢
    subst hi2
    refine WP.plain cf0 rfl ?_
    refine Run.mv rfl rfl rfl rfl ?_
    refine Run.add64 rfl rfl rfl rfl rfl (by first | omega | (simp <;> omega)) (by first | omega | (simp <;> omega)) ?_
    refine Run.mv rfl rfl rfl rfl ?_
    refine Run.nil ?_
    refine thn_next ⟨⟨i + 1, far2, V2, M2, G2, ls2, ms2⟩, ⟨by simp only; omega, hV2, hVl2, hfn2⟩, by simp only; omega, ⟨rfl, rfl, rfl, rfl, trivial⟩, ent.refl _⟩
  · have e40 : i = 40 := by omega
    refine WP.via (Γ' := [keepB kb false ls1 ws ms1 bs bw, slA 31 Enc.slice ls1.val V1, slA 3 (Enc.int .i64) ms1.val M1, rows 3 (Enc.int .i64) (G1 ++ [(far, List.replicate (n0 + i) (-9 - m))])]) ((pick_only [3, 3, 0, 0, 0] _).trans ((rows_snoc _).trans (pick_only [1, 1, 1, 0] _))) ?_
    refine WP.exit ?_; refine thn_exit ?_; refine thn_exit ?_; refine blk_hit ?_
    exact retN [] [] rfl rfl ⟨V1, M1, _, ls1, ms1, rfl, hV1, by omega⟩
end Go.Proofs.Ytifpejpeophlbaa
