/- All lists are marked, then grown, and looked at; walked. -/
import Derived.Test.YtengcfamhoppbaaFar
import Derived.Test.YtengcfamhoppbaaS24
namespace Go.Proofs.Ytengcfamhoppbaa
open Go.Sep
set_option linter.unusedSimpArgs false
set_option linter.unusedVariables false
attribute [local irreducible] blk slA mp mpF rows rowsBut many

/-- a slice that is the front of one of the rows -/
def PreL {A : Type} (G : List (SV × List A)) (v : SV) (ys : List A) : Prop := v.n = ys.length ∧ (ys = [] ∨ ∃ g xs, (g, xs) ∈ G ∧ v.a = g.a ∧ v.c = g.c ∧ ys <+: xs)
theorem PreL.mono {A : Type} {G G' : List (SV × List A)} {v : SV} {ys : List A} (h : ∀ q ∈ G, q ∈ G') (hp : PreL G v ys) : PreL G' v ys :=
  ⟨hp.1, hp.2.imp id fun ⟨g, xs, h1, h2⟩ => ⟨g, xs, h _ h1, h2⟩⟩
theorem PreL.top {A : Type} {G : List (SV × List A)} {v : SV} {ys : List A} (hn : v.n = ys.length) (h : (v, ys) ∈ G) : PreL G v ys :=
  ⟨hn, .inr ⟨v, ys, h, rfl, rfl, List.prefix_refl _⟩⟩
theorem PreL.grow {A : Type} {G G' : List (SV × List A)} {v f f' : SV} {xs ys zs : List A} (hp : PreL (G ++ [(f, xs)]) v zs) (hor : (G' = G ∧ f'.a = f.a ∧ f'.c = f.c) ∨ G' = G ++ [(f, xs)]) : PreL (G' ++ [(f', xs ++ ys)]) v zs := by
  rcases hor with ⟨rfl, ha, hc⟩ | rfl
  · refine ⟨hp.1, hp.2.imp id ?_⟩
    rintro ⟨g, us, h1, h2, h3, h4⟩
    rcases List.mem_append.1 h1 with h1 | h1
    · exact ⟨g, us, by simp [h1], h2, h3, h4⟩
    · simp at h1
      obtain ⟨rfl, rfl⟩ := h1
      exact ⟨f', us ++ ys, by simp, by rw [ha]; exact h2, by rw [hc]; exact h3, h4.trans (List.prefix_append _ _)⟩
  · exact hp.mono fun q hq => by simp at hq ⊢; rcases hq with h | h <;> simp [h]
theorem PreL.read {A : Type} {T : TypeId} {E : Enc A} {G : List (SV × List A)} {v : SV} {ys : List A} (hp : PreL G v ys) {h : Heap} (hs : rows T E G h) : SlR E.rd h v.val ys := by
  obtain ⟨hn, hp⟩ := hp
  rcases hp with rfl | ⟨g, xs, h1, h2, h3, h4⟩
  · simp at hn
    exact ⟨v.a, v.c, by simp [SV.val, hn], Nat.zero_le _, fun h => absurd rfl h⟩
  · obtain ⟨i, hi⟩ := List.getElem?_of_mem h1
    obtain ⟨a, cc, q1, q2, q3⟩ := sat_rows hs hi
    simp only [SV.val, Value.slice.injEq] at q1
    obtain ⟨r1, r2, r3⟩ := q1
    have hle := h4.length_le
    refine ⟨v.a, v.c, by simp [SV.val, hn], by omega, fun hne => ?_⟩
    obtain ⟨ad, r4, r5⟩ := q3 (fun e => by subst e; simp at h4; exact hne h4)
    refine ⟨ad, by rw [h2, r1, r4], fun j x hx => r5 j x ?_⟩
    obtain ⟨t, rfl⟩ := h4
    rw [List.getElem?_append_left (List.getElem?_eq_some_iff.1 hx).1]; exact hx

def mk (i : Nat) (n : Nat) : List Loc := (List.range n).map fun (j : Nat) => (⟨-1 - (i : Int), (j : Int)⟩ : Loc)
theorem mk_len (i n : Nat) : (mk i n).length = n := by simp [mk]
theorem mk_get {i n j : Nat} (h : j < n) : (mk i n)[j]? = some ⟨-1 - (i : Int), (j : Int)⟩ := by simp [mk, h]
def zL (i : Nat) : Loc := ⟨1000000 + (i : Int), 0⟩
theorem eqLoc (x : Loc) : eqInts (encLoc.cells x) (encLoc.cells x) = some true := by simp [encLoc, eqInts]

/-- the state of the growing -/
structure GS where
  k : Nat
  cur : SV
  H : List (SV × List Loc)
  gv : SV
  wv : SV
  V : List SV
  M : List Int
def BOk (p H : List (SV × List Loc)) (n : Nat) : Prop := ∀ k sv bs, k < n → p[k]? = some (sv, bs) → PreL H sv bs
/-- what is held of the grown ones -/
def VOk (p : List (SV × List Loc)) (H : List (SV × List Loc)) (V : List SV) (M : List Int) : Prop :=
  V.length = M.length ∧ ∀ (n : Nat) (v : SV) (m : Int), V[n]? = some v → M[n]? = some m → ∃ (i t : Nat) (sv : SV) (bs : List Loc), m = (i : Int) ∧ p[i]? = some (sv, bs) ∧ t ≤ 90 ∧ PreL H v (bs ++ List.replicate t (zL i))
theorem VOk.mono {p H H' : List (SV × List Loc)} {V : List SV} {M : List Int} (h : VOk p H V M) (hG : ∀ v ys, PreL H v ys → PreL H' v ys) : VOk p H' V M :=
  ⟨h.1, fun n v m hv hm => let ⟨i, t, sv, bs, h1, h2, h3, h4⟩ := h.2 n v m hv hm; ⟨i, t, sv, bs, h1, h2, h3, hG _ _ h4⟩⟩
theorem VOk.snoc {p H : List (SV × List Loc)} {V : List SV} {M : List Int} (h : VOk p H V M) {i t : Nat} {v sv : SV} {bs : List Loc} (hi : p[i]? = some (sv, bs)) (ht : t ≤ 90) (hp : PreL H v (bs ++ List.replicate t (zL i))) : VOk p H (V ++ [v]) (M ++ [(i : Int)]) := by
  refine ⟨by simp [h.1], fun n v' m hv hm => ?_⟩
  have hl := h.1
  by_cases e : n < V.length
  · rw [List.getElem?_append_left e] at hv
    rw [List.getElem?_append_left (by omega)] at hm
    exact h.2 n v' m hv hm
  · have h2 := (List.getElem?_eq_some_iff.1 hv).1
    simp at h2
    have h3 : n = V.length := by omega
    subst h3
    rw [List.getElem?_append_right (by omega)] at hv hm
    simp [hl] at hv hm
    subst hv; subst hm
    exact ⟨i, t, sv, bs, rfl, hi, ht, hp⟩

set_option maxHeartbeats 2000000 in
set_option maxRecDepth 100000 in
theorem grown_ok (hR : Heap) (lv : SV) (p0 : List (SV × List Loc)) (hpl : p0.length ≤ 1000) (hpx : ∀ sv xs, (sv, xs) ∈ p0 → xs.length ≤ 1000000) :
    Tri Try.prog hR 18 #[lv.val] [slA 25 Enc.slice lv.val (p0.map Prod.fst), rows 37 encLoc p0] fun u Γ' => u = .bool true := by
  refine Tri.of (args := [lv.val]) Try.func18 rfl Try.ntmps18 (by simp) ?_
  have hfm : (p0.map Prod.fst).length = p0.length := by simp
  refine WP.seq ?_
  refine WP.plain cf0 rfl ?_
  refine Run.mv rfl rfl rfl rfl ?_
  refine Run.nil ?_
  refine thn_next ?_
  -- marked
  refine WP.seqMeet (α := List (SV × List Loc)) (fun p => p.map Prod.fst = p0.map Prod.fst ∧ ∀ (k : Nat) sv xs, p[k]? = some (sv, xs) → xs.length ≤ 1000000 ∧ xs = mk k xs.length) (fun _ => [(0, lv.val)]) (fun p => [slA 25 Enc.slice lv.val (p0.map Prod.fst), rows 37 encLoc p]) ?_ ?_
  · refine WP.seq ?_
    refine WP.plain cf0 rfl ?_
    refine Run.mv rfl rfl rfl rfl ?_
    refine Run.nil ?_
    refine thn_next ?_
    refine WP.block ?_
    refine WP.loop (α := Nat × List (SV × List Loc)) (fun z => z.1 ≤ p0.length ∧ z.2.map Prod.fst = p0.map Prod.fst ∧ ∀ (k : Nat) sv xs, z.2[k]? = some (sv, xs) → xs.length ≤ 1000000 ∧ (k < z.1 → xs = mk k xs.length)) (fun z => [(0, lv.val), (3, .int .i64 (z.1 : Int))]) (fun z => [slA 25 Enc.slice lv.val (p0.map Prod.fst), rows 37 encLoc z.2]) (fun z => p0.length - z.1)
      (0, p0) ⟨Nat.zero_le _, rfl, fun k sv xs h => ⟨hpx sv xs (List.mem_of_getElem? h), fun h => by simp at h⟩⟩ ⟨rfl, rfl, trivial⟩ (ent.refl _) ?_
    rintro ⟨i, p⟩ ⟨hi, hf, hk⟩
    simp only at hi hf hk ⊢
    have hfl : p.length = p0.length := by have := congrArg List.length hf; simpa using this
    refine WP.seq ?_
    refine WP.seq ?_
    refine WP.plain cf0 rfl ?_
    refine Run.mv rfl rfl rfl rfl ?_
    refine Run.mv rfl rfl rfl rfl ?_
    refine Run.lenO 0 rfl rfl sl_40 rfl rfl rfl ?_
    refine Run.int2 rfl rfl rfl rfl rfl rfl ?_
    refine Run.nil ?_
    refine thn_next ?_
    refine WP.ite rfl (fun hlt => ?_) (fun hge => ?_)
    · refine WP.skip ?_; refine thn_next ?_
      have hip : i < p0.length := by omega
      obtain ⟨⟨sv, xs⟩, gp⟩ : ∃ x, p[i]? = some x := ⟨_, List.getElem?_eq_getElem (by omega)⟩
      have gpf : (p0.map Prod.fst)[i]? = some sv := by rw [← hf]; simp [gp]
      obtain ⟨hxl, _⟩ := hk i sv xs gp
      refine WP.seqMeet (α := List Loc) (fun ys => ys = mk i xs.length) (fun _ => [(0, lv.val), (3, .int .i64 (i : Int))]) (fun ys => [slA 25 Enc.slice lv.val (p0.map Prod.fst), slA 37 encLoc sv.val ys, rowsBut 37 encLoc i p]) ?_ ?_
      · refine WP.block ?_
        refine WP.via (ent.app (ent.refl [slA 25 Enc.slice lv.val (p0.map Prod.fst)]) (rows_out gp [])) ?_
        refine WP.seq ?_
        refine WP.plain cf0 rfl ?_
        refine Run.mv rfl rfl rfl rfl ?_
        refine Run.nil ?_
        refine thn_next ?_
        refine WP.block ?_
        refine WP.loop (α := Nat × List Loc) (fun z => z.1 ≤ xs.length ∧ z.2.length = xs.length ∧ ∀ k, k < z.1 → z.2[k]? = some ⟨-1 - (i : Int), (k : Int)⟩) (fun z => [(0, lv.val), (3, .int .i64 (i : Int)), (4, .int .i64 (z.1 : Int))])
          (fun z => [slA 25 Enc.slice lv.val (p0.map Prod.fst), slA 37 encLoc sv.val z.2, rowsBut 37 encLoc i p]) (fun z => xs.length - z.1) (0, xs) ⟨Nat.zero_le _, rfl, fun k h => by simp at h⟩ ⟨rfl, rfl, rfl, trivial⟩ (ent.refl _) ?_
        rintro ⟨j, ys⟩ ⟨hj, hyl, hyk⟩
        simp only at hj hyl hyk ⊢
        refine WP.seq ?_
        refine WP.seq ?_
        refine WP.plain cf0 rfl ?_
        refine Run.mv rfl rfl rfl rfl ?_
        refine Run.mv rfl rfl rfl rfl ?_
        refine Run.mv rfl rfl rfl rfl ?_
        refine Run.idxO 0 rfl rfl rfl sl_40 rfl rfl rfl rfl (by omega) (by omega) ?_
        refine Run.loadO 0 i 0 rfl rfl ag_25 rfl rfl rfl rfl gpf rfl ?_
        refine Run.lenO 1 rfl rfl sl_25 rfl rfl rfl ?_
        refine Run.int2 rfl rfl rfl rfl rfl rfl ?_
        refine Run.nil ?_
        refine thn_next ?_
        refine WP.ite rfl (fun hlt3 => ?_) (fun hge3 => ?_)
        · refine WP.skip ?_; refine thn_next ?_
          have hjy : j < ys.length := by omega
          obtain ⟨y, gy⟩ : ∃ x, ys[j]? = some x := ⟨_, List.getElem?_eq_getElem hjy⟩
          refine WP.seq ?_
          refine WP.block ?_
          refine WP.plain cf0 rfl ?_
          refine Run.mv rfl rfl rfl rfl ?_
          refine Run.mv rfl rfl rfl rfl ?_
          refine Run.idxO 0 rfl rfl rfl sl_40 rfl rfl rfl rfl (by omega) (by omega) ?_
          refine Run.loadO 0 i 0 rfl rfl ag_25 rfl rfl rfl rfl gpf rfl ?_
          refine Run.mv rfl rfl rfl rfl ?_
          refine Run.mv rfl rfl rfl rfl ?_
          refine Run.sub64 rfl rfl rfl rfl rfl (by first | omega | (simp <;> omega)) (by first | omega | (simp <;> omega)) ?_
          refine Run.mv rfl rfl rfl rfl ?_
          refine Run.build rfl bd_37 rfl rfl rfl rfl ?_
          refine Run.idxO 1 rfl rfl rfl sl_25 rfl rfl rfl rfl (by omega) (by omega) ?_
          refine Run.storeO 1 j 0 (y' := (⟨-1 - (i : Int), (j : Int)⟩ : Loc)) rfl rfl rfl rfl ag_37 rfl rfl rfl rfl gy rfl rfl ?_
          refine Run.nil ?_
          refine blk_norm ?_; refine thn_next ?_
          refine WP.plain cf0 rfl ?_
          refine Run.mv rfl rfl rfl rfl ?_
          refine Run.add64 rfl rfl rfl rfl rfl (by first | omega | (simp <;> omega)) (by first | omega | (simp <;> omega)) ?_
          refine Run.mv rfl rfl rfl rfl ?_
          refine Run.nil ?_
          refine thn_next ⟨(j + 1, ys.set j ⟨-1 - (i : Int), (j : Int)⟩), ⟨by simp only; omega, by simp [hyl], fun k hk => ?_⟩, by simp only; omega, ⟨rfl, rfl, rfl, trivial⟩, ent.refl _⟩
          by_cases e : k = j
          · subst e; rw [List.getElem?_set_self hjy]
          · rw [List.getElem?_set_ne (Ne.symm e)]; exact hyk k (by simp only at hk; omega)
        · refine WP.exit ?_; refine thn_exit ?_; refine thn_exit ?_; refine blk_hit ?_; refine blk_norm ?_
          refine thn_next ⟨ys, ?_, ⟨rfl, rfl, trivial⟩, ent.refl _⟩
          apply List.ext_getElem?
          intro k
          by_cases hk : k < xs.length
          · rw [hyk k (by omega), mk_get hk]
          · rw [List.getElem?_eq_none (by omega), List.getElem?_eq_none (by rw [mk_len]; omega)]
      rintro _ rfl
      refine WP.plain cf0 rfl ?_
      refine Run.mv rfl rfl rfl rfl ?_
      refine Run.add64 rfl rfl rfl rfl rfl (by first | omega | (simp <;> omega)) (by first | omega | (simp <;> omega)) ?_
      refine Run.mv rfl rfl rfl rfl ?_
      refine Run.nil ?_
      refine thn_next ⟨(i + 1, p.set i (sv, mk i xs.length)), ⟨hip, ?_, fun k sv' xs' h => ?_⟩, by simp only; omega, ⟨rfl, rfl, trivial⟩, ?_⟩
      · simp only [List.map_set, hf]
        apply List.ext_getElem?
        intro k
        by_cases e : i = k
        · subst e; rw [List.getElem?_set_self (by omega), gpf]
        · rw [List.getElem?_set_ne e]
      · by_cases e : i = k
        · subst e
          rw [List.getElem?_set_self (by omega)] at h; cases h
          exact ⟨by rw [mk_len]; exact hxl, fun _ => by rw [mk_len]⟩
        · rw [List.getElem?_set_ne e] at h
          obtain ⟨q1, q2⟩ := hk k sv' xs' h
          exact ⟨q1, fun hk2 => q2 (by simp only at hk2; omega)⟩
      · exact (pick_only [1, 1, 0] _).trans ((rows_in (by omega) _).trans (pick_only [1, 0] _))
    · refine WP.exit ?_; refine thn_exit ?_; refine thn_exit ?_; refine blk_hit ?_
      refine thn_next ⟨p, ⟨hf, fun k sv xs h => ?_⟩, ⟨rfl, trivial⟩, ent.refl _⟩
      obtain ⟨q1, q2⟩ := hk k sv xs h
      exact ⟨q1, q2 (by have := (List.getElem?_eq_some_iff.1 h).1; omega)⟩
  rintro p ⟨hf, hk⟩
  have hfl : p.length = p0.length := by have := congrArg List.length hf; simpa using this
  refine WP.know (rows_know 1 rfl) fun hkn => ?_
  refine WP.seq ?_
  refine WP.plain cf0 rfl ?_
  refine Run.mv rfl rfl rfl rfl ?_
  refine Run.nil ?_
  refine thn_next ?_
  refine WP.seq ?_
  refine WP.plain cf0 rfl ?_
  refine Run.mv rfl rfl rfl rfl ?_
  refine Run.nil ?_
  refine thn_next ?_
  -- grown
  refine WP.seqMeet (α := List (SV × List Loc) × SV × SV × List SV × List Int) (fun z => BOk p z.1 p0.length ∧ VOk p z.1 z.2.2.2.1 z.2.2.2.2 ∧ z.2.2.2.1.length ≤ 90 * p0.length) (fun z => [(0, lv.val), (5, z.2.1.val), (6, z.2.2.1.val)])
    (fun z => [slA 25 Enc.slice lv.val (p0.map Prod.fst), rows 37 encLoc z.1, slA 25 Enc.slice z.2.1.val z.2.2.2.1, slA 3 (Enc.int .i64) z.2.2.1.val z.2.2.2.2]) ?_ ?_
  · refine WP.seq ?_
    refine WP.plain cf0 rfl ?_
    refine Run.mv rfl rfl rfl rfl ?_
    refine Run.nil ?_
    refine thn_next ?_
    refine WP.block ?_
    refine WP.loop (α := Nat × List (SV × List Loc) × SV × SV × List SV × List Int) (fun z => z.1 ≤ p0.length ∧ BOk p z.2.1 z.1 ∧ VOk p z.2.1 z.2.2.2.2.1 z.2.2.2.2.2 ∧ z.2.2.2.2.1.length ≤ 90 * z.1) (fun z => [(0, lv.val), (5, z.2.2.1.val), (6, z.2.2.2.1.val), (7, .int .i64 (z.1 : Int))])
      (fun z => [slA 25 Enc.slice lv.val (p0.map Prod.fst), rows 37 encLoc (p.drop z.1), rows 37 encLoc z.2.1, slA 25 Enc.slice z.2.2.1.val z.2.2.2.2.1, slA 3 (Enc.int .i64) z.2.2.2.1.val z.2.2.2.2.2]) (fun z => p0.length - z.1)
      (0, [], ⟨none, 0, 0⟩, ⟨none, 0, 0⟩, [], []) ⟨Nat.zero_le _, fun k sv bs h => by simp at h, ⟨rfl, fun n v m h => by simp at h⟩, by simp⟩ ⟨rfl, rfl, rfl, rfl, trivial⟩
      ((slA_nil 25 Enc.slice _).trans ((slA_nil 3 (Enc.int .i64) _).trans ((rows_new _).trans (pick_only [1, 1, 0, 0, 0] _)))) ?_
    rintro ⟨i, H, gv, wv, V, M⟩ ⟨hi, hB, hV, hVl⟩
    simp only at hi hB hV hVl ⊢
    refine WP.seq ?_
    refine WP.seq ?_
    refine WP.plain cf0 rfl ?_
    refine Run.mv rfl rfl rfl rfl ?_
    refine Run.mv rfl rfl rfl rfl ?_
    refine Run.lenO 0 rfl rfl sl_40 rfl rfl rfl ?_
    refine Run.int2 rfl rfl rfl rfl rfl rfl ?_
    refine Run.nil ?_
    refine thn_next ?_
    refine WP.ite rfl (fun hlt => ?_) (fun hge => ?_)
    · refine WP.skip ?_; refine thn_next ?_
      have hip : i < p0.length := by omega
      obtain ⟨⟨sv, bs⟩, gp⟩ : ∃ x, p[i]? = some x := ⟨_, List.getElem?_eq_getElem (by omega)⟩
      have gpf : (p0.map Prod.fst)[i]? = some sv := by rw [← hf]; simp [gp]
      obtain ⟨hbl, _⟩ := hk i sv bs gp
      have hsn := hkn i sv bs gp
      have hdr : p.drop i = (sv, bs) :: p.drop (i + 1) := by rw [List.drop_eq_getElem_cons (by omega)]; congr 1; rw [List.getElem?_eq_getElem (by omega)] at gp; exact Option.some.inj gp
      refine WP.seqMeet (α := GS) (fun z => BOk p z.H (i + 1) ∧ VOk p z.H z.V z.M ∧ z.V.length ≤ 90 * (i + 1)) (fun z => [(0, lv.val), (5, z.gv.val), (6, z.wv.val), (7, .int .i64 (i : Int))])
        (fun z => [slA 25 Enc.slice lv.val (p0.map Prod.fst), rows 37 encLoc (p.drop (i + 1)), rows 37 encLoc z.H, slA 25 Enc.slice z.gv.val z.V, slA 3 (Enc.int .i64) z.wv.val z.M]) ?_ ?_
      · refine WP.block ?_
        refine WP.seq ?_
        refine WP.plain cf0 rfl ?_
        refine Run.mv rfl rfl rfl rfl ?_
        refine Run.mv rfl rfl rfl rfl ?_
        refine Run.idxO 0 rfl rfl rfl sl_40 rfl rfl rfl rfl (by omega) (by omega) ?_
        refine Run.loadO 0 i 0 rfl rfl ag_25 rfl rfl rfl rfl gpf rfl ?_
        refine Run.mv rfl rfl rfl rfl ?_
        refine Run.nil ?_
        refine thn_next ?_
        refine WP.seq ?_
        refine WP.plain cf0 rfl ?_
        refine Run.mv rfl rfl rfl rfl ?_
        refine Run.nil ?_
        refine thn_next ?_
        refine WP.block ?_
        refine WP.loop (α := GS) (fun z => z.k ≤ 90 ∧ z.cur.n = bs.length + z.k ∧ BOk p (z.H ++ [(z.cur, bs ++ List.replicate z.k (zL i))]) (i + 1) ∧ VOk p (z.H ++ [(z.cur, bs ++ List.replicate z.k (zL i))]) z.V z.M ∧ z.V.length ≤ 90 * i + z.k)
          (fun z => [(0, lv.val), (5, z.gv.val), (6, z.wv.val), (7, .int .i64 (i : Int)), (8, z.cur.val), (9, .int .i64 ((z.k : Int) + 1))])
          (fun z => [slA 25 Enc.slice lv.val (p0.map Prod.fst), rows 37 encLoc (p.drop (i + 1)), rows 37 encLoc z.H, slA 25 Enc.slice z.gv.val z.V, slA 3 (Enc.int .i64) z.wv.val z.M, slA 37 encLoc z.cur.val (bs ++ List.replicate z.k (zL i))]) (fun z => 90 - z.k)
          ⟨0, sv, H, gv, wv, V, M⟩ ⟨by simp, by simp [hsn], ?_, hV.mono fun v ys hp => hp.mono fun q hq => by simp [hq], by simp only; omega⟩ ⟨rfl, rfl, rfl, rfl, rfl, rfl, trivial⟩ ?_ ?_
        · intro k sv' bs' h1 h2
          simp only [List.replicate_zero, List.append_nil]
          by_cases e : k = i
          · subst e; rw [gp] at h2; cases h2; exact PreL.top hsn (by simp)
          · exact (hB k sv' bs' (by omega) h2).mono fun q hq => by simp [hq]
        · simp only [List.replicate_zero, List.append_nil]
          rw [hdr]
          exact (ent.app (ent.refl [slA 25 Enc.slice lv.val (p0.map Prod.fst)]) ((rows_first (T := 37) (E := encLoc) (sv := sv) (xs := bs) (p.drop (i + 1)) [rows 37 encLoc H, slA 25 Enc.slice gv.val V, slA 3 (Enc.int .i64) wv.val M]))).trans (pick_only [0, 1, 1, 1, 1, 0] _)
        rintro ⟨k, cur, G, gv1, wv1, V1, M1⟩ ⟨hk9, hcn, hB1, hV1, hVl1⟩
        simp only at hk9 hcn hB1 hV1 hVl1 ⊢
        have hrep : (bs ++ List.replicate k (zL i)).length = bs.length + k := by simp
        have hMl1 := hV1.1
        refine WP.seq ?_
        refine WP.seq ?_
        refine WP.plain cf0 rfl ?_
        refine Run.mv rfl rfl rfl rfl ?_
        refine Run.int2 rfl rfl rfl rfl rfl rfl ?_
        refine Run.nil ?_
        refine thn_next ?_
        refine WP.ite rfl (fun hlt2 => ?_) (fun hge2 => ?_)
        · refine WP.skip ?_; refine thn_next ?_
          refine WP.seqMeet (α := GS) (fun z => z.k = k + 1 ∧ z.cur.n = bs.length + z.k ∧ BOk p (z.H ++ [(z.cur, bs ++ List.replicate z.k (zL i))]) (i + 1) ∧ VOk p (z.H ++ [(z.cur, bs ++ List.replicate z.k (zL i))]) z.V z.M ∧ z.V.length ≤ 90 * i + z.k)
            (fun z => [(0, lv.val), (5, z.gv.val), (6, z.wv.val), (7, .int .i64 (i : Int)), (8, z.cur.val), (9, .int .i64 ((k : Int) + 1))])
            (fun z => [slA 25 Enc.slice lv.val (p0.map Prod.fst), rows 37 encLoc (p.drop (i + 1)), rows 37 encLoc z.H, slA 25 Enc.slice z.gv.val z.V, slA 3 (Enc.int .i64) z.wv.val z.M, slA 37 encLoc z.cur.val (bs ++ List.replicate z.k (zL i))]) ?_ ?_
          · refine WP.block ?_
            refine WP.seq ?_
            refine WP.plain cf0 rfl ?_
            refine Run.mv rfl rfl rfl rfl ?_
            refine Run.mv rfl rfl rfl rfl ?_
            refine Run.add64 rfl rfl rfl rfl rfl (by first | omega | (simp <;> omega)) (by first | omega | (simp <;> omega)) ?_
            refine Run.build rfl bd_37 rfl rfl rfl rfl ?_
            refine Run.buildSlice (E := encLoc) rfl sl_25 zr_37 ([zL i]) rfl rfl rfl (by decide) rfl rfl ?_
            intro b57
            refine Run.appendG 5 2 rfl rfl rfl rfl rfl rfl sl_25 zr_37 rfl rfl (by decide) (src_own 6 rfl) (by simp <;> omega) (by simp <;> omega) ?_; intro sv58 G2 hv58 hG2
            refine Run.mv rfl rfl rfl rfl ?_
            refine Run.nil ?_
            refine thn_next ?_
            have hre : (bs ++ List.replicate k (zL i)) ++ [zL i] = bs ++ List.replicate (k + 1) (zL i) := by rw [List.append_assoc, List.replicate_succ']
            have hg : ∀ v ys, PreL (G ++ [(cur, bs ++ List.replicate k (zL i))]) v ys → PreL (G2 ++ [(sv58, bs ++ List.replicate (k + 1) (zL i))]) v ys := fun v ys hp => by rw [← hre]; exact hp.grow hG2
            have hV2 := hV1.mono hg
            have hB2 : BOk p (G2 ++ [(sv58, bs ++ List.replicate (k + 1) (zL i))]) (i + 1) := fun a b c d e => hg _ _ (hB1 a b c d e)
            have hfn2 : sv58.n = bs.length + (k + 1) := by rw [hv58]; simp; omega
            refine WP.weaken (ρ' := [(0, lv.val), (5, gv1.val), (6, wv1.val), (7, .int .i64 (i : Int)), (8, sv58.val), (9, .int .i64 ((k : Int) + 1))]) (Γ' := [slA 25 Enc.slice lv.val (p0.map Prod.fst), rows 37 encLoc (p.drop (i + 1)), rows 37 encLoc G2, slA 25 Enc.slice gv1.val V1, slA 3 (Enc.int .i64) wv1.val M1, slA 37 encLoc sv58.val (bs ++ List.replicate (k + 1) (zL i))])
              ⟨rfl, rfl, rfl, rfl, rfl, rfl, trivial⟩ (by rw [← hre]; exact pick_only [0, 0, 0, 0, 0, 0] _) ?_
            refine WP.seqCut [(0, lv.val), (5, gv1.val), (6, wv1.val), (7, .int .i64 (i : Int)), (8, sv58.val), (9, .int .i64 ((k : Int) + 1)), (64, .bool (decide ((k : Int) + 1 ≤ 16 ∨ (k : Int) + 1 = 90)))] [slA 25 Enc.slice lv.val (p0.map Prod.fst), rows 37 encLoc (p.drop (i + 1)), rows 37 encLoc G2, slA 25 Enc.slice gv1.val V1, slA 3 (Enc.int .i64) wv1.val M1, slA 37 encLoc sv58.val (bs ++ List.replicate (k + 1) (zL i))] ?_ ?_
            · refine WP.plain cf0 rfl ?_
              all_goals (first | refine Run.mv rfl rfl rfl rfl ?_)
              all_goals (first | refine Run.int2 rfl rfl rfl rfl rfl rfl ?_)
              all_goals (first | refine Run.tt (by first | assumption | omega) ?_ | refine Run.ff (by first | assumption | omega) ?_ | refine Run.split (fun hc60 => ?_) (fun hc60 => ?_) | refine Run.splitB (fun hc60 => ?_) (fun hc60 => ?_) | skip)
              all_goals (first | refine Run.mv rfl rfl rfl rfl ?_)
              all_goals (first | refine Run.not rfl rfl ?_ | refine Run.mv rfl rfl rfl rfl ?_)
              all_goals (first | refine Run.not rfl rfl ?_ | refine Run.int2 rfl rfl rfl rfl rfl rfl ?_)
              all_goals (first | refine Run.pick rfl rfl rfl rfl rfl ?_)
              all_goals (refine Run.nil ?_)
              all_goals refine thn_next ⟨⟨rfl, rfl, rfl, rfl, rfl, rfl, ?_, trivial⟩, ent.refl _⟩
              all_goals simp [Env.get, *]
            refine WP.ite rfl (fun hc => ?_) (fun hc => ?_)
            · refine WP.seq ?_
              refine WP.plain cf0 rfl ?_
              refine Run.mv rfl rfl rfl rfl ?_
              refine Run.mv rfl rfl rfl rfl ?_
              refine Run.buildSlice (E := Enc.slice) rfl sl_40 zr_25 ([sv58]) rfl rfl rfl (by decide) rfl rfl ?_
              intro b67
              refine Run.append 3 rfl rfl rfl rfl rfl rfl sl_40 zr_25 rfl (src_own 6 rfl) (by first | omega | (simp <;> omega)) (by first | omega | (simp <;> omega)) ?_
              intro sv68 hv68
              refine Run.mv rfl rfl rfl rfl ?_
              refine Run.nil ?_
              refine thn_next ?_
              refine WP.plain cf0 rfl ?_
              refine Run.mv rfl rfl rfl rfl ?_
              refine Run.mv rfl rfl rfl rfl ?_
              refine Run.buildSlice (E := (Enc.int .i64)) rfl sl_47 zr_3 ([(i : Int)]) rfl rfl rfl (by decide) rfl rfl ?_
              intro b71
              refine Run.append 4 rfl rfl rfl rfl rfl rfl sl_47 zr_3 rfl (src_own 7 rfl) (by first | omega | (simp <;> omega)) (by first | omega | (simp <;> omega)) ?_
              intro sv72 hv72
              refine Run.mv rfl rfl rfl rfl ?_
              refine Run.nil ?_
              refine blk_norm ?_
              refine thn_next ⟨⟨k + 1, sv58, G2, sv68, sv72, V1 ++ [sv58], M1 ++ [(i : Int)]⟩, ⟨rfl, hfn2, hB2, hV2.snoc (t := k + 1) gp (by omega) (PreL.top (by simp [hfn2]) (by simp)), by simp; omega⟩, ⟨rfl, rfl, rfl, rfl, rfl, rfl, trivial⟩, pick_only [0, 0, 0, 0, 0, 0] _⟩
            · refine WP.skip ?_; refine blk_norm ?_
              refine thn_next ⟨⟨k + 1, sv58, G2, gv1, wv1, V1, M1⟩, ⟨rfl, hfn2, hB2, hV2, by simp only; omega⟩, ⟨rfl, rfl, rfl, rfl, rfl, rfl, trivial⟩, ent.refl _⟩
          rintro ⟨k2, cur2, G2, gv2, wv2, V2, M2⟩ ⟨hk2, hcn2, hB2, hV2, hVl2⟩
          simp only at hk2 hcn2 hB2 hV2 hVl2 ⊢
          subst hk2
          refine WP.plain cf0 rfl ?_
          refine Run.mv rfl rfl rfl rfl ?_
          refine Run.add64 rfl rfl rfl rfl rfl (by first | omega | (simp <;> omega)) (by first | omega | (simp <;> omega)) ?_
          refine Run.mv rfl rfl rfl rfl ?_
          refine Run.nil ?_
          refine thn_next ⟨⟨k + 1, cur2, G2, gv2, wv2, V2, M2⟩, ⟨by simp only; omega, hcn2, hB2, hV2, hVl2⟩, by simp only; omega, ⟨rfl, rfl, rfl, rfl, rfl, by simp [Env.get], trivial⟩, ent.refl _⟩
        · refine WP.via (Γ' := [slA 25 Enc.slice lv.val (p0.map Prod.fst), rows 37 encLoc (p.drop (i + 1)), rows 37 encLoc (G ++ [(cur, bs ++ List.replicate k (zL i))]), slA 25 Enc.slice gv1.val V1, slA 3 (Enc.int .i64) wv1.val M1]) ((pick_only [2, 4, 0, 0, 0, 0] _).trans ((rows_snoc _).trans (pick_only [1, 1, 0, 0, 0] _))) ?_
          refine WP.exit ?_; refine thn_exit ?_; refine thn_exit ?_; refine blk_hit ?_; refine blk_norm ?_
          exact thn_next ⟨⟨0, cur, _, gv1, wv1, V1, M1⟩, ⟨hB1, hV1, by simp only; omega⟩, ⟨rfl, rfl, rfl, rfl, trivial⟩, ent.refl _⟩
      rintro ⟨k2, cur2, G2, gv2, wv2, V2, M2⟩ ⟨hB2, hV2, hVl2⟩
      simp only at hB2 hV2 hVl2 ⊢
      refine WP.plain cf0 rfl ?_
      refine Run.mv rfl rfl rfl rfl ?_
      refine Run.add64 rfl rfl rfl rfl rfl (by first | omega | (simp <;> omega)) (by first | omega | (simp <;> omega)) ?_
      refine Run.mv rfl rfl rfl rfl ?_
      refine Run.nil ?_
      refine thn_next ⟨(i + 1, G2, gv2, wv2, V2, M2), ⟨hip, hB2, hV2, hVl2⟩, by simp only; omega, ⟨rfl, rfl, rfl, rfl, trivial⟩, ent.refl _⟩
    · refine WP.exit ?_; refine thn_exit ?_; refine thn_exit ?_; refine blk_hit ?_
      refine thn_next ⟨(H, gv, wv, V, M), ⟨fun k sv bs h h2 => hB k sv bs (by omega) h2, hV, by simp only; omega⟩, ⟨rfl, rfl, rfl, trivial⟩, pick_only [0, 1, 1, 1] _⟩
  rintro ⟨H, gv, wv, V, M⟩ ⟨hB, hV, hVl⟩
  simp only at hB hV hVl ⊢
  -- looked at
  refine WP.seqMeet (α := Unit) (fun _ => True) (fun _ => []) (fun _ => []) ?_ ?_
  · refine WP.via (Γ' := [] ++ [slA 25 Enc.slice lv.val (p0.map Prod.fst), rows 37 encLoc H, slA 25 Enc.slice gv.val V, slA 3 (Enc.int .i64) wv.val M]) (ent.refl _) ?_
    refine WP.freeze (Γ := []) [slA 25 Enc.slice lv.val (p0.map Prod.fst), rows 37 encLoc H, slA 25 Enc.slice gv.val V, slA 3 (Enc.int .i64) wv.val M] fun g hg hd => ?_
    have rLV : SlR Enc.slice.rd (un hR g) lv.val (p0.map Prod.fst) := lent_at 0 rfl hg hd
    have rV : SlR Enc.slice.rd (un hR g) gv.val V := lent_at 2 rfl hg hd
    have rM : SlR (Enc.int .i64).rd (un hR g) wv.val M := lent_at 3 rfl hg hd
    have rG : ∀ v ys, PreL H v ys → SlR encLoc.rd (un hR g) v.val ys := fun v ys hp => by
      obtain ⟨h1, q1, q2⟩ := lent_sub 1 rfl hg hd
      exact (hp.read q1).mono q2
    generalize un hR g = hS at rLV rV rM rG
    have hMl := hV.1
    refine WP.seq ?_
    refine WP.plain cf0 rfl ?_
    refine Run.mv rfl rfl rfl rfl ?_
    refine Run.nil ?_
    refine thn_next ?_
    refine WP.block ?_
    refine WP.loop (α := Nat) (fun n => n ≤ V.length) (fun n => [(0, lv.val), (5, gv.val), (6, wv.val), (10, .int .i64 (n : Int))]) (fun _ => []) (fun n => V.length - n) 0 (Nat.zero_le _) ⟨rfl, rfl, rfl, rfl, trivial⟩ (ent.refl _) ?_
    intro n hn
    refine WP.seq ?_
    refine WP.seq ?_
    refine WP.plain cf0 rfl ?_
    refine Run.mv rfl rfl rfl rfl ?_
    refine Run.mv rfl rfl rfl rfl ?_
    refine Run.lenR rfl rfl sl_40 rfl rfl rV ?_
    refine Run.int2 rfl rfl rfl rfl rfl rfl ?_
    refine Run.nil ?_
    refine thn_next ?_
    refine WP.ite rfl (fun hlt => ?_) (fun hge => ?_)
    · refine WP.skip ?_; refine thn_next ?_
      have hnV : n < V.length := by omega
      obtain ⟨v, gv'⟩ : ∃ x, V[(n : Int).toNat]? = some x := ⟨_, List.getElem?_eq_getElem (by omega)⟩
      obtain ⟨m, gm⟩ : ∃ x, M[(n : Int).toNat]? = some x := ⟨_, List.getElem?_eq_getElem (by omega)⟩
      obtain ⟨i, t, sv, bs, rfl, gp, ht, hp⟩ := hV.2 n v m gv' gm
      have rv := rG _ _ hp
      have hip : i < p0.length := by have := (List.getElem?_eq_some_iff.1 gp).1; omega
      have gpf : (p0.map Prod.fst)[(i : Int).toNat]? = some sv := by rw [← hf]; simp [gp]
      have rB := rG _ _ (hB i sv bs hip gp)
      obtain ⟨hbl, hbe⟩ := hk i sv bs gp
      have hsn := hkn i sv bs gp
      have hvl : (bs ++ List.replicate t (zL i)).length = bs.length + t := by simp
      refine WP.seqMeet (α := Unit) (fun _ => True) (fun _ => [(0, lv.val), (5, gv.val), (6, wv.val), (10, .int .i64 (n : Int))]) (fun _ => []) ?_ ?_
      · refine WP.block ?_
        refine WP.seq ?_
        refine WP.plain cf0 rfl ?_
        refine Run.mv rfl rfl rfl rfl ?_
        refine Run.mv rfl rfl rfl rfl ?_
        refine Run.idxR rfl rfl rfl sl_47 rfl rfl rM (by rfl) (by omega) (by omega) ?_
        refine Run.loadR rfl rfl ag_3 rfl rfl (SlR.cell0 rM gm rfl) ?_
        refine Run.mv rfl rfl rfl rfl ?_
        refine Run.nil ?_
        refine thn_next ?_
        refine WP.seq ?_
        refine WP.plain cf0 rfl ?_
        refine Run.mv rfl rfl rfl rfl ?_
        refine Run.nil ?_
        refine thn_next ?_
        refine WP.block ?_
        refine WP.loop (α := Nat) (fun j => j ≤ bs.length + t) (fun j => [(0, lv.val), (5, gv.val), (6, wv.val), (10, .int .i64 (n : Int)), (11, .int .i64 (i : Int)), (12, .int .i64 (j : Int))]) (fun _ => []) (fun j => bs.length + t - j) 0 (Nat.zero_le _) ⟨rfl, rfl, rfl, rfl, rfl, rfl, trivial⟩ (ent.refl _) ?_
        intro j hj
        refine WP.seq ?_
        refine WP.seq ?_
        refine WP.plain cf0 rfl ?_
        refine Run.mv rfl rfl rfl rfl ?_
        refine Run.mv rfl rfl rfl rfl ?_
        refine Run.mv rfl rfl rfl rfl ?_
        refine Run.idxR rfl rfl rfl sl_40 rfl rfl rV (by rfl) (by omega) (by omega) ?_
        refine Run.loadR rfl rfl ag_25 rfl rfl (SlR.cell0 rV gv' rfl) ?_
        refine Run.lenR rfl rfl sl_25 rfl rfl rv ?_
        refine Run.int2 rfl rfl rfl rfl rfl rfl ?_
        refine Run.nil ?_
        refine thn_next ?_
        refine WP.ite rfl (fun hlt2 => ?_) (fun hge2 => ?_)
        · refine WP.skip ?_; refine thn_next ?_
          have hjt : j < bs.length + t := by omega
          by_cases hjb : j < bs.length
          · have gb : bs[(j : Int).toNat]? = some (⟨-1 - (i : Int), (j : Int)⟩ : Loc) := by rw [hbe]; exact mk_get hjb
            have gw : (bs ++ List.replicate t (zL i))[(j : Int).toNat]? = some (⟨-1 - (i : Int), (j : Int)⟩ : Loc) := by rw [List.getElem?_append_left (by simpa using hjb)]; exact gb
            refine WP.seq ?_
            refine WP.block ?_
            refine WP.seq ?_
            refine WP.plain cf0 rfl ?_
            refine Run.mv rfl rfl rfl rfl ?_
            refine Run.add64 rfl rfl rfl rfl rfl (by first | omega | (simp <;> omega)) (by first | omega | (simp <;> omega)) ?_
            refine Run.build rfl bd_37 rfl rfl rfl rfl ?_
            refine Run.alloc rfl zr_37 rfl rfl rfl ?_
            intro b13
            refine Run.storeB 0 rfl rfl rfl rfl ag_37 rfl rfl rfl rfl rfl ?_
            refine Run.nil ?_
            refine thn_next ?_
            refine WP.seqMeet (α := Unit) (fun _ => True) (fun _ => [(0, lv.val), (5, gv.val), (6, wv.val), (10, .int .i64 (n : Int)), (11, .int .i64 (i : Int)), (12, .int .i64 (j : Int)), (13, .pointer (some ⟨b13, 0, none⟩))]) (fun _ => [blk b13 (encLoc.cells (⟨-1 - (i : Int), (j : Int)⟩ : Loc)) 37]) ?_ ?_
            · refine WP.seq ?_
              refine WP.plain cf0 rfl ?_
              refine Run.mv rfl rfl rfl rfl ?_
              refine Run.mv rfl rfl rfl rfl ?_
              refine Run.mv rfl rfl rfl rfl ?_
              refine Run.idxR rfl rfl rfl sl_40 rfl rfl rLV (by rfl) (by omega) (by omega) ?_
              refine Run.loadR rfl rfl ag_25 rfl rfl (SlR.cell0 rLV gpf rfl) ?_
              refine Run.lenR rfl rfl sl_25 rfl rfl rB ?_
              refine Run.int2 rfl rfl rfl rfl rfl rfl ?_
              refine Run.nil ?_
              refine thn_next ?_
              refine WP.ite rfl (fun _ => ?_) (fun h => absurd h (by simp; omega))
              refine WP.plain cf0 rfl ?_
              refine Run.mv rfl rfl rfl rfl ?_
              refine Run.sub64 rfl rfl rfl rfl rfl (by first | omega | (simp <;> omega)) (by first | omega | (simp <;> omega)) ?_
              refine Run.mv rfl rfl rfl rfl ?_
              refine Run.build rfl bd_37 rfl rfl rfl rfl ?_
              refine Run.storeB 0 rfl rfl rfl rfl ag_37 rfl rfl rfl rfl rfl ?_
              refine Run.nil ?_
              refine thn_next ⟨(), trivial, ⟨rfl, rfl, rfl, rfl, rfl, rfl, rfl, trivial⟩, pick_only [0] _⟩
            rintro _ _
            refine WP.seq ?_
            refine WP.drawn0 cf0 mixed rfl (by kernel_rfl) ?_
            refine Run.mv rfl rfl rfl rfl ?_
            refine Run.mv rfl rfl rfl rfl ?_
            refine Run.idxR rfl rfl rfl sl_40 rfl rfl rV (by rfl) (by omega) (by omega) ?_
            refine Run.loadR rfl rfl ag_25 rfl rfl (SlR.cell0 rV gv' rfl) ?_
            refine Run.mv rfl rfl rfl rfl ?_
            refine Run.idxR rfl rfl rfl sl_25 rfl rfl rv (by rfl) (by omega) (by omega) ?_
            refine Run.loadRagg rfl rfl ag_37 rfl rfl (SlR.row rv gw) (by rfl) ?_
            refine Run.loadBagg 0 rfl rfl ag_37 rfl rfl rfl rfl rfl ?_
            refine Run.neS (b := true) rfl rfl rfl is_37 nf_37 (eqLoc _) rfl rfl rfl ?_
            refine Run.mv rfl rfl rfl rfl ?_
            refine Run.mv rfl rfl rfl rfl ?_
            refine Run.mv rfl rfl rfl rfl ?_
            refine Run.mv rfl rfl rfl rfl ?_
            refine Run.idxR rfl rfl rfl sl_40 rfl rfl rLV (by rfl) (by omega) (by omega) ?_
            refine Run.loadR rfl rfl ag_25 rfl rfl (SlR.cell0 rLV gpf rfl) ?_
            refine Run.lenR rfl rfl sl_25 rfl rfl rB ?_
            refine Run.int2 rfl rfl rfl rfl rfl rfl ?_; refine Run.tt (by omega) ?_
            refine Run.mv rfl rfl rfl rfl ?_
            refine Run.mv rfl rfl rfl rfl ?_
            refine Run.mv rfl rfl rfl rfl ?_
            refine Run.idxR rfl rfl rfl sl_40 rfl rfl rLV (by rfl) (by omega) (by omega) ?_
            refine Run.loadR rfl rfl ag_25 rfl rfl (SlR.cell0 rLV gpf rfl) ?_
            refine Run.mv rfl rfl rfl rfl ?_
            refine Run.idxR rfl rfl rfl sl_25 rfl rfl rB (by rfl) (by omega) (by omega) ?_
            refine Run.loadRagg rfl rfl ag_37 rfl rfl (SlR.row rB gb) (by rfl) ?_
            refine Run.loadBagg 0 rfl rfl ag_37 rfl rfl rfl rfl rfl ?_
            refine Run.neS (b := true) rfl rfl rfl is_37 nf_37 (eqLoc _) rfl rfl rfl ?_
            refine Run.pick rfl rfl rfl rfl rfl ?_
            refine Run.pick rfl rfl rfl rfl rfl ?_
            refine Run.nil ?_
            refine thn_next ?_
            refine WP.cond (t := false) rfl (fun h => by cases h) (fun _ => ?_)
            refine WP.skip ?_; refine blk_norm ?_; refine thn_next ?_
            refine WP.plain cf0 rfl ?_
            refine Run.mv rfl rfl rfl rfl ?_
            refine Run.add64 rfl rfl rfl rfl rfl (by first | omega | (simp <;> omega)) (by first | omega | (simp <;> omega)) ?_
            refine Run.mv rfl rfl rfl rfl ?_
            refine Run.nil ?_
            refine thn_next ⟨j + 1, by omega, by omega, ⟨rfl, rfl, rfl, rfl, rfl, rfl, trivial⟩, pick_only [] _⟩
          · have gw : (bs ++ List.replicate t (zL i))[(j : Int).toNat]? = some (zL i) := by
              show (bs ++ List.replicate t (zL i))[j]? = _
              rw [List.getElem?_append_right (by omega), List.getElem?_replicate, if_pos (by omega)]
            refine WP.seq ?_
            refine WP.block ?_
            refine WP.seq ?_
            refine WP.plain cf0 rfl ?_
            refine Run.mv rfl rfl rfl rfl ?_
            refine Run.add64 rfl rfl rfl rfl rfl (by first | omega | (simp <;> omega)) (by first | omega | (simp <;> omega)) ?_
            refine Run.build rfl bd_37 rfl rfl rfl rfl ?_
            refine Run.alloc rfl zr_37 rfl rfl rfl ?_
            intro b13
            refine Run.storeB 0 rfl rfl rfl rfl ag_37 rfl rfl rfl rfl rfl ?_
            refine Run.nil ?_
            refine thn_next ?_
            refine WP.seqMeet (α := Unit) (fun _ => True) (fun _ => [(0, lv.val), (5, gv.val), (6, wv.val), (10, .int .i64 (n : Int)), (11, .int .i64 (i : Int)), (12, .int .i64 (j : Int)), (13, .pointer (some ⟨b13, 0, none⟩))]) (fun _ => [blk b13 (encLoc.cells (zL i)) 37]) ?_ ?_
            · refine WP.seq ?_
              refine WP.plain cf0 rfl ?_
              refine Run.mv rfl rfl rfl rfl ?_
              refine Run.mv rfl rfl rfl rfl ?_
              refine Run.mv rfl rfl rfl rfl ?_
              refine Run.idxR rfl rfl rfl sl_40 rfl rfl rLV (by rfl) (by omega) (by omega) ?_
              refine Run.loadR rfl rfl ag_25 rfl rfl (SlR.cell0 rLV gpf rfl) ?_
              refine Run.lenR rfl rfl sl_25 rfl rfl rB ?_
              refine Run.int2 rfl rfl rfl rfl rfl rfl ?_
              refine Run.nil ?_
              refine thn_next ?_
              refine WP.ite rfl (fun h => absurd h (by simp; omega)) (fun _ => ?_)
              refine WP.skip ?_
              refine thn_next ⟨(), trivial, ⟨rfl, rfl, rfl, rfl, rfl, rfl, rfl, trivial⟩, pick_only [0] _⟩
            rintro _ _
            refine WP.seq ?_
            refine WP.drawn0 cf0 mixed rfl (by kernel_rfl) ?_
            refine Run.mv rfl rfl rfl rfl ?_
            refine Run.mv rfl rfl rfl rfl ?_
            refine Run.idxR rfl rfl rfl sl_40 rfl rfl rV (by rfl) (by omega) (by omega) ?_
            refine Run.loadR rfl rfl ag_25 rfl rfl (SlR.cell0 rV gv' rfl) ?_
            refine Run.mv rfl rfl rfl rfl ?_
            refine Run.idxR rfl rfl rfl sl_25 rfl rfl rv (by rfl) (by omega) (by omega) ?_
            refine Run.loadRagg rfl rfl ag_37 rfl rfl (SlR.row rv gw) (by rfl) ?_
            refine Run.loadBagg 0 rfl rfl ag_37 rfl rfl rfl rfl rfl ?_
            refine Run.neS (b := true) rfl rfl rfl is_37 nf_37 (eqLoc _) rfl rfl rfl ?_
            refine Run.mv rfl rfl rfl rfl ?_
            refine Run.mv rfl rfl rfl rfl ?_
            refine Run.mv rfl rfl rfl rfl ?_
            refine Run.mv rfl rfl rfl rfl ?_
            refine Run.idxR rfl rfl rfl sl_40 rfl rfl rLV (by rfl) (by omega) (by omega) ?_
            refine Run.loadR rfl rfl ag_25 rfl rfl (SlR.cell0 rLV gpf rfl) ?_
            refine Run.lenR rfl rfl sl_25 rfl rfl rB ?_
            refine Run.int2 rfl rfl rfl rfl rfl rfl ?_; refine Run.ff (by omega) ?_
            refine Run.mv rfl rfl rfl rfl ?_
            refine Run.not rfl rfl ?_
            refine Run.not rfl rfl ?_
            refine Run.not rfl rfl ?_
            refine Run.not rfl rfl ?_
            refine Run.not rfl rfl ?_
            refine Run.not rfl rfl ?_
            refine Run.not rfl rfl ?_
            refine Run.not rfl rfl ?_
            refine Run.not rfl rfl ?_
            refine Run.pick rfl rfl rfl rfl rfl ?_
            refine Run.pick rfl rfl rfl rfl rfl ?_
            refine Run.nil ?_
            refine thn_next ?_
            refine WP.cond (t := false) rfl (fun h => by cases h) (fun _ => ?_)
            refine WP.skip ?_; refine blk_norm ?_; refine thn_next ?_
            refine WP.plain cf0 rfl ?_
            refine Run.mv rfl rfl rfl rfl ?_
            refine Run.add64 rfl rfl rfl rfl rfl (by first | omega | (simp <;> omega)) (by first | omega | (simp <;> omega)) ?_
            refine Run.mv rfl rfl rfl rfl ?_
            refine Run.nil ?_
            refine thn_next ⟨j + 1, by omega, by omega, ⟨rfl, rfl, rfl, rfl, rfl, rfl, trivial⟩, pick_only [] _⟩
        · refine WP.exit ?_; refine thn_exit ?_; refine thn_exit ?_; refine blk_hit ?_; refine blk_norm ?_
          refine thn_next ⟨(), trivial, ⟨rfl, rfl, rfl, rfl, trivial⟩, ent.refl _⟩
      rintro _ _
      refine WP.plain cf0 rfl ?_
      refine Run.mv rfl rfl rfl rfl ?_
      refine Run.add64 rfl rfl rfl rfl rfl (by first | omega | (simp <;> omega)) (by first | omega | (simp <;> omega)) ?_
      refine Run.mv rfl rfl rfl rfl ?_
      refine Run.nil ?_
      refine thn_next ⟨n + 1, hnV, by omega, ⟨rfl, rfl, rfl, rfl, trivial⟩, ent.refl _⟩
    · refine WP.exit ?_; refine thn_exit ?_; refine thn_exit ?_; refine blk_hit ?_
      refine thn_next ⟨(), trivial, trivial, pick_only [] _⟩
  rintro _ _
  refine WP.seq ?_
  refine WP.plain cf0 rfl ?_
  refine Run.mv rfl rfl rfl rfl ?_
  refine Run.nil ?_
  refine thn_next ?_
  refine WP.ret ?_
  exact retT [2] _ rfl rfl rfl
end Go.Proofs.Ytengcfamhoppbaa
