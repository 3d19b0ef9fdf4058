/- The law of many calls, each shown to be what it was after all the others; walked. -/
import Derived.Test.YtengcfamhoppbaaGrown
namespace Go.Proofs.Ytengcfamhoppbaa
open Go.Sep
set_option linter.unusedSimpArgs false
set_option linter.unusedVariables false
attribute [local irreducible] blk slA mp mpF rows rowsBut many

abbrev rdCall : Rd (List Iv × Int) := encIv.rd.slice.prod (Enc.int .i64).rd
theorem call_at {h : Heap} {v : Value} {cs : List (List Iv × Int)} (hl : SlR rdCall h v cs) {i : Nat} {xs : List Iv} {r : Int} (hi : cs[i]? = some (xs, r)) :
    ∃ u, cellH h (elemAddr v (i * 2)) u ∧ SlR encIv.rd h u xs ∧ cellH h ((elemAddr v (i * 2)).add 1) (.int .i64 r) := by
  obtain ⟨c1, ⟨u, rfl, hu⟩, h2⟩ := hl.part1 hi
  obtain ⟨c2, rfl, h3⟩ := hl.part2 hi
  exact ⟨u, h2 0 u rfl, hu, h3 0 _ rfl⟩

structure AS where
  kv : SV
  tv : SV
  p : List (SV × List Loc)
  q : List (SV × List Loc)
def AOk (z : AS) (n : Nat) : Prop := z.p.map Prod.snd = z.q.map Prod.snd ∧ z.p.length ≤ n ∧ ∀ sv xs, (sv, xs) ∈ z.p → xs.length ≤ 1000000
theorem AOk.snoc {z : AS} {n : Nat} (h : AOk z n) {kv tv a b : SV} {L : List Loc} (hL : L.length ≤ 1000000) : AOk ⟨kv, tv, z.p ++ [(a, L)], z.q ++ [(b, L)]⟩ (n + 1) := by
  obtain ⟨h1, h2, h3⟩ := h
  refine ⟨by simp [h1], by simp; omega, fun sv xs hx => ?_⟩
  simp only [List.mem_append, List.mem_singleton] at hx
  rcases hx with hx | hx
  · exact h3 sv xs hx
  · cases hx; exact hL

set_option maxHeartbeats 2000000 in
set_option maxRecDepth 100000 in
theorem all_ok (hR : Heap) (v : Value) (cs : List (List Iv × Int)) (hl : SlR rdCall hR v cs) :
    Tri Try.prog hR 8 #[v] [] fun u _ => u = .bool true := by
  refine Tri.of (args := [v]) Try.func8 rfl Try.ntmps8 (by simp) ?_
  refine WP.seq ?_
  refine WP.plain cf0 rfl ?_
  refine Run.mv rfl rfl rfl rfl ?_
  refine Run.nil ?_
  refine thn_next ?_
  refine WP.seqCut [(0, v), (3, .bool true)] [] ?_ ?_
  · refine WP.plain cf0 rfl ?_
    refine Run.call (Δ := []) (Θ := []) rfl rfl rfl rfl ok_9 rfl rfl (ent.refl _) (alive_ok hR) ?_; rintro _ Γ1 rfl
    refine Run.mv rfl rfl rfl rfl ?_
    refine Run.nil ?_
    exact thn_next ⟨⟨rfl, rfl, trivial⟩, pick_only [] _⟩
  refine WP.seq ?_
  refine WP.seq ?_
  refine WP.plain cf0 rfl ?_
  refine Run.mv rfl rfl rfl rfl ?_
  refine Run.lenR rfl rfl sl_39 rfl rfl hl ?_
  refine Run.int2 rfl rfl rfl rfl rfl rfl ?_
  refine Run.nil ?_
  refine thn_next ?_
  refine WP.ite rfl (fun h => ?_) (fun hn => ?_)
  · refine WP.seq ?_
    refine WP.plain cf0 rfl ?_
    refine Run.mv rfl rfl rfl rfl ?_
    refine Run.mv rfl rfl rfl rfl ?_
    refine Run.nil ?_
    refine thn_next ?_
    refine WP.ret ?_; refine thn_ret ?_
    exact retT [2] _ rfl rfl rfl
  refine WP.skip ?_; refine thn_next ?_
  refine WP.seq ?_
  refine WP.plain cf0 rfl ?_
  refine Run.mv rfl rfl rfl rfl ?_
  refine Run.mv rfl rfl rfl rfl ?_
  refine Run.nil ?_
  refine thn_next ?_
  refine WP.seqMeet (α := AS) (fun z => AOk z 180) (fun z => [(3, .bool true), (4, z.kv.val), (5, z.tv.val)]) (fun z => [slA 25 Enc.slice z.kv.val (z.p.map Prod.fst), rows 37 encLoc z.p, slA 25 Enc.slice z.tv.val (z.q.map Prod.fst), rows 37 encLoc z.q]) ?_ ?_
  · refine WP.seq ?_
    refine WP.plain cf0 rfl ?_
    refine Run.mv rfl rfl rfl rfl ?_
    refine Run.nil ?_
    refine thn_next ?_
    refine WP.block ?_
    refine WP.loop (α := Nat × AS) (fun z => z.1 ≤ cs.length ∧ AOk z.2 (3 * z.1)) (fun z => [(0, v), (3, .bool true), (4, z.2.kv.val), (5, z.2.tv.val), (6, .int .i64 (z.1 : Int))]) (fun z => [slA 25 Enc.slice z.2.kv.val (z.2.p.map Prod.fst), rows 37 encLoc z.2.p, slA 25 Enc.slice z.2.tv.val (z.2.q.map Prod.fst), rows 37 encLoc z.2.q]) (fun z => cs.length - z.1)
      (0, ⟨⟨none, 0, 0⟩, ⟨none, 0, 0⟩, [], []⟩) ⟨Nat.zero_le _, rfl, Nat.le_refl _, fun sv xs h => by simp at h⟩ ⟨rfl, rfl, rfl, rfl, rfl, trivial⟩
      ((slA_nil 25 Enc.slice _).trans ((slA_nil 25 Enc.slice _).trans ((rows_new _).trans ((rows_new _).trans (pick_only [2, 0, 1, 0] _))))) ?_
    rintro ⟨i, kv, tv, p, q⟩ ⟨hi, hA⟩
    simp only at hi hA ⊢
    refine WP.seq ?_
    refine WP.seq ?_
    refine WP.plain cf0 rfl ?_
    refine Run.mv rfl rfl rfl rfl ?_
    refine Run.mv rfl rfl rfl rfl ?_
    refine Run.lenR rfl rfl sl_39 rfl rfl hl ?_
    refine Run.int2 rfl rfl rfl rfl rfl rfl ?_
    refine Run.nil ?_
    refine thn_next ?_
    refine WP.ite rfl (fun hlt => ?_) (fun hge => ?_)
    · refine WP.skip ?_; refine thn_next ?_
      have hic : i < cs.length := by omega
      obtain ⟨⟨xs, r⟩, gc⟩ : ∃ x, cs[i]? = some x := ⟨_, List.getElem?_eq_getElem hic⟩
      obtain ⟨u, gu0, hu, gr0⟩ := call_at hl gc
      have gu : cellH hR (elemAddr v ((i : Int).toNat * 2)) u := gu0
      have gr : cellH hR ((elemAddr v ((i : Int).toNat * 2)).add 1) (.int .i64 r) := gr0
      refine WP.seqMeet (α := AS) (fun z => AOk z (3 * (i + 1))) (fun z => [(0, v), (3, .bool true), (4, z.kv.val), (5, z.tv.val), (6, .int .i64 (i : Int))]) (fun z => [slA 25 Enc.slice z.kv.val (z.p.map Prod.fst), rows 37 encLoc z.p, slA 25 Enc.slice z.tv.val (z.q.map Prod.fst), rows 37 encLoc z.q]) ?_ ?_
      · refine WP.block ?_
        refine WP.seq ?_
        refine WP.plain cf0 rfl ?_
        refine Run.mv rfl rfl rfl rfl ?_
        refine Run.mv rfl rfl rfl rfl ?_
        refine Run.idxR rfl rfl rfl sl_39 rfl rfl hl (by rfl) (by omega) (by omega) ?_
        refine Run.fieldAddr rfl rfl fo_42_0 rfl rfl ?_
        refine Run.loadR rfl rfl ag_22 rfl rfl gu ?_
        refine Run.mv rfl rfl rfl rfl ?_
        refine Run.nil ?_
        refine thn_next ?_
        refine WP.seq ?_
        refine WP.seqMeet (α := Bool) (fun b => b = false → xs.length ≤ 300) (fun b => [(0, v), (3, .bool true), (4, kv.val), (5, tv.val), (6, .int .i64 (i : Int)), (7, u), (41, .bool b)]) (fun _ => [slA 25 Enc.slice kv.val (p.map Prod.fst), rows 37 encLoc p, slA 25 Enc.slice tv.val (q.map Prod.fst), rows 37 encLoc q]) ?_ ?_
        · refine WP.plain cf0 rfl ?_
          all_goals (first | refine Run.mv rfl rfl rfl rfl ?_)
          all_goals (first | refine Run.lenR rfl rfl sl_22 rfl rfl hu ?_)
          all_goals (first | refine Run.int2 rfl rfl rfl rfl rfl rfl ?_)
          all_goals (first | refine Run.tt (by first | assumption | omega) ?_ | refine Run.ff (by first | assumption | omega) ?_ | refine Run.split (fun hc37 => ?_) (fun hc37 => ?_) | refine Run.splitB (fun hc37 => ?_) (fun hc37 => ?_) | skip)
          all_goals (first | refine Run.mv rfl rfl rfl rfl ?_)
          all_goals (first | refine Run.not rfl rfl ?_ | refine Run.mv rfl rfl rfl rfl ?_)
          all_goals (first | refine Run.not rfl rfl ?_ | refine Run.call (Δ := []) (Θ := [slA 25 Enc.slice kv.val (p.map Prod.fst), rows 37 encLoc p, slA 25 Enc.slice tv.val (q.map Prod.fst), rows 37 encLoc q]) rfl rfl rfl rfl ok_17 rfl rfl (ent.refl _) (far_ok hR u xs hu (by omega)) ?_; rintro _ _ ⟨⟨bf, rfl⟩, rfl⟩)
          all_goals (first | refine Run.pick rfl rfl rfl rfl rfl ?_)
          all_goals (refine Run.nil ?_)
          · exact thn_next ⟨true, (fun h => by cases h), ⟨rfl, rfl, rfl, rfl, rfl, rfl, rfl, trivial⟩, ent.refl _⟩
          · exact thn_next ⟨bf, (fun h => by omega), ⟨rfl, rfl, rfl, rfl, rfl, rfl, rfl, trivial⟩, ent.refl _⟩
        rintro b hb
        cases b with
        | true =>
          refine WP.cond (t := true) rfl (fun _ => ?_) (fun h => by cases h)
          refine WP.seq ?_
          refine WP.plain cf0 rfl ?_
          refine Run.mv rfl rfl rfl rfl ?_
          refine Run.mv rfl rfl rfl rfl ?_
          refine Run.nil ?_
          refine thn_next ?_
          refine WP.ret ?_; refine thn_ret ?_; refine blk_ret ?_; refine thn_ret ?_; refine thn_ret ?_; refine blk_ret ?_; refine thn_ret ?_
          exact retT [2] _ rfl rfl rfl
        | false =>
        have hx3 := hb rfl
        refine WP.cond (t := false) rfl (fun h => by cases h) (fun _ => ?_)
        refine WP.skip ?_; refine thn_next ?_
        refine WP.seq ?_
        refine WP.plain cf0 rfl ?_
        refine Run.mv rfl rfl rfl rfl ?_
        refine Run.call (Δ := []) (Θ := [slA 25 Enc.slice kv.val (p.map Prod.fst), rows 37 encLoc p, slA 25 Enc.slice tv.val (q.map Prod.fst), rows 37 encLoc q]) rfl rfl rfl rfl ok_10 rfl rfl (ent.refl _) (lent_ok hR u xs hu (by omega)) ?_; rintro _ _ ⟨w, rfl, rfl⟩
        refine Run.mv rfl rfl rfl rfl ?_
        refine Run.nil ?_
        refine thn_next ?_
        refine WP.via (Γ' := [slA 35 encIv (w.cut 3 0 xs.length).val xs, slA 25 Enc.slice kv.val (p.map Prod.fst), rows 37 encLoc p, slA 25 Enc.slice tv.val (q.map Prod.fst), rows 37 encLoc q]) (ent.cons (fun h hs => by have := slA_cut hs (lo := 0) (hi := xs.length) (Nat.zero_le _) (by simp); rw [List.take_left, List.drop_zero] at this; exact this) (ent.refl _)) ?_
        have hxn : (w.cut 3 0 xs.length).n = xs.length := by simp [SV.cut]
        generalize w.cut 3 0 xs.length = x at hxn
        refine WP.seq ?_
        refine WP.plain cf0 rfl ?_
        refine Run.mv rfl rfl rfl rfl ?_
        refine Run.nil ?_
        refine thn_next ?_
        refine WP.block ?_
        refine WP.loop (α := Nat × AS × List Iv) (fun z => z.1 ≤ 3 ∧ AOk z.2.1 (3 * i + z.1) ∧ z.2.2.length = xs.length) (fun z => [(0, v), (3, .bool true), (4, z.2.1.kv.val), (5, z.2.1.tv.val), (6, .int .i64 (i : Int)), (7, u), (8, x.val), (9, .int .i64 (z.1 : Int))])
          (fun z => [slA 35 encIv x.val z.2.2, slA 25 Enc.slice z.2.1.kv.val (z.2.1.p.map Prod.fst), rows 37 encLoc z.2.1.p, slA 25 Enc.slice z.2.1.tv.val (z.2.1.q.map Prod.fst), rows 37 encLoc z.2.1.q]) (fun z => 3 - z.1) (0, ⟨kv, tv, p, q⟩, xs) ⟨Nat.zero_le _, hA, rfl⟩ ⟨rfl, rfl, rfl, rfl, rfl, rfl, rfl, rfl, trivial⟩ (ent.refl _) ?_
        rintro ⟨k, ⟨kv, tv, p, q⟩, zs⟩ ⟨hk, hA, hzl⟩
        simp only at hk hA hzl ⊢
        refine WP.seq ?_
        refine WP.seq ?_
        refine WP.plain cf0 rfl ?_
        refine Run.mv rfl rfl rfl rfl ?_
        refine Run.int2 rfl rfl rfl rfl rfl rfl ?_
        refine Run.nil ?_
        refine thn_next ?_
        refine WP.ite rfl (fun hlt2 => ?_) (fun hge2 => ?_)
        · refine WP.skip ?_; refine thn_next ?_
          refine WP.seqMeet (α := AS × List Iv) (fun z => AOk z.1 (3 * i + (k + 1)) ∧ z.2.length = xs.length) (fun z => [(0, v), (3, .bool true), (4, z.1.kv.val), (5, z.1.tv.val), (6, .int .i64 (i : Int)), (7, u), (8, x.val), (9, .int .i64 (k : Int))])
            (fun z => [slA 35 encIv x.val z.2, slA 25 Enc.slice z.1.kv.val (z.1.p.map Prod.fst), rows 37 encLoc z.1.p, slA 25 Enc.slice z.1.tv.val (z.1.q.map Prod.fst), rows 37 encLoc z.1.q]) ?_ ?_
          · refine WP.block ?_
            refine WP.seqMeet (α := List Iv) (fun zs => zs.length = xs.length) (fun _ => [(0, v), (3, .bool true), (4, kv.val), (5, tv.val), (6, .int .i64 (i : Int)), (7, u), (8, x.val), (9, .int .i64 (k : Int))]) (fun zs => [slA 35 encIv x.val zs, slA 25 Enc.slice kv.val (p.map Prod.fst), rows 37 encLoc p, slA 25 Enc.slice tv.val (q.map Prod.fst), rows 37 encLoc q]) ?_ ?_
            · refine WP.seq ?_
              refine WP.plain cf0 rfl ?_
              refine Run.mv rfl rfl rfl rfl ?_
              refine Run.int2 rfl rfl rfl rfl rfl rfl ?_
              refine Run.nil ?_
              refine thn_next ?_
              refine WP.ite rfl (fun h2 => ?_) (fun h2 => ?_)
              · refine WP.seq ?_
                refine WP.plain cf0 rfl ?_
                refine Run.mv rfl rfl rfl rfl ?_
                refine Run.nil ?_
                refine thn_next ?_
                refine WP.block ?_
                refine WP.loop (α := Nat × List Iv) (fun z => z.1 ≤ xs.length ∧ z.2.length = xs.length) (fun z => [(0, v), (3, .bool true), (4, kv.val), (5, tv.val), (6, .int .i64 (i : Int)), (7, u), (8, x.val), (9, .int .i64 (k : Int)), (10, .int .i64 (z.1 : Int))])
                  (fun z => [slA 35 encIv x.val z.2, slA 25 Enc.slice kv.val (p.map Prod.fst), rows 37 encLoc p, slA 25 Enc.slice tv.val (q.map Prod.fst), rows 37 encLoc q]) (fun z => xs.length - z.1) (0, zs) ⟨Nat.zero_le _, hzl⟩ ⟨rfl, rfl, rfl, rfl, rfl, rfl, rfl, rfl, rfl, trivial⟩ (ent.refl _) ?_
                rintro ⟨j, zs⟩ ⟨hj, hzl⟩
                simp only at hj hzl ⊢
                refine WP.seq ?_
                refine WP.seq ?_
                refine WP.plain cf0 rfl ?_
                refine Run.mv rfl rfl rfl rfl ?_
                refine Run.mv rfl rfl rfl rfl ?_
                refine Run.lenO 0 rfl rfl sl_22 rfl rfl rfl ?_
                refine Run.int2 rfl rfl rfl rfl rfl rfl ?_
                refine Run.nil ?_
                refine thn_next ?_
                refine WP.ite rfl (fun hlt3 => ?_) (fun hge3 => ?_)
                · refine WP.skip ?_; refine thn_next ?_
                  have hjl : j < xs.length := by omega
                  obtain ⟨y, gy⟩ : ∃ x, zs[j]? = some x := ⟨_, List.getElem?_eq_getElem (by omega)⟩
                  obtain ⟨z, gz⟩ : ∃ x, xs[((xs.length : Int) - 1 - (j : Int)).toNat]? = some x := ⟨_, List.getElem?_eq_getElem (by omega)⟩
                  refine WP.seq ?_
                  refine WP.block ?_
                  refine WP.plain cf0 rfl ?_
                  refine Run.mv rfl rfl rfl rfl ?_
                  refine Run.mv rfl rfl rfl rfl ?_
                  refine Run.mv rfl rfl rfl rfl ?_
                  refine Run.mv rfl rfl rfl rfl ?_
                  refine Run.lenR rfl rfl sl_22 rfl rfl hu ?_
                  refine Run.sub64 rfl rfl rfl rfl rfl (by first | omega | (simp <;> omega)) (by first | omega | (simp <;> omega)) ?_
                  refine Run.mv rfl rfl rfl rfl ?_
                  refine Run.sub64 rfl rfl rfl rfl rfl (by first | omega | (simp <;> omega)) (by first | omega | (simp <;> omega)) ?_
                  refine Run.idxR rfl rfl rfl sl_22 rfl rfl hu (by rfl) (by omega) (by omega) ?_
                  refine Run.fieldAddr rfl rfl fo_35_2 rfl rfl ?_
                  refine Run.loadR rfl rfl ag_3 rfl rfl (SlR.cell hu gz rfl) ?_
                  refine Run.idxO 0 rfl rfl rfl sl_22 rfl rfl rfl rfl (by omega) (by omega) ?_
                  refine Run.fieldAddr rfl rfl fo_35_2 rfl rfl ?_
                  refine Run.storeO 0 j 2 (y' := (⟨y.r, y.f, z.t⟩ : Iv)) rfl rfl rfl rfl ag_3 rfl rfl rfl rfl gy rfl rfl ?_
                  refine Run.nil ?_
                  refine blk_norm ?_; refine thn_next ?_
                  refine WP.plain cf0 rfl ?_
                  refine Run.mv rfl rfl rfl rfl ?_
                  refine Run.add64 rfl rfl rfl rfl rfl (by first | omega | (simp <;> omega)) (by first | omega | (simp <;> omega)) ?_
                  refine Run.mv rfl rfl rfl rfl ?_
                  refine Run.nil ?_
                  refine thn_next ⟨(j + 1, zs.set j ⟨y.r, y.f, z.t⟩), ⟨hjl, by simp [hzl]⟩, by simp only; omega, ⟨rfl, rfl, rfl, rfl, rfl, rfl, rfl, rfl, rfl, trivial⟩, ent.refl _⟩
                · refine WP.exit ?_; refine thn_exit ?_; refine thn_exit ?_; refine blk_hit ?_
                  refine thn_next ⟨zs, hzl, ⟨rfl, rfl, rfl, rfl, rfl, rfl, rfl, rfl, trivial⟩, ent.refl _⟩
              · refine WP.skip ?_
                refine thn_next ⟨zs, hzl, ⟨rfl, rfl, rfl, rfl, rfl, rfl, rfl, rfl, trivial⟩, ent.refl _⟩
            clear hzl zs
            intro zs hzl
            have hpm : (p.map Prod.fst).length = p.length := by simp
            have hqm : (q.map Prod.fst).length = q.length := by simp
            have hpl := hA.2.1
            have hql : q.length = p.length := by have := congrArg List.length hA.1; simpa using this.symm
            simp only at hpl
            have hLl := scanL_len zs r
            refine WP.seq ?_
            refine WP.via (slA_nil 35 encIv _) ?_
            refine WP.plain cf0 rfl ?_
            refine Run.mv rfl rfl rfl rfl ?_
            refine Run.append 5 rfl rfl rfl rfl rfl rfl sl_22 zr_35 rfl (src_own 0 rfl) (by first | omega | (simp <;> omega)) (by first | omega | (simp <;> omega)) ?_
            intro sv71 hv71
            refine Run.mv rfl rfl rfl rfl ?_
            refine Run.nil ?_
            refine thn_next ?_
            refine WP.seq ?_
            refine WP.plain cf0 rfl ?_
            refine Run.mv rfl rfl rfl rfl ?_
            refine Run.mv rfl rfl rfl rfl ?_
            refine Run.mv rfl rfl rfl rfl ?_
            refine Run.idxR rfl rfl rfl sl_39 rfl rfl hl (by rfl) (by omega) (by omega) ?_
            refine Run.fieldAddr rfl rfl fo_42_1 rfl rfl ?_
            refine Run.loadR rfl rfl ag_3 rfl rfl gr ?_
            refine Run.callLend (Δ := []) (Θ := [slA 35 encIv x.val zs]) (Ξ := [slA 25 Enc.slice kv.val (p.map Prod.fst), rows 37 encLoc p, slA 25 Enc.slice tv.val (q.map Prod.fst), rows 37 encLoc q, slA 35 encIv sv71.val zs]) rfl rfl rfl rfl ok_11 rfl rfl (ent.refl _) (fun g hg hd => scan_ok (un hR g) _ zs r (lent_at 0 rfl hg hd) (by omega)) ?_; rintro _ _ ⟨ov, rfl, rfl⟩
            refine Run.mv rfl rfl rfl rfl ?_
            refine Run.extract rfl rfl rfl rfl rfl ?_
            refine Run.extract rfl rfl rfl rfl rfl ?_
            refine Run.extract rfl rfl rfl rfl rfl ?_
            refine Run.mv rfl rfl rfl rfl ?_
            refine Run.mv rfl rfl rfl rfl ?_
            refine Run.mv rfl rfl rfl rfl ?_
            refine Run.nil ?_
            refine thn_next ?_
            refine WP.seq ?_
            refine WP.plain cf0 rfl ?_
            refine Run.mv rfl rfl rfl rfl ?_
            refine Run.mv rfl rfl rfl rfl ?_
            refine Run.mv rfl rfl rfl rfl ?_
            refine Run.idxR rfl rfl rfl sl_39 rfl rfl hl (by rfl) (by omega) (by omega) ?_
            refine Run.fieldAddr rfl rfl fo_42_1 rfl rfl ?_
            refine Run.loadR rfl rfl ag_3 rfl rfl gr ?_
            refine Run.callLend (Δ := []) (Θ := [slA 35 encIv sv71.val zs]) (Ξ := [slA 35 encIv x.val zs, slA 25 Enc.slice kv.val (p.map Prod.fst), rows 37 encLoc p, slA 25 Enc.slice tv.val (q.map Prod.fst), rows 37 encLoc q, slA 37 encLoc ov.val (scanL zs r).1]) rfl rfl rfl rfl ok_13 rfl rfl (pick_only [6, 1, 1, 1, 1, 1, 0] _) (fun g hg hd => ref_ok (un hR g) _ zs r (lent_at 0 rfl hg hd) (by omega)) ?_; rintro _ _ ⟨rv, rfl, rfl⟩; rw [← scan_ref]
            refine Run.mv rfl rfl rfl rfl ?_
            refine Run.extract rfl rfl rfl rfl rfl ?_
            refine Run.extract rfl rfl rfl rfl rfl ?_
            refine Run.extract rfl rfl rfl rfl rfl ?_
            refine Run.mv rfl rfl rfl rfl ?_
            refine Run.mv rfl rfl rfl rfl ?_
            refine Run.mv rfl rfl rfl rfl ?_
            refine Run.nil ?_
            refine thn_next ?_
            refine WP.seq ?_
            refine WP.seq ?_
            refine WP.plain cf0 rfl ?_
            refine Run.mv rfl rfl rfl rfl ?_
            refine Run.mv rfl rfl rfl rfl ?_
            refine Run.int2 rfl rfl rfl rfl rfl rfl ?_
            refine Run.ff (fun h => h rfl) ?_
            refine Run.mv rfl rfl rfl rfl ?_
            refine Run.mv rfl rfl rfl rfl ?_
            refine Run.mv rfl rfl rfl rfl ?_
            refine Run.int2 rfl rfl rfl rfl rfl rfl ?_
            refine Run.ff (fun h => h rfl) ?_
            refine Run.pick rfl rfl rfl rfl rfl ?_
            refine Run.mv rfl rfl rfl rfl ?_
            refine Run.mv rfl rfl rfl rfl ?_
            refine Run.mv rfl rfl rfl rfl ?_
            refine Run.callLend (Δ := []) (Θ := [slA 37 encLoc rv.val (scanL zs r).1, slA 37 encLoc ov.val (scanL zs r).1]) (Ξ := [slA 35 encIv x.val zs, slA 25 Enc.slice kv.val (p.map Prod.fst), rows 37 encLoc p, slA 25 Enc.slice tv.val (q.map Prod.fst), rows 37 encLoc q]) rfl rfl rfl rfl ok_14 rfl rfl (pick_only [0, 6, 1, 1, 1, 1, 1] _) (fun g hg hd => same_ok (un hR g) _ _ _ _ (lent_at 1 rfl hg hd) (lent_at 0 rfl hg hd) hLl hLl) ?_; rintro _ _ ⟨rfl, rfl⟩; refine Run.tt rfl ?_
            refine Run.bnotB rfl rfl rfl rfl ?_
            refine Run.pick rfl rfl rfl rfl rfl ?_
            refine Run.nil ?_
            refine thn_next ?_
            refine WP.cond (t := false) rfl (fun h => by cases h) (fun _ => ?_)
            refine WP.skip ?_; refine thn_next ?_
            refine WP.seq ?_
            refine WP.plain cf0 rfl ?_
            refine Run.mv rfl rfl rfl rfl ?_
            refine Run.mv rfl rfl rfl rfl ?_
            refine Run.buildSlice (E := Enc.slice) rfl sl_40 zr_25 ([ov]) rfl rfl rfl (by decide) rfl rfl ?_
            intro b110
            refine Run.append 3 rfl rfl rfl rfl rfl rfl sl_40 zr_25 rfl (src_own 7 rfl) (by first | omega | (simp <;> omega)) (by first | omega | (simp <;> omega)) ?_
            intro sv111 hv111
            refine Run.mv rfl rfl rfl rfl ?_
            refine Run.nil ?_
            refine thn_next ?_
            refine WP.plain cf0 rfl ?_
            refine Run.mv rfl rfl rfl rfl ?_
            refine Run.mv rfl rfl rfl rfl ?_
            refine Run.buildSlice (E := Enc.slice) rfl sl_40 zr_25 ([rv]) rfl rfl rfl (by decide) rfl rfl ?_
            intro b114
            refine Run.append 5 rfl rfl rfl rfl rfl rfl sl_40 zr_25 rfl (src_own 8 rfl) (by first | omega | (simp <;> omega)) (by first | omega | (simp <;> omega)) ?_
            intro sv115 hv115
            refine Run.mv rfl rfl rfl rfl ?_
            refine Run.nil ?_
            refine blk_norm ?_
            refine thn_next ⟨(⟨sv111, sv115, p ++ [(ov, (scanL zs r).1)], q ++ [(rv, (scanL zs r).1)]⟩, zs), ⟨hA.snoc hLl, hzl⟩, ⟨rfl, rfl, rfl, rfl, rfl, rfl, rfl, rfl, trivial⟩, ?_⟩
            simp only [List.map_append, List.map_cons, List.map_nil]
            exact (pick_only [4, 1, 4, 0, 0, 0, 0] _).trans ((rows_snoc _).trans ((pick_only [1, 1, 0, 0, 0, 0] _).trans ((rows_snoc _).trans (pick_only [2, 2, 1, 1, 0] _))))
          rintro ⟨⟨kv, tv, p, q⟩, zs⟩ ⟨hA, hzl⟩
          simp only at hA hzl ⊢
          refine WP.plain cf0 rfl ?_
          refine Run.mv rfl rfl rfl rfl ?_
          refine Run.add64 rfl rfl rfl rfl rfl (by first | omega | (simp <;> omega)) (by first | omega | (simp <;> omega)) ?_
          refine Run.mv rfl rfl rfl rfl ?_
          refine Run.nil ?_
          refine thn_next ⟨(k + 1, ⟨kv, tv, p, q⟩, zs), ⟨by simp only; omega, hA, hzl⟩, by simp only; omega, ⟨rfl, rfl, rfl, rfl, rfl, rfl, rfl, rfl, trivial⟩, ent.refl _⟩
        · have e3 : k = 3 := by omega
          subst e3
          refine WP.exit ?_; refine thn_exit ?_; refine thn_exit ?_; refine blk_hit ?_; refine blk_norm ?_
          refine thn_next ⟨⟨kv, tv, p, q⟩, hA, ⟨rfl, rfl, rfl, rfl, rfl, trivial⟩, pick_only [1, 1, 1, 1] _⟩
      rintro ⟨kv, tv, p, q⟩ hA
      simp only at hA ⊢
      refine WP.plain cf0 rfl ?_
      refine Run.mv rfl rfl rfl rfl ?_
      refine Run.add64 rfl rfl rfl rfl rfl (by first | omega | (simp <;> omega)) (by first | omega | (simp <;> omega)) ?_
      refine Run.mv rfl rfl rfl rfl ?_
      refine Run.nil ?_
      refine thn_next ⟨(i + 1, ⟨kv, tv, p, q⟩), ⟨hic, hA⟩, by simp only; omega, ⟨rfl, rfl, rfl, rfl, rfl, trivial⟩, ent.refl _⟩
    · refine WP.exit ?_; refine thn_exit ?_; refine thn_exit ?_; refine blk_hit ?_
      refine thn_next ⟨⟨kv, tv, p, q⟩, ⟨hA.1, by have := hA.2.1; simp only at this ⊢; omega, hA.2.2⟩, ⟨rfl, rfl, rfl, trivial⟩, ent.refl _⟩
  rintro ⟨kv, tv, p, q⟩ ⟨hpq, hpl, hpx⟩
  simp only at hpq hpl hpx ⊢
  refine WP.seqMeet (α := Unit) (fun _ => True) (fun _ => [(3, .bool true), (4, kv.val)]) (fun _ => [slA 25 Enc.slice kv.val (p.map Prod.fst), rows 37 encLoc p]) ?_ ?_
  · refine WP.via (Γ' := [] ++ [slA 25 Enc.slice kv.val (p.map Prod.fst), rows 37 encLoc p, slA 25 Enc.slice tv.val (q.map Prod.fst), rows 37 encLoc q]) (ent.refl _) ?_
    refine WP.freeze (Γ := []) [slA 25 Enc.slice kv.val (p.map Prod.fst), rows 37 encLoc p, slA 25 Enc.slice tv.val (q.map Prod.fst), rows 37 encLoc q] fun g hg hd => ?_
    have rP : SlR encLoc.rd.slice (un hR g) kv.val (p.map Prod.snd) := lent_rows 0 1 rfl rfl hg hd
    have rQ : SlR encLoc.rd.slice (un hR g) tv.val (p.map Prod.snd) := by rw [hpq]; exact lent_rows 2 3 rfl rfl hg hd
    generalize un hR g = hS at rP rQ
    have hpm : (p.map Prod.snd).length = p.length := by simp
    refine WP.seq ?_
    refine WP.plain cf0 rfl ?_
    refine Run.mv rfl rfl rfl rfl ?_
    refine Run.nil ?_
    refine thn_next ?_
    refine WP.block ?_
    refine WP.loop (α := Nat) (fun i => i ≤ p.length) (fun i => [(3, .bool true), (4, kv.val), (5, tv.val), (18, .int .i64 (i : Int))]) (fun _ => []) (fun i => p.length - i) 0 (Nat.zero_le _) ⟨rfl, rfl, rfl, rfl, trivial⟩ (ent.refl _) ?_
    intro i hi
    refine WP.seq ?_
    refine WP.seq ?_
    refine WP.plain cf0 rfl ?_
    refine Run.mv rfl rfl rfl rfl ?_
    refine Run.mv rfl rfl rfl rfl ?_
    refine Run.lenR rfl rfl sl_40 rfl rfl rP ?_
    refine Run.int2 rfl rfl rfl rfl rfl rfl ?_
    refine Run.nil ?_
    refine thn_next ?_
    refine WP.ite rfl (fun hlt => ?_) (fun hge => ?_)
    · refine WP.skip ?_; refine thn_next ?_
      have hip : i < p.length := by omega
      obtain ⟨⟨sv, xs⟩, gp⟩ : ∃ x, p[i]? = some x := ⟨_, List.getElem?_eq_getElem hip⟩
      have gp2 : (p.map Prod.snd)[i]? = some xs := by simp [gp]
      obtain ⟨u1, gu1, hu1⟩ := rP.rowV gp2
      have gu1' : cellH hS (elemAddr kv.val ((i : Int).toNat * 1)) u1 := gu1
      obtain ⟨u2, gu2, hu2⟩ := rQ.rowV gp2
      have gu2' : cellH hS (elemAddr tv.val ((i : Int).toNat * 1)) u2 := gu2
      have hxl := hpx sv xs (List.mem_of_getElem? gp)
      refine WP.seq ?_
      refine WP.block ?_
      refine WP.seq ?_
      refine WP.drawn0 cf0 mixed rfl (by kernel_rfl) ?_
      refine Run.mv rfl rfl rfl rfl ?_
      refine Run.mv rfl rfl rfl rfl ?_
      refine Run.idxR rfl rfl rfl sl_40 rfl rfl rP (by rfl) (by omega) (by omega) ?_
      refine Run.loadR rfl rfl ag_25 rfl rfl gu1' ?_
      refine Run.mv rfl rfl rfl rfl ?_
      refine Run.mv rfl rfl rfl rfl ?_
      refine Run.idxR rfl rfl rfl sl_40 rfl rfl rQ (by rfl) (by omega) (by omega) ?_
      refine Run.loadR rfl rfl ag_25 rfl rfl gu2' ?_
      refine Run.call (Δ := []) (Θ := []) rfl rfl rfl rfl ok_14 rfl rfl (ent.refl _) (same_ok hS u1 u2 xs xs hu1 hu2 (by omega) (by omega)) ?_; rintro _ _ ⟨rfl, rfl⟩; refine Run.tt rfl ?_
      refine Run.bnotB rfl rfl rfl rfl ?_
      refine Run.nil ?_
      refine thn_next ?_
      refine WP.cond (t := false) rfl (fun h => by cases h) (fun _ => ?_)
      refine WP.skip ?_; refine blk_norm ?_; refine thn_next ?_
      refine WP.plain cf0 rfl ?_
      refine Run.mv rfl rfl rfl rfl ?_
      refine Run.add64 rfl rfl rfl rfl rfl (by first | omega | (simp <;> omega)) (by first | omega | (simp <;> omega)) ?_
      refine Run.mv rfl rfl rfl rfl ?_
      refine Run.nil ?_
      refine thn_next ⟨i + 1, hip, by omega, ⟨rfl, rfl, rfl, rfl, trivial⟩, ent.refl _⟩
    · refine WP.exit ?_; refine thn_exit ?_; refine thn_exit ?_; refine blk_hit ?_
      refine thn_next ⟨(), trivial, ⟨rfl, rfl, trivial⟩, pick_only [0, 0] _⟩
  rintro _ _
  refine WP.seq ?_
  refine WP.plain cf0 rfl ?_
  refine Run.mv rfl rfl rfl rfl ?_
  refine Run.mv rfl rfl rfl rfl ?_
  refine Run.mv rfl rfl rfl rfl ?_
  refine Run.call (Δ := [slA 25 Enc.slice kv.val (p.map Prod.fst), rows 37 encLoc p]) (Θ := []) rfl rfl rfl rfl ok_18 rfl rfl (by rw [List.append_nil]; exact ent.refl _) (grown_ok hR kv p (by omega) hpx) ?_; rintro _ _ rfl
  refine Run.pick rfl rfl rfl rfl rfl ?_
  refine Run.mv rfl rfl rfl rfl ?_
  refine Run.nil ?_
  refine thn_next ?_
  refine WP.ret ?_
  exact retT [2] _ rfl rfl rfl
end Go.Proofs.Ytengcfamhoppbaa
