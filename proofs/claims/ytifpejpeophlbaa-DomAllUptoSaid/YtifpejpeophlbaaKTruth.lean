/- Lists of truth are put away, and at the end turned, grown and looked at; walked. -/
import Derived.Test.YtifpejpeophlbaaKLate
namespace Go.Proofs.Ytifpejpeophlbaa
open Go.Sep
set_option linter.unusedSimpArgs false
set_option linter.unusedVariables false
attribute [local irreducible] blk slA mp mpF rows rowsBut memL

def KB (kb : Nat) (ls ws ms : SV) (p q : List (SV × List Bool)) (bs bw : SV) : List HProp :=
  [keepB kb false ls ws ms bs bw, slA 26 Enc.slice bs.val (p.map Prod.fst), rows 4 Enc.bool p, slA 26 Enc.slice bw.val (q.map Prod.fst), rows 4 Enc.bool q]

set_option maxHeartbeats 1000000 in
set_option maxRecDepth 100000 in
theorem truth_ok (hR : Heap) (kb : Nat) (ls ws ms bs bw l : SV) (p q : List (SV × List Bool)) (ts : List Bool) (hn : ts.length ≤ 1000000) (hp : p.length ≤ 1000000) (hq : q.length ≤ 1000000) :
    Tri Try.prog hR 31 #[.pointer (some ⟨kb, 0, none⟩), l.val] (KB kb ls ws ms p q bs bw ++ [slA 4 Enc.bool l.val ts])
      fun u Γ' => ∃ (c bs' bw' : SV), Γ' = KB kb ls ws ms (p ++ [(l, ts)]) (q ++ [(c, ts)]) bs' bw' := by
  refine Tri.of (args := [.pointer (some ⟨kb, 0, none⟩), l.val]) Try.func31 rfl Try.ntmps31 (by simp) ?_
  have hpl : (p.map Prod.fst).length = p.length := by simp
  have hql : (q.map Prod.fst).length = q.length := by simp
  refine WP.via (Γ' := [keepB kb false ls ws ms bs bw, slA 26 Enc.slice bs.val (p.map Prod.fst), rows 4 Enc.bool p, slA 26 Enc.slice bw.val (q.map Prod.fst), rows 4 Enc.bool q, slA 4 Enc.bool l.val ts]) (ent.refl _) ?_
  refine WP.seq ?_
  refine WP.plain cf0 rfl ?_
  refine Run.mv rfl rfl rfl rfl ?_
  refine Run.mv rfl rfl rfl rfl ?_
  refine Run.nilCheck rfl rfl rfl rfl ?_
  refine Run.fieldAddr rfl rfl fo_43_4 rfl rfl ?_
  refine Run.loadB 0 rfl rfl ag_41 rfl rfl rfl rfl rfl ?_
  refine Run.mv rfl rfl rfl rfl ?_
  refine Run.buildSlice (E := Enc.slice) rfl sl_41 zr_26 ([l]) rfl rfl rfl (by decide) rfl rfl ?_
  intro b10
  refine Run.append 1 rfl rfl rfl rfl rfl rfl sl_41 zr_26 rfl (src_own 6 rfl) (by first | omega | (simp <;> omega)) (by first | omega | (simp <;> omega)) ?_
  intro sv11 hv11
  refine Run.nilCheck rfl rfl rfl rfl ?_
  refine Run.fieldAddr rfl rfl fo_43_4 rfl rfl ?_
  refine Run.storeB 0 rfl rfl rfl rfl ag_41 rfl rfl rfl rfl rfl ?_
  refine Run.nil ?_
  refine thn_next ?_
  refine WP.weaken (ρ' := [(0, .pointer (some ⟨kb, 0, none⟩)), (1, l.val)]) (Γ' := [slA 26 Enc.slice sv11.val (p.map Prod.fst ++ [l]), rows 4 Enc.bool p, slA 26 Enc.slice bw.val (q.map Prod.fst), rows 4 Enc.bool q, slA 4 Enc.bool l.val ts, slA 4 Enc.bool (.slice none 0 0) []] ++ [keepB kb false ls ws ms sv11 bw])
    ⟨rfl, rfl, trivial⟩ ((slA_nil 4 Enc.bool _).trans (pick_only [1, 1, 1, 1, 1, 2, 0] _)) ?_
  refine WP.drawnF cfF [0, 1, 2, 3, 4, 5, 6, 7, 8, 9, 10] [11] ([keepB kb false ls ws ms sv11 bw]) mixed rfl rfl (by kernel_rfl) (fun gF hgF hdF => ?_)
  have c2 := lent_blk (v := bw.val) 0 5 rfl rfl hgF hdF; refine Run.mv rfl rfl rfl rfl ?_
  refine Run.mv rfl rfl rfl rfl ?_
  refine Run.nilCheck rfl rfl rfl rfl ?_
  refine Run.fieldAddr rfl rfl fo_43_5 rfl rfl ?_
  refine Run.loadF rfl rfl ag_41 rfl rfl c2 ?_
  refine Run.mv rfl rfl rfl rfl ?_
  refine Run.append 5 rfl rfl rfl rfl rfl rfl sl_26 zr_4 rfl (src_own 4 rfl) (by first | omega | (simp <;> omega)) (by first | omega | (simp <;> omega)) ?_
  intro sv20 hv20
  refine Run.buildSlice (E := Enc.slice) rfl sl_41 zr_26 ([sv20]) rfl rfl rfl (by decide) rfl rfl ?_
  intro b21
  refine Run.append 2 rfl rfl rfl rfl rfl rfl sl_41 zr_26 rfl (src_own 6 rfl) (by first | omega | (simp <;> omega)) (by first | omega | (simp <;> omega)) ?_
  intro sv22 hv22
  refine Run.nilCheck rfl rfl rfl rfl ?_
  refine Run.fieldAddr rfl rfl fo_43_5 rfl rfl ?_
  refine Run.nil ?_
  refine Run.storeB 7 rfl rfl rfl rfl ag_41 rfl rfl rfl rfl rfl ?_
  refine Run.via (Γ' := KB kb ls ws ms (p ++ [(l, ts)]) (q ++ [(sv20, ts)]) sv11 sv22) ?_ ?_
  · unfold KB
    simp only [List.map_append, List.map_cons, List.map_nil]
    exact (pick_only [1, 3, 0, 0, 0, 0, 1] _).trans ((rows_snoc _).trans ((pick_only [3, 3, 0, 0, 0, 0] _).trans ((rows_snoc _).trans (pick_only [4, 2, 1, 1, 0] _))))
  refine Run.nil ?_
  exact retN [] [] rfl rfl ⟨sv20, sv11, sv22, rfl⟩

theorem Pre.split {A : Type} {P R : List (SV × List A)} {c : A} {v : SV} (h : Pre (P ++ R) c v) : Pre P c v ∨ Pre R c v := by
  rcases h with h | ⟨g, xs, h1, h2⟩
  · exact .inl (.inl h)
  · rcases List.mem_append.1 h1 with h1 | h1
    · exact .inl (.inr ⟨g, xs, h1, h2⟩)
    · exact .inr (.inr ⟨g, xs, h1, h2⟩)
def cT (t : Nat) (i : Nat) : Bool := decide ((i : Int).tmod 2 = (t : Int))
/-- the lists grow: the first of what each becomes is its own block -/
structure Firsts (t i : Nat) (p P1 : List (SV × List Bool)) : Prop where
  len : P1.length = p.length
  first : ∀ (k : Nat) (sv : SV) (ys : List Bool) (g : SV) (xs : List Bool), p[k]? = some (sv, ys) → P1[k]? = some (g, xs) → g.a = sv.a ∧ g.c = sv.c ∧ ys.length ≤ xs.length
  same : ∀ k, i ≤ k → P1[k]? = p[k]?
def Fars (t : Nat) (H : List (SV × List Bool)) (V : List SV) : Prop := ∀ (j : Nat) (v : SV), V[j]? = some v → Pre H (cT t (j / 16)) v ∧ v.n ≤ 2000000
theorem Fars.mono {t : Nat} {H H' : List (SV × List Bool)} {V : List SV} (h : Fars t H V) (hG : ∀ c v, Pre H c v → Pre H' c v) : Fars t H' V := fun j v hv => ⟨hG _ _ (h j v hv).1, (h j v hv).2⟩
theorem Fars.snoc {t i j : Nat} {H : List (SV × List Bool)} {V : List SV} (h : Fars t H V) (hl : V.length = 16 * i + j) (hj : j < 16) {v : SV} (hp : Pre H (cT t i) v) (hn : v.n ≤ 2000000) : Fars t H (V ++ [v]) := fun k v' hv => by
  by_cases e : k < V.length
  · rw [List.getElem?_append_left e] at hv; exact h k v' hv
  · have h2 := (List.getElem?_eq_some_iff.1 hv).1
    simp at h2
    have h3 : k = V.length := by omega
    subst h3
    rw [List.getElem?_append_right (by omega)] at hv
    simp at hv
    subst hv
    have : V.length / 16 = i := by omega
    rw [this]; exact ⟨hp, hn⟩

set_option maxHeartbeats 2000000 in
set_option maxRecDepth 100000 in
theorem truths_ok (hR : Heap) (kb : Nat) (ls ws ms bs bw : SV) (p q : List (SV × List Bool)) (hpq : p.map Prod.snd = q.map Prod.snd) (hpl : p.length ≤ 1000) (hln : ∀ sv xs, (sv, xs) ∈ p → xs.length ≤ 1000000) :
    Tri Try.prog hR 32 #[.pointer (some ⟨kb, 0, none⟩)] (KB kb ls ws ms p q bs bw) fun u Γ' => u = .bool true := by
  refine Tri.of (args := [.pointer (some ⟨kb, 0, none⟩)]) Try.func32 rfl Try.ntmps32 (by simp) ?_
  unfold KB
  have hqp : q.length = p.length := by have := congrArg List.length hpq; simpa using this.symm
  refine WP.seq ?_
  refine WP.plain cf0 rfl ?_
  refine Run.mv rfl rfl rfl rfl ?_
  refine Run.nil ?_
  refine thn_next ?_
  -- are they what they were?
  refine WP.seqMeet (α := Unit) (fun _ => True) (fun _ => [(0, .pointer (some ⟨kb, 0, none⟩))]) (fun _ => [keepB kb false ls ws ms bs bw, slA 26 Enc.slice bs.val (p.map Prod.fst), rows 4 Enc.bool p]) ?_ ?_
  · refine WP.via (Γ' := [] ++ [keepB kb false ls ws ms bs bw, slA 26 Enc.slice bs.val (p.map Prod.fst), rows 4 Enc.bool p, slA 26 Enc.slice bw.val (q.map Prod.fst), rows 4 Enc.bool q]) (ent.refl _) ?_
    refine WP.freeze (Γ := []) [keepB kb false ls ws ms bs bw, slA 26 Enc.slice bs.val (p.map Prod.fst), rows 4 Enc.bool p, slA 26 Enc.slice bw.val (q.map Prod.fst), rows 4 Enc.bool q] fun g hg hd => ?_
    have c4 : cellH (un hR g) ⟨kb, 4, none⟩ bs.val := lent_blk 0 4 rfl rfl hg hd
    have c5 : cellH (un hR g) ⟨kb, 5, none⟩ bw.val := lent_blk 0 5 rfl rfl hg hd
    have rP : SlR Enc.bool.rd.slice (un hR g) bs.val (p.map Prod.snd) := lent_rows 1 2 rfl rfl hg hd
    have rQ : SlR Enc.bool.rd.slice (un hR g) bw.val (p.map Prod.snd) := by rw [hpq]; exact lent_rows 3 4 rfl rfl hg hd
    generalize un hR g = hS at c4 c5 rP rQ
    have hpm : (p.map Prod.snd).length = p.length := by simp
    refine WP.seq ?_
    refine WP.plain cf0 rfl ?_
    refine Run.mv rfl rfl rfl rfl ?_
    refine Run.nil ?_
    refine thn_next ?_
    refine WP.block ?_
    refine WP.loop (α := Nat) (fun i => i ≤ p.length) (fun i => [(0, .pointer (some ⟨kb, 0, none⟩)), (3, .int .i64 (i : Int))]) (fun _ => []) (fun i => p.length - i) 0 (Nat.zero_le _) ⟨rfl, rfl, trivial⟩ (ent.refl _) ?_
    intro i hi
    refine WP.seq ?_
    refine WP.seq ?_
    refine WP.plain cf0 rfl ?_
    refine Run.mv rfl rfl rfl rfl ?_
    refine Run.mv rfl rfl rfl rfl ?_
    refine Run.nilCheck rfl rfl rfl rfl ?_
    refine Run.fieldAddr rfl rfl fo_43_4 rfl rfl ?_
    refine Run.loadR rfl rfl ag_41 rfl rfl c4 ?_
    refine Run.lenR rfl rfl sl_41 rfl rfl rP ?_
    refine Run.int2 rfl rfl rfl rfl rfl rfl ?_
    refine Run.nil ?_
    refine thn_next ?_
    refine WP.ite rfl (fun hlt => ?_) (fun hge => ?_)
    · refine WP.skip ?_; refine thn_next ?_
      have hip : i < p.length := by omega
      obtain ⟨⟨sv, xs⟩, gp⟩ : ∃ x, p[i]? = some x := ⟨_, List.getElem?_eq_getElem hip⟩
      have gp2 : (p.map Prod.snd)[i]? = some xs := by simp [gp]
      obtain ⟨u1, gu1, hu1⟩ := rP.rowV gp2
      have gu1' : cellH hS (elemAddr bs.val ((i : Int).toNat * 1)) u1 := gu1
      obtain ⟨u2, gu2, hu2⟩ := rQ.rowV gp2
      have gu2' : cellH hS (elemAddr bw.val ((i : Int).toNat * 1)) u2 := gu2
      have hxl := hln sv xs (List.mem_of_getElem? gp)
      refine WP.seq ?_
      refine WP.block ?_
      refine WP.seq ?_
      refine WP.drawn0 cf0 mixed rfl (by kernel_rfl) ?_
      refine Run.mv rfl rfl rfl rfl ?_
      refine Run.nilCheck rfl rfl rfl rfl ?_
      refine Run.fieldAddr rfl rfl fo_43_4 rfl rfl ?_
      refine Run.loadR rfl rfl ag_41 rfl rfl c4 ?_
      refine Run.mv rfl rfl rfl rfl ?_
      refine Run.idxR rfl rfl rfl sl_41 rfl rfl rP (by rfl) (by omega) (by omega) ?_
      refine Run.loadR rfl rfl ag_26 rfl rfl gu1' ?_
      refine Run.mv rfl rfl rfl rfl ?_
      refine Run.nilCheck rfl rfl rfl rfl ?_
      refine Run.fieldAddr rfl rfl fo_43_5 rfl rfl ?_
      refine Run.loadR rfl rfl ag_41 rfl rfl c5 ?_
      refine Run.mv rfl rfl rfl rfl ?_
      refine Run.idxR rfl rfl rfl sl_41 rfl rfl rQ (by rfl) (by omega) (by omega) ?_
      refine Run.loadR rfl rfl ag_26 rfl rfl gu2' ?_
      refine Run.call (Δ := []) (Θ := []) rfl rfl rfl rfl ok_15 rfl rfl (ent.refl _) (alike_ok hS u1 u2 xs xs hu1 hu2 (by omega) (by omega)) ?_; rintro _ _ ⟨rfl, rfl⟩; refine Run.tt rfl ?_
      refine Run.bnotB rfl rfl rfl rfl ?_
      refine Run.nil ?_
      refine thn_next ?_
      refine WP.cond (t := false) rfl (fun h => by cases h) (fun _ => ?_)
      refine WP.skip ?_; refine blk_norm ?_; refine thn_next ?_
      refine WP.plain cf0 rfl ?_
      refine Run.mv rfl rfl rfl rfl ?_
      refine Run.add64 rfl rfl rfl rfl rfl (by first | omega | (simp <;> omega)) (by first | omega | (simp <;> omega)) ?_
      refine Run.mv rfl rfl rfl rfl ?_
      refine Run.nil ?_
      refine thn_next ⟨i + 1, hip, by omega, ⟨rfl, rfl, trivial⟩, ent.refl _⟩
    · refine WP.exit ?_; refine thn_exit ?_; refine thn_exit ?_; refine blk_hit ?_
      refine thn_next ⟨(), trivial, ⟨rfl, trivial⟩, pick_only [0, 0, 0] _⟩
  rintro _ _
  refine WP.seqMeet (α := Unit) (fun _ => True) (fun _ => []) (fun _ => []) ?_ ?_
  · refine WP.seq ?_
    refine WP.plain cf0 rfl ?_
    refine Run.mv rfl rfl rfl rfl ?_
    refine Run.nil ?_
    refine thn_next ?_
    refine WP.block ?_
    refine WP.loop (α := Nat × List (SV × List Bool)) (fun z => z.1 ≤ 2 ∧ z.2.map Prod.fst = p.map Prod.fst ∧ ∀ sv xs, (sv, xs) ∈ z.2 → xs.length ≤ 1000000) (fun z => [(0, .pointer (some ⟨kb, 0, none⟩)), (4, .int .i64 (z.1 : Int))]) (fun z => [keepB kb false ls ws ms bs bw, slA 26 Enc.slice bs.val (p.map Prod.fst), rows 4 Enc.bool z.2]) (fun z => 2 - z.1)
      (0, p) ⟨by simp, rfl, hln⟩ ⟨rfl, rfl, trivial⟩ (ent.refl _) ?_
    rintro ⟨t, p1⟩ ⟨ht, hf, hln1⟩
    simp only at ht hf hln1 ⊢
    have hfm : (p.map Prod.fst).length = p.length := by simp
    refine WP.seq ?_
    refine WP.seq ?_
    refine WP.plain cf0 rfl ?_
    refine Run.mv rfl rfl rfl rfl ?_
    refine Run.int2 rfl rfl rfl rfl rfl rfl ?_
    refine Run.nil ?_
    refine thn_next ?_
    refine WP.ite rfl (fun hlt => ?_) (fun hge => ?_)
    · refine WP.skip ?_; refine thn_next ?_
      refine WP.seqMeet (α := List (SV × List Bool)) (fun p2 => p2.map Prod.fst = p.map Prod.fst ∧ ∀ sv xs, (sv, xs) ∈ p2 → xs.length ≤ 1000000) (fun _ => [(0, .pointer (some ⟨kb, 0, none⟩)), (4, .int .i64 (t : Int))]) (fun p2 => [keepB kb false ls ws ms bs bw, slA 26 Enc.slice bs.val (p.map Prod.fst), rows 4 Enc.bool p2]) ?_ ?_
      · refine WP.block ?_
        -- written full
        refine WP.seqMeet (α := List (SV × List Bool)) (fun p2 => p2.map Prod.fst = p.map Prod.fst ∧ ∀ (k : Nat) sv xs, p2[k]? = some (sv, xs) → xs.length ≤ 1000000 ∧ xs = List.replicate xs.length (cT t k)) (fun _ => [(0, .pointer (some ⟨kb, 0, none⟩)), (4, .int .i64 (t : Int))]) (fun p2 => [keepB kb false ls ws ms bs bw, slA 26 Enc.slice bs.val (p.map Prod.fst), rows 4 Enc.bool p2]) ?_ ?_
        · refine WP.seq ?_
          refine WP.plain cf0 rfl ?_
          refine Run.mv rfl rfl rfl rfl ?_
          refine Run.nil ?_
          refine thn_next ?_
          refine WP.block ?_
          refine WP.loop (α := Nat × List (SV × List Bool)) (fun z => z.1 ≤ p.length ∧ z.2.map Prod.fst = p.map Prod.fst ∧ ∀ (k : Nat) sv xs, z.2[k]? = some (sv, xs) → xs.length ≤ 1000000 ∧ (k < z.1 → xs = List.replicate xs.length (cT t k))) (fun z => [(0, .pointer (some ⟨kb, 0, none⟩)), (4, .int .i64 (t : Int)), (5, .int .i64 (z.1 : Int))])
            (fun z => [keepB kb false ls ws ms bs bw, slA 26 Enc.slice bs.val (p.map Prod.fst), rows 4 Enc.bool z.2]) (fun z => p.length - z.1) (0, p1) ⟨Nat.zero_le _, hf, fun k sv xs h => ⟨hln1 sv xs (List.mem_of_getElem? h), fun h => by simp at h⟩⟩ ⟨rfl, rfl, rfl, trivial⟩ (ent.refl _) ?_
          rintro ⟨i, p2⟩ ⟨hi, hf2, hk2⟩
          simp only at hi hf2 hk2 ⊢
          have hp2l : p2.length = p.length := by have := congrArg List.length hf2; simpa using this
          refine WP.seq ?_
          refine WP.seq ?_
          refine WP.plain cf0 rfl ?_
          refine Run.mv rfl rfl rfl rfl ?_
          refine Run.mv rfl rfl rfl rfl ?_
          refine Run.nilCheck rfl rfl rfl rfl ?_
          refine Run.fieldAddr rfl rfl fo_43_4 rfl rfl ?_
          refine Run.loadB 0 rfl rfl ag_41 rfl rfl rfl rfl rfl ?_
          refine Run.lenO 1 rfl rfl sl_41 rfl rfl rfl ?_
          refine Run.int2 rfl rfl rfl rfl rfl rfl ?_
          refine Run.nil ?_
          refine thn_next ?_
          refine WP.ite rfl (fun hlt2 => ?_) (fun hge2 => ?_)
          · refine WP.skip ?_; refine thn_next ?_
            have hip : i < p.length := by omega
            obtain ⟨⟨sv, xs⟩, gp⟩ : ∃ x, p2[i]? = some x := ⟨_, List.getElem?_eq_getElem (by omega)⟩
            have gpf : (p.map Prod.fst)[i]? = some sv := by rw [← hf2]; simp [gp]
            obtain ⟨hxl, _⟩ := hk2 i sv xs gp
            refine WP.seqMeet (α := List Bool) (fun ys => ys = List.replicate xs.length (cT t i)) (fun _ => [(0, .pointer (some ⟨kb, 0, none⟩)), (4, .int .i64 (t : Int)), (5, .int .i64 (i : Int))]) (fun ys => [keepB kb false ls ws ms bs bw, slA 26 Enc.slice bs.val (p.map Prod.fst), slA 4 Enc.bool sv.val ys, rowsBut 4 Enc.bool i p2]) ?_ ?_
            · refine WP.block ?_
              refine WP.via (ent.app (ent.refl [keepB kb false ls ws ms bs bw, slA 26 Enc.slice bs.val (p.map Prod.fst)]) (rows_out gp [])) ?_
              refine WP.seq ?_
              refine WP.plain cf0 rfl ?_
              refine Run.mv rfl rfl rfl rfl ?_
              refine Run.nil ?_
              refine thn_next ?_
              refine WP.block ?_
              refine WP.loop (α := Nat × List Bool) (fun z => z.1 ≤ xs.length ∧ z.2.length = xs.length ∧ ∀ k, k < z.1 → z.2[k]? = some (cT t i)) (fun z => [(0, .pointer (some ⟨kb, 0, none⟩)), (4, .int .i64 (t : Int)), (5, .int .i64 (i : Int)), (6, .int .i64 (z.1 : Int))])
                (fun z => [keepB kb false ls ws ms bs bw, slA 26 Enc.slice bs.val (p.map Prod.fst), slA 4 Enc.bool sv.val z.2, rowsBut 4 Enc.bool i p2]) (fun z => xs.length - z.1) (0, xs) ⟨Nat.zero_le _, rfl, fun k h => by simp at h⟩ ⟨rfl, rfl, rfl, rfl, trivial⟩ (ent.refl _) ?_
              rintro ⟨j, ys⟩ ⟨hj, hyl, hyk⟩
              simp only at hj hyl hyk ⊢
              refine WP.seq ?_
              refine WP.seq ?_
              refine WP.plain cf0 rfl ?_
              refine Run.mv rfl rfl rfl rfl ?_
              refine Run.mv rfl rfl rfl rfl ?_
              refine Run.nilCheck rfl rfl rfl rfl ?_
              refine Run.fieldAddr rfl rfl fo_43_4 rfl rfl ?_
              refine Run.loadB 0 rfl rfl ag_41 rfl rfl rfl rfl rfl ?_
              refine Run.mv rfl rfl rfl rfl ?_
              refine Run.idxO 1 rfl rfl rfl sl_41 rfl rfl rfl rfl (by omega) (by omega) ?_
              refine Run.loadO 1 i 0 rfl rfl ag_26 rfl rfl rfl rfl gpf rfl ?_
              refine Run.lenO 2 rfl rfl sl_26 rfl rfl rfl ?_
              refine Run.int2 rfl rfl rfl rfl rfl rfl ?_
              refine Run.nil ?_
              refine thn_next ?_
              refine WP.ite rfl (fun hlt3 => ?_) (fun hge3 => ?_)
              · refine WP.skip ?_; refine thn_next ?_
                have hjy : j < ys.length := by omega
                obtain ⟨y, gy⟩ : ∃ x, ys[j]? = some x := ⟨_, List.getElem?_eq_getElem hjy⟩
                refine WP.seq ?_
                refine WP.block ?_
                refine WP.plain cf0 rfl ?_
                refine Run.mv rfl rfl rfl rfl ?_
                refine Run.nilCheck rfl rfl rfl rfl ?_
                refine Run.fieldAddr rfl rfl fo_43_4 rfl rfl ?_
                refine Run.loadB 0 rfl rfl ag_41 rfl rfl rfl rfl rfl ?_
                refine Run.mv rfl rfl rfl rfl ?_
                refine Run.idxO 1 rfl rfl rfl sl_41 rfl rfl rfl rfl (by omega) (by omega) ?_
                refine Run.loadO 1 i 0 rfl rfl ag_26 rfl rfl rfl rfl gpf rfl ?_
                refine Run.mv rfl rfl rfl rfl ?_
                refine Run.mv rfl rfl rfl rfl ?_
                refine Run.int2 rfl rfl rfl rfl rfl rfl ?_
                refine Run.mv rfl rfl rfl rfl ?_
                refine Run.int2 rfl rfl rfl rfl rfl rfl ?_
                refine Run.idxO 2 rfl rfl rfl sl_26 rfl rfl rfl rfl (by omega) (by omega) ?_
                refine Run.storeO 2 j 0 (y' := cT t i) rfl rfl rfl rfl ag_4 rfl rfl rfl rfl gy rfl rfl ?_
                refine Run.nil ?_
                refine blk_norm ?_; refine thn_next ?_
                refine WP.plain cf0 rfl ?_
                refine Run.mv rfl rfl rfl rfl ?_
                refine Run.add64 rfl rfl rfl rfl rfl (by first | omega | (simp <;> omega)) (by first | omega | (simp <;> omega)) ?_
                refine Run.mv rfl rfl rfl rfl ?_
                refine Run.nil ?_
                refine thn_next ⟨(j + 1, ys.set j (cT t i)), ⟨by simp only; omega, by simp [hyl], fun k hk => ?_⟩, by simp only; omega, ⟨rfl, rfl, rfl, rfl, trivial⟩, ent.refl _⟩
                by_cases e : k = j
                · subst e; rw [List.getElem?_set_self hjy]
                · rw [List.getElem?_set_ne (Ne.symm e)]; exact hyk k (by simp only at hk; omega)
              · refine WP.exit ?_; refine thn_exit ?_; refine thn_exit ?_; refine blk_hit ?_; refine blk_norm ?_
                refine thn_next ⟨ys, ?_, ⟨rfl, rfl, rfl, trivial⟩, ent.refl _⟩
                refine List.eq_replicate_iff.2 ⟨hyl, fun x hx => ?_⟩
                obtain ⟨j2, hj2⟩ := List.getElem?_of_mem hx
                have := hyk j2 (by have := (List.getElem?_eq_some_iff.1 hj2).1; omega)
                rw [hj2] at this; cases this; rfl
            rintro _ rfl
            refine WP.plain cf0 rfl ?_
            refine Run.mv rfl rfl rfl rfl ?_
            refine Run.add64 rfl rfl rfl rfl rfl (by first | omega | (simp <;> omega)) (by first | omega | (simp <;> omega)) ?_
            refine Run.mv rfl rfl rfl rfl ?_
            refine Run.nil ?_
            refine thn_next ⟨(i + 1, p2.set i (sv, List.replicate xs.length (cT t i))), ⟨hip, ?_, fun k sv' xs' h => ?_⟩, by simp only; omega, ⟨rfl, rfl, rfl, trivial⟩, ?_⟩
            · simp only [List.map_set, hf2]
              apply List.ext_getElem?
              intro k
              by_cases e : i = k
              · subst e; rw [List.getElem?_set_self (by omega), gpf]
              · rw [List.getElem?_set_ne e]
            · by_cases e : i = k
              · subst e
                rw [List.getElem?_set_self (by omega)] at h; cases h
                exact ⟨by simpa using hxl, fun _ => by simp⟩
              · rw [List.getElem?_set_ne e] at h
                obtain ⟨q1, q2⟩ := hk2 k sv' xs' h
                exact ⟨q1, fun hk2 => q2 (by simp only at hk2; omega)⟩
            · exact (pick_only [2, 2, 0, 0] _).trans ((rows_in (by omega) _).trans (pick_only [1, 1, 0] _))
          · refine WP.exit ?_; refine thn_exit ?_; refine thn_exit ?_; refine blk_hit ?_
            refine thn_next ⟨p2, ⟨hf2, fun k sv xs h => ?_⟩, ⟨rfl, rfl, trivial⟩, ent.refl _⟩
            obtain ⟨q1, q2⟩ := hk2 k sv xs h
            exact ⟨q1, q2 (by have := (List.getElem?_eq_some_iff.1 h).1; omega)⟩
        rintro p2 ⟨hf2, hk2⟩
        have hp2l : p2.length = p.length := by have := congrArg List.length hf2; simpa using this
        refine WP.know (rows_know 2 rfl) fun hkn2 => ?_
        refine WP.seq ?_
        refine WP.plain cf0 rfl ?_
        refine Run.mv rfl rfl rfl rfl ?_
        refine Run.nil ?_
        refine thn_next ?_
        -- grown
        refine WP.seqMeet (α := List (SV × List Bool) × List (SV × List Bool) × SV × List SV) (fun z => Firsts t p.length p2 z.1 ∧ Fars t (z.1 ++ z.2.1) z.2.2.2 ∧ z.2.2.2.length = 16 * p.length) (fun z => [(0, .pointer (some ⟨kb, 0, none⟩)), (4, .int .i64 (t : Int)), (7, z.2.2.1.val)])
          (fun z => [keepB kb false ls ws ms bs bw, slA 26 Enc.slice bs.val (p.map Prod.fst), rows 4 Enc.bool z.1, rows 4 Enc.bool z.2.1, slA 26 Enc.slice z.2.2.1.val z.2.2.2]) ?_ ?_
        · refine WP.seq ?_
          refine WP.plain cf0 rfl ?_
          refine Run.mv rfl rfl rfl rfl ?_
          refine Run.nil ?_
          refine thn_next ?_
          refine WP.block ?_
          refine WP.loop (α := Nat × List (SV × List Bool) × List (SV × List Bool) × SV × List SV) (fun z => z.1 ≤ p.length ∧ Firsts t z.1 p2 z.2.1 ∧ Fars t (z.2.1.take z.1 ++ z.2.2.1) z.2.2.2.2 ∧ z.2.2.2.2.length = 16 * z.1) (fun z => [(0, .pointer (some ⟨kb, 0, none⟩)), (4, .int .i64 (t : Int)), (7, z.2.2.2.1.val), (8, .int .i64 (z.1 : Int))])
            (fun z => [keepB kb false ls ws ms bs bw, slA 26 Enc.slice bs.val (p.map Prod.fst), rows 4 Enc.bool z.2.1, rows 4 Enc.bool z.2.2.1, slA 26 Enc.slice z.2.2.2.1.val z.2.2.2.2]) (fun z => p.length - z.1) (0, p2, [], ⟨none, 0, 0⟩, [])
            ⟨Nat.zero_le _, ⟨rfl, fun k sv ys g xs h1 h2 => by rw [h1] at h2; cases h2; exact ⟨rfl, rfl, Nat.le_refl _⟩, fun _ _ => rfl⟩, fun j v h => by simp at h, rfl⟩ ⟨rfl, rfl, rfl, rfl, trivial⟩ ((slA_nil 26 Enc.slice _).trans ((rows_new _).trans (pick_only [1, 1, 1, 0, 0] _))) ?_
          rintro ⟨i, P1, R, far, V⟩ ⟨hi, hF, hFar, hVl⟩
          simp only at hi hF hFar hVl ⊢
          have hP1l := hF.len
          refine WP.seq ?_
          refine WP.seq ?_
          refine WP.plain cf0 rfl ?_
          refine Run.mv rfl rfl rfl rfl ?_
          refine Run.mv rfl rfl rfl rfl ?_
          refine Run.nilCheck rfl rfl rfl rfl ?_
          refine Run.fieldAddr rfl rfl fo_43_4 rfl rfl ?_
          refine Run.loadB 0 rfl rfl ag_41 rfl rfl rfl rfl rfl ?_
          refine Run.lenO 1 rfl rfl sl_41 rfl rfl rfl ?_
          refine Run.int2 rfl rfl rfl rfl rfl rfl ?_
          refine Run.nil ?_
          refine thn_next ?_
          refine WP.ite rfl (fun hlt2 => ?_) (fun hge2 => ?_)
          · refine WP.skip ?_; refine thn_next ?_
            have hip : i < p.length := by omega
            obtain ⟨⟨sv, xs⟩, gp⟩ : ∃ x, p2[i]? = some x := ⟨_, List.getElem?_eq_getElem (by omega)⟩
            have gpf : (p.map Prod.fst)[i]? = some sv := by rw [← hf2]; simp [gp]
            obtain ⟨hxl, hxe⟩ := hk2 i sv xs gp
            have gP1 : P1[i]? = some (sv, xs) := by rw [hF.same i (Nat.le_refl _), gp]
            refine WP.seqMeet (α := List (SV × List Bool) × SV × List SV × (SV × List Bool) × List (SV × List Bool)) (fun z => z.1 = z.2.2.2.1 :: z.2.2.2.2 ∧ z.2.2.2.1.1.a = sv.a ∧ z.2.2.2.1.1.c = sv.c ∧ xs.length ≤ z.2.2.2.1.2.length ∧ Fars t ((P1.take i ++ R) ++ z.1) z.2.2.1 ∧ z.2.2.1.length = 16 * (i + 1))
              (fun z => [(0, .pointer (some ⟨kb, 0, none⟩)), (4, .int .i64 (t : Int)), (7, z.2.1.val), (8, .int .i64 (i : Int))])
              (fun z => [keepB kb false ls ws ms bs bw, slA 26 Enc.slice bs.val (p.map Prod.fst), rowsBut 4 Enc.bool i P1, rows 4 Enc.bool R, slA 26 Enc.slice z.2.1.val z.2.2.1, rows 4 Enc.bool z.1]) ?_ ?_
            · refine WP.block ?_
              refine WP.seq ?_
              refine WP.plain cf0 rfl ?_
              refine Run.mv rfl rfl rfl rfl ?_
              refine Run.nilCheck rfl rfl rfl rfl ?_
              refine Run.fieldAddr rfl rfl fo_43_4 rfl rfl ?_
              refine Run.loadB 0 rfl rfl ag_41 rfl rfl rfl rfl rfl ?_
              refine Run.mv rfl rfl rfl rfl ?_
              refine Run.idxO 1 rfl rfl rfl sl_41 rfl rfl rfl rfl (by omega) (by omega) ?_
              refine Run.loadO 1 i 0 rfl rfl ag_26 rfl rfl rfl rfl gpf rfl ?_
              refine Run.mv rfl rfl rfl rfl ?_
              refine Run.nil ?_
              refine thn_next ?_
              refine WP.seq ?_
              refine WP.plain cf0 rfl ?_
              refine Run.mv rfl rfl rfl rfl ?_
              refine Run.nil ?_
              refine thn_next ?_
              refine WP.block ?_
              refine WP.loop (α := Nat × SV × List (SV × List Bool) × SV × List SV × (SV × List Bool) × List (SV × List Bool)) (fun z => z.1 ≤ 16 ∧ z.2.2.1 ++ [(z.2.1, List.replicate (xs.length + z.1) (cT t i))] = z.2.2.2.2.2.1 :: z.2.2.2.2.2.2 ∧ z.2.2.2.2.2.1.1.a = sv.a ∧ z.2.2.2.2.2.1.1.c = sv.c ∧ xs.length ≤ z.2.2.2.2.2.1.2.length ∧ Fars t ((P1.take i ++ R) ++ (z.2.2.1 ++ [(z.2.1, List.replicate (xs.length + z.1) (cT t i))])) z.2.2.2.2.1 ∧ z.2.2.2.2.1.length = 16 * i + z.1)
                (fun z => [(0, .pointer (some ⟨kb, 0, none⟩)), (4, .int .i64 (t : Int)), (7, z.2.2.2.1.val), (8, .int .i64 (i : Int)), (9, z.2.1.val), (10, .int .i64 (z.1 : Int))])
                (fun z => [keepB kb false ls ws ms bs bw, slA 26 Enc.slice bs.val (p.map Prod.fst), rowsBut 4 Enc.bool i P1, rows 4 Enc.bool R, slA 26 Enc.slice z.2.2.2.1.val z.2.2.2.2.1, rows 4 Enc.bool z.2.2.1, slA 4 Enc.bool z.2.1.val (List.replicate (xs.length + z.1) (cT t i))]) (fun z => 16 - z.1)
                (0, sv, [], far, V, (sv, xs), []) ⟨by simp, by simp [← hxe], rfl, rfl, Nat.le_refl _, hFar.mono fun c v hp => hp.mono fun q hq => by simp at hq ⊢; rcases hq with h | h <;> simp [h], hVl⟩ ⟨rfl, rfl, rfl, rfl, rfl, rfl, trivial⟩ ?_ ?_
              · simp only [Nat.add_zero]
                rw [← hxe]
                exact (pick_only [2, 0, 0, 0, 0] _).trans ((rows_out gP1 _).trans ((rows_new _).trans (pick_only [3, 3, 2, 2, 2, 0, 0] _)))
              rintro ⟨j, l, G, far2, V2, g0, rest⟩ ⟨hj, hG, hga, hgc, hgl, hFar2, hVl2⟩
              simp only at hj hG hga hgc hgl hFar2 hVl2 ⊢
              have hrep : (List.replicate (xs.length + j) (cT t i)).length = xs.length + j := by simp
              refine WP.seq ?_
              refine WP.seq ?_
              refine WP.plain cf0 rfl ?_
              refine Run.mv rfl rfl rfl rfl ?_
              refine Run.int2 rfl rfl rfl rfl rfl rfl ?_
              refine Run.nil ?_
              refine thn_next ?_
              refine WP.ite rfl (fun hlt3 => ?_) (fun hge3 => ?_)
              · refine WP.skip ?_; refine thn_next ?_
                refine WP.seq ?_
                refine WP.block ?_
                refine WP.seq ?_
                refine WP.plain cf0 rfl ?_
                refine Run.mv rfl rfl rfl rfl ?_
                refine Run.mv rfl rfl rfl rfl ?_
                refine Run.int2 rfl rfl rfl rfl rfl rfl ?_
                refine Run.mv rfl rfl rfl rfl ?_
                refine Run.int2 rfl rfl rfl rfl rfl rfl ?_
                refine Run.buildSlice (E := Enc.bool) rfl sl_26 zr_4 ([cT t i]) rfl rfl rfl (by decide) rfl rfl ?_
                intro b101
                refine Run.appendG 6 5 rfl rfl rfl rfl rfl rfl sl_26 zr_4 rfl rfl (by decide) (src_own 7 rfl) (by simp <;> omega) (by simp <;> omega) ?_; intro sv102 G2 hv102 hG2
                refine Run.mv rfl rfl rfl rfl ?_
                refine Run.nil ?_
                refine thn_next ?_
                have hre : List.replicate (xs.length + j) (cT t i) ++ [cT t i] = List.replicate (xs.length + (j + 1)) (cT t i) := by rw [← Nat.add_assoc, List.replicate_succ']
                have hfn2 : sv102.n = xs.length + (j + 1) := by rw [hv102]; simp; omega
                have hgr : ∀ c v, Pre ((P1.take i ++ R) ++ (G ++ [(l, List.replicate (xs.length + j) (cT t i))])) c v → Pre ((P1.take i ++ R) ++ (G2 ++ [(sv102, List.replicate (xs.length + (j + 1)) (cT t i))])) c v := fun c v hp => by
                  rw [← hre, ← List.append_assoc]
                  rw [← List.append_assoc] at hp
                  refine hp.grow (hG2.imp (fun ⟨h1, h2⟩ => ⟨by rw [h1], h2⟩) fun h1 => by rw [h1]; simp [List.append_assoc])
                have hFar3 := hFar2.mono hgr
                have hFar4 := hFar3.snoc hVl2 (by omega) (v := sv102) (Pre.top hfn2 (by simp)) (by omega)
                obtain ⟨g1, rest1, hG3, hg1a, hg1c, hg1l⟩ : ∃ g1 rest1, G2 ++ [(sv102, List.replicate (xs.length + (j + 1)) (cT t i))] = g1 :: rest1 ∧ g1.1.a = sv.a ∧ g1.1.c = sv.c ∧ xs.length ≤ g1.2.length := by
                  rcases hG2 with ⟨rfl, h2, h3⟩ | rfl
                  · cases G2 with
                    | nil =>
                      simp at hG
                      obtain ⟨rfl, rfl⟩ := hG
                      exact ⟨_, _, rfl, by rw [h2]; exact hga, by rw [h3]; exact hgc, by simp⟩
                    | cons x G2 =>
                      simp at hG
                      obtain ⟨rfl, _⟩ := hG
                      exact ⟨_, _, rfl, hga, hgc, hgl⟩
                  · rw [hG]; exact ⟨g0, _, rfl, hga, hgc, hgl⟩
                refine WP.plain cf0 rfl ?_
                refine Run.mv rfl rfl rfl rfl ?_
                refine Run.mv rfl rfl rfl rfl ?_
                refine Run.buildSlice (E := Enc.slice) rfl sl_41 zr_26 ([sv102]) rfl rfl rfl (by decide) rfl rfl ?_
                intro b105
                refine Run.append 4 rfl rfl rfl rfl rfl rfl sl_41 zr_26 rfl (src_own 8 rfl) (by first | omega | (simp <;> omega)) (by first | omega | (simp <;> omega)) ?_
                intro sv106 hv106
                refine Run.mv rfl rfl rfl rfl ?_
                refine Run.nil ?_
                refine blk_norm ?_; refine thn_next ?_
                refine WP.plain cf0 rfl ?_
                refine Run.mv rfl rfl rfl rfl ?_
                refine Run.add64 rfl rfl rfl rfl rfl (by first | omega | (simp <;> omega)) (by first | omega | (simp <;> omega)) ?_
                refine Run.mv rfl rfl rfl rfl ?_
                refine Run.nil ?_
                refine thn_next ⟨(j + 1, sv102, G2, sv106, V2 ++ [sv102], g1, rest1), ⟨by simp only; omega, hG3, hg1a, hg1c, hg1l, hFar4, by simp; omega⟩, by simp only; omega, ⟨rfl, rfl, rfl, rfl, rfl, rfl, trivial⟩, ?_⟩
                simp only [← hre]
                exact pick_only [0, 0, 0, 0, 0, 0, 0] _
              · have e16 : j = 16 := by omega
                subst e16
                refine WP.via (Γ' := [keepB kb false ls ws ms bs bw, slA 26 Enc.slice bs.val (p.map Prod.fst), rowsBut 4 Enc.bool i P1, rows 4 Enc.bool R, slA 26 Enc.slice far2.val V2, rows 4 Enc.bool (G ++ [(l, List.replicate (xs.length + 16) (cT t i))])]) ((pick_only [5, 5, 0, 0, 0, 0, 0] _).trans ((rows_snoc _).trans (pick_only [1, 1, 1, 1, 1, 0] _))) ?_
                refine WP.exit ?_; refine thn_exit ?_; refine thn_exit ?_; refine blk_hit ?_; refine blk_norm ?_
                exact thn_next ⟨(G ++ [(l, List.replicate (xs.length + 16) (cT t i))], far2, V2, g0, rest), ⟨hG, hga, hgc, hgl, hFar2, by simp only; omega⟩, ⟨rfl, rfl, rfl, rfl, trivial⟩, ent.refl _⟩
            rintro ⟨Gz, far2, V2, ⟨g0, x0⟩, rest⟩ ⟨hGz, hga, hgc, hgl, hFar2, hVl2⟩
            simp only at hGz hga hgc hgl hFar2 hVl2 ⊢
            subst hGz
            refine WP.plain cf0 rfl ?_
            refine Run.mv rfl rfl rfl rfl ?_
            refine Run.add64 rfl rfl rfl rfl rfl (by first | omega | (simp <;> omega)) (by first | omega | (simp <;> omega)) ?_
            refine Run.mv rfl rfl rfl rfl ?_
            refine Run.nil ?_
            refine thn_next ⟨(i + 1, P1.set i (g0, x0), R ++ rest, far2, V2), ⟨hip, ⟨by simp [hP1l], fun k sv' ys' g xs' h1 h2 => ?_, fun k hk => ?_⟩, hFar2.mono fun c v hp => hp.mono fun q hq => ?_, hVl2⟩, by simp only; omega, ⟨rfl, rfl, rfl, rfl, trivial⟩, ?_⟩
            · by_cases e : i = k
              · subst e
                rw [List.getElem?_set_self (by omega)] at h2; cases h2
                rw [gp] at h1; cases h1
                exact ⟨hga, hgc, hgl⟩
              · rw [List.getElem?_set_ne e] at h2
                exact hF.first k sv' ys' g xs' h1 h2
            · rw [List.getElem?_set_ne (by simp only at hk; omega)]
              exact hF.same k (by simp only at hk; omega)
            · have ht1 : (P1.set i (g0, x0)).take (i + 1) = P1.take i ++ [(g0, x0)] := by
                rw [take_snoc (List.getElem?_set_self (by omega))]
                congr 1
                rw [List.take_set_of_le (Nat.le_refl _)]
              simp only [ht1]
              simp at hq ⊢
              rcases hq with h | h | h | h <;> simp [h]
            · exact (ent.app (ent.refl [keepB kb false ls ws ms bs bw, slA 26 Enc.slice bs.val (p.map Prod.fst), rowsBut 4 Enc.bool i P1, rows 4 Enc.bool R, slA 26 Enc.slice far2.val V2]) (rows_first rest [])).trans ((pick_only [5, 2, 0, 0, 0, 0, 0] _).trans ((rows_in (by omega) _).trans ((pick_only [3, 4, 0, 0, 0, 0] _).trans ((rows_append _ _ _).trans (pick_only [2, 2, 1, 0, 0] _)))))
          · refine WP.exit ?_; refine thn_exit ?_; refine thn_exit ?_; refine blk_hit ?_
            have hie : i = p.length := by omega
            subst hie
            refine thn_next ⟨(P1, R, far, V), ⟨hF, ?_, hVl⟩, ⟨rfl, rfl, rfl, trivial⟩, ent.refl _⟩
            rw [List.take_of_length_le (by omega)] at hFar; exact hFar
        rintro ⟨P1, R, far, V⟩ ⟨hF, hFar, hVl⟩
        simp only at hF hFar hVl ⊢
        have hP1l := hF.len
        obtain ⟨p3, hp3⟩ : ∃ p3 : List (SV × List Bool), p3 = (p2.zip P1).map fun z => (z.1.1, z.2.2.take z.1.1.n) := ⟨_, rfl⟩
        have hp3l : p3.length = P1.length := by rw [hp3]; simp; omega
        have hp3k : ∀ (k : Nat) (sv : SV) (ys : List Bool) (g : SV) (xs : List Bool), p2[k]? = some (sv, ys) → P1[k]? = some (g, xs) → p3[k]? = some (sv, xs.take sv.n) := fun k sv ys g xs h1 h2 => by
          have h3 : (p2.zip P1)[k]? = some ((sv, ys), (g, xs)) := List.getElem?_zip_eq_some.2 ⟨h1, h2⟩
          rw [hp3, List.getElem?_map, h3]; rfl
        refine WP.via (Γ' := [] ++ [keepB kb false ls ws ms bs bw, slA 26 Enc.slice bs.val (p.map Prod.fst), rows 4 Enc.bool P1, rows 4 Enc.bool R, slA 26 Enc.slice far.val V]) (ent.refl _) ?_
        refine WP.freeze (Γ := []) [keepB kb false ls ws ms bs bw, slA 26 Enc.slice bs.val (p.map Prod.fst), rows 4 Enc.bool P1, rows 4 Enc.bool R, slA 26 Enc.slice far.val V] fun g hg hd => ?_
        have rF : SlR Enc.slice.rd (un hR g) far.val V := lent_at 4 rfl hg hd
        have rG : ∀ c v, Pre (P1 ++ R) c v → SlR Enc.bool.rd (un hR g) v.val (List.replicate v.n c) := fun c v hp => by
          rcases hp.split with hp | hp
          · obtain ⟨h1, q1, q2⟩ := lent_sub 2 rfl hg hd
            exact (hp.read q1).mono q2
          · obtain ⟨h1, q1, q2⟩ := lent_sub 3 rfl hg hd
            exact (hp.read q1).mono q2
        generalize un hR g = hS at rF rG
        refine WP.seq ?_
        refine WP.plain cf0 rfl ?_
        refine Run.mv rfl rfl rfl rfl ?_
        refine Run.nil ?_
        refine thn_next ?_
        refine WP.block ?_
        refine WP.loop (α := Nat) (fun k => k ≤ V.length) (fun k => [(0, .pointer (some ⟨kb, 0, none⟩)), (4, .int .i64 (t : Int)), (7, far.val), (11, .int .i64 (k : Int))]) (fun _ => []) (fun k => V.length - k) 0 (Nat.zero_le _) ⟨rfl, rfl, rfl, rfl, trivial⟩ (ent.refl _) ?_
        intro k hkV
        refine WP.seq ?_
        refine WP.seq ?_
        refine WP.plain cf0 rfl ?_
        refine Run.mv rfl rfl rfl rfl ?_
        refine Run.mv rfl rfl rfl rfl ?_
        refine Run.lenR rfl rfl sl_41 rfl rfl rF ?_
        refine Run.int2 rfl rfl rfl rfl rfl rfl ?_
        refine Run.nil ?_
        refine thn_next ?_
        refine WP.ite rfl (fun hlt2 => ?_) (fun hge2 => ?_)
        · refine WP.skip ?_; refine thn_next ?_
          have hkl : k < V.length := by omega
          obtain ⟨v, gv⟩ : ∃ x, V[(k : Int).toNat]? = some x := ⟨_, List.getElem?_eq_getElem (by omega)⟩
          obtain ⟨hpre, hvn⟩ := hFar k v gv
          have rv := rG _ _ hpre
          refine WP.seqMeet (α := Unit) (fun _ => True) (fun _ => [(0, .pointer (some ⟨kb, 0, none⟩)), (4, .int .i64 (t : Int)), (7, far.val), (11, .int .i64 (k : Int))]) (fun _ => []) ?_ ?_
          · refine WP.block ?_
            refine WP.seq ?_
            refine WP.plain cf0 rfl ?_
            refine Run.mv rfl rfl rfl rfl ?_
            refine Run.nil ?_
            refine thn_next ?_
            refine WP.block ?_
            refine WP.loop (α := Nat) (fun j => j ≤ v.n) (fun j => [(0, .pointer (some ⟨kb, 0, none⟩)), (4, .int .i64 (t : Int)), (7, far.val), (11, .int .i64 (k : Int)), (12, .int .i64 (j : Int))]) (fun _ => []) (fun j => v.n - j) 0 (Nat.zero_le _) ⟨rfl, rfl, rfl, rfl, rfl, trivial⟩ (ent.refl _) ?_
            intro j hj
            have hrl : (List.replicate v.n (cT t (k / 16))).length = v.n := by simp
            refine WP.seq ?_
            refine WP.seq ?_
            refine WP.plain cf0 rfl ?_
            refine Run.mv rfl rfl rfl rfl ?_
            refine Run.mv rfl rfl rfl rfl ?_
            refine Run.mv rfl rfl rfl rfl ?_
            refine Run.idxR rfl rfl rfl sl_41 rfl rfl rF (by rfl) (by omega) (by omega) ?_
            refine Run.loadR rfl rfl ag_26 rfl rfl (SlR.cell0 rF gv rfl) ?_
            refine Run.lenR rfl rfl sl_26 rfl rfl rv ?_
            refine Run.int2 rfl rfl rfl rfl rfl rfl ?_
            refine Run.nil ?_
            refine thn_next ?_
            refine WP.ite rfl (fun hlt3 => ?_) (fun hge3 => ?_)
            · refine WP.skip ?_; refine thn_next ?_
              have hjn : j < v.n := by rw [hrl] at hlt3; omega
              have gj : (List.replicate v.n (cT t (k / 16)))[(j : Int).toNat]? = some (cT t (k / 16)) := by
                show (List.replicate v.n (cT t (k / 16)))[j]? = _
                rw [List.getElem?_replicate, if_pos hjn]
              refine WP.seq ?_
              refine WP.block ?_
              refine WP.seq ?_
              refine WP.plain cf0 rfl ?_
              refine Run.mv rfl rfl rfl rfl ?_
              refine Run.mv rfl rfl rfl rfl ?_
              refine Run.idxR rfl rfl rfl sl_41 rfl rfl rF (by rfl) (by omega) (by omega) ?_
              refine Run.loadR rfl rfl ag_26 rfl rfl (SlR.cell0 rF gv rfl) ?_
              refine Run.mv rfl rfl rfl rfl ?_
              refine Run.idxR rfl rfl rfl sl_26 rfl rfl rv (by rfl) (by omega) (by omega) ?_
              refine Run.loadR rfl rfl ag_4 rfl rfl (SlR.cell0 rv gj rfl) ?_
              refine Run.mv rfl rfl rfl rfl ?_
              refine Run.int2 rfl rfl rfl rfl rfl rfl ?_; refine Run.eqv (v' := .int .i64 ((k / 16 : Nat) : Int)) (by rw [show (k : Int).tdiv 16 = ((k / 16 : Nat) : Int) from rfl, wrapI (by omega) (by omega)]) ?_
              refine Run.int2 rfl rfl rfl rfl rfl rfl ?_
              refine Run.mv rfl rfl rfl rfl ?_
              refine Run.int2 rfl rfl rfl rfl rfl rfl ?_
              refine Run.neB (a := cT t (k / 16)) (b := cT t (k / 16)) rfl rfl rfl Try.underlying4 rfl rfl ?_; refine Run.eqv (v' := .bool false) (by simp) ?_
              refine Run.nil ?_
              refine thn_next ?_
              refine WP.cond (t := false) rfl (fun h => by cases h) (fun _ => ?_)
              refine WP.skip ?_; refine blk_norm ?_; refine thn_next ?_
              refine WP.plain cf0 rfl ?_
              refine Run.mv rfl rfl rfl rfl ?_
              refine Run.add64 rfl rfl rfl rfl rfl (by first | omega | (simp <;> omega)) (by first | omega | (simp <;> omega)) ?_
              refine Run.mv rfl rfl rfl rfl ?_
              refine Run.nil ?_
              refine thn_next ⟨j + 1, hjn, by omega, ⟨rfl, rfl, rfl, rfl, rfl, trivial⟩, ent.refl _⟩
            · refine WP.exit ?_; refine thn_exit ?_; refine thn_exit ?_; refine blk_hit ?_; refine blk_norm ?_
              refine thn_next ⟨(), trivial, ⟨rfl, rfl, rfl, rfl, trivial⟩, ent.refl _⟩
          rintro _ _
          refine WP.plain cf0 rfl ?_
          refine Run.mv rfl rfl rfl rfl ?_
          refine Run.add64 rfl rfl rfl rfl rfl (by first | omega | (simp <;> omega)) (by first | omega | (simp <;> omega)) ?_
          refine Run.mv rfl rfl rfl rfl ?_
          refine Run.nil ?_
          refine thn_next ⟨k + 1, hkl, by omega, ⟨rfl, rfl, rfl, rfl, trivial⟩, ent.refl _⟩
        · refine WP.exit ?_; refine thn_exit ?_; refine thn_exit ?_; refine blk_hit ?_; refine blk_norm ?_
          refine thn_next ⟨p3, ⟨?_, fun sv xs h => ?_⟩, ⟨rfl, rfl, trivial⟩, ?_⟩
          · rw [← hf2]
            apply List.ext_getElem?
            intro k2
            rw [List.getElem?_map, List.getElem?_map]
            cases h1 : p2[k2]? with
            | none =>
              have : p3[k2]? = none := List.getElem?_eq_none (by have := List.getElem?_eq_none_iff.1 h1; omega)
              rw [this]
            | some q1 =>
              have hl1 := (List.getElem?_eq_some_iff.1 h1).1
              rw [hp3k k2 q1.1 q1.2 _ _ h1 (List.getElem?_eq_getElem (by omega))]; rfl
          · obtain ⟨k2, hk3⟩ := List.getElem?_of_mem h
            have hl1 := (List.getElem?_eq_some_iff.1 hk3).1
            obtain ⟨⟨sv1, ys1⟩, h1⟩ : ∃ x, p2[k2]? = some x := ⟨_, List.getElem?_eq_getElem (by omega)⟩
            rw [hp3k k2 sv1 ys1 _ _ h1 (List.getElem?_eq_getElem (by omega))] at hk3
            cases hk3
            have h2 := hkn2 k2 sv ys1 h1
            have h3 := (hk2 k2 sv ys1 h1).1
            simp; omega
          · refine (pick_only [2, 0, 0] _).trans ((rows_turn hp3l (fun k2 a b h1 h2 => ?_) _).trans (pick_only [1, 1, 0] _))
            have hl1 := (List.getElem?_eq_some_iff.1 h1).1
            obtain ⟨⟨sv1, ys1⟩, h3⟩ : ∃ x, p2[k2]? = some x := ⟨_, List.getElem?_eq_getElem (by omega)⟩
            rw [hp3k k2 sv1 ys1 a.1 a.2 h3 h1] at h2
            cases h2
            obtain ⟨q1, q2, q3⟩ := hF.first k2 sv1 ys1 a.1 a.2 h3 h1
            have h4 := hkn2 k2 sv1 ys1 h3
            exact slA_front q1.symm q2.symm (show sv1.n ≤ a.2.length by omega)
      rintro p2 ⟨hf2, hln2⟩
      refine WP.plain cf0 rfl ?_
      refine Run.mv rfl rfl rfl rfl ?_
      refine Run.add64 rfl rfl rfl rfl rfl (by first | omega | (simp <;> omega)) (by first | omega | (simp <;> omega)) ?_
      refine Run.mv rfl rfl rfl rfl ?_
      refine Run.nil ?_
      refine thn_next ⟨(t + 1, p2), ⟨by simp only; omega, hf2, hln2⟩, by simp only; omega, ⟨rfl, rfl, trivial⟩, ent.refl _⟩
    · refine WP.exit ?_; refine thn_exit ?_; refine thn_exit ?_; refine blk_hit ?_
      refine thn_next ⟨(), trivial, trivial, pick_only [] _⟩
  rintro _ _
  refine WP.seq ?_
  refine WP.plain cf0 rfl ?_
  refine Run.mv rfl rfl rfl rfl ?_
  refine Run.nil ?_
  refine thn_next ?_
  refine WP.ret ?_
  exact retT [2] _ rfl rfl rfl
end Go.Proofs.Ytifpejpeophlbaa
