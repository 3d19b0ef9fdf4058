/- What the laws put in order before they scan it. -/
import Derived.Test.YtengcfamhoppbaaExact
namespace Go.Proofs.Ytengcfamhoppbaa
open Go.Sep
set_option linter.unusedSimpArgs false
set_option linter.unusedVariables false
attribute [local irreducible] blk slA mp mpF

def ltF (a b : Iv) : Prop := a.f < b.f ∨ a.f = b.f ∧ a.r < b.r
def afterF (a b : Iv) : Bool := decide (a.f > b.f ∨ a.f = b.f ∧ a.r > b.r)
theorem afterF_iff (a b : Iv) : afterF a b = true ↔ ltF b a := by simp only [afterF, ltF, decide_eq_true_eq]; omega
theorem ltF_trans (a b c : Iv) (h : ltF a b) (h' : ltF b c) : ltF a c := by unfold ltF at *; omega

structure SortedOk (o : List Iv) : Prop where
  srt : o.Pairwise ltF
  dis : o.Pairwise (fun a b => a.r ≠ b.r)
  ok : ∀ z ∈ o, ¬ bad0 z

theorem SortedOk.nil : SortedOk [] := ⟨.nil, .nil, fun z hz => by cases hz⟩
theorem SortedOk.put {o : List Iv} {x : Iv} (h : SortedOk o) (hb : ¬ bad0 x) (hx : o.any (fun y => decide (y.r = x.r)) = false) : SortedOk (putL afterF o x) := by
  have hne : ∀ y ∈ o, y.r ≠ x.r := fun y hy e => by
    have : o.any (fun y => decide (y.r = x.r)) = true := List.any_eq_true.2 ⟨y, hy, by simpa using e⟩
    rw [hx] at this; cases this
  refine ⟨putL_sorted afterF_iff ltF_trans x o h.srt (fun y hy => by have := hne y hy; unfold ltF; omega), ?_, fun z hz => ?_⟩
  · refine ((putL_perm afterF o x).pairwise_iff (fun h => Ne.symm h)).2 ?_
    exact List.pairwise_cons.2 ⟨fun y hy => Ne.symm (hne y hy), h.dis⟩
  · rcases (putL_mem afterF o x z).1 hz with rfl | hz
    · exact hb
    · exact h.ok z hz

theorem SortedOk.right_go : ∀ (xs pre : List Iv) (p : Option Iv), SortedOk (pre ++ xs) → (∀ q, p = some q → ∃ pre', pre = pre' ++ [q]) → rightGo p pre xs = true
  | [], _, _, _, _ => rfl
  | x :: xs, pre, p, h, hp => by
    simp only [rightGo]
    rw [if_neg (h.ok x (by simp))]
    have h1 := List.pairwise_append.1 h.srt
    have h2 := List.pairwise_append.1 h.dis
    have hpb : ¬ prevBad2 p x = true := by
      cases p with
      | none => simp [prevBad2]
      | some q =>
        obtain ⟨pre', rfl⟩ := hp q rfl
        have := h1.2.2 q (by simp) x (by simp)
        intro e
        have e' : badP2 q x := of_decide_eq_true e
        unfold ltF at this; unfold badP2 at e'; omega
    rw [if_neg hpb, if_neg]
    · exact SortedOk.right_go xs (pre ++ [x]) (some x) (by simpa using h) (fun q hq => by cases hq; exact ⟨pre, rfl⟩)
    · intro e
      obtain ⟨y, hy, he⟩ := List.any_eq_true.1 e
      exact h2.2.2 y hy x (by simp) (by simpa using he)
theorem SortedOk.right {xs : List Iv} (h : SortedOk xs) : rightL xs = true := h.right_go xs [] none (fun q hq => by cases hq)

set_option maxRecDepth 100000 in
theorem sorted_ok (hR : Heap) (v : Value) (xs : List Iv) (hl : SlR encIv.rd hR v xs) :
    Tri Try.prog hR 15 #[v] [] fun u Γ' => ∃ (sv : SV) (o : List Iv), u = sv.val ∧ Γ' = [slA 35 encIv sv.val o] ∧ SortedOk o ∧ o.length ≤ 3000 ∧ ∀ z ∈ o, z ∈ xs := by
  refine Tri.of (args := [v]) Try.func15 rfl Try.ntmps15 (by simp) ?_
  refine WP.seq ?_
  refine WP.plain cf0 rfl ?_
  refine Run.mv rfl rfl rfl rfl ?_
  refine Run.nil ?_
  refine thn_next ?_
  refine WP.seq ?_
  refine WP.plain cf0 rfl ?_
  refine Run.mv rfl rfl rfl rfl ?_
  refine Run.nil ?_
  refine thn_next ?_
  refine WP.seqMeet (α := SV × List Iv) (fun z => SortedOk z.2 ∧ z.2.length ≤ 3000 ∧ ∀ y ∈ z.2, y ∈ xs) (fun z => [(3, z.1.val)]) (fun z => [slA 35 encIv z.1.val z.2]) ?_ ?_
  · refine WP.seq ?_
    refine WP.plain cf0 rfl ?_
    refine Run.mv rfl rfl rfl rfl ?_
    refine Run.nil ?_
    refine thn_next ?_
    refine WP.via (slA_nil 35 encIv _) ?_
    refine WP.block ?_
    refine WP.loop (α := Nat × SV × List Iv) (fun z => z.1 ≤ 3000 ∧ SortedOk z.2.2 ∧ z.2.2.length ≤ z.1 ∧ ∀ y ∈ z.2.2, y ∈ xs)
      (fun z => [(0, v), (3, z.2.1.val), (4, .int .i64 (z.1 : Int))]) (fun z => [slA 35 encIv z.2.1.val z.2.2]) (fun z => 3000 - z.1)
      (0, ⟨none, 0, 0⟩, []) ⟨by omega, SortedOk.nil, by simp, by simp⟩ ?_ ?_ ?_
    · exact ⟨rfl, rfl, rfl, trivial⟩
    · exact pick_only [0] _
    · rintro ⟨i, sv, o⟩ ⟨hi, hso, hol, hox⟩
      simp only at hi hso hol hox ⊢
      refine WP.seq ?_
      refine WP.seqCut [(0, v), (3, sv.val), (4, .int .i64 (i : Int)), (17, .bool (decide ((i : Int) < (xs.length : Int) ∧ (i : Int) < 3000)))] [slA 35 encIv sv.val o] ?_ ?_
      · refine WP.plain cf0 rfl ?_
        all_goals (first | refine Run.mv rfl rfl rfl rfl ?_)
        all_goals (first | refine Run.mv rfl rfl rfl rfl ?_)
        all_goals (first | refine Run.lenR rfl rfl sl_22 rfl rfl (by assumption) ?_)
        all_goals (first | refine Run.int2 rfl rfl rfl rfl rfl rfl ?_)
        all_goals (first | refine Run.tt (by first | assumption | omega) ?_ | refine Run.ff (by first | assumption | omega) ?_ | refine Run.split (fun hc13 => ?_) (fun hc13 => ?_) | refine Run.splitB (fun hc13 => ?_) (fun hc13 => ?_) | skip)
        all_goals (first | refine Run.mv rfl rfl rfl rfl ?_)
        all_goals (first | refine Run.mv rfl rfl rfl rfl ?_ | refine Run.not rfl rfl ?_)
        all_goals (first | refine Run.int2 rfl rfl rfl rfl rfl rfl ?_ | refine Run.not rfl rfl ?_)
        all_goals (first | refine Run.pick rfl rfl rfl rfl rfl ?_)
        all_goals (refine Run.nil ?_)
        all_goals refine thn_next ⟨⟨rfl, rfl, rfl, ?_, trivial⟩, ent.refl _⟩
        all_goals simp [Env.get, *]
      refine WP.ite rfl (fun hlt => ?_) (fun hge => ?_)
      · refine WP.skip ?_; refine thn_next ?_
        have hlt' : i < xs.length := by omega
        obtain ⟨x, gx⟩ : ∃ x, xs[i]? = some x := ⟨_, List.getElem?_eq_getElem hlt'⟩
        have gx' : xs[(i : Int).toNat]? = some x := gx
        have hxm := List.mem_of_getElem? gx
        refine WP.seqMeet (α := SV × List Iv) (fun z => SortedOk z.2 ∧ z.2.length ≤ i + 1 ∧ ∀ y ∈ z.2, y ∈ xs) (fun z => [(0, v), (3, z.1.val), (4, .int .i64 (i : Int))]) (fun z => [slA 35 encIv z.1.val z.2]) ?_ ?_
        · refine WP.block ?_
          refine WP.seq ?_
          refine WP.plain cf0 rfl ?_
          refine Run.mv rfl rfl rfl rfl ?_
          refine Run.mv rfl rfl rfl rfl ?_
          refine Run.idxR rfl rfl rfl sl_22 rfl rfl (by assumption) (by rfl) (by first | omega | (simp <;> omega)) (by first | omega | (simp <;> omega)) ?_
          refine Run.loadRagg rfl rfl ag_35 rfl rfl (by first | assumption | exact SlR.row (by assumption) (by assumption)) (by rfl) ?_
          refine Run.alloc rfl zr_35 rfl rfl rfl ?_
          intro b5
          refine Run.storeB 1 rfl rfl rfl rfl ag_35 rfl rfl rfl rfl rfl ?_
          refine Run.nil ?_
          refine thn_next ?_
          refine WP.via (Γ' := [slA 35 encIv sv.val o, blk b5 (encIv.cells x) 35]) (ent.refl _) ?_
          refine WP.seq ?_
          refine WP.seqCut [(0, v), (3, sv.val), (4, .int .i64 (i : Int)), (5, .pointer (some ⟨b5, 0, none⟩)), (38, .bool (decide (bad0 x)))] [slA 35 encIv sv.val o, blk b5 (encIv.cells x) 35] ?_ ?_
          · refine WP.plain cf0 rfl ?_
            all_goals (first | refine Run.fieldAddr rfl rfl fo_35_0 rfl rfl ?_)
            all_goals (first | refine Run.loadB 1 rfl rfl ag_3 rfl rfl rfl rfl rfl ?_)
            all_goals (first | refine Run.int2 rfl rfl rfl rfl rfl rfl ?_)
            all_goals (first | refine Run.tt (by first | assumption | omega) ?_ | refine Run.ff (by first | assumption | omega) ?_ | refine Run.split (fun hc26 => ?_) (fun hc26 => ?_) | refine Run.splitB (fun hc26 => ?_) (fun hc26 => ?_) | skip)
            all_goals (first | refine Run.mv rfl rfl rfl rfl ?_)
            all_goals (first | refine Run.fieldAddr rfl rfl fo_35_0 rfl rfl ?_ | refine Run.not rfl rfl ?_)
            all_goals (first | refine Run.loadB 1 rfl rfl ag_3 rfl rfl rfl rfl rfl ?_ | refine Run.not rfl rfl ?_)
            all_goals (first | refine Run.int2 rfl rfl rfl rfl rfl rfl ?_ | refine Run.not rfl rfl ?_)
            all_goals (first | refine Run.tt (by first | assumption | omega) ?_ | refine Run.ff (by first | assumption | omega) ?_ | refine Run.split (fun hc30 => ?_) (fun hc30 => ?_) | refine Run.splitB (fun hc30 => ?_) (fun hc30 => ?_) | skip)
            all_goals (first | refine Run.pick rfl rfl rfl rfl rfl ?_)
            all_goals (first | refine Run.mv rfl rfl rfl rfl ?_)
            all_goals (first | refine Run.fieldAddr rfl rfl fo_35_2 rfl rfl ?_ | refine Run.not rfl rfl ?_)
            all_goals (first | refine Run.loadB 1 rfl rfl ag_3 rfl rfl rfl rfl rfl ?_ | refine Run.not rfl rfl ?_)
            all_goals (first | refine Run.fieldAddr rfl rfl fo_35_1 rfl rfl ?_ | refine Run.not rfl rfl ?_)
            all_goals (first | refine Run.loadB 1 rfl rfl ag_3 rfl rfl rfl rfl rfl ?_ | refine Run.not rfl rfl ?_)
            all_goals (first | refine Run.int2 rfl rfl rfl rfl rfl rfl ?_ | refine Run.not rfl rfl ?_)
            all_goals (first | refine Run.pick rfl rfl rfl rfl rfl ?_)
            all_goals (refine Run.nil ?_)
            all_goals refine thn_next ⟨⟨rfl, rfl, rfl, rfl, ?_, trivial⟩, ent.refl _⟩
            all_goals simp [Env.get, bad0, *]
          refine WP.ite rfl (fun hbad => ?_) (fun hok => ?_)
          · refine WP.exit ?_; refine thn_exit ?_; refine blk_hit ?_; refine thn_next ?_
            exact ⟨(sv, o), ⟨hso, by show o.length ≤ i + 1; omega, hox⟩, ⟨rfl, rfl, rfl, trivial⟩, pick_only [0] _⟩
          refine WP.skip ?_; refine thn_next ?_
          refine WP.seq ?_
          refine WP.plain cf0 rfl ?_
          refine Run.mv rfl rfl rfl rfl ?_
          refine Run.nil ?_
          refine thn_next ?_
          refine WP.seqMeet (α := Unit) (fun _ => True) (fun _ => [(0, v), (3, sv.val), (4, .int .i64 (i : Int)), (5, .pointer (some ⟨b5, 0, none⟩)), (6, .bool (o.any (fun y => decide (y.r = x.r))))]) (fun _ => [slA 35 encIv sv.val o, blk b5 (encIv.cells x) 35]) ?_ ?_
          · refine WP.seq ?_
            refine WP.plain cf0 rfl ?_
            refine Run.mv rfl rfl rfl rfl ?_
            refine Run.nil ?_
            refine thn_next ?_
            refine WP.block ?_
            refine WP.loop (α := Nat) (fun j => j ≤ o.length)
              (fun j => [(0, v), (3, sv.val), (4, .int .i64 (i : Int)), (5, .pointer (some ⟨b5, 0, none⟩)), (6, .bool ((o.take j).any (fun y => decide (y.r = x.r)))), (7, .int .i64 (j : Int))]) (fun _ => [slA 35 encIv sv.val o, blk b5 (encIv.cells x) 35]) (fun j => o.length - j)
              0 (Nat.zero_le _) ⟨rfl, rfl, rfl, rfl, rfl, rfl, trivial⟩ (ent.refl _) ?_
            intro j hj
            obtain ⟨b, hb⟩ : ∃ b, (o.take j).any (fun y => decide (y.r = x.r)) = b := ⟨_, rfl⟩
            rw [hb]
            refine WP.seq ?_
            refine WP.seq ?_
            refine WP.plain cf0 rfl ?_
            refine Run.mv rfl rfl rfl rfl ?_
            refine Run.mv rfl rfl rfl rfl ?_
            refine Run.lenO 0 rfl rfl sl_22 rfl rfl rfl ?_
            refine Run.int2 rfl rfl rfl rfl rfl rfl ?_
            refine Run.nil ?_
            refine thn_next ?_
            refine WP.ite rfl (fun hjl => ?_) (fun hjl => ?_)
            · refine WP.skip ?_; refine thn_next ?_
              have hjl' : j < o.length := by omega
              obtain ⟨y, gy⟩ : ∃ y, o[j]? = some y := ⟨_, List.getElem?_eq_getElem hjl'⟩
              have gy' : o[(j : Int).toNat]? = some y := gy
              have htk : (o.take (j + 1)).any (fun y => decide (y.r = x.r)) = (b || decide (y.r = x.r)) := by rw [List.take_add_one, gy, List.any_append, hb]; simp
              have hdec : o.length - (j + 1) < o.length - j := by omega
              refine WP.seq ?_
              refine WP.block ?_
              cases b with
              | true =>
                refine WP.drawn0 cf0 mixed rfl (by kernel_rfl) ?_
                all_goals (first | refine Run.mv rfl rfl rfl rfl ?_)
                all_goals (first | refine Run.mv rfl rfl rfl rfl ?_)
                all_goals (first | refine Run.mv rfl rfl rfl rfl ?_ | refine Run.not rfl rfl ?_)
                all_goals (first | refine Run.mv rfl rfl rfl rfl ?_ | refine Run.not rfl rfl ?_)
                all_goals (first | refine Run.idxO 0 rfl rfl rfl sl_22 rfl rfl rfl rfl (by first | omega | (simp <;> omega)) (by first | omega | (simp <;> omega)) ?_ | refine Run.idxO 1 rfl rfl rfl sl_22 rfl rfl rfl rfl (by first | omega | (simp <;> omega)) (by first | omega | (simp <;> omega)) ?_ | refine Run.idxO 2 rfl rfl rfl sl_22 rfl rfl rfl rfl (by first | omega | (simp <;> omega)) (by first | omega | (simp <;> omega)) ?_ | refine Run.idxO 3 rfl rfl rfl sl_22 rfl rfl rfl rfl (by first | omega | (simp <;> omega)) (by first | omega | (simp <;> omega)) ?_ | refine Run.idxO 4 rfl rfl rfl sl_22 rfl rfl rfl rfl (by first | omega | (simp <;> omega)) (by first | omega | (simp <;> omega)) ?_ | refine Run.idxO 5 rfl rfl rfl sl_22 rfl rfl rfl rfl (by first | omega | (simp <;> omega)) (by first | omega | (simp <;> omega)) ?_ | refine Run.idxR rfl rfl rfl sl_22 rfl rfl (by assumption) (by rfl) (by first | omega | (simp <;> omega)) (by first | omega | (simp <;> omega)) ?_ | refine Run.not rfl rfl ?_)
                all_goals (first | refine Run.fieldAddr rfl rfl fo_35_0 rfl rfl ?_ | refine Run.not rfl rfl ?_)
                all_goals (first | refine Run.loadB 0 rfl rfl ag_3 rfl rfl rfl rfl rfl ?_ | refine Run.loadO 0 _ 0 rfl rfl ag_3 rfl rfl rfl rfl (by assumption) rfl ?_ | refine Run.loadO 0 _ _ rfl rfl ag_3 rfl rfl rfl rfl (by assumption) rfl ?_ | refine Run.loadB 1 rfl rfl ag_3 rfl rfl rfl rfl rfl ?_ | refine Run.loadO 1 _ 0 rfl rfl ag_3 rfl rfl rfl rfl (by assumption) rfl ?_ | refine Run.loadO 1 _ _ rfl rfl ag_3 rfl rfl rfl rfl (by assumption) rfl ?_ | refine Run.loadB 2 rfl rfl ag_3 rfl rfl rfl rfl rfl ?_ | refine Run.loadO 2 _ 0 rfl rfl ag_3 rfl rfl rfl rfl (by assumption) rfl ?_ | refine Run.loadO 2 _ _ rfl rfl ag_3 rfl rfl rfl rfl (by assumption) rfl ?_ | refine Run.loadB 3 rfl rfl ag_3 rfl rfl rfl rfl rfl ?_ | refine Run.loadO 3 _ 0 rfl rfl ag_3 rfl rfl rfl rfl (by assumption) rfl ?_ | refine Run.loadO 3 _ _ rfl rfl ag_3 rfl rfl rfl rfl (by assumption) rfl ?_ | refine Run.loadB 4 rfl rfl ag_3 rfl rfl rfl rfl rfl ?_ | refine Run.loadO 4 _ 0 rfl rfl ag_3 rfl rfl rfl rfl (by assumption) rfl ?_ | refine Run.loadO 4 _ _ rfl rfl ag_3 rfl rfl rfl rfl (by assumption) rfl ?_ | refine Run.loadB 5 rfl rfl ag_3 rfl rfl rfl rfl rfl ?_ | refine Run.loadO 5 _ 0 rfl rfl ag_3 rfl rfl rfl rfl (by assumption) rfl ?_ | refine Run.loadO 5 _ _ rfl rfl ag_3 rfl rfl rfl rfl (by assumption) rfl ?_ | refine Run.loadR rfl rfl ag_3 rfl rfl (by first | assumption | exact SlR.cell0 (by assumption) (by assumption) rfl | exact SlR.cell (by assumption) (by assumption) rfl) ?_ | refine Run.not rfl rfl ?_)
                all_goals (first | refine Run.fieldAddr rfl rfl fo_35_0 rfl rfl ?_ | refine Run.not rfl rfl ?_)
                all_goals (first | refine Run.loadB 0 rfl rfl ag_3 rfl rfl rfl rfl rfl ?_ | refine Run.loadO 0 _ 0 rfl rfl ag_3 rfl rfl rfl rfl (by assumption) rfl ?_ | refine Run.loadO 0 _ _ rfl rfl ag_3 rfl rfl rfl rfl (by assumption) rfl ?_ | refine Run.loadB 1 rfl rfl ag_3 rfl rfl rfl rfl rfl ?_ | refine Run.loadO 1 _ 0 rfl rfl ag_3 rfl rfl rfl rfl (by assumption) rfl ?_ | refine Run.loadO 1 _ _ rfl rfl ag_3 rfl rfl rfl rfl (by assumption) rfl ?_ | refine Run.loadB 2 rfl rfl ag_3 rfl rfl rfl rfl rfl ?_ | refine Run.loadO 2 _ 0 rfl rfl ag_3 rfl rfl rfl rfl (by assumption) rfl ?_ | refine Run.loadO 2 _ _ rfl rfl ag_3 rfl rfl rfl rfl (by assumption) rfl ?_ | refine Run.loadB 3 rfl rfl ag_3 rfl rfl rfl rfl rfl ?_ | refine Run.loadO 3 _ 0 rfl rfl ag_3 rfl rfl rfl rfl (by assumption) rfl ?_ | refine Run.loadO 3 _ _ rfl rfl ag_3 rfl rfl rfl rfl (by assumption) rfl ?_ | refine Run.loadB 4 rfl rfl ag_3 rfl rfl rfl rfl rfl ?_ | refine Run.loadO 4 _ 0 rfl rfl ag_3 rfl rfl rfl rfl (by assumption) rfl ?_ | refine Run.loadO 4 _ _ rfl rfl ag_3 rfl rfl rfl rfl (by assumption) rfl ?_ | refine Run.loadB 5 rfl rfl ag_3 rfl rfl rfl rfl rfl ?_ | refine Run.loadO 5 _ 0 rfl rfl ag_3 rfl rfl rfl rfl (by assumption) rfl ?_ | refine Run.loadO 5 _ _ rfl rfl ag_3 rfl rfl rfl rfl (by assumption) rfl ?_ | refine Run.loadR rfl rfl ag_3 rfl rfl (by first | assumption | exact SlR.cell0 (by assumption) (by assumption) rfl | exact SlR.cell (by assumption) (by assumption) rfl) ?_ | refine Run.not rfl rfl ?_)
                all_goals (first | refine Run.int2 rfl rfl rfl rfl rfl rfl ?_ | refine Run.not rfl rfl ?_)
                all_goals (first | refine Run.tt (by first | assumption | omega) ?_ | refine Run.ff (by first | assumption | omega) ?_ | refine Run.split (fun hc54 => ?_) (fun hc54 => ?_) | refine Run.splitB (fun hc54 => ?_) (fun hc54 => ?_) | skip)
                all_goals (first | refine Run.pick rfl rfl rfl rfl rfl ?_)
                all_goals (first | refine Run.mv rfl rfl rfl rfl ?_)
                all_goals (refine Run.nil ?_)
                refine blk_norm ?_; refine thn_next ?_
                refine WP.plain cf0 rfl ?_
                refine Run.mv rfl rfl rfl rfl ?_
                refine Run.add64 rfl rfl rfl rfl rfl (by first | omega | (simp <;> omega)) (by first | omega | (simp <;> omega)) ?_
                refine Run.mv rfl rfl rfl rfl ?_
                refine Run.nil ?_
                refine thn_next ⟨j + 1, hjl', hdec, ⟨rfl, rfl, rfl, rfl, ?_, by simp [Env.get], trivial⟩, ent.refl _⟩
                rw [htk]; rfl
              | false =>
                rw [Bool.false_or] at htk
                refine WP.drawn0 cf0 mixed rfl (by kernel_rfl) ?_
                all_goals (first | refine Run.mv rfl rfl rfl rfl ?_)
                all_goals (first | refine Run.mv rfl rfl rfl rfl ?_)
                all_goals (first | refine Run.mv rfl rfl rfl rfl ?_ | refine Run.not rfl rfl ?_)
                all_goals (first | refine Run.mv rfl rfl rfl rfl ?_ | refine Run.not rfl rfl ?_)
                all_goals (first | refine Run.idxO 0 rfl rfl rfl sl_22 rfl rfl rfl rfl (by first | omega | (simp <;> omega)) (by first | omega | (simp <;> omega)) ?_ | refine Run.not rfl rfl ?_)
                all_goals (first | refine Run.fieldAddr rfl rfl fo_35_0 rfl rfl ?_ | refine Run.not rfl rfl ?_)
                all_goals (first | refine Run.loadO 0 _ 0 rfl rfl ag_3 rfl rfl rfl rfl (by assumption) rfl ?_ | refine Run.not rfl rfl ?_)
                all_goals (first | refine Run.fieldAddr rfl rfl fo_35_0 rfl rfl ?_ | refine Run.not rfl rfl ?_)
                all_goals (first | refine Run.loadB 1 rfl rfl ag_3 rfl rfl rfl rfl rfl ?_ | refine Run.not rfl rfl ?_)
                all_goals (first | refine Run.int2 rfl rfl rfl rfl rfl rfl ?_ | refine Run.not rfl rfl ?_)
                all_goals (first | refine Run.tt (by first | assumption | omega) ?_ | refine Run.ff (by first | assumption | omega) ?_ | refine Run.split (fun hc54 => ?_) (fun hc54 => ?_) | refine Run.splitB (fun hc54 => ?_) (fun hc54 => ?_) | skip)
                all_goals (first | refine Run.pick rfl rfl rfl rfl rfl ?_)
                all_goals (first | refine Run.mv rfl rfl rfl rfl ?_)
                all_goals (refine Run.nil ?_)
                · refine blk_norm ?_; refine thn_next ?_
                  refine WP.plain cf0 rfl ?_
                  refine Run.mv rfl rfl rfl rfl ?_
                  refine Run.add64 rfl rfl rfl rfl rfl (by first | omega | (simp <;> omega)) (by first | omega | (simp <;> omega)) ?_
                  refine Run.mv rfl rfl rfl rfl ?_
                  refine Run.nil ?_
                  refine thn_next ⟨j + 1, hjl', hdec, ⟨rfl, rfl, rfl, rfl, ?_, by simp [Env.get], trivial⟩, ent.refl _⟩
                  rw [htk, decide_eq_true hc54]; rfl
                · refine blk_norm ?_; refine thn_next ?_
                  refine WP.plain cf0 rfl ?_
                  refine Run.mv rfl rfl rfl rfl ?_
                  refine Run.add64 rfl rfl rfl rfl rfl (by first | omega | (simp <;> omega)) (by first | omega | (simp <;> omega)) ?_
                  refine Run.mv rfl rfl rfl rfl ?_
                  refine Run.nil ?_
                  refine thn_next ⟨j + 1, hjl', hdec, ⟨rfl, rfl, rfl, rfl, ?_, by simp [Env.get], trivial⟩, ent.refl _⟩
                  rw [htk, decide_eq_false hc54]; rfl
            · refine WP.exit ?_; refine thn_exit ?_; refine thn_exit ?_; refine blk_hit ?_; refine thn_next ?_
              refine ⟨(), trivial, ⟨rfl, rfl, rfl, rfl, ?_, trivial⟩, ent.refl _⟩
              have : o.take j = o := List.take_of_length_le (by omega)
              rw [this] at hb; rw [hb]; rfl
          rintro _ _
          refine WP.seq ?_
          refine WP.seq ?_
          refine WP.plain cf0 rfl ?_
          refine Run.mv rfl rfl rfl rfl ?_
          refine Run.nil ?_
          refine thn_next ?_
          refine WP.cond (t := o.any (fun y => decide (y.r = x.r))) rfl (fun htw => ?_) (fun htw => ?_)
          · refine WP.exit ?_; refine thn_exit ?_; refine blk_hit ?_; refine thn_next ?_
            exact ⟨(sv, o), ⟨hso, by show o.length ≤ i + 1; omega, hox⟩, ⟨rfl, rfl, rfl, trivial⟩, pick_only [0] _⟩
          refine WP.skip ?_; refine thn_next ?_
          refine WP.seq ?_
          refine WP.plain cf0 rfl ?_
          refine Run.mv rfl rfl rfl rfl ?_
          refine Run.loadBagg 1 rfl rfl ag_35 rfl rfl rfl rfl rfl ?_
          refine Run.buildSlice (E := encIv) rfl sl_22 zr_35 ([x]) rfl rfl rfl (by decide) rfl rfl ?_
          intro b59
          refine Run.append 0 rfl rfl rfl rfl rfl rfl sl_22 zr_35 rfl (src_own 2 rfl) (by first | omega | (simp <;> omega)) (by first | omega | (simp <;> omega)) ?_
          intro sv60 hv60
          refine Run.mv rfl rfl rfl rfl ?_
          refine Run.nil ?_
          refine thn_next ?_
          refine WP.seq ?_
          refine WP.plain cf0 rfl ?_
          refine Run.mv rfl rfl rfl rfl ?_
          refine Run.lenO 0 rfl rfl sl_22 rfl rfl rfl ?_
          refine Run.sub64 rfl rfl rfl rfl rfl (by first | omega | (simp <;> omega)) (by first | omega | (simp <;> omega)) ?_
          refine Run.mv rfl rfl rfl rfl ?_
          refine Run.nil ?_
          refine thn_next ?_
          refine WP.block ?_
          refine WP.loop (α := List Iv × List Iv) (fun z => putL afterF o x = putL afterF z.1 x ++ z.2 ∧ z.1.length + z.2.length = o.length)
            (fun z => [(0, v), (3, sv60.val), (4, .int .i64 (i : Int)), (8, .int .i64 (z.1.length : Int))]) (fun z => [slA 35 encIv sv60.val (z.1 ++ x :: z.2)]) (fun z => z.1.length)
            (o, []) ⟨by simp, by simp⟩ ?_ ?_ ?_
          · exact ⟨rfl, rfl, rfl, by simp [Env.get], trivial⟩
          · exact pick_only [0] _
          · rintro ⟨pre, suf⟩ ⟨hput, hpl⟩
            simp only at hput hpl ⊢
            refine WP.seq ?_
            rcases List.eq_nil_or_concat pre with rfl | ⟨pre', y, hc⟩
            · have hneg : ¬ (([] : List Iv).length : Int) > 0 := by simp
              refine WP.seq ?_
              refine WP.drawn0 cf0 mixed rfl (by kernel_rfl) ?_
              all_goals (first | refine Run.mv rfl rfl rfl rfl ?_)
              all_goals (first | refine Run.int2 rfl rfl rfl rfl rfl rfl ?_)
              all_goals (first | refine Run.tt (by first | assumption | omega) ?_ | refine Run.ff (by first | assumption | omega) ?_ | refine Run.split (fun hc65 => ?_) (fun hc65 => ?_) | refine Run.splitB (fun hc65 => ?_) (fun hc65 => ?_) | skip)
              all_goals (first | refine Run.mv rfl rfl rfl rfl ?_)
              all_goals (first | refine Run.mv rfl rfl rfl rfl ?_ | refine Run.not rfl rfl ?_)
              all_goals (first | refine Run.mv rfl rfl rfl rfl ?_ | refine Run.not rfl rfl ?_)
              all_goals (first | refine Run.sub64 rfl rfl rfl rfl rfl (by first | omega | (simp <;> omega)) (by first | omega | (simp <;> omega)) ?_ | refine Run.not rfl rfl ?_)
              all_goals (first | refine Run.idxO 0 rfl rfl rfl sl_22 rfl rfl rfl rfl (by first | omega | (simp <;> omega)) (by first | omega | (simp <;> omega)) ?_ | refine Run.idxO 1 rfl rfl rfl sl_22 rfl rfl rfl rfl (by first | omega | (simp <;> omega)) (by first | omega | (simp <;> omega)) ?_ | refine Run.idxO 2 rfl rfl rfl sl_22 rfl rfl rfl rfl (by first | omega | (simp <;> omega)) (by first | omega | (simp <;> omega)) ?_ | refine Run.idxO 3 rfl rfl rfl sl_22 rfl rfl rfl rfl (by first | omega | (simp <;> omega)) (by first | omega | (simp <;> omega)) ?_ | refine Run.idxO 4 rfl rfl rfl sl_22 rfl rfl rfl rfl (by first | omega | (simp <;> omega)) (by first | omega | (simp <;> omega)) ?_ | refine Run.idxO 5 rfl rfl rfl sl_22 rfl rfl rfl rfl (by first | omega | (simp <;> omega)) (by first | omega | (simp <;> omega)) ?_ | refine Run.idxR rfl rfl rfl sl_22 rfl rfl (by assumption) (by rfl) (by first | omega | (simp <;> omega)) (by first | omega | (simp <;> omega)) ?_ | refine Run.not rfl rfl ?_)
              all_goals (first | refine Run.fieldAddr rfl rfl fo_35_1 rfl rfl ?_ | refine Run.not rfl rfl ?_)
              all_goals (first | refine Run.loadB 0 rfl rfl ag_3 rfl rfl rfl rfl rfl ?_ | refine Run.loadO 0 _ 0 rfl rfl ag_3 rfl rfl rfl rfl (by assumption) rfl ?_ | refine Run.loadO 0 _ _ rfl rfl ag_3 rfl rfl rfl rfl (by assumption) rfl ?_ | refine Run.loadB 1 rfl rfl ag_3 rfl rfl rfl rfl rfl ?_ | refine Run.loadO 1 _ 0 rfl rfl ag_3 rfl rfl rfl rfl (by assumption) rfl ?_ | refine Run.loadO 1 _ _ rfl rfl ag_3 rfl rfl rfl rfl (by assumption) rfl ?_ | refine Run.loadB 2 rfl rfl ag_3 rfl rfl rfl rfl rfl ?_ | refine Run.loadO 2 _ 0 rfl rfl ag_3 rfl rfl rfl rfl (by assumption) rfl ?_ | refine Run.loadO 2 _ _ rfl rfl ag_3 rfl rfl rfl rfl (by assumption) rfl ?_ | refine Run.loadB 3 rfl rfl ag_3 rfl rfl rfl rfl rfl ?_ | refine Run.loadO 3 _ 0 rfl rfl ag_3 rfl rfl rfl rfl (by assumption) rfl ?_ | refine Run.loadO 3 _ _ rfl rfl ag_3 rfl rfl rfl rfl (by assumption) rfl ?_ | refine Run.loadB 4 rfl rfl ag_3 rfl rfl rfl rfl rfl ?_ | refine Run.loadO 4 _ 0 rfl rfl ag_3 rfl rfl rfl rfl (by assumption) rfl ?_ | refine Run.loadO 4 _ _ rfl rfl ag_3 rfl rfl rfl rfl (by assumption) rfl ?_ | refine Run.loadB 5 rfl rfl ag_3 rfl rfl rfl rfl rfl ?_ | refine Run.loadO 5 _ 0 rfl rfl ag_3 rfl rfl rfl rfl (by assumption) rfl ?_ | refine Run.loadO 5 _ _ rfl rfl ag_3 rfl rfl rfl rfl (by assumption) rfl ?_ | refine Run.loadR rfl rfl ag_3 rfl rfl (by first | assumption | exact SlR.cell0 (by assumption) (by assumption) rfl | exact SlR.cell (by assumption) (by assumption) rfl) ?_ | refine Run.not rfl rfl ?_)
              all_goals (first | refine Run.mv rfl rfl rfl rfl ?_ | refine Run.not rfl rfl ?_)
              all_goals (first | refine Run.mv rfl rfl rfl rfl ?_ | refine Run.not rfl rfl ?_)
              all_goals (first | refine Run.idxO 0 rfl rfl rfl sl_22 rfl rfl rfl rfl (by first | omega | (simp <;> omega)) (by first | omega | (simp <;> omega)) ?_ | refine Run.idxO 1 rfl rfl rfl sl_22 rfl rfl rfl rfl (by first | omega | (simp <;> omega)) (by first | omega | (simp <;> omega)) ?_ | refine Run.idxO 2 rfl rfl rfl sl_22 rfl rfl rfl rfl (by first | omega | (simp <;> omega)) (by first | omega | (simp <;> omega)) ?_ | refine Run.idxO 3 rfl rfl rfl sl_22 rfl rfl rfl rfl (by first | omega | (simp <;> omega)) (by first | omega | (simp <;> omega)) ?_ | refine Run.idxO 4 rfl rfl rfl sl_22 rfl rfl rfl rfl (by first | omega | (simp <;> omega)) (by first | omega | (simp <;> omega)) ?_ | refine Run.idxO 5 rfl rfl rfl sl_22 rfl rfl rfl rfl (by first | omega | (simp <;> omega)) (by first | omega | (simp <;> omega)) ?_ | refine Run.idxR rfl rfl rfl sl_22 rfl rfl (by assumption) (by rfl) (by first | omega | (simp <;> omega)) (by first | omega | (simp <;> omega)) ?_ | refine Run.not rfl rfl ?_)
              all_goals (first | refine Run.fieldAddr rfl rfl fo_35_1 rfl rfl ?_ | refine Run.not rfl rfl ?_)
              all_goals (first | refine Run.loadB 0 rfl rfl ag_3 rfl rfl rfl rfl rfl ?_ | refine Run.loadO 0 _ 0 rfl rfl ag_3 rfl rfl rfl rfl (by assumption) rfl ?_ | refine Run.loadO 0 _ _ rfl rfl ag_3 rfl rfl rfl rfl (by assumption) rfl ?_ | refine Run.loadB 1 rfl rfl ag_3 rfl rfl rfl rfl rfl ?_ | refine Run.loadO 1 _ 0 rfl rfl ag_3 rfl rfl rfl rfl (by assumption) rfl ?_ | refine Run.loadO 1 _ _ rfl rfl ag_3 rfl rfl rfl rfl (by assumption) rfl ?_ | refine Run.loadB 2 rfl rfl ag_3 rfl rfl rfl rfl rfl ?_ | refine Run.loadO 2 _ 0 rfl rfl ag_3 rfl rfl rfl rfl (by assumption) rfl ?_ | refine Run.loadO 2 _ _ rfl rfl ag_3 rfl rfl rfl rfl (by assumption) rfl ?_ | refine Run.loadB 3 rfl rfl ag_3 rfl rfl rfl rfl rfl ?_ | refine Run.loadO 3 _ 0 rfl rfl ag_3 rfl rfl rfl rfl (by assumption) rfl ?_ | refine Run.loadO 3 _ _ rfl rfl ag_3 rfl rfl rfl rfl (by assumption) rfl ?_ | refine Run.loadB 4 rfl rfl ag_3 rfl rfl rfl rfl rfl ?_ | refine Run.loadO 4 _ 0 rfl rfl ag_3 rfl rfl rfl rfl (by assumption) rfl ?_ | refine Run.loadO 4 _ _ rfl rfl ag_3 rfl rfl rfl rfl (by assumption) rfl ?_ | refine Run.loadB 5 rfl rfl ag_3 rfl rfl rfl rfl rfl ?_ | refine Run.loadO 5 _ 0 rfl rfl ag_3 rfl rfl rfl rfl (by assumption) rfl ?_ | refine Run.loadO 5 _ _ rfl rfl ag_3 rfl rfl rfl rfl (by assumption) rfl ?_ | refine Run.loadR rfl rfl ag_3 rfl rfl (by first | assumption | exact SlR.cell0 (by assumption) (by assumption) rfl | exact SlR.cell (by assumption) (by assumption) rfl) ?_ | refine Run.not rfl rfl ?_)
              all_goals (first | refine Run.int2 rfl rfl rfl rfl rfl rfl ?_ | refine Run.not rfl rfl ?_)
              all_goals (first | refine Run.tt (by first | assumption | omega) ?_ | refine Run.ff (by first | assumption | omega) ?_ | refine Run.split (fun hc78 => ?_) (fun hc78 => ?_) | refine Run.splitB (fun hc78 => ?_) (fun hc78 => ?_) | skip)
              all_goals (first | refine Run.mv rfl rfl rfl rfl ?_ | refine Run.not rfl rfl ?_)
              all_goals (first | refine Run.mv rfl rfl rfl rfl ?_ | refine Run.not rfl rfl ?_)
              all_goals (first | refine Run.mv rfl rfl rfl rfl ?_ | refine Run.not rfl rfl ?_)
              all_goals (first | refine Run.sub64 rfl rfl rfl rfl rfl (by first | omega | (simp <;> omega)) (by first | omega | (simp <;> omega)) ?_ | refine Run.not rfl rfl ?_)
              all_goals (first | refine Run.idxO 0 rfl rfl rfl sl_22 rfl rfl rfl rfl (by first | omega | (simp <;> omega)) (by first | omega | (simp <;> omega)) ?_ | refine Run.idxO 1 rfl rfl rfl sl_22 rfl rfl rfl rfl (by first | omega | (simp <;> omega)) (by first | omega | (simp <;> omega)) ?_ | refine Run.idxO 2 rfl rfl rfl sl_22 rfl rfl rfl rfl (by first | omega | (simp <;> omega)) (by first | omega | (simp <;> omega)) ?_ | refine Run.idxO 3 rfl rfl rfl sl_22 rfl rfl rfl rfl (by first | omega | (simp <;> omega)) (by first | omega | (simp <;> omega)) ?_ | refine Run.idxO 4 rfl rfl rfl sl_22 rfl rfl rfl rfl (by first | omega | (simp <;> omega)) (by first | omega | (simp <;> omega)) ?_ | refine Run.idxO 5 rfl rfl rfl sl_22 rfl rfl rfl rfl (by first | omega | (simp <;> omega)) (by first | omega | (simp <;> omega)) ?_ | refine Run.idxR rfl rfl rfl sl_22 rfl rfl (by assumption) (by rfl) (by first | omega | (simp <;> omega)) (by first | omega | (simp <;> omega)) ?_ | refine Run.not rfl rfl ?_)
              all_goals (first | refine Run.fieldAddr rfl rfl fo_35_1 rfl rfl ?_ | refine Run.not rfl rfl ?_)
              all_goals (first | refine Run.loadB 0 rfl rfl ag_3 rfl rfl rfl rfl rfl ?_ | refine Run.loadO 0 _ 0 rfl rfl ag_3 rfl rfl rfl rfl (by assumption) rfl ?_ | refine Run.loadO 0 _ _ rfl rfl ag_3 rfl rfl rfl rfl (by assumption) rfl ?_ | refine Run.loadB 1 rfl rfl ag_3 rfl rfl rfl rfl rfl ?_ | refine Run.loadO 1 _ 0 rfl rfl ag_3 rfl rfl rfl rfl (by assumption) rfl ?_ | refine Run.loadO 1 _ _ rfl rfl ag_3 rfl rfl rfl rfl (by assumption) rfl ?_ | refine Run.loadB 2 rfl rfl ag_3 rfl rfl rfl rfl rfl ?_ | refine Run.loadO 2 _ 0 rfl rfl ag_3 rfl rfl rfl rfl (by assumption) rfl ?_ | refine Run.loadO 2 _ _ rfl rfl ag_3 rfl rfl rfl rfl (by assumption) rfl ?_ | refine Run.loadB 3 rfl rfl ag_3 rfl rfl rfl rfl rfl ?_ | refine Run.loadO 3 _ 0 rfl rfl ag_3 rfl rfl rfl rfl (by assumption) rfl ?_ | refine Run.loadO 3 _ _ rfl rfl ag_3 rfl rfl rfl rfl (by assumption) rfl ?_ | refine Run.loadB 4 rfl rfl ag_3 rfl rfl rfl rfl rfl ?_ | refine Run.loadO 4 _ 0 rfl rfl ag_3 rfl rfl rfl rfl (by assumption) rfl ?_ | refine Run.loadO 4 _ _ rfl rfl ag_3 rfl rfl rfl rfl (by assumption) rfl ?_ | refine Run.loadB 5 rfl rfl ag_3 rfl rfl rfl rfl rfl ?_ | refine Run.loadO 5 _ 0 rfl rfl ag_3 rfl rfl rfl rfl (by assumption) rfl ?_ | refine Run.loadO 5 _ _ rfl rfl ag_3 rfl rfl rfl rfl (by assumption) rfl ?_ | refine Run.loadR rfl rfl ag_3 rfl rfl (by first | assumption | exact SlR.cell0 (by assumption) (by assumption) rfl | exact SlR.cell (by assumption) (by assumption) rfl) ?_ | refine Run.not rfl rfl ?_)
              all_goals (first | refine Run.mv rfl rfl rfl rfl ?_ | refine Run.not rfl rfl ?_)
              all_goals (first | refine Run.mv rfl rfl rfl rfl ?_ | refine Run.not rfl rfl ?_)
              all_goals (first | refine Run.idxO 0 rfl rfl rfl sl_22 rfl rfl rfl rfl (by first | omega | (simp <;> omega)) (by first | omega | (simp <;> omega)) ?_ | refine Run.idxO 1 rfl rfl rfl sl_22 rfl rfl rfl rfl (by first | omega | (simp <;> omega)) (by first | omega | (simp <;> omega)) ?_ | refine Run.idxO 2 rfl rfl rfl sl_22 rfl rfl rfl rfl (by first | omega | (simp <;> omega)) (by first | omega | (simp <;> omega)) ?_ | refine Run.idxO 3 rfl rfl rfl sl_22 rfl rfl rfl rfl (by first | omega | (simp <;> omega)) (by first | omega | (simp <;> omega)) ?_ | refine Run.idxO 4 rfl rfl rfl sl_22 rfl rfl rfl rfl (by first | omega | (simp <;> omega)) (by first | omega | (simp <;> omega)) ?_ | refine Run.idxO 5 rfl rfl rfl sl_22 rfl rfl rfl rfl (by first | omega | (simp <;> omega)) (by first | omega | (simp <;> omega)) ?_ | refine Run.idxR rfl rfl rfl sl_22 rfl rfl (by assumption) (by rfl) (by first | omega | (simp <;> omega)) (by first | omega | (simp <;> omega)) ?_ | refine Run.not rfl rfl ?_)
              all_goals (first | refine Run.fieldAddr rfl rfl fo_35_1 rfl rfl ?_ | refine Run.not rfl rfl ?_)
              all_goals (first | refine Run.loadB 0 rfl rfl ag_3 rfl rfl rfl rfl rfl ?_ | refine Run.loadO 0 _ 0 rfl rfl ag_3 rfl rfl rfl rfl (by assumption) rfl ?_ | refine Run.loadO 0 _ _ rfl rfl ag_3 rfl rfl rfl rfl (by assumption) rfl ?_ | refine Run.loadB 1 rfl rfl ag_3 rfl rfl rfl rfl rfl ?_ | refine Run.loadO 1 _ 0 rfl rfl ag_3 rfl rfl rfl rfl (by assumption) rfl ?_ | refine Run.loadO 1 _ _ rfl rfl ag_3 rfl rfl rfl rfl (by assumption) rfl ?_ | refine Run.loadB 2 rfl rfl ag_3 rfl rfl rfl rfl rfl ?_ | refine Run.loadO 2 _ 0 rfl rfl ag_3 rfl rfl rfl rfl (by assumption) rfl ?_ | refine Run.loadO 2 _ _ rfl rfl ag_3 rfl rfl rfl rfl (by assumption) rfl ?_ | refine Run.loadB 3 rfl rfl ag_3 rfl rfl rfl rfl rfl ?_ | refine Run.loadO 3 _ 0 rfl rfl ag_3 rfl rfl rfl rfl (by assumption) rfl ?_ | refine Run.loadO 3 _ _ rfl rfl ag_3 rfl rfl rfl rfl (by assumption) rfl ?_ | refine Run.loadB 4 rfl rfl ag_3 rfl rfl rfl rfl rfl ?_ | refine Run.loadO 4 _ 0 rfl rfl ag_3 rfl rfl rfl rfl (by assumption) rfl ?_ | refine Run.loadO 4 _ _ rfl rfl ag_3 rfl rfl rfl rfl (by assumption) rfl ?_ | refine Run.loadB 5 rfl rfl ag_3 rfl rfl rfl rfl rfl ?_ | refine Run.loadO 5 _ 0 rfl rfl ag_3 rfl rfl rfl rfl (by assumption) rfl ?_ | refine Run.loadO 5 _ _ rfl rfl ag_3 rfl rfl rfl rfl (by assumption) rfl ?_ | refine Run.loadR rfl rfl ag_3 rfl rfl (by first | assumption | exact SlR.cell0 (by assumption) (by assumption) rfl | exact SlR.cell (by assumption) (by assumption) rfl) ?_ | refine Run.not rfl rfl ?_)
              all_goals (first | refine Run.int2 rfl rfl rfl rfl rfl rfl ?_ | refine Run.not rfl rfl ?_)
              all_goals (first | refine Run.tt (by first | assumption | omega) ?_ | refine Run.ff (by first | assumption | omega) ?_ | refine Run.split (fun hc91 => ?_) (fun hc91 => ?_) | refine Run.splitB (fun hc91 => ?_) (fun hc91 => ?_) | skip)
              all_goals (first | refine Run.mv rfl rfl rfl rfl ?_ | refine Run.not rfl rfl ?_)
              all_goals (first | refine Run.mv rfl rfl rfl rfl ?_ | refine Run.not rfl rfl ?_)
              all_goals (first | refine Run.mv rfl rfl rfl rfl ?_ | refine Run.not rfl rfl ?_)
              all_goals (first | refine Run.sub64 rfl rfl rfl rfl rfl (by first | omega | (simp <;> omega)) (by first | omega | (simp <;> omega)) ?_ | refine Run.not rfl rfl ?_)
              all_goals (first | refine Run.idxO 0 rfl rfl rfl sl_22 rfl rfl rfl rfl (by first | omega | (simp <;> omega)) (by first | omega | (simp <;> omega)) ?_ | refine Run.idxO 1 rfl rfl rfl sl_22 rfl rfl rfl rfl (by first | omega | (simp <;> omega)) (by first | omega | (simp <;> omega)) ?_ | refine Run.idxO 2 rfl rfl rfl sl_22 rfl rfl rfl rfl (by first | omega | (simp <;> omega)) (by first | omega | (simp <;> omega)) ?_ | refine Run.idxO 3 rfl rfl rfl sl_22 rfl rfl rfl rfl (by first | omega | (simp <;> omega)) (by first | omega | (simp <;> omega)) ?_ | refine Run.idxO 4 rfl rfl rfl sl_22 rfl rfl rfl rfl (by first | omega | (simp <;> omega)) (by first | omega | (simp <;> omega)) ?_ | refine Run.idxO 5 rfl rfl rfl sl_22 rfl rfl rfl rfl (by first | omega | (simp <;> omega)) (by first | omega | (simp <;> omega)) ?_ | refine Run.idxR rfl rfl rfl sl_22 rfl rfl (by assumption) (by rfl) (by first | omega | (simp <;> omega)) (by first | omega | (simp <;> omega)) ?_ | refine Run.not rfl rfl ?_)
              all_goals (first | refine Run.fieldAddr rfl rfl fo_35_0 rfl rfl ?_ | refine Run.not rfl rfl ?_)
              all_goals (first | refine Run.loadB 0 rfl rfl ag_3 rfl rfl rfl rfl rfl ?_ | refine Run.loadO 0 _ 0 rfl rfl ag_3 rfl rfl rfl rfl (by assumption) rfl ?_ | refine Run.loadO 0 _ _ rfl rfl ag_3 rfl rfl rfl rfl (by assumption) rfl ?_ | refine Run.loadB 1 rfl rfl ag_3 rfl rfl rfl rfl rfl ?_ | refine Run.loadO 1 _ 0 rfl rfl ag_3 rfl rfl rfl rfl (by assumption) rfl ?_ | refine Run.loadO 1 _ _ rfl rfl ag_3 rfl rfl rfl rfl (by assumption) rfl ?_ | refine Run.loadB 2 rfl rfl ag_3 rfl rfl rfl rfl rfl ?_ | refine Run.loadO 2 _ 0 rfl rfl ag_3 rfl rfl rfl rfl (by assumption) rfl ?_ | refine Run.loadO 2 _ _ rfl rfl ag_3 rfl rfl rfl rfl (by assumption) rfl ?_ | refine Run.loadB 3 rfl rfl ag_3 rfl rfl rfl rfl rfl ?_ | refine Run.loadO 3 _ 0 rfl rfl ag_3 rfl rfl rfl rfl (by assumption) rfl ?_ | refine Run.loadO 3 _ _ rfl rfl ag_3 rfl rfl rfl rfl (by assumption) rfl ?_ | refine Run.loadB 4 rfl rfl ag_3 rfl rfl rfl rfl rfl ?_ | refine Run.loadO 4 _ 0 rfl rfl ag_3 rfl rfl rfl rfl (by assumption) rfl ?_ | refine Run.loadO 4 _ _ rfl rfl ag_3 rfl rfl rfl rfl (by assumption) rfl ?_ | refine Run.loadB 5 rfl rfl ag_3 rfl rfl rfl rfl rfl ?_ | refine Run.loadO 5 _ 0 rfl rfl ag_3 rfl rfl rfl rfl (by assumption) rfl ?_ | refine Run.loadO 5 _ _ rfl rfl ag_3 rfl rfl rfl rfl (by assumption) rfl ?_ | refine Run.loadR rfl rfl ag_3 rfl rfl (by first | assumption | exact SlR.cell0 (by assumption) (by assumption) rfl | exact SlR.cell (by assumption) (by assumption) rfl) ?_ | refine Run.not rfl rfl ?_)
              all_goals (first | refine Run.mv rfl rfl rfl rfl ?_ | refine Run.not rfl rfl ?_)
              all_goals (first | refine Run.mv rfl rfl rfl rfl ?_ | refine Run.not rfl rfl ?_)
              all_goals (first | refine Run.idxO 0 rfl rfl rfl sl_22 rfl rfl rfl rfl (by first | omega | (simp <;> omega)) (by first | omega | (simp <;> omega)) ?_ | refine Run.idxO 1 rfl rfl rfl sl_22 rfl rfl rfl rfl (by first | omega | (simp <;> omega)) (by first | omega | (simp <;> omega)) ?_ | refine Run.idxO 2 rfl rfl rfl sl_22 rfl rfl rfl rfl (by first | omega | (simp <;> omega)) (by first | omega | (simp <;> omega)) ?_ | refine Run.idxO 3 rfl rfl rfl sl_22 rfl rfl rfl rfl (by first | omega | (simp <;> omega)) (by first | omega | (simp <;> omega)) ?_ | refine Run.idxO 4 rfl rfl rfl sl_22 rfl rfl rfl rfl (by first | omega | (simp <;> omega)) (by first | omega | (simp <;> omega)) ?_ | refine Run.idxO 5 rfl rfl rfl sl_22 rfl rfl rfl rfl (by first | omega | (simp <;> omega)) (by first | omega | (simp <;> omega)) ?_ | refine Run.idxR rfl rfl rfl sl_22 rfl rfl (by assumption) (by rfl) (by first | omega | (simp <;> omega)) (by first | omega | (simp <;> omega)) ?_ | refine Run.not rfl rfl ?_)
              all_goals (first | refine Run.fieldAddr rfl rfl fo_35_0 rfl rfl ?_ | refine Run.not rfl rfl ?_)
              all_goals (first | refine Run.loadB 0 rfl rfl ag_3 rfl rfl rfl rfl rfl ?_ | refine Run.loadO 0 _ 0 rfl rfl ag_3 rfl rfl rfl rfl (by assumption) rfl ?_ | refine Run.loadO 0 _ _ rfl rfl ag_3 rfl rfl rfl rfl (by assumption) rfl ?_ | refine Run.loadB 1 rfl rfl ag_3 rfl rfl rfl rfl rfl ?_ | refine Run.loadO 1 _ 0 rfl rfl ag_3 rfl rfl rfl rfl (by assumption) rfl ?_ | refine Run.loadO 1 _ _ rfl rfl ag_3 rfl rfl rfl rfl (by assumption) rfl ?_ | refine Run.loadB 2 rfl rfl ag_3 rfl rfl rfl rfl rfl ?_ | refine Run.loadO 2 _ 0 rfl rfl ag_3 rfl rfl rfl rfl (by assumption) rfl ?_ | refine Run.loadO 2 _ _ rfl rfl ag_3 rfl rfl rfl rfl (by assumption) rfl ?_ | refine Run.loadB 3 rfl rfl ag_3 rfl rfl rfl rfl rfl ?_ | refine Run.loadO 3 _ 0 rfl rfl ag_3 rfl rfl rfl rfl (by assumption) rfl ?_ | refine Run.loadO 3 _ _ rfl rfl ag_3 rfl rfl rfl rfl (by assumption) rfl ?_ | refine Run.loadB 4 rfl rfl ag_3 rfl rfl rfl rfl rfl ?_ | refine Run.loadO 4 _ 0 rfl rfl ag_3 rfl rfl rfl rfl (by assumption) rfl ?_ | refine Run.loadO 4 _ _ rfl rfl ag_3 rfl rfl rfl rfl (by assumption) rfl ?_ | refine Run.loadB 5 rfl rfl ag_3 rfl rfl rfl rfl rfl ?_ | refine Run.loadO 5 _ 0 rfl rfl ag_3 rfl rfl rfl rfl (by assumption) rfl ?_ | refine Run.loadO 5 _ _ rfl rfl ag_3 rfl rfl rfl rfl (by assumption) rfl ?_ | refine Run.loadR rfl rfl ag_3 rfl rfl (by first | assumption | exact SlR.cell0 (by assumption) (by assumption) rfl | exact SlR.cell (by assumption) (by assumption) rfl) ?_ | refine Run.not rfl rfl ?_)
              all_goals (first | refine Run.int2 rfl rfl rfl rfl rfl rfl ?_ | refine Run.not rfl rfl ?_)
              all_goals (first | refine Run.pick rfl rfl rfl rfl rfl ?_ | refine Run.not rfl rfl ?_)
              all_goals (first | refine Run.pick rfl rfl rfl rfl rfl ?_ | refine Run.not rfl rfl ?_)
              all_goals (first | refine Run.pick rfl rfl rfl rfl rfl ?_)
              all_goals (refine Run.nil ?_)
              refine thn_next ?_
              refine WP.cond (t := false) rfl (fun h => by cases h) (fun _ => ?_)
              refine WP.exit ?_; refine thn_exit ?_; refine thn_exit ?_; refine blk_hit ?_; refine blk_norm ?_; refine thn_next ?_
              refine ⟨(sv60, putL afterF o x), ⟨hso.put hok htw, ?_, ?_⟩, ⟨rfl, rfl, rfl, trivial⟩, ?_⟩
              · simp only [putL_len]; omega
              · intro z hz
                rcases (putL_mem afterF o x z).1 hz with rfl | hz
                · exact hxm
                · exact hox z hz
              · rw [hput, putL_nil]; exact ent.refl _
            · rw [List.concat_eq_append] at hc; subst hc
              have hpos : ((pre' ++ [y]).length : Int) > 0 := by simp
              have e1 : (((pre' ++ [y]).length : Int) - 1).toNat = pre'.length := by simp
              have e2 : (((pre' ++ [y]).length : Int)).toNat = pre'.length + 1 := by simp
              have hpl2 := hpl
              have g1 : ((pre' ++ [y]) ++ x :: suf)[(((pre' ++ [y]).length : Int) - 1).toNat]? = some y := by rw [e1]; simp
              have g2 : ((pre' ++ [y]) ++ x :: suf)[(((pre' ++ [y]).length : Int)).toNat]? = some x := by rw [e2]; simp
              refine WP.seqCut [(0, v), (3, sv60.val), (4, .int .i64 (i : Int)), (8, .int .i64 ((pre' ++ [y]).length : Int)), (107, .bool (afterF y x))] [slA 35 encIv sv60.val ((pre' ++ [y]) ++ x :: suf)] ?_ ?_
              · refine WP.drawn0 cf0 mixed rfl (by kernel_rfl) ?_
                all_goals (first | refine Run.mv rfl rfl rfl rfl ?_)
                all_goals (first | refine Run.int2 rfl rfl rfl rfl rfl rfl ?_)
                all_goals (first | refine Run.tt (by first | assumption | omega) ?_ | refine Run.ff (by first | assumption | omega) ?_ | refine Run.split (fun hc65 => ?_) (fun hc65 => ?_) | refine Run.splitB (fun hc65 => ?_) (fun hc65 => ?_) | skip)
                all_goals (first | refine Run.mv rfl rfl rfl rfl ?_)
                all_goals (first | refine Run.mv rfl rfl rfl rfl ?_ | refine Run.not rfl rfl ?_)
                all_goals (first | refine Run.mv rfl rfl rfl rfl ?_ | refine Run.not rfl rfl ?_)
                all_goals (first | refine Run.sub64 rfl rfl rfl rfl rfl (by first | omega | (simp <;> omega)) (by first | omega | (simp <;> omega)) ?_ | refine Run.not rfl rfl ?_)
                all_goals (first | refine Run.idxO 0 rfl rfl rfl sl_22 rfl rfl rfl rfl (by first | omega | (simp <;> omega)) (by first | omega | (simp <;> omega)) ?_ | refine Run.not rfl rfl ?_)
                all_goals (first | refine Run.fieldAddr rfl rfl fo_35_1 rfl rfl ?_ | refine Run.not rfl rfl ?_)
                all_goals (first | refine Run.loadO 0 _ _ rfl rfl ag_3 rfl rfl rfl rfl (by assumption) rfl ?_ | refine Run.not rfl rfl ?_)
                all_goals (first | refine Run.mv rfl rfl rfl rfl ?_ | refine Run.not rfl rfl ?_)
                all_goals (first | refine Run.mv rfl rfl rfl rfl ?_ | refine Run.not rfl rfl ?_)
                all_goals (first | refine Run.idxO 0 rfl rfl rfl sl_22 rfl rfl rfl rfl (by first | omega | (simp <;> omega)) (by first | omega | (simp <;> omega)) ?_ | refine Run.not rfl rfl ?_)
                all_goals (first | refine Run.fieldAddr rfl rfl fo_35_1 rfl rfl ?_ | refine Run.not rfl rfl ?_)
                all_goals (first | refine Run.loadO 0 _ _ rfl rfl ag_3 rfl rfl rfl rfl (by assumption) rfl ?_ | refine Run.not rfl rfl ?_)
                all_goals (first | refine Run.int2 rfl rfl rfl rfl rfl rfl ?_ | refine Run.not rfl rfl ?_)
                all_goals (first | refine Run.tt (by first | assumption | omega) ?_ | refine Run.ff (by first | assumption | omega) ?_ | refine Run.split (fun hc78 => ?_) (fun hc78 => ?_) | refine Run.splitB (fun hc78 => ?_) (fun hc78 => ?_) | skip)
                all_goals (first | refine Run.mv rfl rfl rfl rfl ?_ | refine Run.not rfl rfl ?_)
                all_goals (first | refine Run.mv rfl rfl rfl rfl ?_ | refine Run.not rfl rfl ?_)
                all_goals (first | refine Run.mv rfl rfl rfl rfl ?_ | refine Run.not rfl rfl ?_)
                all_goals (first | refine Run.sub64 rfl rfl rfl rfl rfl (by first | omega | (simp <;> omega)) (by first | omega | (simp <;> omega)) ?_ | refine Run.not rfl rfl ?_)
                all_goals (first | refine Run.idxO 0 rfl rfl rfl sl_22 rfl rfl rfl rfl (by first | omega | (simp <;> omega)) (by first | omega | (simp <;> omega)) ?_ | refine Run.not rfl rfl ?_)
                all_goals (first | refine Run.fieldAddr rfl rfl fo_35_1 rfl rfl ?_ | refine Run.not rfl rfl ?_)
                all_goals (first | refine Run.loadO 0 _ _ rfl rfl ag_3 rfl rfl rfl rfl (by assumption) rfl ?_ | refine Run.not rfl rfl ?_)
                all_goals (first | refine Run.mv rfl rfl rfl rfl ?_ | refine Run.not rfl rfl ?_)
                all_goals (first | refine Run.mv rfl rfl rfl rfl ?_ | refine Run.not rfl rfl ?_)
                all_goals (first | refine Run.idxO 0 rfl rfl rfl sl_22 rfl rfl rfl rfl (by first | omega | (simp <;> omega)) (by first | omega | (simp <;> omega)) ?_ | refine Run.not rfl rfl ?_)
                all_goals (first | refine Run.fieldAddr rfl rfl fo_35_1 rfl rfl ?_ | refine Run.not rfl rfl ?_)
                all_goals (first | refine Run.loadO 0 _ _ rfl rfl ag_3 rfl rfl rfl rfl (by assumption) rfl ?_ | refine Run.not rfl rfl ?_)
                all_goals (first | refine Run.int2 rfl rfl rfl rfl rfl rfl ?_ | refine Run.not rfl rfl ?_)
                all_goals (first | refine Run.tt (by first | assumption | omega) ?_ | refine Run.ff (by first | assumption | omega) ?_ | refine Run.split (fun hc91 => ?_) (fun hc91 => ?_) | refine Run.splitB (fun hc91 => ?_) (fun hc91 => ?_) | skip)
                all_goals (first | refine Run.mv rfl rfl rfl rfl ?_ | refine Run.not rfl rfl ?_)
                all_goals (first | refine Run.mv rfl rfl rfl rfl ?_ | refine Run.not rfl rfl ?_)
                all_goals (first | refine Run.mv rfl rfl rfl rfl ?_ | refine Run.not rfl rfl ?_)
                all_goals (first | refine Run.sub64 rfl rfl rfl rfl rfl (by first | omega | (simp <;> omega)) (by first | omega | (simp <;> omega)) ?_ | refine Run.not rfl rfl ?_)
                all_goals (first | refine Run.idxO 0 rfl rfl rfl sl_22 rfl rfl rfl rfl (by first | omega | (simp <;> omega)) (by first | omega | (simp <;> omega)) ?_ | refine Run.not rfl rfl ?_)
                all_goals (first | refine Run.fieldAddr rfl rfl fo_35_0 rfl rfl ?_ | refine Run.not rfl rfl ?_)
                all_goals (first | refine Run.loadO 0 _ 0 rfl rfl ag_3 rfl rfl rfl rfl (by assumption) rfl ?_ | refine Run.not rfl rfl ?_)
                all_goals (first | refine Run.mv rfl rfl rfl rfl ?_ | refine Run.not rfl rfl ?_)
                all_goals (first | refine Run.mv rfl rfl rfl rfl ?_ | refine Run.not rfl rfl ?_)
                all_goals (first | refine Run.idxO 0 rfl rfl rfl sl_22 rfl rfl rfl rfl (by first | omega | (simp <;> omega)) (by first | omega | (simp <;> omega)) ?_ | refine Run.not rfl rfl ?_)
                all_goals (first | refine Run.fieldAddr rfl rfl fo_35_0 rfl rfl ?_ | refine Run.not rfl rfl ?_)
                all_goals (first | refine Run.loadO 0 _ 0 rfl rfl ag_3 rfl rfl rfl rfl (by assumption) rfl ?_ | refine Run.not rfl rfl ?_)
                all_goals (first | refine Run.int2 rfl rfl rfl rfl rfl rfl ?_ | refine Run.not rfl rfl ?_)
                all_goals (first | refine Run.pick rfl rfl rfl rfl rfl ?_ | refine Run.not rfl rfl ?_)
                all_goals (first | refine Run.pick rfl rfl rfl rfl rfl ?_ | refine Run.not rfl rfl ?_)
                all_goals (first | refine Run.pick rfl rfl rfl rfl rfl ?_)
                all_goals (refine Run.nil ?_)
                all_goals refine thn_next ⟨⟨rfl, rfl, rfl, rfl, ?_, trivial⟩, ent.refl _⟩
                all_goals simp [Env.get, afterF, *]
              refine WP.cond (t := afterF y x) rfl (fun hb => ?_) (fun hb => ?_)
              · refine WP.skip ?_; refine thn_next ?_
                refine WP.seq ?_
                refine WP.block ?_
                have g3 : (((pre' ++ [y]) ++ x :: suf).set (((pre' ++ [y]).length : Int) - 1).toNat x)[(((pre' ++ [y]).length : Int)).toNat]? = some x := by rw [e1, e2, List.getElem?_set_ne (by omega), ← e2]; exact g2
                refine WP.seq ?_
                refine WP.plain cf0 rfl ?_
                refine Run.mv rfl rfl rfl rfl ?_
                refine Run.mv rfl rfl rfl rfl ?_
                refine Run.sub64 rfl rfl rfl rfl rfl (by first | omega | (simp <;> omega)) (by first | omega | (simp <;> omega)) ?_
                refine Run.idxO 0 rfl rfl rfl sl_22 rfl rfl rfl rfl (by first | omega | (simp <;> omega)) (by first | omega | (simp <;> omega)) ?_
                refine Run.loadOagg 0 _ rfl rfl ag_35 rfl rfl rfl rfl rfl (by assumption) ?_
                refine Run.alloc rfl zr_35 rfl rfl rfl ?_
                intro b9
                refine Run.storeB 1 rfl rfl rfl rfl ag_35 rfl rfl rfl rfl rfl ?_
                refine Run.nil ?_
                refine thn_next ?_
                refine WP.seq ?_
                refine WP.plain cf0 rfl ?_
                refine Run.mv rfl rfl rfl rfl ?_
                refine Run.mv rfl rfl rfl rfl ?_
                refine Run.sub64 rfl rfl rfl rfl rfl (by first | omega | (simp <;> omega)) (by first | omega | (simp <;> omega)) ?_
                refine Run.mv rfl rfl rfl rfl ?_
                refine Run.mv rfl rfl rfl rfl ?_
                refine Run.idxO 0 rfl rfl rfl sl_22 rfl rfl rfl rfl (by first | omega | (simp <;> omega)) (by first | omega | (simp <;> omega)) ?_
                refine Run.loadOagg 0 _ rfl rfl ag_35 rfl rfl rfl rfl rfl (by assumption) ?_
                refine Run.idxO 0 rfl rfl rfl sl_22 rfl rfl rfl rfl (by first | omega | (simp <;> omega)) (by first | omega | (simp <;> omega)) ?_
                refine Run.storeO 0 _ 0 rfl rfl rfl rfl ag_35 rfl rfl rfl rfl (by assumption) rfl rfl ?_
                refine Run.nil ?_
                refine thn_next ?_
                refine WP.plain cf0 rfl ?_
                refine Run.mv rfl rfl rfl rfl ?_
                refine Run.mv rfl rfl rfl rfl ?_
                refine Run.loadBagg 1 rfl rfl ag_35 rfl rfl rfl rfl rfl ?_
                refine Run.idxO 0 rfl rfl rfl sl_22 rfl rfl rfl rfl (by first | omega | (simp <;> omega)) (by first | omega | (simp <;> omega)) ?_
                refine Run.storeO 0 _ 0 rfl rfl rfl rfl ag_35 rfl rfl rfl rfl (by assumption) rfl rfl ?_
                refine Run.nil ?_
                refine blk_norm ?_; refine thn_next ?_
                refine WP.plain cf0 rfl ?_
                refine Run.mv rfl rfl rfl rfl ?_
                refine Run.sub64 rfl rfl rfl rfl rfl (by first | omega | (simp <;> omega)) (by first | omega | (simp <;> omega)) ?_
                refine Run.mv rfl rfl rfl rfl ?_
                refine Run.nil ?_
                refine thn_next ⟨(pre', y :: suf), ⟨?_, ?_⟩, ?_, ?_, ?_⟩
                · simp only; rw [hput, putL_snoc, if_pos hb]; simp
                · simp at hpl ⊢; omega
                · simp
                · refine ⟨rfl, rfl, rfl, ?_, trivial⟩
                  have : ((pre' ++ [y]).length : Int) - 1 = (pre'.length : Int) := by simp
                  simp only [this]; rfl
                · have : (((pre' ++ [y]) ++ x :: suf).set (((pre' ++ [y]).length : Int) - 1).toNat x).set (((pre' ++ [y]).length : Int)).toNat y = pre' ++ x :: y :: suf := by rw [e1, e2]; simp [List.set_append]
                  rw [← this]; exact pick_only [0] _
              · refine WP.exit ?_; refine thn_exit ?_; refine thn_exit ?_; refine blk_hit ?_; refine blk_norm ?_; refine thn_next ?_
                refine ⟨(sv60, putL afterF o x), ⟨hso.put hok htw, ?_, ?_⟩, ⟨rfl, rfl, rfl, trivial⟩, ?_⟩
                · simp only [putL_len]; omega
                · intro z hz
                  rcases (putL_mem afterF o x z).1 hz with rfl | hz
                  · exact hxm
                  · exact hox z hz
                · rw [hput, putL_snoc, hb]; simp; exact ent.refl _
        rintro ⟨sv', o'⟩ ⟨g1, g2, g3⟩
        refine WP.plain cf0 rfl ?_
        refine Run.mv rfl rfl rfl rfl ?_
        refine Run.add64 rfl rfl rfl rfl rfl (by first | omega | (simp <;> omega)) (by first | omega | (simp <;> omega)) ?_
        refine Run.mv rfl rfl rfl rfl ?_
        refine Run.nil ?_
        refine thn_next ⟨(i + 1, sv', o'), ⟨by omega, g1, g2, g3⟩, by simp only; omega, ⟨rfl, rfl, by simp [Env.get], trivial⟩, ent.refl _⟩
      · refine WP.exit ?_; refine thn_exit ?_; refine thn_exit ?_; refine blk_hit ?_; refine thn_next ?_
        exact ⟨(sv, o), ⟨hso, by show o.length ≤ 3000; omega, hox⟩, ⟨rfl, trivial⟩, ent.refl _⟩
  rintro ⟨sv, o⟩ ⟨g1, g2, g3⟩
  refine WP.seq ?_
  refine WP.plain cf0 rfl ?_
  refine Run.mv rfl rfl rfl rfl ?_
  refine Run.mv rfl rfl rfl rfl ?_
  refine Run.nil ?_
  refine thn_next ?_
  refine WP.ret ?_
  exact retT [2] _ rfl rfl ⟨sv, o, rfl, rfl, g1, g2, g3⟩
end Go.Proofs.Ytengcfamhoppbaa
