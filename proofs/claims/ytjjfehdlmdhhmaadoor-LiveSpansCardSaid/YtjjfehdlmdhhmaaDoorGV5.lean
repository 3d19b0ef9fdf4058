/- What is read on some way from a point, ahead of being set; the search for it; plain. -/
import Derived.Test.YtjjfehdlmdhhmaaDoorGT4
import Derived.Test.YtjjfehdlmdhhmaaDoorGV7
section
/- What is read on some way from a point, ahead of being set; the search for it; plain. -/
namespace Go.Proofs.YtjjfehdlmdhhmaaDoor
open Go.Sep
set_option linter.unusedSimpArgs false
set_option linter.unusedVariables false

/-- read on some way from place k of block i, ahead of being set -/
def AtP (F : LFun) (r : Int) (i k : Nat) : Prop := ∃ b, F.blocks[i]? = some b ∧ (needB r (b.body.drop k) (decide (b.value = r)) = true ∨ (needB r (b.body.drop k) true = true ∧ ∃ c ∈ b.to, LiveIn F r c.toNat))
theorem atP_zero {F : LFun} {r : Int} {i : Nat} : AtP F r i 0 ↔ LiveIn F r i := by
  constructor
  · rintro ⟨b, hb, h | ⟨h, c, hc, hl⟩⟩
    · exact .here hb (by simpa using h)
    · exact .on hb hc (by simpa using h) hl
  · intro h
    cases h with
    | here hb hn => exact ⟨_, hb, .inl (by simpa using hn)⟩
    | on hb hc hn hl => exact ⟨_, hb, .inr ⟨by simpa using hn, _, hc, hl⟩⟩
theorem liveOut_at {F : LFun} {r : Int} {i : Nat} {b : LBlk} (hb : F.blocks[i]? = some b) : LiveOut F r i ↔ ∃ c ∈ b.to, AtP F r c.toNat 0 := by
  constructor
  · rintro ⟨b', c, hb', hc, hl⟩
    rw [hb] at hb'; cases hb'
    exact ⟨c, hc, atP_zero.2 hl⟩
  · rintro ⟨c, hc, hl⟩
    exact ⟨b, c, hb, hc, atP_zero.1 hl⟩

/-- what is processed of the work -/
def Done (F : LFun) (r : Int) (M : List Bool) (w : Nat × Nat) : Prop := ∃ b, F.blocks[w.1]? = some b ∧ needB r (b.body.drop w.2) (decide (b.value = r)) = false ∧ (needB r (b.body.drop w.2) true = true → ∀ c ∈ b.to, M[c.toNat]? = some true)
structure WaysInv (F : LFun) (r : Int) (p : Nat × Nat) (W : List (Nat × Nat)) (M : List Bool) (j : Nat) : Prop where
  first : W[0]? = some p
  good : ∀ w ∈ W, w.1 < F.blocks.length ∧ (AtP F r w.1 w.2 → AtP F r p.1 p.2)
  met : ∀ c : Nat, M[c]? = some true → (c, 0) ∈ W
  ml : M.length = F.blocks.length
  wl : W.length = 1 + M.count true
  done : ∀ (q : Nat) (w : Nat × Nat), q < j → W[q]? = some w → Done F r M w
  le : j ≤ W.length

theorem ways_start {F : LFun} {r : Int} {p : Nat × Nat} (hp : p.1 < F.blocks.length) : WaysInv F r p [p] (List.replicate F.blocks.length false) 0 where
  first := rfl
  good := fun w hw => by rw [List.mem_singleton.1 hw]; exact ⟨hp, id⟩
  met := fun c h => by
    rw [List.getElem?_replicate] at h
    split at h
    · cases h
    · cases h
  ml := by simp
  wl := by simp [List.count_replicate]
  done := fun q w h => by omega
  le := Nat.zero_le _
theorem ways_le {F : LFun} {r : Int} {p : Nat × Nat} {W : List (Nat × Nat)} {M : List Bool} {j : Nat} (h : WaysInv F r p W M j) : W.length ≤ 1 + F.blocks.length := by
  rw [h.wl, ← h.ml]
  have := List.count_le_length (a := true) (l := M)
  omega
/-- all is processed: it is read nowhere -/
theorem ways_end {F : LFun} {r : Int} {p : Nat × Nat} {W : List (Nat × Nat)} {M : List Bool} (h : WaysInv F r p W M W.length) : ¬ AtP F r p.1 p.2 := by
  have all : ∀ w ∈ W, Done F r M w := fun w hw => by
    obtain ⟨q, hq⟩ := List.getElem?_of_mem hw
    exact h.done q w (List.getElem?_eq_some_iff.1 hq).1 hq
  have no : ∀ i, LiveIn F r i → M[i]? ≠ some true := by
    intro i hl
    induction hl with
    | here hb hn =>
      intro hm
      obtain ⟨b', hb', h1, _⟩ := all _ (h.met _ hm)
      simp only at hb' h1
      rw [hb] at hb'; cases hb'
      rw [List.drop_zero, hn] at h1; cases h1
    | on hb hc hn _ ih =>
      intro hm
      obtain ⟨b', hb', _, h2⟩ := all _ (h.met _ hm)
      simp only at hb' h2
      rw [hb] at hb'; cases hb'
      exact ih (h2 (by simpa using hn) _ hc)
  rintro ⟨b, hb, hd⟩
  obtain ⟨b', hb', h1, h2⟩ := all p (List.mem_of_getElem? h.first)
  rw [hb] at hb'; cases hb'
  rcases hd with hd | ⟨hd, c, hc, hl⟩
  · rw [hd] at h1; cases h1
  · exact no _ hl (h2 hd c hc)
/-- a point of the work is read at: so is the first -/
theorem ways_hit {F : LFun} {r : Int} {p : Nat × Nat} {W : List (Nat × Nat)} {M : List Bool} {j : Nat} (h : WaysInv F r p W M j) {w : Nat × Nat} (hw : w ∈ W) {b : LBlk} (hb : F.blocks[w.1]? = some b) (hn : needB r (b.body.drop w.2) (decide (b.value = r)) = true) : AtP F r p.1 p.2 :=
  (h.good w hw).2 ⟨b, hb, .inl hn⟩
theorem Done.mono {F : LFun} {r : Int} {M M' : List Bool} {w : Nat × Nat} (hM : ∀ c : Nat, M[c]? = some true → M'[c]? = some true) (h : Done F r M w) : Done F r M' w := by
  obtain ⟨b, h1, h2, h3⟩ := h
  exact ⟨b, h1, h2, fun hn c hc => hM _ (h3 hn c hc)⟩
theorem count_set {M : List Bool} {c : Nat} (h : M[c]? = some false) : (M.set c true).count true = M.count true + 1 := by
  induction M generalizing c with
  | nil => simp at h
  | cons x xs ih => cases c with
    | zero => simp at h; subst h; simp [List.count_cons]
    | succ c => simp at h; simp [List.count_cons, ih h]; omega
/-- a block that was not met is met -/
theorem ways_meet {F : LFun} {r : Int} {p : Nat × Nat} {W : List (Nat × Nat)} {M : List Bool} {j c : Nat} (h : WaysInv F r p W M j) (hc : c < F.blocks.length) (hm : M[c]? = some false) (hl : LiveIn F r c → AtP F r p.1 p.2) : WaysInv F r p (W ++ [(c, 0)]) (M.set c true) j where
  first := by rw [List.getElem?_append_left (by have := (List.getElem?_eq_some_iff.1 h.first).1; exact this)]; exact h.first
  good := fun w hw => by
    rcases List.mem_append.1 hw with hw | hw
    · exact h.good w hw
    · rw [List.mem_singleton.1 hw]; exact ⟨hc, fun ha => hl (atP_zero.1 ha)⟩
  met := fun d hd => by
    by_cases e : c = d
    · subst e; simp
    · rw [List.getElem?_set_ne e] at hd
      exact List.mem_append_left _ (h.met d hd)
  ml := by rw [List.length_set]; exact h.ml
  wl := by rw [List.length_append, count_set hm, h.wl]; simp; omega
  done := fun q w hq hw => by
    have hlt := Nat.lt_of_lt_of_le hq h.le
    rw [List.getElem?_append_left hlt] at hw
    refine (h.done q w hq hw).mono fun d hd => ?_
    by_cases e : c = d
    · subst e; rw [List.getElem?_set_self (by have := (List.getElem?_eq_some_iff.1 hd).1; exact this)]
    · rw [List.getElem?_set_ne e]; exact hd
  le := by rw [List.length_append]; have := h.le; omega
/-- the next point is processed -/
theorem ways_next {F : LFun} {r : Int} {p : Nat × Nat} {W : List (Nat × Nat)} {M : List Bool} {j : Nat} (h : WaysInv F r p W M j) {w : Nat × Nat} (hw : W[j]? = some w) (hd : Done F r M w) : WaysInv F r p W M (j + 1) :=
  ⟨h.first, h.good, h.met, h.ml, h.wl, fun q w' hq hw' => by
    by_cases e : q = j
    · subst e; rw [hw] at hw'; cases hw'; exact hd
    · exact h.done q w' (by omega) hw', (List.getElem?_eq_some_iff.1 hw).1⟩
end Go.Proofs.YtjjfehdlmdhhmaaDoor
end

section
/- wanted, the laws' own search; walked. -/
namespace Go.Proofs.YtjjfehdlmdhhmaaDoor
open Go.Sep
set_option linter.unusedSimpArgs false
set_option linter.unusedVariables false
attribute [local irreducible] blk slA mp mpF rows rowsBut many

def encPt : Enc (Nat × Nat) := ⟨2, fun x => [.int .i64 (x.1 : Int), .int .i64 (x.2 : Int)], fun _ => rfl, fun _ => rfl⟩

set_option maxHeartbeats 2000000 in
set_option maxRecDepth 100000 in
theorem wantL_ok (hR : Heap) (F : LFun) (su sv : SV) (hv : SlR rdBlk hR sv.val F.blocks) (hS : SmallF F) (hn : F.blocks.length ≤ 1000000) (hto : ∀ b ∈ F.blocks, ∀ c ∈ b.to, 0 ≤ c ∧ c < (F.blocks.length : Int)) (i k : Nat) (hi : i < F.blocks.length) (r : Int) :
    Tri Tryd.prog hR 23 #[.agg ⟨fcs F su sv⟩, .agg ⟨[.int .i64 (i : Int), .int .i64 (k : Int)]⟩, .int .i64 r] [] fun u Γ' => (∃ s : Bool, u = .bool s ∧ (s = true ↔ AtP F r i k)) ∧ Γ' = [] := by
  refine Tri.ent (Tri.of (args := [.agg ⟨fcs F su sv⟩, .agg ⟨[.int .i64 (i : Int), .int .i64 (k : Int)]⟩, .int .i64 r]) Tryd.func23 rfl Tryd.ntmps23 (by simp) ?_)
  refine WP.seq ?_
  refine WP.plain cf0 rfl ?_
  refine Run.box rfl rfl rfl rfl rfl ?_
  intro b3
  refine Run.box rfl rfl rfl rfl rfl ?_
  intro b4
  refine Run.mv rfl rfl rfl rfl ?_
  refine Run.nil ?_
  refine thn_next ?_
  refine WP.seq ?_
  refine WP.plain cf0 rfl ?_
  refine Run.loadBagg 1 rfl rfl ag_60 rfl rfl rfl rfl rfl ?_
  refine Run.buildSlice (E := encPt) rfl sl_108 zr_60 ([((i, k) : Nat × Nat)]) rfl rfl rfl (by decide) rfl rfl ?_
  intro b16
  refine Run.mv rfl rfl rfl rfl ?_
  refine Run.nil ?_
  refine thn_next ?_
  refine WP.seq ?_
  refine WP.plain cf0 rfl ?_
  refine Run.fieldAddr rfl rfl fo_25_4 rfl rfl ?_
  refine Run.loadB 0 rfl rfl ag_23 rfl rfl rfl rfl rfl ?_
  refine Run.lenR rfl rfl sl_23 rfl rfl hv ?_
  refine Run.makeSlice (E := Enc.bool) (false) rfl rfl rfl sl_92 zr_4 rfl rfl rfl (by first | omega | (simp <;> omega)) (by first | omega | (simp <;> omega)) (by first | omega | (simp <;> omega)) (by first | omega | (simp <;> omega)) ?_
  intro b20
  refine Run.mv rfl rfl rfl rfl ?_
  refine Run.nil ?_
  refine thn_next ?_
  refine WP.sup (ρ' := [(7, (⟨some ⟨b16, 0, none⟩, 1, 1⟩ : SV).val), (8, (⟨some ⟨b20, 0, none⟩, F.blocks.length, F.blocks.length⟩ : SV).val), (3, .pointer (some ⟨b3, 0, none⟩)), (2, .int .i64 r)]) (Γ' := [blk b3 (fcs F su sv) 25, slA 60 encPt (⟨some ⟨b16, 0, none⟩, 1, 1⟩ : SV).val [((i, k) : Nat × Nat)], slA 4 Enc.bool (⟨some ⟨b20, 0, none⟩, F.blocks.length, F.blocks.length⟩ : SV).val (List.replicate F.blocks.length false)]) (covers_get ⟨rfl, rfl, rfl, rfl, trivial⟩) ent.gn ?_
  refine WP.meetK (α := SV) (fun _ => ¬ AtP F r i k) (fun z => [(7, z.val)]) (fun _ => []) ?_ ?_
  · refine WP.seq ?_
    refine WP.plain cf0 rfl ?_
    refine Run.mv rfl rfl rfl rfl ?_
    refine Run.nil ?_
    refine thn_next ?_
    refine WP.block ?_
    refine WP.loopK (α := Nat × SV × List (Nat × Nat) × List Bool) (fun z => WaysInv F r (i, k) z.2.2.1 z.2.2.2 z.1) (fun z => [(9, .int .i64 (z.1 : Int)), (7, z.2.1.val)]) (fun z => [blk b3 (fcs F su sv) 25, slA 60 encPt z.2.1.val z.2.2.1, slA 4 Enc.bool (⟨some ⟨b20, 0, none⟩, F.blocks.length, F.blocks.length⟩ : SV).val z.2.2.2]) (fun z => 1 + F.blocks.length - z.1) (0, (⟨some ⟨b16, 0, none⟩, 1, 1⟩ : SV), [(i, k)], List.replicate F.blocks.length false) (ways_start hi) ⟨(by repeat first | exact trivial | refine ⟨rfl, ?_⟩), rfl, rfl⟩ ent.go ?_
    rintro ⟨j, wv, W, M⟩ hI
    simp only at hI ⊢
    have hle := ways_le hI
    have hml := hI.ml
    refine WP.know (slA_know 1 rfl) (fun hkn => ?_)
    obtain ⟨hkn, _⟩ := hkn
    refine WP.seq ?_
    refine WP.seq ?_
    refine WP.plain cf0 rfl ?_
    refine Run.mv rfl rfl rfl rfl ?_
    refine Run.mv rfl rfl rfl rfl ?_
    refine Run.lenO 1 rfl rfl sl_108 rfl rfl rfl ?_
    refine Run.int2 rfl rfl rfl rfl rfl rfl ?_
    refine Run.nil ?_
    refine thn_next ?_
    refine WP.ite rfl (fun hlt => ?_) (fun hge => ?_)
    · refine WP.skip ?_; refine thn_next ?_
      have hlt' : j < W.length := by omega
      obtain ⟨⟨wb, wk⟩, gW⟩ : ∃ y, W[j]? = some y := ⟨_, List.getElem?_eq_getElem hlt'⟩
      have gW' : W[(j : Int).toNat]? = some (wb, wk) := gW
      have hwb : wb < F.blocks.length := (hI.good _ (List.mem_of_getElem? gW)).1
      obtain ⟨b, gB⟩ : ∃ y, F.blocks[(wb : Int).toNat]? = some y := ⟨_, List.getElem?_eq_getElem hwb⟩
      have gB' : F.blocks[wb]? = some b := gB
      have hbm := List.mem_of_getElem? gB'
      have hb1 := hS.bodies b hbm
      have hb2 := hS.tos b hbm
      have hb3 := hS.args b hbm
      have hb4 := hto b hbm
      obtain ⟨_, ⟨bu0, bt0, rfl, hbu, hbt⟩, hrow⟩ := hv.at gB
      obtain ⟨bu, rfl, _, _⟩ := SlR.sv hbu
      obtain ⟨bt, rfl, _, _⟩ := SlR.sv hbt
      refine WP.sup (ρ' := [(9, .int .i64 (j : Int)), (7, wv.val), (9, .int .i64 0), (7, (⟨some ⟨b16, 0, none⟩, 1, 1⟩ : SV).val), (8, (⟨some ⟨b20, 0, none⟩, F.blocks.length, F.blocks.length⟩ : SV).val), (3, .pointer (some ⟨b3, 0, none⟩)), (2, .int .i64 r)]) (Γ' := [blk b3 (fcs F su sv) 25, slA 60 encPt wv.val W, slA 4 Enc.bool (⟨some ⟨b20, 0, none⟩, F.blocks.length, F.blocks.length⟩ : SV).val M]) (Kp.sup (car := [(9, .int .i64 (j : Int)), (7, wv.val)]) (ρ := [(9, .int .i64 0), (7, (⟨some ⟨b16, 0, none⟩, 1, 1⟩ : SV).val), (8, (⟨some ⟨b20, 0, none⟩, F.blocks.length, F.blocks.length⟩ : SV).val), (3, .pointer (some ⟨b3, 0, none⟩)), (2, .int .i64 r)]) ⟨(by repeat first | exact trivial | refine ⟨rfl, ?_⟩), rfl, rfl⟩) ent.go ?_
      refine WP.meetK (α := SV × List (Nat × Nat) × List Bool) (fun z => WaysInv F r (i, k) z.2.1 z.2.2 (j + 1)) (fun z => [(7, z.1.val)]) (fun z => [blk b3 (fcs F su sv) 25, slA 60 encPt z.1.val z.2.1, slA 4 Enc.bool (⟨some ⟨b20, 0, none⟩, F.blocks.length, F.blocks.length⟩ : SV).val z.2.2]) ?_ ?_
      · refine WP.block ?_
        refine WP.seq ?_
        refine WP.drawn0 cf0 mixed rfl (by kernel_rfl) ?_
        refine Run.fieldAddr rfl rfl fo_25_4 rfl rfl ?_
        refine Run.loadB 0 rfl rfl ag_23 rfl rfl rfl rfl rfl ?_
        refine Run.mv rfl rfl rfl rfl ?_
        refine Run.mv rfl rfl rfl rfl ?_
        refine Run.idxO 1 rfl rfl rfl sl_108 rfl rfl rfl rfl (by omega) (by omega) ?_
        refine Run.fieldAddr rfl rfl fo_60_0 rfl rfl ?_
        refine Run.loadO 1 j 0 rfl rfl ag_3 rfl rfl rfl rfl gW rfl ?_
        refine Run.idxR rfl rfl rfl sl_23 rfl rfl hv (by rfl) (by omega) (by omega) ?_
        refine Run.loadRagg rfl rfl ag_56 rfl rfl hrow rfl ?_
        refine Run.alloc rfl zr_56 rfl rfl rfl ?_
        intro b10
        refine Run.storeB 3 rfl rfl rfl rfl ag_56 rfl rfl rfl rfl rfl ?_
        refine Run.nil ?_
        refine thn_next ?_
        refine WP.sup (ρ' := [(10, .pointer (some ⟨b10, 0, none⟩)), (9, .int .i64 (j : Int)), (7, wv.val), (9, .int .i64 0), (7, (⟨some ⟨b16, 0, none⟩, 1, 1⟩ : SV).val), (8, (⟨some ⟨b20, 0, none⟩, F.blocks.length, F.blocks.length⟩ : SV).val), (3, .pointer (some ⟨b3, 0, none⟩)), (2, .int .i64 r)]) (Γ' := [blk b3 (fcs F su sv) 25, slA 60 encPt wv.val W, slA 4 Enc.bool (⟨some ⟨b20, 0, none⟩, F.blocks.length, F.blocks.length⟩ : SV).val M, blk b10 [bu.val, .int .i64 b.kind, .int .i64 b.value, bt.val] 56]) (Kp.sup (car := [(10, .pointer (some ⟨b10, 0, none⟩))]) (ρ := [(9, .int .i64 (j : Int)), (7, wv.val), (9, .int .i64 0), (7, (⟨some ⟨b16, 0, none⟩, 1, 1⟩ : SV).val), (8, (⟨some ⟨b20, 0, none⟩, F.blocks.length, F.blocks.length⟩ : SV).val), (3, .pointer (some ⟨b3, 0, none⟩)), (2, .int .i64 r)]) ⟨(by repeat first | exact trivial | refine ⟨rfl, ?_⟩), rfl, rfl⟩) ent.gn ?_
        refine WP.seq ?_
        refine WP.plain cf0 rfl ?_
        refine Run.mv rfl rfl rfl rfl ?_
        refine Run.nil ?_
        refine thn_next ?_
        refine WP.meetK (α := Bool) (fun s => (s = true → ∀ q, needB r (b.body.drop wk) q = false) ∧ (s = false → ∀ q, needB r (b.body.drop wk) q = q)) (fun s => [(11, .bool s)]) (fun s => [blk b3 (fcs F su sv) 25, slA 60 encPt wv.val W, slA 4 Enc.bool (⟨some ⟨b20, 0, none⟩, F.blocks.length, F.blocks.length⟩ : SV).val M, blk b10 [bu.val, .int .i64 b.kind, .int .i64 b.value, bt.val] 56]) ?_ ?_
        · refine WP.seq ?_
          refine WP.plain cf0 rfl ?_
          refine Run.mv rfl rfl rfl rfl ?_
          refine Run.mv rfl rfl rfl rfl ?_
          refine Run.idxO 1 rfl rfl rfl sl_108 rfl rfl rfl rfl (by omega) (by omega) ?_
          refine Run.fieldAddr rfl rfl fo_60_1 rfl rfl ?_
          refine Run.loadO 1 j 1 rfl rfl ag_3 rfl rfl rfl rfl gW rfl ?_
          refine Run.mv rfl rfl rfl rfl ?_
          refine Run.nil ?_
          refine thn_next ?_
          refine WP.block ?_
          refine WP.sup (ρ' := [(12, .int .i64 (wk : Int)), (11, .bool false), (10, .pointer (some ⟨b10, 0, none⟩)), (9, .int .i64 (j : Int)), (7, wv.val), (9, .int .i64 0), (7, (⟨some ⟨b16, 0, none⟩, 1, 1⟩ : SV).val), (8, (⟨some ⟨b20, 0, none⟩, F.blocks.length, F.blocks.length⟩ : SV).val), (3, .pointer (some ⟨b3, 0, none⟩)), (2, .int .i64 r)]) (Γ' := [blk b3 (fcs F su sv) 25, slA 60 encPt wv.val W, slA 4 Enc.bool (⟨some ⟨b20, 0, none⟩, F.blocks.length, F.blocks.length⟩ : SV).val M, blk b10 [bu.val, .int .i64 b.kind, .int .i64 b.value, bt.val] 56]) (Kp.sup (car := [(12, .int .i64 (wk : Int))]) (ρ := [(11, .bool false), (10, .pointer (some ⟨b10, 0, none⟩)), (9, .int .i64 (j : Int)), (7, wv.val), (9, .int .i64 0), (7, (⟨some ⟨b16, 0, none⟩, 1, 1⟩ : SV).val), (8, (⟨some ⟨b20, 0, none⟩, F.blocks.length, F.blocks.length⟩ : SV).val), (3, .pointer (some ⟨b3, 0, none⟩)), (2, .int .i64 r)]) ⟨(by repeat first | exact trivial | refine ⟨rfl, ?_⟩), rfl, rfl⟩) ent.go ?_
          refine WP.loopK (α := Nat × Bool) (fun z => (z.2 = true → ∀ q, needB r (b.body.drop wk) q = false) ∧ (z.2 = false → ∀ q, needB r (b.body.drop wk) q = needB r (b.body.drop z.1) q)) (fun z => [(12, .int .i64 (z.1 : Int)), (11, .bool z.2)]) (fun z => [blk b3 (fcs F su sv) 25, slA 60 encPt wv.val W, slA 4 Enc.bool (⟨some ⟨b20, 0, none⟩, F.blocks.length, F.blocks.length⟩ : SV).val M, blk b10 [bu.val, .int .i64 b.kind, .int .i64 b.value, bt.val] 56]) (fun z => b.body.length - z.1) (wk, false) ⟨fun h => (by cases h), fun _ q => rfl⟩ ⟨(by repeat first | exact trivial | refine ⟨rfl, ?_⟩), rfl, rfl⟩ ent.go ?_
          rintro ⟨m, s⟩ ⟨hs1, hs2⟩
          simp only at hs1 hs2 ⊢
          refine WP.seq ?_
          refine WP.seq ?_
          by_cases hm : (m : Int) < (b.body.length : Int)
          · cases s with
            | true =>
              refine WP.plain cf0 rfl ?_
              refine Run.mv rfl rfl rfl rfl ?_
              refine Run.fieldAddr rfl rfl fo_56_0 rfl rfl ?_
              refine Run.loadB 3 rfl rfl ag_52 rfl rfl rfl rfl rfl ?_
              refine Run.lenR rfl rfl sl_52 rfl rfl hbu ?_
              refine Run.int2 rfl rfl rfl rfl rfl rfl ?_
              refine Run.tt hm ?_
              refine Run.mv rfl rfl rfl rfl ?_
              refine Run.mv rfl rfl rfl rfl ?_
              refine Run.bnotB rfl rfl rfl rfl ?_
              refine Run.eqv (v' := .bool false) rfl ?_
              refine Run.pick rfl rfl rfl rfl rfl ?_
              refine Run.nil ?_
              refine thn_next ?_
              refine WP.cond (t := false) rfl (fun h => by cases h) (fun _ => ?_)
              refine WP.exit ?_; refine thn_exit ?_; refine thn_exit ?_; refine blk_hit ?_
              exact thn_next ⟨true, ⟨hs1, fun h => by cases h⟩, ⟨(by repeat first | exact trivial | refine ⟨rfl, ?_⟩), rfl, rfl⟩, ent.go⟩
            | false =>
              refine WP.plain cf0 rfl ?_
              refine Run.mv rfl rfl rfl rfl ?_
              refine Run.fieldAddr rfl rfl fo_56_0 rfl rfl ?_
              refine Run.loadB 3 rfl rfl ag_52 rfl rfl rfl rfl rfl ?_
              refine Run.lenR rfl rfl sl_52 rfl rfl hbu ?_
              refine Run.int2 rfl rfl rfl rfl rfl rfl ?_
              refine Run.tt hm ?_
              refine Run.mv rfl rfl rfl rfl ?_
              refine Run.mv rfl rfl rfl rfl ?_
              refine Run.bnotB rfl rfl rfl rfl ?_
              refine Run.eqv (v' := .bool true) rfl ?_
              refine Run.pick rfl rfl rfl rfl rfl ?_
              refine Run.nil ?_
              refine thn_next ?_
              refine WP.cond (t := true) rfl (fun _ => ?_) (fun h => by cases h)
              refine WP.skip ?_; refine thn_next ?_
              have hm' : m < b.body.length := by omega
              obtain ⟨x, gx⟩ : ∃ y, b.body[(m : Int).toNat]? = some y := ⟨_, List.getElem?_eq_getElem hm'⟩
              have gx' : b.body[m]? = some x := gx
              have hx3 := hb3 x (List.mem_of_getElem? gx')
              have hdrop : b.body.drop m = x :: b.body.drop (m + 1) := by rw [List.drop_eq_getElem_cons hm']; congr 1; rw [List.getElem?_eq_getElem hm'] at gx'; exact Option.some.inj gx'
              obtain ⟨_, ⟨xa, rfl, hxa⟩, hxrow⟩ := hbu.at gx
              have x1 : cellH hR ((elemAddr bu.val (m * 4)).add 1) (.int .i64 x.dst) := by have := hxrow 1 _ rfl; exact this
              have x3 : cellH hR ((elemAddr bu.val (m * 4)).add 3) xa := by have := hxrow 3 _ rfl; exact this
              refine WP.sup (ρ' := [(12, .int .i64 (m : Int)), (11, .bool false), (12, .int .i64 (wk : Int)), (11, .bool false), (10, .pointer (some ⟨b10, 0, none⟩)), (9, .int .i64 (j : Int)), (7, wv.val), (9, .int .i64 0), (7, (⟨some ⟨b16, 0, none⟩, 1, 1⟩ : SV).val), (8, (⟨some ⟨b20, 0, none⟩, F.blocks.length, F.blocks.length⟩ : SV).val), (3, .pointer (some ⟨b3, 0, none⟩)), (2, .int .i64 r)]) (Γ' := [blk b3 (fcs F su sv) 25, slA 60 encPt wv.val W, slA 4 Enc.bool (⟨some ⟨b20, 0, none⟩, F.blocks.length, F.blocks.length⟩ : SV).val M, blk b10 [bu.val, .int .i64 b.kind, .int .i64 b.value, bt.val] 56]) (Kp.sup (car := [(12, .int .i64 (m : Int)), (11, .bool false)]) (ρ := [(12, .int .i64 (wk : Int)), (11, .bool false), (10, .pointer (some ⟨b10, 0, none⟩)), (9, .int .i64 (j : Int)), (7, wv.val), (9, .int .i64 0), (7, (⟨some ⟨b16, 0, none⟩, 1, 1⟩ : SV).val), (8, (⟨some ⟨b20, 0, none⟩, F.blocks.length, F.blocks.length⟩ : SV).val), (3, .pointer (some ⟨b3, 0, none⟩)), (2, .int .i64 r)]) ⟨(by repeat first | exact trivial | refine ⟨rfl, ?_⟩), rfl, rfl⟩) ent.go ?_
              refine WP.seq ?_
              refine WP.block ?_
              refine WP.meetK (α := Unit) (fun _ => r ∉ x.args) (fun _ => []) (fun _ => [blk b3 (fcs F su sv) 25, slA 60 encPt wv.val W, slA 4 Enc.bool (⟨some ⟨b20, 0, none⟩, F.blocks.length, F.blocks.length⟩ : SV).val M, blk b10 [bu.val, .int .i64 b.kind, .int .i64 b.value, bt.val] 56]) ?_ ?_
              · refine WP.seq ?_
                refine WP.plain cf0 rfl ?_
                refine Run.mv rfl rfl rfl rfl ?_
                refine Run.nil ?_
                refine thn_next ?_
                refine WP.block ?_
                refine WP.loopK (α := Nat) (fun n => n ≤ x.args.length ∧ ∀ (q : Nat) (y : Int), q < n → x.args[q]? = some y → y ≠ r) (fun n => [(13, .int .i64 (n : Int))]) (fun n => [blk b3 (fcs F su sv) 25, slA 60 encPt wv.val W, slA 4 Enc.bool (⟨some ⟨b20, 0, none⟩, F.blocks.length, F.blocks.length⟩ : SV).val M, blk b10 [bu.val, .int .i64 b.kind, .int .i64 b.value, bt.val] 56]) (fun n => x.args.length - n) 0 ⟨Nat.zero_le _, fun q y h => by omega⟩ ⟨(by repeat first | exact trivial | refine ⟨rfl, ?_⟩), rfl, rfl⟩ ent.go ?_
                rintro n ⟨hn1, hn2⟩
                refine WP.seq ?_
                refine WP.seq ?_
                refine WP.plain cf0 rfl ?_
                refine Run.mv rfl rfl rfl rfl ?_
                refine Run.fieldAddr rfl rfl fo_56_0 rfl rfl ?_
                refine Run.loadB 3 rfl rfl ag_52 rfl rfl rfl rfl rfl ?_
                refine Run.mv rfl rfl rfl rfl ?_
                refine Run.idxR rfl rfl rfl sl_52 rfl rfl hbu (by rfl) (by omega) (by omega) ?_
                refine Run.fieldAddr rfl rfl fo_67_3 rfl rfl ?_
                refine Run.loadR rfl rfl ag_22 rfl rfl x3 ?_
                refine Run.lenR rfl rfl sl_22 rfl rfl hxa ?_
                refine Run.int2 rfl rfl rfl rfl rfl rfl ?_
                refine Run.nil ?_
                refine thn_next ?_
                refine WP.ite rfl (fun hlt3 => ?_) (fun hge3 => ?_)
                · refine WP.skip ?_; refine thn_next ?_
                  have hlt3' : n < x.args.length := by omega
                  obtain ⟨y, gy⟩ : ∃ y, x.args[n]? = some y := ⟨_, List.getElem?_eq_getElem hlt3'⟩
                  have gy' : x.args[(n : Int).toNat]? = some y := gy
                  refine WP.seq ?_
                  refine WP.block ?_
                  refine WP.seq ?_
                  refine WP.plain cf0 rfl ?_
                  refine Run.fieldAddr rfl rfl fo_56_0 rfl rfl ?_
                  refine Run.loadB 3 rfl rfl ag_52 rfl rfl rfl rfl rfl ?_
                  refine Run.mv rfl rfl rfl rfl ?_
                  refine Run.idxR rfl rfl rfl sl_52 rfl rfl hbu (by rfl) (by omega) (by omega) ?_
                  refine Run.fieldAddr rfl rfl fo_67_3 rfl rfl ?_
                  refine Run.loadR rfl rfl ag_22 rfl rfl x3 ?_
                  refine Run.mv rfl rfl rfl rfl ?_
                  refine Run.idxR rfl rfl rfl sl_22 rfl rfl hxa (by rfl) (by omega) (by omega) ?_
                  refine Run.loadR rfl rfl ag_3 rfl rfl (SlR.cell0 hxa gy' rfl) ?_
                  refine Run.mv rfl rfl rfl rfl ?_
                  refine Run.int2 rfl rfl rfl rfl rfl rfl ?_
                  refine Run.nil ?_
                  refine thn_next ?_
                  refine WP.ite rfl (fun he => ?_) (fun hne => ?_)
                  · refine WP.seq ?_
                    refine WP.plain cf0 rfl ?_
                    refine Run.mv rfl rfl rfl rfl ?_
                    refine Run.nil ?_
                    refine thn_next ?_
                    refine WP.ret ?_; refine blk_ret ?_; refine thn_ret ?_; refine thn_ret ?_; refine blk_ret ?_; refine thn_ret ?_; refine blk_ret ?_; refine thn_ret ?_; refine thn_ret ?_; refine blk_ret ?_; refine thn_ret ?_; refine blk_ret ?_; refine thn_ret ?_; refine thn_ret ?_; refine blk_ret ?_; refine thn_ret ?_
                    have hin : x.args.contains r = true := by rw [List.contains_iff_mem, ← he]; exact List.mem_of_getElem? gy
                    have hat : AtP F r i k := ways_hit hI (List.mem_of_getElem? gW) gB' (by rw [hs2 rfl, hdrop, needB, hin]; rfl)
                    exact retT [6] _ rfl rfl ⟨_, ent.none _, ⟨true, rfl, fun _ => hat, fun _ => rfl⟩, rfl⟩
                  refine WP.skip ?_; refine blk_norm ?_; refine thn_next ?_
                  refine WP.plain cf0 rfl ?_
                  refine Run.mv rfl rfl rfl rfl ?_
                  refine Run.add64 rfl rfl rfl rfl rfl (by first | omega | (simp <;> omega)) (by first | omega | (simp <;> omega)) ?_
                  refine Run.mv rfl rfl rfl rfl ?_
                  refine Run.nil ?_
                  refine thn_next ⟨n + 1, ⟨hlt3', fun q z hq gz => ?_⟩, by omega, ⟨(by repeat first | exact trivial | refine ⟨rfl, ?_⟩), rfl, rfl⟩, ent.go⟩
                  by_cases e : q = n
                  · subst e; rw [gy] at gz; cases gz; exact hne
                  · exact hn2 q z (by omega) gz
                · refine WP.exit ?_; refine thn_exit ?_; refine thn_exit ?_; refine blk_hit ?_
                  refine thn_next ⟨(), fun hm2 => ?_, ⟨(by repeat first | exact trivial | refine ⟨rfl, ?_⟩), rfl, rfl⟩, ent.go⟩
                  obtain ⟨q, gq⟩ := List.getElem?_of_mem hm2
                  exact hn2 q r (by have := (List.getElem?_eq_some_iff.1 gq).1; omega) gq rfl
              rintro _ hnr
              refine WP.plain cf0 rfl ?_
              refine Run.fieldAddr rfl rfl fo_56_0 rfl rfl ?_
              refine Run.loadB 3 rfl rfl ag_52 rfl rfl rfl rfl rfl ?_
              refine Run.mv rfl rfl rfl rfl ?_
              refine Run.idxR rfl rfl rfl sl_52 rfl rfl hbu (by rfl) (by omega) (by omega) ?_
              refine Run.fieldAddr rfl rfl fo_67_1 rfl rfl ?_
              refine Run.loadR rfl rfl ag_3 rfl rfl x1 ?_
              refine Run.mv rfl rfl rfl rfl ?_
              refine Run.int2 rfl rfl rfl rfl rfl rfl ?_
              refine Run.mv rfl rfl rfl rfl ?_
              refine Run.nil ?_
              refine blk_norm ?_; refine thn_next ?_
              refine WP.plain cf0 rfl ?_
              refine Run.mv rfl rfl rfl rfl ?_
              refine Run.add64 rfl rfl rfl rfl rfl (by first | omega | (simp <;> omega)) (by first | omega | (simp <;> omega)) ?_
              refine Run.mv rfl rfl rfl rfl ?_
              refine Run.nil ?_
              have hnc : x.args.contains r = false := by rw [Bool.eq_false_iff]; intro h; exact hnr (List.contains_iff_mem.1 h)
              refine thn_next ⟨(m + 1, decide (x.dst = r)), ⟨fun h q => ?_, fun h q => ?_⟩, by simp only; omega, ⟨(by repeat first | exact trivial | refine ⟨rfl, ?_⟩), rfl, rfl⟩, ent.go⟩
              · rw [hs2 rfl, hdrop, needB, hnc]; simp only at h; have := of_decide_eq_true h; simp [this]
              · rw [hs2 rfl, hdrop, needB, hnc]; simp only at h; have := of_decide_eq_false h; simp [this]
          · cases s with
            | true =>
              refine WP.plain cf0 rfl ?_
              refine Run.mv rfl rfl rfl rfl ?_
              refine Run.fieldAddr rfl rfl fo_56_0 rfl rfl ?_
              refine Run.loadB 3 rfl rfl ag_52 rfl rfl rfl rfl rfl ?_
              refine Run.lenR rfl rfl sl_52 rfl rfl hbu ?_
              refine Run.int2 rfl rfl rfl rfl rfl rfl ?_
              refine Run.ff hm ?_
              refine Run.mv rfl rfl rfl rfl ?_
              refine Run.not rfl rfl ?_
              refine Run.not rfl rfl ?_
              refine Run.pick rfl rfl rfl rfl rfl ?_
              refine Run.nil ?_
              refine thn_next ?_
              refine WP.cond (t := false) rfl (fun h => by cases h) (fun _ => ?_)
              refine WP.exit ?_; refine thn_exit ?_; refine thn_exit ?_; refine blk_hit ?_
              exact thn_next ⟨true, ⟨hs1, fun h => by cases h⟩, ⟨(by repeat first | exact trivial | refine ⟨rfl, ?_⟩), rfl, rfl⟩, ent.go⟩
            | false =>
              refine WP.plain cf0 rfl ?_
              refine Run.mv rfl rfl rfl rfl ?_
              refine Run.fieldAddr rfl rfl fo_56_0 rfl rfl ?_
              refine Run.loadB 3 rfl rfl ag_52 rfl rfl rfl rfl rfl ?_
              refine Run.lenR rfl rfl sl_52 rfl rfl hbu ?_
              refine Run.int2 rfl rfl rfl rfl rfl rfl ?_
              refine Run.ff hm ?_
              refine Run.mv rfl rfl rfl rfl ?_
              refine Run.not rfl rfl ?_
              refine Run.not rfl rfl ?_
              refine Run.pick rfl rfl rfl rfl rfl ?_
              refine Run.nil ?_
              refine thn_next ?_
              refine WP.cond (t := false) rfl (fun h => by cases h) (fun _ => ?_)
              refine WP.exit ?_; refine thn_exit ?_; refine thn_exit ?_; refine blk_hit ?_
              exact thn_next ⟨false, ⟨fun h => (by cases h), fun _ q => by rw [hs2 rfl, List.drop_eq_nil_of_le (by omega)]; rfl⟩, ⟨(by repeat first | exact trivial | refine ⟨rfl, ?_⟩), rfl, rfl⟩, ent.go⟩
        rintro s ⟨hs1, hs2⟩
        refine WP.seq ?_
        refine WP.seq ?_
        refine WP.plain cf0 rfl ?_
        refine Run.mv rfl rfl rfl rfl ?_
        refine Run.nil ?_
        refine thn_next ?_
        cases s with
        | true =>
          refine WP.cond (t := true) rfl (fun _ => ?_) (fun h => by cases h)
          refine WP.exit ?_; refine thn_exit ?_; refine blk_hit ?_
          exact thn_next ⟨(wv, W, M), ways_next hI gW ⟨b, gB', hs1 rfl _, fun h => by rw [hs1 rfl] at h; cases h⟩, ⟨(by repeat first | exact trivial | refine ⟨rfl, ?_⟩), rfl, rfl⟩, ent.go⟩
        | false =>
        refine WP.cond (t := false) rfl (fun h => by cases h) (fun _ => ?_)
        refine WP.skip ?_; refine thn_next ?_
        have hq := hs2 rfl
        refine WP.seq ?_
        refine WP.seq ?_
        refine WP.plain cf0 rfl ?_
        refine Run.fieldAddr rfl rfl fo_56_1 rfl rfl ?_
        refine Run.fieldAddr rfl rfl fo_54_1 rfl rfl ?_
        refine Run.loadB 3 rfl rfl ag_3 rfl rfl rfl rfl rfl ?_
        refine Run.mv rfl rfl rfl rfl ?_
        refine Run.int2 rfl rfl rfl rfl rfl rfl ?_
        refine Run.nil ?_
        refine thn_next ?_
        refine WP.ite rfl (fun he => ?_) (fun hne => ?_)
        · refine WP.seq ?_
          refine WP.plain cf0 rfl ?_
          refine Run.mv rfl rfl rfl rfl ?_
          refine Run.nil ?_
          refine thn_next ?_
          refine WP.ret ?_; refine thn_ret ?_; refine blk_ret ?_; refine thn_ret ?_; refine thn_ret ?_; refine blk_ret ?_; refine thn_ret ?_
          have hat : AtP F r i k := ways_hit hI (List.mem_of_getElem? gW) gB' (by rw [hq]; exact decide_eq_true he)
          exact retT [6] _ rfl rfl ⟨_, ent.none _, ⟨true, rfl, fun _ => hat, fun _ => rfl⟩, rfl⟩
        refine WP.skip ?_; refine thn_next ?_
        refine WP.sup (ρ' := [(10, .pointer (some ⟨b10, 0, none⟩)), (9, .int .i64 (j : Int)), (7, wv.val), (9, .int .i64 0), (7, (⟨some ⟨b16, 0, none⟩, 1, 1⟩ : SV).val), (8, (⟨some ⟨b20, 0, none⟩, F.blocks.length, F.blocks.length⟩ : SV).val), (3, .pointer (some ⟨b3, 0, none⟩)), (2, .int .i64 r)]) (Γ' := [blk b3 (fcs F su sv) 25, slA 60 encPt wv.val W, slA 4 Enc.bool (⟨some ⟨b20, 0, none⟩, F.blocks.length, F.blocks.length⟩ : SV).val M, blk b10 [bu.val, .int .i64 b.kind, .int .i64 b.value, bt.val] 56]) (Kp.sup (car := []) (ρ := [(10, .pointer (some ⟨b10, 0, none⟩)), (9, .int .i64 (j : Int)), (7, wv.val), (9, .int .i64 0), (7, (⟨some ⟨b16, 0, none⟩, 1, 1⟩ : SV).val), (8, (⟨some ⟨b20, 0, none⟩, F.blocks.length, F.blocks.length⟩ : SV).val), (3, .pointer (some ⟨b3, 0, none⟩)), (2, .int .i64 r)]) ⟨(by repeat first | exact trivial | refine ⟨rfl, ?_⟩), rfl, rfl⟩) ent.go ?_
        refine WP.seq ?_
        refine WP.plain cf0 rfl ?_
        refine Run.mv rfl rfl rfl rfl ?_
        refine Run.nil ?_
        refine thn_next ?_
        refine WP.block ?_
        refine WP.loopK (α := Nat × SV × List (Nat × Nat) × List Bool) (fun z => z.1 ≤ b.to.length ∧ WaysInv F r (i, k) z.2.2.1 z.2.2.2 j ∧ z.2.2.1[j]? = some (wb, wk) ∧ ∀ (q : Nat) (c : Int), q < z.1 → b.to[q]? = some c → z.2.2.2[c.toNat]? = some true) (fun z => [(14, .int .i64 (z.1 : Int)), (7, z.2.1.val)]) (fun z => [blk b3 (fcs F su sv) 25, slA 60 encPt z.2.1.val z.2.2.1, slA 4 Enc.bool (⟨some ⟨b20, 0, none⟩, F.blocks.length, F.blocks.length⟩ : SV).val z.2.2.2, blk b10 [bu.val, .int .i64 b.kind, .int .i64 b.value, bt.val] 56]) (fun z => b.to.length - z.1) (0, wv, W, M) ⟨Nat.zero_le _, hI, gW, fun q c h => by omega⟩ ⟨(by repeat first | exact trivial | refine ⟨rfl, ?_⟩), rfl, rfl⟩ ent.go ?_
        rintro ⟨t, wv2, W2, M2⟩ ⟨ht, hI2, gW2, hM2⟩
        simp only at ht hI2 gW2 hM2 ⊢
        have hle2 := ways_le hI2
        have hml2 := hI2.ml
        refine WP.seq ?_
        refine WP.seq ?_
        refine WP.plain cf0 rfl ?_
        refine Run.mv rfl rfl rfl rfl ?_
        refine Run.fieldAddr rfl rfl fo_56_1 rfl rfl ?_
        refine Run.fieldAddr rfl rfl fo_54_2 rfl rfl ?_
        refine Run.loadB 3 rfl rfl ag_22 rfl rfl rfl rfl rfl ?_
        refine Run.lenR rfl rfl sl_22 rfl rfl hbt ?_
        refine Run.int2 rfl rfl rfl rfl rfl rfl ?_
        refine Run.nil ?_
        refine thn_next ?_
        refine WP.ite rfl (fun hlt4 => ?_) (fun hge4 => ?_)
        · refine WP.skip ?_; refine thn_next ?_
          have hlt4' : t < b.to.length := by omega
          obtain ⟨c, gc⟩ : ∃ y, b.to[t]? = some y := ⟨_, List.getElem?_eq_getElem hlt4'⟩
          have gc' : b.to[(t : Int).toNat]? = some c := gc
          obtain ⟨hc0, hc1⟩ := hb4 c (List.mem_of_getElem? gc)
          obtain ⟨mc, gm⟩ : ∃ y, M2[c.toNat]? = some y := ⟨_, List.getElem?_eq_getElem (by omega)⟩
          refine WP.sup (ρ' := [(14, .int .i64 (t : Int)), (7, wv2.val), (14, .int .i64 0), (10, .pointer (some ⟨b10, 0, none⟩)), (9, .int .i64 (j : Int)), (7, wv.val), (9, .int .i64 0), (7, (⟨some ⟨b16, 0, none⟩, 1, 1⟩ : SV).val), (8, (⟨some ⟨b20, 0, none⟩, F.blocks.length, F.blocks.length⟩ : SV).val), (3, .pointer (some ⟨b3, 0, none⟩)), (2, .int .i64 r)]) (Γ' := [blk b3 (fcs F su sv) 25, slA 60 encPt wv2.val W2, slA 4 Enc.bool (⟨some ⟨b20, 0, none⟩, F.blocks.length, F.blocks.length⟩ : SV).val M2, blk b10 [bu.val, .int .i64 b.kind, .int .i64 b.value, bt.val] 56]) (Kp.sup (car := [(14, .int .i64 (t : Int)), (7, wv2.val)]) (ρ := [(14, .int .i64 0), (10, .pointer (some ⟨b10, 0, none⟩)), (9, .int .i64 (j : Int)), (7, wv.val), (9, .int .i64 0), (7, (⟨some ⟨b16, 0, none⟩, 1, 1⟩ : SV).val), (8, (⟨some ⟨b20, 0, none⟩, F.blocks.length, F.blocks.length⟩ : SV).val), (3, .pointer (some ⟨b3, 0, none⟩)), (2, .int .i64 r)]) ⟨(by repeat first | exact trivial | refine ⟨rfl, ?_⟩), rfl, rfl⟩) ent.go ?_
          refine WP.seq ?_
          refine WP.block ?_
          refine WP.seq ?_
          refine WP.plain cf0 rfl ?_
          refine Run.mv rfl rfl rfl rfl ?_
          refine Run.fieldAddr rfl rfl fo_56_1 rfl rfl ?_
          refine Run.fieldAddr rfl rfl fo_54_2 rfl rfl ?_
          refine Run.loadB 3 rfl rfl ag_22 rfl rfl rfl rfl rfl ?_
          refine Run.mv rfl rfl rfl rfl ?_
          refine Run.idxR rfl rfl rfl sl_22 rfl rfl hbt (by rfl) (by omega) (by omega) ?_
          refine Run.loadR rfl rfl ag_3 rfl rfl (SlR.cell0 hbt gc' rfl) ?_
          refine Run.idxO 2 rfl rfl rfl sl_92 rfl rfl rfl rfl (by omega) (by omega) ?_
          refine Run.loadO 2 c.toNat 0 rfl rfl ag_4 rfl rfl rfl rfl gm rfl ?_
          refine Run.bnotB rfl rfl rfl rfl ?_
          refine Run.nil ?_
          refine thn_next ?_
          cases mc with
          | true =>
            refine WP.cond (t := false) rfl (fun h => by cases h) (fun _ => ?_)
            refine WP.skip ?_; refine blk_norm ?_; refine thn_next ?_
            refine WP.plain cf0 rfl ?_
            refine Run.mv rfl rfl rfl rfl ?_
            refine Run.add64 rfl rfl rfl rfl rfl (by first | omega | (simp <;> omega)) (by first | omega | (simp <;> omega)) ?_
            refine Run.mv rfl rfl rfl rfl ?_
            refine Run.nil ?_
            refine thn_next ⟨(t + 1, wv2, W2, M2), ⟨hlt4', hI2, gW2, fun q d hq2 gd => ?_⟩, by simp only; omega, ⟨(by repeat first | exact trivial | refine ⟨rfl, ?_⟩), rfl, rfl⟩, ent.go⟩
            by_cases e : q = t
            · subst e; rw [gc] at gd; cases gd; exact gm
            · exact hM2 q d (by simp only at hq2; omega) gd
          | false =>
            refine WP.cond (t := true) rfl (fun _ => ?_) (fun h => by cases h)
            refine WP.seq ?_
            refine WP.plain cf0 rfl ?_
            refine Run.mv rfl rfl rfl rfl ?_
            refine Run.fieldAddr rfl rfl fo_56_1 rfl rfl ?_
            refine Run.fieldAddr rfl rfl fo_54_2 rfl rfl ?_
            refine Run.loadB 3 rfl rfl ag_22 rfl rfl rfl rfl rfl ?_
            refine Run.mv rfl rfl rfl rfl ?_
            refine Run.idxR rfl rfl rfl sl_22 rfl rfl hbt (by rfl) (by omega) (by omega) ?_
            refine Run.loadR rfl rfl ag_3 rfl rfl (SlR.cell0 hbt gc' rfl) ?_
            refine Run.idxO 2 rfl rfl rfl sl_92 rfl rfl rfl rfl (by omega) (by omega) ?_
            refine Run.storeO 2 c.toNat 0 (y' := true) rfl rfl rfl rfl ag_4 rfl rfl rfl rfl gm rfl rfl ?_
            refine Run.nil ?_
            refine thn_next ?_
            refine WP.plain cf0 rfl ?_
            refine Run.mv rfl rfl rfl rfl ?_
            refine Run.fieldAddr rfl rfl fo_56_1 rfl rfl ?_
            refine Run.fieldAddr rfl rfl fo_54_2 rfl rfl ?_
            refine Run.loadB 3 rfl rfl ag_22 rfl rfl rfl rfl rfl ?_
            refine Run.mv rfl rfl rfl rfl ?_
            refine Run.idxR rfl rfl rfl sl_22 rfl rfl hbt (by rfl) (by omega) (by omega) ?_
            refine Run.loadR rfl rfl ag_3 rfl rfl (SlR.cell0 hbt gc' rfl) ?_
            refine Run.eqv (v' := .int .i64 (c.toNat : Int)) (by rw [Int.toNat_of_nonneg hc0]) ?_
            refine Run.build rfl bd_60 rfl rfl rfl rfl ?_
            refine Run.buildSlice (E := encPt) rfl sl_108 zr_60 ([((c.toNat, 0) : Nat × Nat)]) rfl rfl rfl (by decide) rfl rfl ?_
            intro b122
            refine Run.append 1 rfl rfl rfl rfl rfl rfl sl_108 zr_60 rfl (src_own 4 rfl) (by first | omega | (simp <;> omega)) (by first | omega | (simp <;> omega)) ?_
            intro sv123 hv123
            refine Run.mv rfl rfl rfl rfl ?_
            refine Run.nil ?_
            refine blk_norm ?_; refine thn_next ?_
            refine WP.plain cf0 rfl ?_
            refine Run.mv rfl rfl rfl rfl ?_
            refine Run.add64 rfl rfl rfl rfl rfl (by first | omega | (simp <;> omega)) (by first | omega | (simp <;> omega)) ?_
            refine Run.mv rfl rfl rfl rfl ?_
            refine Run.nil ?_
            have hcl : c.toNat < F.blocks.length := by omega
            refine thn_next ⟨(t + 1, sv123, W2 ++ [(c.toNat, 0)], M2.set c.toNat true), ⟨hlt4', ways_meet hI2 hcl gm (fun hl => (hI2.good _ (List.mem_of_getElem? gW2)).2 ⟨b, gB', .inr ⟨hq true, c, List.mem_of_getElem? gc, hl⟩⟩), ?_, fun q d hq2 gd => ?_⟩, by simp only; omega, ⟨(by repeat first | exact trivial | refine ⟨rfl, ?_⟩), rfl, rfl⟩, ent.gn⟩
            · simp only; rw [List.getElem?_append_left (List.getElem?_eq_some_iff.1 gW2).1]; exact gW2
            · by_cases e : q = t
              · subst e; rw [gc] at gd; cases gd; simp only; rw [List.getElem?_set_self (by omega)]
              · have h5 := hM2 q d (by simp only at hq2; omega) gd
                simp only
                by_cases e2 : c.toNat = d.toNat
                · rw [← e2, gm] at h5; cases h5
                · rw [List.getElem?_set_ne e2]; exact h5
        · refine WP.exit ?_; refine thn_exit ?_; refine thn_exit ?_; refine blk_hit ?_; refine blk_norm ?_
          refine thn_next ⟨(wv2, W2, M2), ways_next hI2 gW2 ⟨b, gB', by rw [hq]; exact decide_eq_false hne, fun _ c hc => ?_⟩, ⟨(by repeat first | exact trivial | refine ⟨rfl, ?_⟩), rfl, rfl⟩, ent.go⟩
          obtain ⟨q, gq⟩ := List.getElem?_of_mem hc
          exact hM2 q c (by have := (List.getElem?_eq_some_iff.1 gq).1; omega) gq
      rintro ⟨wv2, W2, M2⟩ hI2
      simp only at hI2 ⊢
      refine WP.plain cf0 rfl ?_
      refine Run.mv rfl rfl rfl rfl ?_
      refine Run.add64 rfl rfl rfl rfl rfl (by first | omega | (simp <;> omega)) (by first | omega | (simp <;> omega)) ?_
      refine Run.mv rfl rfl rfl rfl ?_
      refine Run.nil ?_
      exact thn_next ⟨(j + 1, wv2, W2, M2), hI2, by simp only; omega, ⟨(by repeat first | exact trivial | refine ⟨rfl, ?_⟩), rfl, rfl⟩, ent.go⟩
    · refine WP.exit ?_; refine thn_exit ?_; refine thn_exit ?_; refine blk_hit ?_
      have e : j = W.length := by have := hI.le; omega
      subst e
      exact thn_next ⟨wv, ways_end hI, ⟨(by repeat first | exact trivial | refine ⟨rfl, ?_⟩), rfl, rfl⟩, ent.go⟩
  rintro _ hno
  refine WP.seq ?_
  refine WP.plain cf0 rfl ?_
  refine Run.mv rfl rfl rfl rfl ?_
  refine Run.nil ?_
  refine thn_next ?_
  refine WP.ret ?_
  exact retT [6] _ rfl rfl ⟨_, ent.none _, ⟨false, rfl, fun h => (by cases h), fun h => absurd h hno⟩, rfl⟩
end Go.Proofs.YtjjfehdlmdhhmaaDoor
end

section
/- has, rises: walked. -/
namespace Go.Proofs.YtjjfehdlmdhhmaaDoor
open Go.Sep
set_option linter.unusedSimpArgs false
set_option linter.unusedVariables false
attribute [local irreducible] blk slA mp mpF rows rowsBut many

theorem has_ok (hR : Heap) (v : Value) (xs : List Int) (r : Int) (hl : SlR rdI hR v xs) (hlen : xs.length ≤ 10000000000000) :
    Tri Tryd.prog hR 24 #[v, .int .i64 r] [] fun u Γ' => u = .bool (decide (r ∈ xs)) ∧ Γ' = [] := by
  refine Tri.ent (Tri.of (args := [v, .int .i64 r]) Tryd.func24 rfl Tryd.ntmps24 (by simp) ?_)
  refine WP.seq ?_
  refine WP.plain cf0 rfl ?_
  refine Run.mv rfl rfl rfl rfl ?_
  refine Run.nil ?_
  refine thn_next ?_
  refine WP.meetK (α := Unit) (fun _ => r ∉ xs) (fun _ => []) (fun _ => []) ?_ ?_
  · refine WP.seq ?_
    refine WP.plain cf0 rfl ?_
    refine Run.mv rfl rfl rfl rfl ?_
    refine Run.nil ?_
    refine thn_next ?_
    refine WP.block ?_
    refine WP.loopK (α := Nat) (fun i => i ≤ xs.length ∧ ∀ (k : Nat) (y : Int), k < i → xs[k]? = some y → y ≠ r) (fun i => [(5, .int .i64 (i : Int))]) (fun i => []) (fun i => xs.length - i) 0 ⟨Nat.zero_le _, fun k y h => by omega⟩ ⟨(by repeat first | exact trivial | refine ⟨rfl, ?_⟩), rfl, rfl⟩ ent.go ?_
    rintro i ⟨hi, hk⟩
    refine WP.seq ?_
    refine WP.seq ?_
    refine WP.plain cf0 rfl ?_
    refine Run.mv rfl rfl rfl rfl ?_
    refine Run.mv rfl rfl rfl rfl ?_
    refine Run.lenR rfl rfl sl_22 rfl rfl hl ?_
    refine Run.int2 rfl rfl rfl rfl rfl rfl ?_
    refine Run.nil ?_
    refine thn_next ?_
    refine WP.ite rfl (fun hlt => ?_) (fun hge => ?_)
    · refine WP.skip ?_; refine thn_next ?_
      have hlt' : i < xs.length := by omega
      obtain ⟨x, gx⟩ : ∃ x, xs[i]? = some x := ⟨_, List.getElem?_eq_getElem hlt'⟩
      have gx' : xs[(i : Int).toNat]? = some x := gx
      refine WP.seq ?_
      refine WP.block ?_
      refine WP.seq ?_
      refine WP.plain cf0 rfl ?_
      refine Run.mv rfl rfl rfl rfl ?_
      refine Run.mv rfl rfl rfl rfl ?_
      refine Run.idxR rfl rfl rfl sl_22 rfl rfl hl (by rfl) (by omega) (by omega) ?_
      refine Run.loadR rfl rfl ag_3 rfl rfl (SlR.cell0 hl gx' rfl) ?_
      refine Run.mv rfl rfl rfl rfl ?_
      refine Run.int2 rfl rfl rfl rfl rfl rfl ?_
      refine Run.nil ?_
      refine thn_next ?_
      refine WP.ite rfl (fun he => ?_) (fun hne => ?_)
      · refine WP.seq ?_
        refine WP.plain cf0 rfl ?_
        refine Run.mv rfl rfl rfl rfl ?_
        refine Run.nil ?_
        refine thn_next ?_
        refine WP.ret ?_; refine blk_ret ?_; refine thn_ret ?_; refine thn_ret ?_; refine blk_ret ?_; refine thn_ret ?_
        have : r ∈ xs := by rw [← he]; exact List.mem_of_getElem? gx
        exact retT [4] _ rfl rfl ⟨_, ent.none _, by rw [decide_eq_true this]; rfl, rfl⟩
      refine WP.skip ?_; refine blk_norm ?_; refine thn_next ?_
      refine WP.plain cf0 rfl ?_
      refine Run.mv rfl rfl rfl rfl ?_
      refine Run.add64 rfl rfl rfl rfl rfl (by first | omega | (simp <;> omega)) (by first | omega | (simp <;> omega)) ?_
      refine Run.mv rfl rfl rfl rfl ?_
      refine Run.nil ?_
      refine thn_next ⟨i + 1, ⟨hlt', fun k y hk' gk => ?_⟩, by omega, ⟨(by repeat first | exact trivial | refine ⟨rfl, ?_⟩), rfl, rfl⟩, ent.go⟩
      by_cases e : k = i
      · subst e; rw [gx] at gk; cases gk; exact hne
      · exact hk k y (by omega) gk
    · refine WP.exit ?_; refine thn_exit ?_; refine thn_exit ?_; refine blk_hit ?_
      refine thn_next ⟨(), fun hm => ?_, ⟨(by repeat first | exact trivial | refine ⟨rfl, ?_⟩), rfl, rfl⟩, ent.go⟩
      obtain ⟨k, gk⟩ := List.getElem?_of_mem hm
      exact hk k r (by have := (List.getElem?_eq_some_iff.1 gk).1; omega) gk rfl
  rintro _ hn
  refine WP.seq ?_
  refine WP.plain cf0 rfl ?_
  refine Run.mv rfl rfl rfl rfl ?_
  refine Run.nil ?_
  refine thn_next ?_
  refine WP.ret ?_
  exact retT [4] _ rfl rfl ⟨_, ent.none _, by rw [decide_eq_false hn]; rfl, rfl⟩

theorem rises_ok (hR : Heap) (v : Value) (xs : List Int) (n : Int) (hl : SlR rdI hR v xs) (hlen : xs.length ≤ 10000000000000) (hs : xs.Pairwise (· < ·)) (hb : ∀ x ∈ xs, 0 ≤ x ∧ x < n) :
    Tri Tryd.prog hR 22 #[v, .int .i64 n] [] fun u Γ' => u = .bool true ∧ Γ' = [] := by
  refine Tri.ent (Tri.of (args := [v, .int .i64 n]) Tryd.func22 rfl Tryd.ntmps22 (by simp) ?_)
  refine WP.seq ?_
  refine WP.plain cf0 rfl ?_
  refine Run.mv rfl rfl rfl rfl ?_
  refine Run.nil ?_
  refine thn_next ?_
  refine WP.meetK (α := Unit) (fun _ => True) (fun _ => []) (fun _ => []) ?_ ?_
  · refine WP.seq ?_
    refine WP.plain cf0 rfl ?_
    refine Run.mv rfl rfl rfl rfl ?_
    refine Run.nil ?_
    refine thn_next ?_
    refine WP.block ?_
    refine WP.loopK (α := Nat) (fun i => i ≤ xs.length) (fun i => [(5, .int .i64 (i : Int))]) (fun i => []) (fun i => xs.length - i) 0 (Nat.zero_le _) ⟨(by repeat first | exact trivial | refine ⟨rfl, ?_⟩), rfl, rfl⟩ ent.go ?_
    rintro i hi
    refine WP.seq ?_
    refine WP.seq ?_
    refine WP.plain cf0 rfl ?_
    refine Run.mv rfl rfl rfl rfl ?_
    refine Run.mv rfl rfl rfl rfl ?_
    refine Run.lenR rfl rfl sl_22 rfl rfl hl ?_
    refine Run.int2 rfl rfl rfl rfl rfl rfl ?_
    refine Run.nil ?_
    refine thn_next ?_
    refine WP.ite rfl (fun hlt => ?_) (fun hge => ?_)
    · refine WP.skip ?_; refine thn_next ?_
      have hlt' : i < xs.length := by omega
      obtain ⟨x, gx⟩ : ∃ x, xs[i]? = some x := ⟨_, List.getElem?_eq_getElem hlt'⟩
      have gx' : xs[(i : Int).toNat]? = some x := gx
      obtain ⟨hx0, hx1⟩ := hb x (List.mem_of_getElem? gx)
      refine WP.meetK (α := Unit) (fun _ => True) (fun _ => []) (fun _ => []) ?_ ?_
      · refine WP.block ?_
        refine WP.seq ?_
        by_cases h0 : (i : Int) > 0
        · obtain ⟨y, gy⟩ : ∃ x, xs[i - 1]? = some x := ⟨_, List.getElem?_eq_getElem (by omega)⟩
          have gy' : xs[((i : Int) - 1).toNat]? = some y := by rw [show ((i : Int) - 1).toNat = i - 1 by omega]; exact gy
          have hxy : y < x := by
            obtain ⟨a1, e1⟩ := List.getElem?_eq_some_iff.1 gx
            obtain ⟨a2, e2⟩ := List.getElem?_eq_some_iff.1 gy
            rw [← e1, ← e2]
            exact List.pairwise_iff_getElem.1 hs (i - 1) i a2 a1 (by omega)
          refine WP.drawn0 cf0 mixed rfl (by kernel_rfl) ?_
          refine Run.mv rfl rfl rfl rfl ?_
          refine Run.mv rfl rfl rfl rfl ?_
          refine Run.idxR rfl rfl rfl sl_22 rfl rfl hl (by rfl) (by omega) (by omega) ?_
          refine Run.loadR rfl rfl ag_3 rfl rfl (SlR.cell0 hl gx' rfl) ?_
          refine Run.int2 rfl rfl rfl rfl rfl rfl ?_
          refine Run.ff (by omega) ?_
          refine Run.mv rfl rfl rfl rfl ?_
          refine Run.mv rfl rfl rfl rfl ?_
          refine Run.mv rfl rfl rfl rfl ?_
          refine Run.idxR rfl rfl rfl sl_22 rfl rfl hl (by rfl) (by omega) (by omega) ?_
          refine Run.loadR rfl rfl ag_3 rfl rfl (SlR.cell0 hl gx' rfl) ?_
          refine Run.mv rfl rfl rfl rfl ?_
          refine Run.int2 rfl rfl rfl rfl rfl rfl ?_
          refine Run.ff (by omega) ?_
          refine Run.pick rfl rfl rfl rfl rfl ?_
          refine Run.mv rfl rfl rfl rfl ?_
          refine Run.mv rfl rfl rfl rfl ?_
          refine Run.int2 rfl rfl rfl rfl rfl rfl ?_
          refine Run.tt h0 ?_
          refine Run.mv rfl rfl rfl rfl ?_
          refine Run.mv rfl rfl rfl rfl ?_
          refine Run.mv rfl rfl rfl rfl ?_
          refine Run.idxR rfl rfl rfl sl_22 rfl rfl hl (by rfl) (by omega) (by omega) ?_
          refine Run.loadR rfl rfl ag_3 rfl rfl (SlR.cell0 hl gx' rfl) ?_
          refine Run.mv rfl rfl rfl rfl ?_
          refine Run.mv rfl rfl rfl rfl ?_
          refine Run.sub64 rfl rfl rfl rfl rfl (by first | omega | (simp <;> omega)) (by first | omega | (simp <;> omega)) ?_
          refine Run.idxR rfl rfl rfl sl_22 rfl rfl hl (by rfl) (by omega) (by omega) ?_
          refine Run.loadR rfl rfl ag_3 rfl rfl (SlR.cell0 hl gy' rfl) ?_
          refine Run.int2 rfl rfl rfl rfl rfl rfl ?_
          refine Run.ff (by omega) ?_
          refine Run.pick rfl rfl rfl rfl rfl ?_
          refine Run.pick rfl rfl rfl rfl rfl ?_
          refine Run.nil ?_
          refine thn_next ?_
          refine WP.cond (t := false) rfl (fun h => by cases h) (fun _ => ?_)
          refine WP.skip ?_; refine blk_norm ?_
          exact thn_next ⟨(), trivial, ⟨(by repeat first | exact trivial | refine ⟨rfl, ?_⟩), rfl, rfl⟩, ent.go⟩
        · refine WP.drawn0 cf0 mixed rfl (by kernel_rfl) ?_
          refine Run.mv rfl rfl rfl rfl ?_
          refine Run.mv rfl rfl rfl rfl ?_
          refine Run.idxR rfl rfl rfl sl_22 rfl rfl hl (by rfl) (by omega) (by omega) ?_
          refine Run.loadR rfl rfl ag_3 rfl rfl (SlR.cell0 hl gx' rfl) ?_
          refine Run.int2 rfl rfl rfl rfl rfl rfl ?_
          refine Run.ff (by omega) ?_
          refine Run.mv rfl rfl rfl rfl ?_
          refine Run.mv rfl rfl rfl rfl ?_
          refine Run.mv rfl rfl rfl rfl ?_
          refine Run.idxR rfl rfl rfl sl_22 rfl rfl hl (by rfl) (by omega) (by omega) ?_
          refine Run.loadR rfl rfl ag_3 rfl rfl (SlR.cell0 hl gx' rfl) ?_
          refine Run.mv rfl rfl rfl rfl ?_
          refine Run.int2 rfl rfl rfl rfl rfl rfl ?_
          refine Run.ff (by omega) ?_
          refine Run.pick rfl rfl rfl rfl rfl ?_
          refine Run.mv rfl rfl rfl rfl ?_
          refine Run.mv rfl rfl rfl rfl ?_
          refine Run.int2 rfl rfl rfl rfl rfl rfl ?_
          refine Run.ff h0 ?_
          refine Run.mv rfl rfl rfl rfl ?_
          refine Run.not rfl rfl ?_
          refine Run.not rfl rfl ?_
          refine Run.not rfl rfl ?_
          refine Run.not rfl rfl ?_
          refine Run.not rfl rfl ?_
          refine Run.not rfl rfl ?_
          refine Run.not rfl rfl ?_
          refine Run.not rfl rfl ?_
          refine Run.not rfl rfl ?_
          refine Run.not rfl rfl ?_
          refine Run.pick rfl rfl rfl rfl rfl ?_
          refine Run.pick rfl rfl rfl rfl rfl ?_
          refine Run.nil ?_
          refine thn_next ?_
          refine WP.cond (t := false) rfl (fun h => by cases h) (fun _ => ?_)
          refine WP.skip ?_; refine blk_norm ?_
          exact thn_next ⟨(), trivial, ⟨(by repeat first | exact trivial | refine ⟨rfl, ?_⟩), rfl, rfl⟩, ent.go⟩
      rintro _ _
      refine WP.plain cf0 rfl ?_
      refine Run.mv rfl rfl rfl rfl ?_
      refine Run.add64 rfl rfl rfl rfl rfl (by first | omega | (simp <;> omega)) (by first | omega | (simp <;> omega)) ?_
      refine Run.mv rfl rfl rfl rfl ?_
      refine Run.nil ?_
      exact thn_next ⟨i + 1, by omega, by omega, ⟨(by repeat first | exact trivial | refine ⟨rfl, ?_⟩), rfl, rfl⟩, ent.go⟩
    · refine WP.exit ?_; refine thn_exit ?_; refine thn_exit ?_; refine blk_hit ?_
      exact thn_next ⟨(), trivial, ⟨(by repeat first | exact trivial | refine ⟨rfl, ?_⟩), rfl, rfl⟩, ent.go⟩
  rintro _ _
  refine WP.seq ?_
  refine WP.plain cf0 rfl ?_
  refine Run.mv rfl rfl rfl rfl ?_
  refine Run.nil ?_
  refine thn_next ?_
  refine WP.ret ?_
  exact retT [4] _ rfl rfl ⟨_, ent.none _, rfl, rfl⟩
end Go.Proofs.YtjjfehdlmdhhmaaDoor
end
