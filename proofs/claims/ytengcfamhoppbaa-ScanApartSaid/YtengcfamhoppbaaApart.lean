/- ScanApart, walked: every place is one that there is, none is held twice at once, the slots are counted. -/
import Derived.Test.YtengcfamhoppbaaPlainK
import Derived.Test.YtengcfamhoppbaaPlaces
namespace Go.Proofs.Ytengcfamhoppbaa
open Go.Sep
set_option linter.unusedSimpArgs false
set_option linter.unusedVariables false
attribute [local irreducible] blk slA mp mpF

theorem meet_ok (hR : Heap) (x y : Iv) : Tri Try.prog hR 16 #[x.val, y.val] [] fun u _ => u = .bool (decide (x.f ≤ y.t ∧ y.f ≤ x.t)) := by
  refine Tri.of (args := [x.val, y.val]) Try.func16 rfl Try.ntmps16 (by simp) ?_
  refine WP.seq ?_
  refine WP.plain cf0 rfl ?_
  refine Run.box rfl rfl rfl rfl rfl ?_
  intro b2
  refine Run.box rfl rfl rfl rfl rfl ?_
  intro b3
  refine Run.mv rfl rfl rfl rfl ?_
  refine Run.nil ?_
  refine thn_next ?_
  refine WP.seqCut [(4, .bool (decide (x.f ≤ y.t ∧ y.f ≤ x.t)))] [] ?_ ?_
  · refine WP.plain cf0 rfl ?_
    all_goals (first | refine Run.fieldAddr rfl rfl fo_35_1 rfl rfl ?_)
    all_goals (first | refine Run.loadB 0 rfl rfl ag_3 rfl rfl rfl rfl rfl ?_)
    all_goals (first | refine Run.fieldAddr rfl rfl fo_35_2 rfl rfl ?_)
    all_goals (first | refine Run.loadB 1 rfl rfl ag_3 rfl rfl rfl rfl rfl ?_)
    all_goals (first | refine Run.int2 rfl rfl rfl rfl rfl rfl ?_)
    all_goals (first | refine Run.tt (by first | assumption | omega) ?_ | refine Run.ff (by first | assumption | omega) ?_ | refine Run.split (fun hc9 => ?_) (fun hc9 => ?_) | refine Run.splitB (fun hc9 => ?_) (fun hc9 => ?_) | skip)
    all_goals (first | refine Run.mv rfl rfl rfl rfl ?_)
    all_goals (first | refine Run.fieldAddr rfl rfl fo_35_1 rfl rfl ?_ | refine Run.not rfl rfl ?_)
    all_goals (first | refine Run.loadB 1 rfl rfl ag_3 rfl rfl rfl rfl rfl ?_ | refine Run.not rfl rfl ?_)
    all_goals (first | refine Run.fieldAddr rfl rfl fo_35_2 rfl rfl ?_ | refine Run.not rfl rfl ?_)
    all_goals (first | refine Run.loadB 0 rfl rfl ag_3 rfl rfl rfl rfl rfl ?_ | refine Run.not rfl rfl ?_)
    all_goals (first | refine Run.int2 rfl rfl rfl rfl rfl rfl ?_ | refine Run.not rfl rfl ?_)
    all_goals (first | refine Run.pick rfl rfl rfl rfl rfl ?_)
    all_goals (first | refine Run.mv rfl rfl rfl rfl ?_)
    all_goals (refine Run.nil ?_)
    all_goals exact ⟨⟨by simp [Env.get, *], trivial⟩, fun _ _ => trivial⟩
  refine WP.ret ?_
  exact retT [4] _ rfl rfl rfl

theorem loc_at {out : List Loc} {x : Iv} (h0 : 0 ≤ x.r) (h : x.r < (out.length : Int)) : out[x.r.toNat]? = some (locOf out x) := by
  have : x.r.toNat < out.length := by omega
  simp [locOf, List.getD_eq_getElem?_getD, this]

def cntK (out : List Loc) (l : List Iv) : Nat := l.countP fun z => decide ((locOf out z).k = 2)

set_option maxRecDepth 100000 in
set_option maxHeartbeats 1000000 in
theorem apart_ok (hR : Heap) (v : Value) (xs : List Iv) (regs : Int) (hl : SlR encIv.rd hR v xs) :
    Tri Try.prog hR 5 #[v, .int .i64 regs] [] fun u _ => u = .bool true := by
  refine Tri.of (args := [v, .int .i64 regs]) Try.func5 rfl Try.ntmps5 (by simp) ?_
  refine WP.seq ?_
  refine WP.plain cf0 rfl ?_
  refine Run.mv rfl rfl rfl rfl ?_
  refine Run.nil ?_
  refine thn_next ?_
  refine WP.seqCut [(0, v), (1, .int .i64 regs), (5, .bool true)] [] ?_ ?_
  · refine WP.plain cf0 rfl ?_
    refine Run.call (Δ := []) (Θ := []) rfl rfl rfl rfl ok_9 rfl rfl (ent.refl _) (alive_ok hR) ?_; rintro _ Γ1 rfl
    refine Run.mv rfl rfl rfl rfl ?_
    refine Run.nil ?_
    exact thn_next ⟨⟨rfl, rfl, rfl, trivial⟩, pick_only [] _⟩
  refine WP.seq ?_
  refine WP.seqCut [(0, v), (1, .int .i64 regs), (5, .bool true), (21, .bool (decide (regs < 1 ∨ regs > 8)))] [] ?_ ?_
  · refine WP.plain cf0 rfl ?_
    all_goals (first | refine Run.mv rfl rfl rfl rfl ?_)
    all_goals (first | refine Run.int2 rfl rfl rfl rfl rfl rfl ?_)
    all_goals (first | refine Run.tt (by first | assumption | omega) ?_ | refine Run.ff (by first | assumption | omega) ?_ | refine Run.split (fun hc17 => ?_) (fun hc17 => ?_) | refine Run.splitB (fun hc17 => ?_) (fun hc17 => ?_) | skip)
    all_goals (first | refine Run.mv rfl rfl rfl rfl ?_)
    all_goals (first | refine Run.mv rfl rfl rfl rfl ?_ | refine Run.not rfl rfl ?_)
    all_goals (first | refine Run.int2 rfl rfl rfl rfl rfl rfl ?_ | refine Run.not rfl rfl ?_)
    all_goals (first | refine Run.pick rfl rfl rfl rfl rfl ?_)
    all_goals (refine Run.nil ?_)
    all_goals refine thn_next ⟨⟨rfl, rfl, rfl, ?_, trivial⟩, ent.refl _⟩
    all_goals simp [Env.get, *]
  refine WP.ite rfl (fun h => ?_) (fun hregs => ?_)
  · refine WP.seq ?_
    refine WP.plain cf0 rfl ?_
    refine Run.mv rfl rfl rfl rfl ?_
    refine Run.mv rfl rfl rfl rfl ?_
    refine Run.nil ?_
    refine thn_next ?_
    refine WP.ret ?_; refine thn_ret ?_
    exact retT [4] _ rfl rfl rfl
  refine WP.skip ?_; refine thn_next ?_
  refine WP.seq ?_
  refine WP.plain cf0 rfl ?_
  refine Run.mv rfl rfl rfl rfl ?_
  refine Run.call (Δ := []) (Θ := []) rfl rfl rfl rfl ok_15 rfl rfl (ent.refl _) (sorted_ok hR v xs hl) ?_; rintro _ _ ⟨sv, o, rfl, rfl, hso, hol, hox⟩
  refine Run.mv rfl rfl rfl rfl ?_
  refine Run.nil ?_
  refine thn_next ?_
  have hsl : (scanL o regs).1.length ≤ 1000000 := scanL_len o regs
  have hsc : (scanL o regs).2.2 = 0 := scanL_good hregs hso
  have hK := scanL_K hregs hso
  have hlong := scanL_long hregs hso
  obtain ⟨out, hout⟩ : ∃ out, (scanL o regs).1 = out := ⟨_, rfl⟩
  obtain ⟨n, hn⟩ : ∃ n, (scanL o regs).2.1 = n := ⟨_, rfl⟩
  rw [hout, hn] at hK
  rw [hout] at hsl hlong
  refine WP.seqMeet (α := SV) (fun _ => True) (fun ov => [(1, .int .i64 regs), (5, .bool true), (6, sv.val), (7, ov.val), (8, .int .i64 n), (9, .int .i64 0)]) (fun ov => [slA 35 encIv sv.val o, slA 37 encLoc ov.val out]) ?_ ?_
  · refine WP.plain cf0 rfl ?_
    refine Run.mv rfl rfl rfl rfl ?_
    refine Run.callLend (Δ := []) (Θ := [slA 35 encIv sv.val o]) (Ξ := []) rfl rfl rfl rfl ok_10 rfl rfl (ent.refl _) (fun g hg hd => lent_ok (un hR g) sv.val o (lent_at 0 rfl hg hd) (by omega)) ?_; rintro _ _ ⟨w, rfl, rfl⟩
    refine Run.mv rfl rfl rfl rfl ?_
    refine Run.callLend (Δ := []) (Θ := [slA 35 encIv w.val (o ++ [m71, m72])]) (Ξ := [slA 35 encIv sv.val o]) rfl rfl rfl rfl ok_11 rfl rfl (ent.refl _) (fun g hg hd => scan_ok (un hR g) _ o regs (lent_cut (lent_at 0 rfl hg hd)) (by omega)) ?_; rintro _ _ ⟨ov, rfl, rfl⟩; rw [hout, hn, hsc]
    refine Run.mv rfl rfl rfl rfl ?_
    refine Run.extract rfl rfl rfl rfl rfl ?_
    refine Run.extract rfl rfl rfl rfl rfl ?_
    refine Run.extract rfl rfl rfl rfl rfl ?_
    refine Run.mv rfl rfl rfl rfl ?_
    refine Run.mv rfl rfl rfl rfl ?_
    refine Run.mv rfl rfl rfl rfl ?_
    refine Run.nil ?_
    refine thn_next ⟨ov, trivial, ⟨rfl, rfl, rfl, rfl, rfl, rfl, trivial⟩, pick_only [2, 0] _⟩
  rintro ov _
  refine WP.seq ?_
  refine WP.seqCut [(1, .int .i64 regs), (6, sv.val), (7, ov.val), (8, .int .i64 n), (38, .bool false)] [slA 35 encIv sv.val o, slA 37 encLoc ov.val out] ?_ ?_
  · have h00 : ¬ ((0 : Int) ≠ 0) := fun h => h rfl
    refine WP.plain cf0 rfl ?_
    all_goals (first | refine Run.mv rfl rfl rfl rfl ?_)
    all_goals (first | refine Run.bnotB rfl rfl rfl rfl ?_)
    all_goals (first | refine Run.mv rfl rfl rfl rfl ?_)
    all_goals (first | refine Run.mv rfl rfl rfl rfl ?_ | refine Run.not rfl rfl ?_)
    all_goals (first | refine Run.int2 rfl rfl rfl rfl rfl rfl ?_ | refine Run.not rfl rfl ?_)
    all_goals (first | refine Run.pick rfl rfl rfl rfl rfl ?_)
    all_goals (refine Run.nil ?_)
    all_goals refine thn_next ⟨⟨rfl, rfl, rfl, rfl, ?_, trivial⟩, ent.refl _⟩
    all_goals simp [Env.get, *]
  refine WP.cond (t := false) rfl (fun h => by cases h) (fun _ => ?_)
  refine WP.skip ?_; refine thn_next ?_
  refine WP.seq ?_
  refine WP.plain cf0 rfl ?_
  refine Run.mv rfl rfl rfl rfl ?_
  refine Run.nil ?_
  refine thn_next ?_
  have hcb : ∀ i : Nat, cntK out (o.take i) ≤ i := fun i => Nat.le_trans List.countP_le_length (by rw [List.length_take]; omega)
  have hck : ((cntK out o : Nat) : Int) = n := hK.cnt
  refine WP.seqMeet (α := Unit) (fun _ => True) (fun _ => [(8, .int .i64 n), (10, .int .i64 n)]) (fun _ => []) ?_ ?_
  · refine WP.seq ?_
    refine WP.plain cf0 rfl ?_
    refine Run.mv rfl rfl rfl rfl ?_
    refine Run.nil ?_
    refine thn_next ?_
    refine WP.block ?_
    refine WP.loop (α := Nat) (fun i => i ≤ o.length)
      (fun i => [(1, .int .i64 regs), (6, sv.val), (7, ov.val), (8, .int .i64 n), (10, .int .i64 (cntK out (o.take i) : Int)), (11, .int .i64 (i : Int))]) (fun _ => [slA 35 encIv sv.val o, slA 37 encLoc ov.val out]) (fun i => o.length - i)
      0 (Nat.zero_le _) ⟨rfl, rfl, rfl, rfl, rfl, rfl, trivial⟩ (ent.refl _) ?_
    intro i hi
    have hcbi := hcb i
    refine WP.seq ?_
    refine WP.seq ?_
    refine WP.plain cf0 rfl ?_
    refine Run.mv rfl rfl rfl rfl ?_
    refine Run.mv rfl rfl rfl rfl ?_
    refine Run.lenO 0 rfl rfl sl_22 rfl rfl rfl ?_
    refine Run.int2 rfl rfl rfl rfl rfl rfl ?_
    refine Run.nil ?_
    refine thn_next ?_
    refine WP.ite rfl (fun hlt => ?_) (fun hge => ?_)
    · refine WP.skip ?_; refine thn_next ?_
      have hlt' : i < o.length := by omega
      obtain ⟨x, gx⟩ : ∃ x, o[i]? = some x := ⟨_, List.getElem?_eq_getElem hlt'⟩
      have gx' : o[(i : Int).toNat]? = some x := gx
      have hxm := List.mem_of_getElem? gx
      have hxb := hso.ok x hxm
      unfold bad0 at hxb
      have hx0 : 0 ≤ x.r := by omega
      have hx1 : x.r < (out.length : Int) := hlong x hxm
      have gl := loc_at hx0 hx1
      have hdec : o.length - (i + 1) < o.length - i := by omega
      have hcs : cntK out (o.take (i + 1)) = cntK out (o.take i) + if (locOf out x).k = 2 then 1 else 0 := by
        unfold cntK; rw [List.take_add_one, gx, List.countP_append]; simp [List.countP_cons]
      obtain ⟨lx, hlx⟩ : ∃ lx, locOf out x = lx := ⟨_, rfl⟩
      have hrng := hK.rng x hxm
      rw [hlx] at gl hcs hrng
      refine WP.seq ?_
      refine WP.block ?_
      refine WP.seq ?_
      refine WP.seq ?_
      refine WP.plain cf0 rfl ?_
      refine Run.mv rfl rfl rfl rfl ?_
      refine Run.mv rfl rfl rfl rfl ?_
      refine Run.idxO 0 rfl rfl rfl sl_22 rfl rfl rfl rfl (by first | omega | (simp <;> omega)) (by first | omega | (simp <;> omega)) ?_
      refine Run.fieldAddr rfl rfl fo_35_0 rfl rfl ?_
      refine Run.loadO 0 _ 0 rfl rfl ag_3 rfl rfl rfl rfl (by assumption) rfl ?_
      refine Run.mv rfl rfl rfl rfl ?_
      refine Run.lenO 1 rfl rfl sl_25 rfl rfl rfl ?_
      refine Run.int2 rfl rfl rfl rfl rfl rfl ?_
      refine Run.nil ?_
      refine thn_next ?_
      refine WP.ite rfl (fun h => absurd h (by omega)) (fun _ => ?_)
      refine WP.skip ?_; refine thn_next ?_
      refine WP.seq ?_
      refine WP.plain cf0 rfl ?_
      refine Run.mv rfl rfl rfl rfl ?_
      refine Run.mv rfl rfl rfl rfl ?_
      refine Run.mv rfl rfl rfl rfl ?_
      refine Run.idxO 0 rfl rfl rfl sl_22 rfl rfl rfl rfl (by first | omega | (simp <;> omega)) (by first | omega | (simp <;> omega)) ?_
      refine Run.fieldAddr rfl rfl fo_35_0 rfl rfl ?_
      refine Run.loadO 0 _ 0 rfl rfl ag_3 rfl rfl rfl rfl (by assumption) rfl ?_
      refine Run.idxO 1 rfl rfl rfl sl_25 rfl rfl rfl rfl (by first | omega | (simp <;> omega)) (by first | omega | (simp <;> omega)) ?_
      refine Run.loadOagg 1 _ rfl rfl ag_37 rfl rfl rfl rfl rfl (by assumption) ?_
      refine Run.alloc rfl zr_37 rfl rfl rfl ?_
      intro b12
      refine Run.storeB 2 rfl rfl rfl rfl ag_37 rfl rfl rfl rfl rfl ?_
      refine Run.nil ?_
      refine thn_next ?_
      refine WP.via (Γ' := [slA 35 encIv sv.val o, slA 37 encLoc ov.val out, blk b12 (encLoc.cells lx) 37]) (ent.refl _) ?_
      refine WP.seqMeet (α := Unit) (fun _ => True) (fun _ => [(1, .int .i64 regs), (6, sv.val), (7, ov.val), (8, .int .i64 n), (10, .int .i64 (cntK out (o.take (i + 1)) : Int)), (11, .int .i64 (i : Int)), (12, .pointer (some ⟨b12, 0, none⟩))]) (fun _ => [slA 35 encIv sv.val o, slA 37 encLoc ov.val out, blk b12 (encLoc.cells lx) 37]) ?_ ?_
      · refine WP.seq ?_
        refine WP.plain cf0 rfl ?_
        refine Run.fieldAddr rfl rfl fo_37_0 rfl rfl ?_
        refine Run.loadB 2 rfl rfl ag_3 rfl rfl rfl rfl rfl ?_
        refine Run.int2 rfl rfl rfl rfl rfl rfl ?_
        refine Run.nil ?_
        refine thn_next ?_
        refine WP.ite rfl (fun h2 => ?_) (fun h2 => ?_)
        · refine WP.plain cf0 rfl ?_
          refine Run.mv rfl rfl rfl rfl ?_
          refine Run.add64 rfl rfl rfl rfl rfl (by first | omega | (simp <;> omega)) (by first | omega | (simp <;> omega)) ?_
          refine Run.mv rfl rfl rfl rfl ?_
          refine Run.nil ?_
          refine thn_next ⟨(), trivial, ⟨rfl, rfl, rfl, rfl, ?_, rfl, rfl, trivial⟩, ent.refl _⟩
          rw [hcs, if_pos h2]; rfl
        · refine WP.skip ?_
          refine thn_next ⟨(), trivial, ⟨rfl, rfl, rfl, rfl, ?_, rfl, rfl, trivial⟩, ent.refl _⟩
          rw [hcs, if_neg h2]; rfl
      rintro _ _
      refine WP.seq ?_
      refine WP.seqCut [(1, .int .i64 regs), (6, sv.val), (7, ov.val), (8, .int .i64 n), (10, .int .i64 (cntK out (o.take (i + 1)) : Int)), (11, .int .i64 (i : Int)), (12, .pointer (some ⟨b12, 0, none⟩)), (100, .bool false)] [slA 35 encIv sv.val o, slA 37 encLoc ov.val out, blk b12 (encLoc.cells lx) 37] ?_ ?_
      · obtain ⟨lk, ln⟩ := lx
        simp only at hrng
        rcases hrng with ⟨rfl, h1, h2⟩ | ⟨rfl, h1, h2⟩
        · have t1 : ¬ ln < 0 := by omega
          have t2 : ¬ ((1 : Int) ≠ 1) := fun h => h rfl
          have t3 : ¬ ln ≥ regs := by omega
          have t4 : ¬ ((1 : Int) = 2) := by decide
          have t5 : (1 : Int) = 1 := rfl
          refine WP.plain cf0 rfl ?_
          all_goals (first | refine Run.fieldAddr rfl rfl fo_37_1 rfl rfl ?_)
          all_goals (first | refine Run.loadB 2 rfl rfl ag_3 rfl rfl rfl rfl rfl ?_)
          all_goals (first | refine Run.int2 rfl rfl rfl rfl rfl rfl ?_)
          all_goals (first | refine Run.tt (by first | assumption | omega) ?_ | refine Run.ff (by first | assumption | omega) ?_ | refine Run.split (fun hc68 => ?_) (fun hc68 => ?_) | refine Run.splitB (fun hc68 => ?_) (fun hc68 => ?_) | skip)
          all_goals (first | refine Run.mv rfl rfl rfl rfl ?_)
          all_goals (first | refine Run.fieldAddr rfl rfl fo_37_0 rfl rfl ?_ | refine Run.not rfl rfl ?_)
          all_goals (first | refine Run.loadB 2 rfl rfl ag_3 rfl rfl rfl rfl rfl ?_ | refine Run.not rfl rfl ?_)
          all_goals (first | refine Run.int2 rfl rfl rfl rfl rfl rfl ?_ | refine Run.not rfl rfl ?_)
          all_goals (first | refine Run.tt (by first | assumption | omega) ?_ | refine Run.ff (by first | assumption | omega) ?_ | refine Run.split (fun hc72 => ?_) (fun hc72 => ?_) | refine Run.splitB (fun hc72 => ?_) (fun hc72 => ?_) | skip)
          all_goals (first | refine Run.mv rfl rfl rfl rfl ?_ | refine Run.not rfl rfl ?_)
          all_goals (first | refine Run.fieldAddr rfl rfl fo_37_0 rfl rfl ?_ | refine Run.not rfl rfl ?_)
          all_goals (first | refine Run.loadB 0 rfl rfl ag_3 rfl rfl rfl rfl rfl ?_ | refine Run.loadO 0 _ 0 rfl rfl ag_3 rfl rfl rfl rfl (by assumption) rfl ?_ | refine Run.loadO 0 _ _ rfl rfl ag_3 rfl rfl rfl rfl (by assumption) rfl ?_ | refine Run.loadB 1 rfl rfl ag_3 rfl rfl rfl rfl rfl ?_ | refine Run.loadO 1 _ 0 rfl rfl ag_3 rfl rfl rfl rfl (by assumption) rfl ?_ | refine Run.loadO 1 _ _ rfl rfl ag_3 rfl rfl rfl rfl (by assumption) rfl ?_ | refine Run.loadB 2 rfl rfl ag_3 rfl rfl rfl rfl rfl ?_ | refine Run.loadO 2 _ 0 rfl rfl ag_3 rfl rfl rfl rfl (by assumption) rfl ?_ | refine Run.loadO 2 _ _ rfl rfl ag_3 rfl rfl rfl rfl (by assumption) rfl ?_ | refine Run.loadB 3 rfl rfl ag_3 rfl rfl rfl rfl rfl ?_ | refine Run.loadO 3 _ 0 rfl rfl ag_3 rfl rfl rfl rfl (by assumption) rfl ?_ | refine Run.loadO 3 _ _ rfl rfl ag_3 rfl rfl rfl rfl (by assumption) rfl ?_ | refine Run.loadB 4 rfl rfl ag_3 rfl rfl rfl rfl rfl ?_ | refine Run.loadO 4 _ 0 rfl rfl ag_3 rfl rfl rfl rfl (by assumption) rfl ?_ | refine Run.loadO 4 _ _ rfl rfl ag_3 rfl rfl rfl rfl (by assumption) rfl ?_ | refine Run.loadB 5 rfl rfl ag_3 rfl rfl rfl rfl rfl ?_ | refine Run.loadO 5 _ 0 rfl rfl ag_3 rfl rfl rfl rfl (by assumption) rfl ?_ | refine Run.loadO 5 _ _ rfl rfl ag_3 rfl rfl rfl rfl (by assumption) rfl ?_ | refine Run.loadR rfl rfl ag_3 rfl rfl (by first | assumption | exact SlR.cell0 (by assumption) (by assumption) rfl | exact SlR.cell (by assumption) (by assumption) rfl) ?_ | refine Run.not rfl rfl ?_)
          all_goals (first | refine Run.int2 rfl rfl rfl rfl rfl rfl ?_ | refine Run.not rfl rfl ?_)
          all_goals (first | refine Run.tt (by first | assumption | omega) ?_ | refine Run.ff (by first | assumption | omega) ?_ | refine Run.split (fun hc76 => ?_) (fun hc76 => ?_) | refine Run.splitB (fun hc76 => ?_) (fun hc76 => ?_) | skip)
          all_goals (first | refine Run.pick rfl rfl rfl rfl rfl ?_ | refine Run.not rfl rfl ?_)
          all_goals (first | refine Run.pick rfl rfl rfl rfl rfl ?_)
          all_goals (first | refine Run.mv rfl rfl rfl rfl ?_)
          all_goals (first | refine Run.fieldAddr rfl rfl fo_37_0 rfl rfl ?_ | refine Run.not rfl rfl ?_)
          all_goals (first | refine Run.loadB 2 rfl rfl ag_3 rfl rfl rfl rfl rfl ?_ | refine Run.not rfl rfl ?_)
          all_goals (first | refine Run.int2 rfl rfl rfl rfl rfl rfl ?_ | refine Run.not rfl rfl ?_)
          all_goals (first | refine Run.tt (by first | assumption | omega) ?_ | refine Run.ff (by first | assumption | omega) ?_ | refine Run.split (fun hc82 => ?_) (fun hc82 => ?_) | refine Run.splitB (fun hc82 => ?_) (fun hc82 => ?_) | skip)
          all_goals (first | refine Run.mv rfl rfl rfl rfl ?_ | refine Run.not rfl rfl ?_)
          all_goals (first | refine Run.fieldAddr rfl rfl fo_37_1 rfl rfl ?_ | refine Run.not rfl rfl ?_)
          all_goals (first | refine Run.loadB 2 rfl rfl ag_3 rfl rfl rfl rfl rfl ?_ | refine Run.not rfl rfl ?_)
          all_goals (first | refine Run.mv rfl rfl rfl rfl ?_ | refine Run.not rfl rfl ?_)
          all_goals (first | refine Run.int2 rfl rfl rfl rfl rfl rfl ?_ | refine Run.not rfl rfl ?_)
          all_goals (first | refine Run.tt (by first | assumption | omega) ?_ | refine Run.ff (by first | assumption | omega) ?_ | refine Run.split (fun hc87 => ?_) (fun hc87 => ?_) | refine Run.splitB (fun hc87 => ?_) (fun hc87 => ?_) | skip)
          all_goals (first | refine Run.pick rfl rfl rfl rfl rfl ?_ | refine Run.not rfl rfl ?_)
          all_goals (first | refine Run.pick rfl rfl rfl rfl rfl ?_)
          all_goals (first | refine Run.mv rfl rfl rfl rfl ?_)
          all_goals (first | refine Run.fieldAddr rfl rfl fo_37_0 rfl rfl ?_ | refine Run.not rfl rfl ?_)
          all_goals (first | refine Run.loadB 2 rfl rfl ag_3 rfl rfl rfl rfl rfl ?_ | refine Run.not rfl rfl ?_)
          all_goals (first | refine Run.int2 rfl rfl rfl rfl rfl rfl ?_ | refine Run.not rfl rfl ?_)
          all_goals (first | refine Run.tt (by first | assumption | omega) ?_ | refine Run.ff (by first | assumption | omega) ?_ | refine Run.split (fun hc93 => ?_) (fun hc93 => ?_) | refine Run.splitB (fun hc93 => ?_) (fun hc93 => ?_) | skip)
          all_goals (first | refine Run.mv rfl rfl rfl rfl ?_ | refine Run.not rfl rfl ?_)
          all_goals (first | refine Run.fieldAddr rfl rfl fo_37_1 rfl rfl ?_ | refine Run.not rfl rfl ?_)
          all_goals (first | refine Run.loadB 0 rfl rfl ag_3 rfl rfl rfl rfl rfl ?_ | refine Run.loadO 0 _ 0 rfl rfl ag_3 rfl rfl rfl rfl (by assumption) rfl ?_ | refine Run.loadO 0 _ _ rfl rfl ag_3 rfl rfl rfl rfl (by assumption) rfl ?_ | refine Run.loadB 1 rfl rfl ag_3 rfl rfl rfl rfl rfl ?_ | refine Run.loadO 1 _ 0 rfl rfl ag_3 rfl rfl rfl rfl (by assumption) rfl ?_ | refine Run.loadO 1 _ _ rfl rfl ag_3 rfl rfl rfl rfl (by assumption) rfl ?_ | refine Run.loadB 2 rfl rfl ag_3 rfl rfl rfl rfl rfl ?_ | refine Run.loadO 2 _ 0 rfl rfl ag_3 rfl rfl rfl rfl (by assumption) rfl ?_ | refine Run.loadO 2 _ _ rfl rfl ag_3 rfl rfl rfl rfl (by assumption) rfl ?_ | refine Run.loadB 3 rfl rfl ag_3 rfl rfl rfl rfl rfl ?_ | refine Run.loadO 3 _ 0 rfl rfl ag_3 rfl rfl rfl rfl (by assumption) rfl ?_ | refine Run.loadO 3 _ _ rfl rfl ag_3 rfl rfl rfl rfl (by assumption) rfl ?_ | refine Run.loadB 4 rfl rfl ag_3 rfl rfl rfl rfl rfl ?_ | refine Run.loadO 4 _ 0 rfl rfl ag_3 rfl rfl rfl rfl (by assumption) rfl ?_ | refine Run.loadO 4 _ _ rfl rfl ag_3 rfl rfl rfl rfl (by assumption) rfl ?_ | refine Run.loadB 5 rfl rfl ag_3 rfl rfl rfl rfl rfl ?_ | refine Run.loadO 5 _ 0 rfl rfl ag_3 rfl rfl rfl rfl (by assumption) rfl ?_ | refine Run.loadO 5 _ _ rfl rfl ag_3 rfl rfl rfl rfl (by assumption) rfl ?_ | refine Run.loadR rfl rfl ag_3 rfl rfl (by first | assumption | exact SlR.cell0 (by assumption) (by assumption) rfl | exact SlR.cell (by assumption) (by assumption) rfl) ?_ | refine Run.not rfl rfl ?_)
          all_goals (first | refine Run.mv rfl rfl rfl rfl ?_ | refine Run.not rfl rfl ?_)
          all_goals (first | refine Run.int2 rfl rfl rfl rfl rfl rfl ?_ | refine Run.not rfl rfl ?_)
          all_goals (first | refine Run.pick rfl rfl rfl rfl rfl ?_ | refine Run.not rfl rfl ?_)
          all_goals (first | refine Run.pick rfl rfl rfl rfl rfl ?_)
          all_goals (refine Run.nil ?_)
          all_goals refine thn_next ⟨⟨rfl, rfl, rfl, rfl, rfl, rfl, rfl, ?_, trivial⟩, ent.refl _⟩
          all_goals (first | rfl | simp [Env.get, *])
        · have t1 : ¬ ln < 0 := by omega
          have t2 : ¬ ((2 : Int) ≠ 2) := fun h => h rfl
          have t3 : ¬ ln ≥ n := by omega
          have t4 : ¬ ((2 : Int) = 1) := by decide
          have t5 : (2 : Int) ≠ 1 := by decide
          have t6 : (2 : Int) = 2 := rfl
          refine WP.plain cf0 rfl ?_
          all_goals (first | refine Run.fieldAddr rfl rfl fo_37_1 rfl rfl ?_)
          all_goals (first | refine Run.loadB 2 rfl rfl ag_3 rfl rfl rfl rfl rfl ?_)
          all_goals (first | refine Run.int2 rfl rfl rfl rfl rfl rfl ?_)
          all_goals (first | refine Run.tt (by first | assumption | omega) ?_ | refine Run.ff (by first | assumption | omega) ?_ | refine Run.split (fun hc68 => ?_) (fun hc68 => ?_) | refine Run.splitB (fun hc68 => ?_) (fun hc68 => ?_) | skip)
          all_goals (first | refine Run.mv rfl rfl rfl rfl ?_)
          all_goals (first | refine Run.fieldAddr rfl rfl fo_37_0 rfl rfl ?_ | refine Run.not rfl rfl ?_)
          all_goals (first | refine Run.loadB 2 rfl rfl ag_3 rfl rfl rfl rfl rfl ?_ | refine Run.not rfl rfl ?_)
          all_goals (first | refine Run.int2 rfl rfl rfl rfl rfl rfl ?_ | refine Run.not rfl rfl ?_)
          all_goals (first | refine Run.tt (by first | assumption | omega) ?_ | refine Run.ff (by first | assumption | omega) ?_ | refine Run.split (fun hc72 => ?_) (fun hc72 => ?_) | refine Run.splitB (fun hc72 => ?_) (fun hc72 => ?_) | skip)
          all_goals (first | refine Run.mv rfl rfl rfl rfl ?_ | refine Run.not rfl rfl ?_)
          all_goals (first | refine Run.fieldAddr rfl rfl fo_37_0 rfl rfl ?_ | refine Run.not rfl rfl ?_)
          all_goals (first | refine Run.loadB 2 rfl rfl ag_3 rfl rfl rfl rfl rfl ?_ | refine Run.not rfl rfl ?_)
          all_goals (first | refine Run.int2 rfl rfl rfl rfl rfl rfl ?_ | refine Run.not rfl rfl ?_)
          all_goals (first | refine Run.tt (by first | assumption | omega) ?_ | refine Run.ff (by first | assumption | omega) ?_ | refine Run.split (fun hc76 => ?_) (fun hc76 => ?_) | refine Run.splitB (fun hc76 => ?_) (fun hc76 => ?_) | skip)
          all_goals (first | refine Run.pick rfl rfl rfl rfl rfl ?_ | refine Run.not rfl rfl ?_)
          all_goals (first | refine Run.pick rfl rfl rfl rfl rfl ?_)
          all_goals (first | refine Run.mv rfl rfl rfl rfl ?_)
          all_goals (first | refine Run.fieldAddr rfl rfl fo_37_0 rfl rfl ?_ | refine Run.not rfl rfl ?_)
          all_goals (first | refine Run.loadB 2 rfl rfl ag_3 rfl rfl rfl rfl rfl ?_ | refine Run.not rfl rfl ?_)
          all_goals (first | refine Run.int2 rfl rfl rfl rfl rfl rfl ?_ | refine Run.not rfl rfl ?_)
          all_goals (first | refine Run.tt (by first | assumption | omega) ?_ | refine Run.ff (by first | assumption | omega) ?_ | refine Run.split (fun hc82 => ?_) (fun hc82 => ?_) | refine Run.splitB (fun hc82 => ?_) (fun hc82 => ?_) | skip)
          all_goals (first | refine Run.mv rfl rfl rfl rfl ?_ | refine Run.not rfl rfl ?_)
          all_goals (first | refine Run.fieldAddr rfl rfl fo_37_1 rfl rfl ?_ | refine Run.not rfl rfl ?_)
          all_goals (first | refine Run.loadB 0 rfl rfl ag_3 rfl rfl rfl rfl rfl ?_ | refine Run.loadO 0 _ 0 rfl rfl ag_3 rfl rfl rfl rfl (by assumption) rfl ?_ | refine Run.loadO 0 _ _ rfl rfl ag_3 rfl rfl rfl rfl (by assumption) rfl ?_ | refine Run.loadB 1 rfl rfl ag_3 rfl rfl rfl rfl rfl ?_ | refine Run.loadO 1 _ 0 rfl rfl ag_3 rfl rfl rfl rfl (by assumption) rfl ?_ | refine Run.loadO 1 _ _ rfl rfl ag_3 rfl rfl rfl rfl (by assumption) rfl ?_ | refine Run.loadB 2 rfl rfl ag_3 rfl rfl rfl rfl rfl ?_ | refine Run.loadO 2 _ 0 rfl rfl ag_3 rfl rfl rfl rfl (by assumption) rfl ?_ | refine Run.loadO 2 _ _ rfl rfl ag_3 rfl rfl rfl rfl (by assumption) rfl ?_ | refine Run.loadB 3 rfl rfl ag_3 rfl rfl rfl rfl rfl ?_ | refine Run.loadO 3 _ 0 rfl rfl ag_3 rfl rfl rfl rfl (by assumption) rfl ?_ | refine Run.loadO 3 _ _ rfl rfl ag_3 rfl rfl rfl rfl (by assumption) rfl ?_ | refine Run.loadB 4 rfl rfl ag_3 rfl rfl rfl rfl rfl ?_ | refine Run.loadO 4 _ 0 rfl rfl ag_3 rfl rfl rfl rfl (by assumption) rfl ?_ | refine Run.loadO 4 _ _ rfl rfl ag_3 rfl rfl rfl rfl (by assumption) rfl ?_ | refine Run.loadB 5 rfl rfl ag_3 rfl rfl rfl rfl rfl ?_ | refine Run.loadO 5 _ 0 rfl rfl ag_3 rfl rfl rfl rfl (by assumption) rfl ?_ | refine Run.loadO 5 _ _ rfl rfl ag_3 rfl rfl rfl rfl (by assumption) rfl ?_ | refine Run.loadR rfl rfl ag_3 rfl rfl (by first | assumption | exact SlR.cell0 (by assumption) (by assumption) rfl | exact SlR.cell (by assumption) (by assumption) rfl) ?_ | refine Run.not rfl rfl ?_)
          all_goals (first | refine Run.mv rfl rfl rfl rfl ?_ | refine Run.not rfl rfl ?_)
          all_goals (first | refine Run.int2 rfl rfl rfl rfl rfl rfl ?_ | refine Run.not rfl rfl ?_)
          all_goals (first | refine Run.tt (by first | assumption | omega) ?_ | refine Run.ff (by first | assumption | omega) ?_ | refine Run.split (fun hc87 => ?_) (fun hc87 => ?_) | refine Run.splitB (fun hc87 => ?_) (fun hc87 => ?_) | skip)
          all_goals (first | refine Run.pick rfl rfl rfl rfl rfl ?_ | refine Run.not rfl rfl ?_)
          all_goals (first | refine Run.pick rfl rfl rfl rfl rfl ?_)
          all_goals (first | refine Run.mv rfl rfl rfl rfl ?_)
          all_goals (first | refine Run.fieldAddr rfl rfl fo_37_0 rfl rfl ?_ | refine Run.not rfl rfl ?_)
          all_goals (first | refine Run.loadB 2 rfl rfl ag_3 rfl rfl rfl rfl rfl ?_ | refine Run.not rfl rfl ?_)
          all_goals (first | refine Run.int2 rfl rfl rfl rfl rfl rfl ?_ | refine Run.not rfl rfl ?_)
          all_goals (first | refine Run.tt (by first | assumption | omega) ?_ | refine Run.ff (by first | assumption | omega) ?_ | refine Run.split (fun hc93 => ?_) (fun hc93 => ?_) | refine Run.splitB (fun hc93 => ?_) (fun hc93 => ?_) | skip)
          all_goals (first | refine Run.mv rfl rfl rfl rfl ?_ | refine Run.not rfl rfl ?_)
          all_goals (first | refine Run.fieldAddr rfl rfl fo_37_1 rfl rfl ?_ | refine Run.not rfl rfl ?_)
          all_goals (first | refine Run.loadB 2 rfl rfl ag_3 rfl rfl rfl rfl rfl ?_ | refine Run.not rfl rfl ?_)
          all_goals (first | refine Run.mv rfl rfl rfl rfl ?_ | refine Run.not rfl rfl ?_)
          all_goals (first | refine Run.int2 rfl rfl rfl rfl rfl rfl ?_ | refine Run.not rfl rfl ?_)
          all_goals (first | refine Run.pick rfl rfl rfl rfl rfl ?_ | refine Run.not rfl rfl ?_)
          all_goals (first | refine Run.pick rfl rfl rfl rfl rfl ?_)
          all_goals (refine Run.nil ?_)
          all_goals refine thn_next ⟨⟨rfl, rfl, rfl, rfl, rfl, rfl, rfl, ?_, trivial⟩, ent.refl _⟩
          all_goals (first | rfl | simp [Env.get, *])
      refine WP.cond (t := false) rfl (fun h => by cases h) (fun _ => ?_)
      refine WP.skip ?_; refine thn_next ?_
      refine WP.seq ?_
      refine WP.plain cf0 rfl ?_
      refine Run.mv rfl rfl rfl rfl ?_
      refine Run.nil ?_
      refine thn_next ?_
      refine WP.block ?_
      refine WP.loop (α := Nat) (fun j => j ≤ i)
        (fun j => [(1, .int .i64 regs), (6, sv.val), (7, ov.val), (8, .int .i64 n), (10, .int .i64 (cntK out (o.take (i + 1)) : Int)), (11, .int .i64 (i : Int)), (12, .pointer (some ⟨b12, 0, none⟩)), (13, .int .i64 (j : Int))]) (fun _ => [slA 35 encIv sv.val o, slA 37 encLoc ov.val out, blk b12 (encLoc.cells lx) 37]) (fun j => i - j)
        0 (Nat.zero_le _) ⟨rfl, rfl, rfl, rfl, rfl, rfl, rfl, rfl, trivial⟩ (ent.refl _) ?_
      intro j hj
      refine WP.seq ?_
      refine WP.seq ?_
      refine WP.plain cf0 rfl ?_
      refine Run.mv rfl rfl rfl rfl ?_
      refine Run.mv rfl rfl rfl rfl ?_
      refine Run.int2 rfl rfl rfl rfl rfl rfl ?_
      refine Run.nil ?_
      refine thn_next ?_
      refine WP.ite rfl (fun hjl => ?_) (fun hjl => ?_)
      · refine WP.skip ?_; refine thn_next ?_
        have hjl' : j < i := by omega
        obtain ⟨y, gy⟩ : ∃ y, o[j]? = some y := ⟨_, List.getElem?_eq_getElem (by omega)⟩
        have gy' : o[(j : Int).toNat]? = some y := gy
        have hym := List.mem_of_getElem? gy
        have hyb := hso.ok y hym
        unfold bad0 at hyb
        have hy0 : 0 ≤ y.r := by omega
        have hy1 : y.r < (out.length : Int) := hlong y hym
        have gm := loc_at hy0 hy1
        have hjd : i - (j + 1) < i - j := by omega
        have hne : y.r ≠ x.r := by
          obtain ⟨q1, q2⟩ := List.getElem?_eq_some_iff.1 gy
          obtain ⟨q3, q4⟩ := List.getElem?_eq_some_iff.1 gx
          have := (List.pairwise_iff_getElem.1 hso.dis) j i q1 q3 hjl'
          rwa [q2, q4] at this
        obtain ⟨ly, hly⟩ : ∃ ly, locOf out y = ly := ⟨_, rfl⟩
        have hsep := hK.sep x hxm y hym (Ne.symm hne)
        rw [hlx, hly] at hsep
        rw [hly] at gm
        refine WP.seq ?_
        refine WP.block ?_
        refine WP.seq ?_
        refine WP.plain cf0 rfl ?_
        refine Run.mv rfl rfl rfl rfl ?_
        refine Run.mv rfl rfl rfl rfl ?_
        refine Run.mv rfl rfl rfl rfl ?_
        refine Run.idxO 0 rfl rfl rfl sl_22 rfl rfl rfl rfl (by first | omega | (simp <;> omega)) (by first | omega | (simp <;> omega)) ?_
        refine Run.fieldAddr rfl rfl fo_35_0 rfl rfl ?_
        refine Run.loadO 0 _ 0 rfl rfl ag_3 rfl rfl rfl rfl (by assumption) rfl ?_
        refine Run.idxO 1 rfl rfl rfl sl_25 rfl rfl rfl rfl (by first | omega | (simp <;> omega)) (by first | omega | (simp <;> omega)) ?_
        refine Run.loadOagg 1 _ rfl rfl ag_37 rfl rfl rfl rfl rfl (by assumption) ?_
        refine Run.alloc rfl zr_37 rfl rfl rfl ?_
        intro b14
        refine Run.storeB 3 rfl rfl rfl rfl ag_37 rfl rfl rfl rfl rfl ?_
        refine Run.nil ?_
        refine thn_next ?_
        refine WP.via (Γ' := [slA 35 encIv sv.val o, slA 37 encLoc ov.val out, blk b12 (encLoc.cells lx) 37, blk b14 (encLoc.cells ly) 37]) (ent.refl _) ?_
        refine WP.seqCut [(1, .int .i64 regs), (6, sv.val), (7, ov.val), (8, .int .i64 n), (10, .int .i64 (cntK out (o.take (i + 1)) : Int)), (11, .int .i64 (i : Int)), (12, .pointer (some ⟨b12, 0, none⟩)), (13, .int .i64 (j : Int)), (132, .bool false)] [slA 35 encIv sv.val o, slA 37 encLoc ov.val out, blk b12 (encLoc.cells lx) 37] ?_ ?_
        · by_cases e : lx = ly
          · have hs2 := hsep e
            have u1 : ¬ lx.k = 2 := by omega
            have hm : ¬ (x.f ≤ y.t ∧ y.f ≤ x.t) := by omega
            have he : Value.bool (decide (lx.k = ly.k) && (decide (lx.n = ly.n) && true)) = .bool true := by rw [e]; simp
            refine WP.drawn0 cf0 mixed rfl (by kernel_rfl) ?_
            all_goals (first | refine Run.loadBagg 2 rfl rfl ag_37 rfl rfl rfl rfl rfl ?_)
            all_goals (first | refine Run.loadBagg 3 rfl rfl ag_37 rfl rfl rfl rfl rfl ?_)
            all_goals (first | refine Run.eqS rfl rfl rfl is_37 nf_37 rfl rfl rfl rfl ?_; refine Run.eqv he ?_)
            all_goals (first | refine Run.mv rfl rfl rfl rfl ?_)
            all_goals (first | refine Run.fieldAddr rfl rfl fo_37_0 rfl rfl ?_ | refine Run.not rfl rfl ?_)
            all_goals (first | refine Run.loadB 2 rfl rfl ag_3 rfl rfl rfl rfl rfl ?_ | refine Run.not rfl rfl ?_)
            all_goals (first | refine Run.int2 rfl rfl rfl rfl rfl rfl ?_ | refine Run.not rfl rfl ?_)
            all_goals (first | refine Run.tt (by first | assumption | omega) ?_ | refine Run.ff (by first | assumption | omega) ?_ | refine Run.split (fun hc120 => ?_) (fun hc120 => ?_) | refine Run.splitB (fun hc120 => ?_) (fun hc120 => ?_) | skip)
            all_goals (first | refine Run.mv rfl rfl rfl rfl ?_ | refine Run.not rfl rfl ?_)
            all_goals (first | refine Run.mv rfl rfl rfl rfl ?_ | refine Run.not rfl rfl ?_)
            all_goals (first | refine Run.mv rfl rfl rfl rfl ?_ | refine Run.not rfl rfl ?_)
            all_goals (first | refine Run.idxO 0 rfl rfl rfl sl_22 rfl rfl rfl rfl (by first | omega | (simp <;> omega)) (by first | omega | (simp <;> omega)) ?_ | refine Run.not rfl rfl ?_)
            all_goals (first | refine Run.loadOagg 0 _ rfl rfl ag_35 rfl rfl rfl rfl rfl (by assumption) ?_ | refine Run.not rfl rfl ?_)
            all_goals (first | refine Run.mv rfl rfl rfl rfl ?_ | refine Run.not rfl rfl ?_)
            all_goals (first | refine Run.mv rfl rfl rfl rfl ?_ | refine Run.not rfl rfl ?_)
            all_goals (first | refine Run.idxO 0 rfl rfl rfl sl_22 rfl rfl rfl rfl (by first | omega | (simp <;> omega)) (by first | omega | (simp <;> omega)) ?_ | refine Run.not rfl rfl ?_)
            all_goals (first | refine Run.loadOagg 0 _ rfl rfl ag_35 rfl rfl rfl rfl rfl (by assumption) ?_ | refine Run.not rfl rfl ?_)
            all_goals (first | refine Run.call (Δ := []) (Θ := [slA 35 encIv sv.val o, slA 37 encLoc ov.val out, blk b12 (encLoc.cells lx) 37, blk b14 (encLoc.cells ly) 37]) rfl rfl rfl rfl ok_16 rfl rfl (ent.refl _) (meet_ok hR x y) ?_; rintro _ Γ1 rfl; refine Run.ff hm ?_ | refine Run.not rfl rfl ?_)
            all_goals (first | refine Run.pick rfl rfl rfl rfl rfl ?_ | refine Run.not rfl rfl ?_)
            all_goals (first | refine Run.pick rfl rfl rfl rfl rfl ?_)
            all_goals (refine Run.nil ?_)
            exact thn_next ⟨⟨rfl, rfl, rfl, rfl, rfl, rfl, rfl, rfl, rfl, trivial⟩, (ent.right _ _).trans (pick_only [0, 0, 0] _)⟩
          · have he : Value.bool (decide (lx.k = ly.k) && (decide (lx.n = ly.n) && true)) = .bool false := by
              have : ¬ (lx.k = ly.k ∧ lx.n = ly.n) := fun h => e (by cases lx; cases ly; simp only at h; rw [h.1, h.2])
              by_cases h1 : lx.k = ly.k
              · have : ¬ lx.n = ly.n := fun h2 => this ⟨h1, h2⟩
                simp [this]
              · simp [h1]
            refine WP.drawn0 cf0 mixed rfl (by kernel_rfl) ?_
            all_goals (first | refine Run.loadBagg 2 rfl rfl ag_37 rfl rfl rfl rfl rfl ?_)
            all_goals (first | refine Run.loadBagg 3 rfl rfl ag_37 rfl rfl rfl rfl rfl ?_)
            all_goals (first | refine Run.eqS rfl rfl rfl is_37 nf_37 rfl rfl rfl rfl ?_; refine Run.eqv he ?_)
            all_goals (first | refine Run.mv rfl rfl rfl rfl ?_)
            all_goals (first | refine Run.fieldAddr rfl rfl fo_37_0 rfl rfl ?_ | refine Run.not rfl rfl ?_)
            all_goals (first | refine Run.loadB 0 rfl rfl ag_3 rfl rfl rfl rfl rfl ?_ | refine Run.loadO 0 _ 0 rfl rfl ag_3 rfl rfl rfl rfl (by assumption) rfl ?_ | refine Run.loadO 0 _ _ rfl rfl ag_3 rfl rfl rfl rfl (by assumption) rfl ?_ | refine Run.loadB 1 rfl rfl ag_3 rfl rfl rfl rfl rfl ?_ | refine Run.loadO 1 _ 0 rfl rfl ag_3 rfl rfl rfl rfl (by assumption) rfl ?_ | refine Run.loadO 1 _ _ rfl rfl ag_3 rfl rfl rfl rfl (by assumption) rfl ?_ | refine Run.loadB 2 rfl rfl ag_3 rfl rfl rfl rfl rfl ?_ | refine Run.loadO 2 _ 0 rfl rfl ag_3 rfl rfl rfl rfl (by assumption) rfl ?_ | refine Run.loadO 2 _ _ rfl rfl ag_3 rfl rfl rfl rfl (by assumption) rfl ?_ | refine Run.loadB 3 rfl rfl ag_3 rfl rfl rfl rfl rfl ?_ | refine Run.loadO 3 _ 0 rfl rfl ag_3 rfl rfl rfl rfl (by assumption) rfl ?_ | refine Run.loadO 3 _ _ rfl rfl ag_3 rfl rfl rfl rfl (by assumption) rfl ?_ | refine Run.loadB 4 rfl rfl ag_3 rfl rfl rfl rfl rfl ?_ | refine Run.loadO 4 _ 0 rfl rfl ag_3 rfl rfl rfl rfl (by assumption) rfl ?_ | refine Run.loadO 4 _ _ rfl rfl ag_3 rfl rfl rfl rfl (by assumption) rfl ?_ | refine Run.loadB 5 rfl rfl ag_3 rfl rfl rfl rfl rfl ?_ | refine Run.loadO 5 _ 0 rfl rfl ag_3 rfl rfl rfl rfl (by assumption) rfl ?_ | refine Run.loadO 5 _ _ rfl rfl ag_3 rfl rfl rfl rfl (by assumption) rfl ?_ | refine Run.loadR rfl rfl ag_3 rfl rfl (by first | assumption | exact SlR.cell0 (by assumption) (by assumption) rfl | exact SlR.cell (by assumption) (by assumption) rfl) ?_ | refine Run.not rfl rfl ?_)
            all_goals (first | refine Run.int2 rfl rfl rfl rfl rfl rfl ?_ | refine Run.not rfl rfl ?_)
            all_goals (first | refine Run.tt (by first | assumption | omega) ?_ | refine Run.ff (by first | assumption | omega) ?_ | refine Run.split (fun hc120 => ?_) (fun hc120 => ?_) | refine Run.splitB (fun hc120 => ?_) (fun hc120 => ?_) | skip)
            all_goals (first | refine Run.mv rfl rfl rfl rfl ?_ | refine Run.not rfl rfl ?_)
            all_goals (first | refine Run.mv rfl rfl rfl rfl ?_ | refine Run.not rfl rfl ?_)
            all_goals (first | refine Run.mv rfl rfl rfl rfl ?_ | refine Run.not rfl rfl ?_)
            all_goals (first | refine Run.idxO 0 rfl rfl rfl sl_22 rfl rfl rfl rfl (by first | omega | (simp <;> omega)) (by first | omega | (simp <;> omega)) ?_ | refine Run.idxO 1 rfl rfl rfl sl_22 rfl rfl rfl rfl (by first | omega | (simp <;> omega)) (by first | omega | (simp <;> omega)) ?_ | refine Run.idxO 2 rfl rfl rfl sl_22 rfl rfl rfl rfl (by first | omega | (simp <;> omega)) (by first | omega | (simp <;> omega)) ?_ | refine Run.idxO 3 rfl rfl rfl sl_22 rfl rfl rfl rfl (by first | omega | (simp <;> omega)) (by first | omega | (simp <;> omega)) ?_ | refine Run.idxO 4 rfl rfl rfl sl_22 rfl rfl rfl rfl (by first | omega | (simp <;> omega)) (by first | omega | (simp <;> omega)) ?_ | refine Run.idxO 5 rfl rfl rfl sl_22 rfl rfl rfl rfl (by first | omega | (simp <;> omega)) (by first | omega | (simp <;> omega)) ?_ | refine Run.idxR rfl rfl rfl sl_22 rfl rfl (by assumption) (by rfl) (by first | omega | (simp <;> omega)) (by first | omega | (simp <;> omega)) ?_ | refine Run.not rfl rfl ?_)
            all_goals (first | refine Run.loadOagg 0 _ rfl rfl ag_35 rfl rfl rfl rfl rfl (by assumption) ?_ | refine Run.loadBagg 0 rfl rfl ag_35 rfl rfl rfl rfl rfl ?_ | refine Run.loadOagg 1 _ rfl rfl ag_35 rfl rfl rfl rfl rfl (by assumption) ?_ | refine Run.loadBagg 1 rfl rfl ag_35 rfl rfl rfl rfl rfl ?_ | refine Run.loadOagg 2 _ rfl rfl ag_35 rfl rfl rfl rfl rfl (by assumption) ?_ | refine Run.loadBagg 2 rfl rfl ag_35 rfl rfl rfl rfl rfl ?_ | refine Run.loadOagg 3 _ rfl rfl ag_35 rfl rfl rfl rfl rfl (by assumption) ?_ | refine Run.loadBagg 3 rfl rfl ag_35 rfl rfl rfl rfl rfl ?_ | refine Run.loadOagg 4 _ rfl rfl ag_35 rfl rfl rfl rfl rfl (by assumption) ?_ | refine Run.loadBagg 4 rfl rfl ag_35 rfl rfl rfl rfl rfl ?_ | refine Run.loadOagg 5 _ rfl rfl ag_35 rfl rfl rfl rfl rfl (by assumption) ?_ | refine Run.loadBagg 5 rfl rfl ag_35 rfl rfl rfl rfl rfl ?_ | refine Run.loadRagg rfl rfl ag_35 rfl rfl (by first | assumption | exact SlR.row (by assumption) (by assumption)) (by rfl) ?_ | refine Run.not rfl rfl ?_)
            all_goals (first | refine Run.mv rfl rfl rfl rfl ?_ | refine Run.not rfl rfl ?_)
            all_goals (first | refine Run.mv rfl rfl rfl rfl ?_ | refine Run.not rfl rfl ?_)
            all_goals (first | refine Run.idxO 0 rfl rfl rfl sl_22 rfl rfl rfl rfl (by first | omega | (simp <;> omega)) (by first | omega | (simp <;> omega)) ?_ | refine Run.idxO 1 rfl rfl rfl sl_22 rfl rfl rfl rfl (by first | omega | (simp <;> omega)) (by first | omega | (simp <;> omega)) ?_ | refine Run.idxO 2 rfl rfl rfl sl_22 rfl rfl rfl rfl (by first | omega | (simp <;> omega)) (by first | omega | (simp <;> omega)) ?_ | refine Run.idxO 3 rfl rfl rfl sl_22 rfl rfl rfl rfl (by first | omega | (simp <;> omega)) (by first | omega | (simp <;> omega)) ?_ | refine Run.idxO 4 rfl rfl rfl sl_22 rfl rfl rfl rfl (by first | omega | (simp <;> omega)) (by first | omega | (simp <;> omega)) ?_ | refine Run.idxO 5 rfl rfl rfl sl_22 rfl rfl rfl rfl (by first | omega | (simp <;> omega)) (by first | omega | (simp <;> omega)) ?_ | refine Run.idxR rfl rfl rfl sl_22 rfl rfl (by assumption) (by rfl) (by first | omega | (simp <;> omega)) (by first | omega | (simp <;> omega)) ?_ | refine Run.not rfl rfl ?_)
            all_goals (first | refine Run.loadOagg 0 _ rfl rfl ag_35 rfl rfl rfl rfl rfl (by assumption) ?_ | refine Run.loadBagg 0 rfl rfl ag_35 rfl rfl rfl rfl rfl ?_ | refine Run.loadOagg 1 _ rfl rfl ag_35 rfl rfl rfl rfl rfl (by assumption) ?_ | refine Run.loadBagg 1 rfl rfl ag_35 rfl rfl rfl rfl rfl ?_ | refine Run.loadOagg 2 _ rfl rfl ag_35 rfl rfl rfl rfl rfl (by assumption) ?_ | refine Run.loadBagg 2 rfl rfl ag_35 rfl rfl rfl rfl rfl ?_ | refine Run.loadOagg 3 _ rfl rfl ag_35 rfl rfl rfl rfl rfl (by assumption) ?_ | refine Run.loadBagg 3 rfl rfl ag_35 rfl rfl rfl rfl rfl ?_ | refine Run.loadOagg 4 _ rfl rfl ag_35 rfl rfl rfl rfl rfl (by assumption) ?_ | refine Run.loadBagg 4 rfl rfl ag_35 rfl rfl rfl rfl rfl ?_ | refine Run.loadOagg 5 _ rfl rfl ag_35 rfl rfl rfl rfl rfl (by assumption) ?_ | refine Run.loadBagg 5 rfl rfl ag_35 rfl rfl rfl rfl rfl ?_ | refine Run.loadRagg rfl rfl ag_35 rfl rfl (by first | assumption | exact SlR.row (by assumption) (by assumption)) (by rfl) ?_ | refine Run.not rfl rfl ?_)
            all_goals (first | refine Run.not rfl rfl ?_ | refine Run.not rfl rfl ?_)
            all_goals (first | refine Run.pick rfl rfl rfl rfl rfl ?_ | refine Run.not rfl rfl ?_)
            all_goals (first | refine Run.pick rfl rfl rfl rfl rfl ?_)
            all_goals (refine Run.nil ?_)
            exact thn_next ⟨⟨rfl, rfl, rfl, rfl, rfl, rfl, rfl, rfl, rfl, trivial⟩, pick_only [0, 0, 0] _⟩
        refine WP.cond (t := false) rfl (fun h => by cases h) (fun _ => ?_)
        refine WP.skip ?_; refine blk_norm ?_; refine thn_next ?_
        refine WP.plain cf0 rfl ?_
        refine Run.mv rfl rfl rfl rfl ?_
        refine Run.add64 rfl rfl rfl rfl rfl (by first | omega | (simp <;> omega)) (by first | omega | (simp <;> omega)) ?_
        refine Run.mv rfl rfl rfl rfl ?_
        refine Run.nil ?_
        refine thn_next ⟨j + 1, hjl', hjd, ⟨rfl, rfl, rfl, rfl, rfl, rfl, rfl, by simp [Env.get], trivial⟩, ent.refl _⟩
      · refine WP.exit ?_; refine thn_exit ?_; refine thn_exit ?_; refine blk_hit ?_; refine blk_norm ?_; refine thn_next ?_
        refine WP.plain cf0 rfl ?_
        refine Run.mv rfl rfl rfl rfl ?_
        refine Run.add64 rfl rfl rfl rfl rfl (by first | omega | (simp <;> omega)) (by first | omega | (simp <;> omega)) ?_
        refine Run.mv rfl rfl rfl rfl ?_
        refine Run.nil ?_
        refine thn_next ⟨i + 1, hlt', hdec, ⟨rfl, rfl, rfl, rfl, rfl, by simp [Env.get], trivial⟩, pick_only [0, 0] _⟩
    · refine WP.exit ?_; refine thn_exit ?_; refine thn_exit ?_; refine blk_hit ?_; refine thn_next ?_
      have : o.take i = o := List.take_of_length_le (by omega)
      refine ⟨(), trivial, ⟨rfl, ?_, trivial⟩, pick_only [] _⟩
      rw [← hck]
      show some (Value.int .i64 (cntK out (o.take i) : Int)) = _
      rw [this]
  rintro _ _
  refine WP.seq ?_
  refine WP.plain cf0 rfl ?_
  refine Run.mv rfl rfl rfl rfl ?_
  refine Run.mv rfl rfl rfl rfl ?_
  refine Run.int2 rfl rfl rfl rfl rfl rfl ?_
  refine Run.tt rfl ?_
  refine Run.mv rfl rfl rfl rfl ?_
  refine Run.nil ?_
  refine thn_next ?_
  refine WP.ret ?_
  exact retT [4] _ rfl rfl rfl
end Go.Proofs.Ytengcfamhoppbaa
