/- ScanOn, walked: one interval more, behind all, takes the first register; nothing else turns. -/
import Derived.Test.YtengcfamhoppbaaPlainOn
import Derived.Test.YtengcfamhoppbaaPlaces
import Derived.Test.YtengcfamhoppbaaArgs
namespace Go.Proofs.Ytengcfamhoppbaa
open Go.Sep
set_option linter.unusedSimpArgs false
set_option linter.unusedVariables false
attribute [local irreducible] blk slA mp mpF

def endUp (l : List Iv) : Int := l.foldl (fun m x => max m x.t) (-9223372036854775808)
def topUp (l : List Iv) : Int := l.foldl (fun m x => max m x.r) (-1)
theorem endUp_snoc (l : List Iv) (x : Iv) : endUp (l ++ [x]) = max (endUp l) x.t := by unfold endUp; rw [List.foldl_append]; rfl
theorem topUp_snoc (l : List Iv) (x : Iv) : topUp (l ++ [x]) = max (topUp l) x.r := by unfold topUp; rw [List.foldl_append]; rfl
theorem foldl_max_bd (g : Iv → Int) : ∀ (l : List Iv) (m : Int), m ≤ l.foldl (fun m x => max m (g x)) m ∧ ∀ x ∈ l, g x ≤ l.foldl (fun m x => max m (g x)) m
  | [], m => ⟨Int.le_refl _, fun x hx => by cases hx⟩
  | y :: ys, m => by
    obtain ⟨h1, h2⟩ := foldl_max_bd g ys (max m (g y))
    rw [List.foldl_cons]
    refine ⟨by omega, fun x hx => ?_⟩
    rcases List.mem_cons.1 hx with rfl | hx
    · omega
    · exact h2 x hx
theorem foldl_max_up (g : Iv → Int) (k : Int) : ∀ (l : List Iv) (m : Int), m ≤ k → (∀ x ∈ l, g x ≤ k) → l.foldl (fun m x => max m (g x)) m ≤ k
  | [], m, h, _ => h
  | y :: ys, m, h, h2 => by
    rw [List.foldl_cons]
    have := h2 y (by simp)
    exact foldl_max_up g k ys _ (by omega) (fun x hx => h2 x (by simp [hx]))

/-- the greatest that there is -/
def topI (b : Int) : Prop := b ≤ 9223372036854775807
theorem end_fit {o : List Iv} (h : ∀ z ∈ o, fitI z.t) : -9223372036854775808 ≤ endUp o ∧ endUp o ≤ 9223372036854775807 :=
  ⟨(foldl_max_bd (fun x => x.t) o _).1, foldl_max_up (fun x => x.t) _ o _ (by omega) fun x hx => ((fitI_iff _).1 (h x hx)).2⟩

theorem cut_back1 {h : Heap} {w : SV} {out : List Loc} {z : Loc} (H : SlR encLoc.rd h w.val (out ++ [z])) : SlR encLoc.rd h (w.cut 2 0 (out.length : Int).toNat).val out := by
  have := SlR_cut H (lo := 0) (hi := out.length) (Nat.zero_le _) (by simp)
  rw [List.drop_zero, List.take_left] at this
  exact this

set_option maxRecDepth 100000 in
set_option maxHeartbeats 1000000 in
theorem on_ok (hR : Heap) (v : Value) (xs : List Iv) (regs : Int) (hl : SlR encIv.rd hR v xs) (hfit : ∀ x ∈ xs, fitI x.r ∧ fitI x.f ∧ fitI x.t) :
    Tri Try.prog hR 7 #[v, .int .i64 regs] [] fun u _ => u = .bool true := by
  refine Tri.of (args := [v, .int .i64 regs]) Try.func7 rfl Try.ntmps7 (by simp) ?_
  refine WP.seq ?_
  refine WP.plain cf0 rfl ?_
  refine Run.mv rfl rfl rfl rfl ?_
  refine Run.nil ?_
  refine thn_next ?_
  refine WP.seqCut [(0, v), (1, .int .i64 regs), (5, .bool true)] [] ?_ ?_
  · refine WP.plain cf0 rfl ?_
    refine Run.call (Δ := []) (Θ := []) rfl rfl rfl rfl ok_9 rfl rfl (ent.refl _) (alive_ok hR) ?_; rintro _ Γ1 rfl
    refine Run.mv rfl rfl rfl rfl ?_
    refine Run.nil ?_
    exact thn_next ⟨⟨rfl, rfl, rfl, trivial⟩, pick_only [] _⟩
  refine WP.seq ?_
  refine WP.seqCut [(0, v), (1, .int .i64 regs), (5, .bool true), (22, .bool (decide (regs < 1 ∨ regs > 8)))] [] ?_ ?_
  · refine WP.plain cf0 rfl ?_
    all_goals (first | refine Run.mv rfl rfl rfl rfl ?_)
    all_goals (first | refine Run.int2 rfl rfl rfl rfl rfl rfl ?_)
    all_goals (first | refine Run.tt (by first | assumption | omega) ?_ | refine Run.ff (by first | assumption | omega) ?_ | refine Run.split (fun hc18 => ?_) (fun hc18 => ?_) | refine Run.splitB (fun hc18 => ?_) (fun hc18 => ?_) | skip)
    all_goals (first | refine Run.mv rfl rfl rfl rfl ?_)
    all_goals (first | refine Run.mv rfl rfl rfl rfl ?_ | refine Run.not rfl rfl ?_)
    all_goals (first | refine Run.int2 rfl rfl rfl rfl rfl rfl ?_ | refine Run.not rfl rfl ?_)
    all_goals (first | refine Run.pick rfl rfl rfl rfl rfl ?_)
    all_goals (refine Run.nil ?_)
    all_goals refine thn_next ⟨⟨rfl, rfl, rfl, ?_, trivial⟩, ent.refl _⟩
    all_goals simp [Env.get, *]
  refine WP.ite rfl (fun h => ?_) (fun hregs => ?_)
  · refine WP.seq ?_
    refine WP.plain cf0 rfl ?_
    refine Run.mv rfl rfl rfl rfl ?_
    refine Run.mv rfl rfl rfl rfl ?_
    refine Run.nil ?_
    refine thn_next ?_
    refine WP.ret ?_; refine thn_ret ?_
    exact retT [4] _ rfl rfl rfl
  refine WP.skip ?_; refine thn_next ?_
  refine WP.seq ?_
  refine WP.plain cf0 rfl ?_
  refine Run.mv rfl rfl rfl rfl ?_
  refine Run.call (Δ := []) (Θ := []) rfl rfl rfl rfl ok_15 rfl rfl (ent.refl _) (sorted_ok hR v xs hl) ?_; rintro _ _ ⟨sv, o, rfl, rfl, hso, hol, hox⟩
  refine Run.mv rfl rfl rfl rfl ?_
  refine Run.nil ?_
  refine thn_next ?_
  have hsc : (scanL o regs).2.2 = 0 := scanL_good hregs hso
  have hsl : (scanL o regs).1.length ≤ 1000000 := scanL_len o regs
  refine WP.seq ?_
  refine WP.plain cf0 rfl ?_
  refine Run.mv rfl rfl rfl rfl ?_
  refine Run.nil ?_
  refine thn_next ?_
  refine WP.seq ?_
  refine WP.plain cf0 rfl ?_
  refine Run.mv rfl rfl rfl rfl ?_
  refine Run.nil ?_
  refine thn_next ?_
  refine WP.seqMeet (α := Unit) (fun _ => True) (fun _ => [(1, .int .i64 regs), (5, .bool true), (6, sv.val), (7, .int .i64 (endUp o)), (8, .int .i64 (topUp o))]) (fun _ => [slA 35 encIv sv.val o]) ?_ ?_
  · refine WP.seq ?_
    refine WP.plain cf0 rfl ?_
    refine Run.mv rfl rfl rfl rfl ?_
    refine Run.nil ?_
    refine thn_next ?_
    refine WP.block ?_
    refine WP.loop (α := Nat) (fun i => i ≤ o.length)
      (fun i => [(1, .int .i64 regs), (5, .bool true), (6, sv.val), (7, .int .i64 (endUp (o.take i))), (8, .int .i64 (topUp (o.take i))), (9, .int .i64 (i : Int))]) (fun _ => [slA 35 encIv sv.val o]) (fun i => o.length - i)
      0 (Nat.zero_le _) ⟨rfl, rfl, rfl, rfl, rfl, rfl, trivial⟩ (ent.refl _) ?_
    intro i hi
    refine WP.seq ?_
    refine WP.seq ?_
    refine WP.plain cf0 rfl ?_
    refine Run.mv rfl rfl rfl rfl ?_
    refine Run.mv rfl rfl rfl rfl ?_
    refine Run.lenO 0 rfl rfl sl_22 rfl rfl rfl ?_
    refine Run.int2 rfl rfl rfl rfl rfl rfl ?_
    refine Run.nil ?_
    refine thn_next ?_
    refine WP.ite rfl (fun hlt => ?_) (fun hge => ?_)
    · refine WP.skip ?_; refine thn_next ?_
      have hlt' : i < o.length := by omega
      obtain ⟨x, gx⟩ : ∃ x, o[i]? = some x := ⟨_, List.getElem?_eq_getElem hlt'⟩
      have gx' : o[(i : Int).toNat]? = some x := gx
      have hdec : o.length - (i + 1) < o.length - i := by omega
      have htk : endUp (o.take (i + 1)) = max (endUp (o.take i)) x.t := by rw [List.take_add_one, gx]; exact endUp_snoc _ x
      have htk2 : topUp (o.take (i + 1)) = max (topUp (o.take i)) x.r := by rw [List.take_add_one, gx]; exact topUp_snoc _ x
      refine WP.seq ?_
      refine WP.block ?_
      refine WP.seq ?_
      refine WP.plain cf0 rfl ?_
      refine Run.mv rfl rfl rfl rfl ?_
      refine Run.mv rfl rfl rfl rfl ?_
      refine Run.mv rfl rfl rfl rfl ?_
      refine Run.idxO 0 rfl rfl rfl sl_22 rfl rfl rfl rfl (by first | omega | (simp <;> omega)) (by first | omega | (simp <;> omega)) ?_
      refine Run.fieldAddr rfl rfl fo_35_2 rfl rfl ?_
      refine Run.loadO 0 _ _ rfl rfl ag_3 rfl rfl rfl rfl (by assumption) rfl ?_
      refine Run.max2 rfl rfl rfl rfl rfl ?_
      refine Run.mv rfl rfl rfl rfl ?_
      refine Run.nil ?_
      refine thn_next ?_
      refine WP.plain cf0 rfl ?_
      refine Run.mv rfl rfl rfl rfl ?_
      refine Run.mv rfl rfl rfl rfl ?_
      refine Run.mv rfl rfl rfl rfl ?_
      refine Run.idxO 0 rfl rfl rfl sl_22 rfl rfl rfl rfl (by first | omega | (simp <;> omega)) (by first | omega | (simp <;> omega)) ?_
      refine Run.fieldAddr rfl rfl fo_35_0 rfl rfl ?_
      refine Run.loadO 0 _ 0 rfl rfl ag_3 rfl rfl rfl rfl (by assumption) rfl ?_
      refine Run.max2 rfl rfl rfl rfl rfl ?_
      refine Run.mv rfl rfl rfl rfl ?_
      refine Run.nil ?_
      refine blk_norm ?_; refine thn_next ?_
      refine WP.plain cf0 rfl ?_
      refine Run.mv rfl rfl rfl rfl ?_
      refine Run.add64 rfl rfl rfl rfl rfl (by first | omega | (simp <;> omega)) (by first | omega | (simp <;> omega)) ?_
      refine Run.mv rfl rfl rfl rfl ?_
      refine Run.nil ?_
      refine thn_next ⟨i + 1, hlt', hdec, ⟨rfl, rfl, rfl, ?_, ?_, by simp [Env.get], trivial⟩, ent.refl _⟩
      · rw [htk]; rfl
      · rw [htk2]; rfl
    · refine WP.exit ?_; refine thn_exit ?_; refine thn_exit ?_; refine blk_hit ?_; refine thn_next ?_
      have : o.take i = o := List.take_of_length_le (by omega)
      refine ⟨(), trivial, ⟨rfl, rfl, rfl, ?_, ?_, trivial⟩, ent.refl _⟩
      · show some (Value.int .i64 (endUp (o.take i))) = _
        rw [this]
      · show some (Value.int .i64 (topUp (o.take i))) = _
        rw [this]
  rintro _ _
  refine WP.seq ?_
  refine WP.seqCut [(1, .int .i64 regs), (5, .bool true), (6, sv.val), (7, .int .i64 (endUp o)), (8, .int .i64 (topUp o)), (51, .bool (decide (endUp o = 9223372036854775807 ∨ topUp o = 262143)))] [slA 35 encIv sv.val o] ?_ ?_
  · refine WP.plain cf0 rfl ?_
    all_goals (first | refine Run.mv rfl rfl rfl rfl ?_)
    all_goals (first | refine Run.int2 rfl rfl rfl rfl rfl rfl ?_)
    all_goals (first | refine Run.tt (by first | assumption | omega) ?_ | refine Run.ff (by first | assumption | omega) ?_ | refine Run.split (fun hc47 => ?_) (fun hc47 => ?_) | refine Run.splitB (fun hc47 => ?_) (fun hc47 => ?_) | skip)
    all_goals (first | refine Run.mv rfl rfl rfl rfl ?_)
    all_goals (first | refine Run.mv rfl rfl rfl rfl ?_ | refine Run.not rfl rfl ?_)
    all_goals (first | refine Run.int2 rfl rfl rfl rfl rfl rfl ?_ | refine Run.not rfl rfl ?_)
    all_goals (first | refine Run.pick rfl rfl rfl rfl rfl ?_)
    all_goals (refine Run.nil ?_)
    all_goals refine thn_next ⟨⟨rfl, rfl, rfl, rfl, rfl, ?_, trivial⟩, ent.refl _⟩
    all_goals simp [Env.get, *]
  refine WP.ite rfl (fun h => ?_) (fun hmax => ?_)
  · refine WP.seq ?_
    refine WP.plain cf0 rfl ?_
    refine Run.mv rfl rfl rfl rfl ?_
    refine Run.mv rfl rfl rfl rfl ?_
    refine Run.nil ?_
    refine thn_next ?_
    refine WP.ret ?_; refine thn_ret ?_
    exact retT [4] _ rfl rfl rfl
  refine WP.skip ?_; refine thn_next ?_
  have htop : topUp o = mostL (-1) o := (mostL_fold o (-1)).symm
  have hef := end_fit (fun z hz => (hfit z (hox z hz)).2.2)
  have hmost : mostL (-1) o < 262143 := by
    have h1 := mostL_le o (-1) 262143 (by omega) (fun x hx => by have := hso.ok x hx; unfold bad0 at this; omega)
    omega
  have hmost0 := (mostL_bd o (-1)).1
  have hel : ∀ z ∈ o, z.t ≤ endUp o := (foldl_max_bd (fun x => x.t) o _).2
  have hon := scanL_on (e := endUp o) (t := 9223372036854775807) hregs hso hel (by omega) hmost
  rw [htop] at hmax ⊢
  refine WP.seq ?_
  refine WP.plain cf0 rfl ?_
  refine Run.mv rfl rfl rfl rfl ?_
  refine Run.callLend (Δ := []) (Θ := [slA 35 encIv sv.val o]) (Ξ := []) rfl rfl rfl rfl ok_10 rfl rfl (ent.refl _) (fun g hg hd => lent_ok (un hR g) sv.val o (lent_at 0 rfl hg hd) (by omega)) ?_; rintro _ _ ⟨w, rfl, rfl⟩
  refine Run.mv rfl rfl rfl rfl ?_
  refine Run.callLend (Δ := []) (Θ := [slA 35 encIv w.val (o ++ [m71, m72])]) (Ξ := [slA 35 encIv sv.val o]) rfl rfl rfl rfl ok_11 rfl rfl (ent.refl _) (fun g hg hd => scan_ok (un hR g) _ o regs (lent_cut (lent_at 0 rfl hg hd)) (by omega)) ?_; rintro _ _ ⟨ov, rfl, rfl⟩
  refine Run.mv rfl rfl rfl rfl ?_
  refine Run.extract rfl rfl rfl rfl rfl ?_
  refine Run.extract rfl rfl rfl rfl rfl ?_
  refine Run.extract rfl rfl rfl rfl rfl ?_
  refine Run.mv rfl rfl rfl rfl ?_
  refine Run.mv rfl rfl rfl rfl ?_
  refine Run.mv rfl rfl rfl rfl ?_
  refine Run.nil ?_
  refine thn_next ?_
  refine WP.via (Γ' := [slA 37 encLoc ov.val (scanL o regs).1, slA 35 encIv sv.val o]) (pick_only [0, 1] _) ?_
  refine WP.seq ?_
  refine WP.via (slA_nil 35 encIv _) ?_
  have b1 : -9223372036854775808 ≤ endUp o + 1 := by omega
  have b2 : endUp o + 1 ≤ 9223372036854775807 := by omega
  refine WP.plain cf0 rfl ?_
  refine Run.mv rfl rfl rfl rfl ?_
  refine Run.append 2 rfl rfl rfl rfl rfl rfl sl_22 zr_35 rfl (src_own 1 rfl) (by first | omega | (simp <;> omega)) (by first | omega | (simp <;> omega)) ?_
  intro sv63 hv63
  refine Run.mv rfl rfl rfl rfl ?_
  refine Run.add64 rfl rfl rfl rfl rfl (by first | omega | (simp <;> omega)) (by first | omega | (simp <;> omega)) ?_
  refine Run.mv rfl rfl rfl rfl ?_
  refine Run.add64 rfl rfl rfl rfl rfl (by first | omega | (simp <;> omega)) (by first | omega | (simp <;> omega)) ?_
  refine Run.build rfl bd_35 rfl rfl rfl rfl ?_
  refine Run.buildSlice (E := encIv) rfl sl_22 zr_35 ([⟨mostL (-1) o + 1, endUp o + 1, 9223372036854775807⟩]) rfl rfl rfl (by decide) rfl rfl ?_
  intro b69
  refine Run.append 2 rfl rfl rfl rfl rfl rfl sl_22 zr_35 rfl (src_own 3 rfl) (by first | omega | (simp <;> omega)) (by first | omega | (simp <;> omega)) ?_
  intro sv70 hv70
  refine Run.mv rfl rfl rfl rfl ?_
  refine Run.callLend (Δ := []) (Θ := [slA 35 encIv sv70.val (o ++ [⟨mostL (-1) o + 1, endUp o + 1, 9223372036854775807⟩])]) (Ξ := [slA 37 encLoc ov.val (scanL o regs).1]) rfl rfl rfl rfl ok_11 rfl rfl (pick_only [2, 0] _) (fun g hg hd => scan_ok (un hR g) _ _ regs (lent_at 0 rfl hg hd) (by simp; omega)) ?_; rintro _ _ ⟨bv, rfl, rfl⟩; rw [hon.2]
  refine Run.mv rfl rfl rfl rfl ?_
  refine Run.extract rfl rfl rfl rfl rfl ?_
  refine Run.extract rfl rfl rfl rfl rfl ?_
  refine Run.extract rfl rfl rfl rfl rfl ?_
  refine Run.mv rfl rfl rfl rfl ?_
  refine Run.mv rfl rfl rfl rfl ?_
  refine Run.mv rfl rfl rfl rfl ?_
  refine Run.nil ?_
  refine thn_next ?_
  clear b1 b2 hef hon
  obtain ⟨out, hout⟩ : ∃ out, (scanL o regs).1 = out := ⟨_, rfl⟩
  rw [hout] at hsl ⊢
  refine WP.via (Γ' := [slA 37 encLoc bv.val (out ++ [⟨1, 0⟩]), slA 37 encLoc ov.val out]) (pick_only [0, 1] _) ?_
  refine WP.know (slA_know 0 rfl) (fun hk => ?_)
  obtain ⟨hk1, hk2⟩ := hk
  simp only [List.length_append, List.length_cons, List.length_nil] at hk1 hk2
  have hlenq : ((out ++ [(⟨1, 0⟩ : Loc)]).length : Int) = (out.length : Int) + 1 := by simp
  have gl : (out ++ [(⟨1, 0⟩ : Loc)])[(out.length : Int).toNat]? = some ⟨1, 0⟩ := by simp
  have hlt1 : (out.length : Int) < ((out ++ [(⟨1, 0⟩ : Loc)]).length : Int) := by rw [hlenq]; omega
  refine WP.seq ?_
  refine WP.plain cf0 rfl ?_
  refine Run.mv rfl rfl rfl rfl ?_
  refine Run.mv rfl rfl rfl rfl ?_
  refine Run.mv rfl rfl rfl rfl ?_
  refine Run.int2 rfl rfl rfl rfl rfl rfl ?_
  refine Run.tt hsc ?_
  refine Run.pick rfl rfl rfl rfl rfl ?_
  refine Run.mv rfl rfl rfl rfl ?_
  refine Run.mv rfl rfl rfl rfl ?_
  refine Run.int2 rfl rfl rfl rfl rfl rfl ?_
  refine Run.tt rfl ?_
  refine Run.pick rfl rfl rfl rfl rfl ?_
  refine Run.mv rfl rfl rfl rfl ?_
  refine Run.mv rfl rfl rfl rfl ?_
  refine Run.mv rfl rfl rfl rfl ?_
  refine Run.int2 rfl rfl rfl rfl rfl rfl ?_
  refine Run.tt rfl ?_
  refine Run.pick rfl rfl rfl rfl rfl ?_
  refine Run.mv rfl rfl rfl rfl ?_
  refine Run.mv rfl rfl rfl rfl ?_
  refine Run.lenO 0 rfl rfl sl_25 rfl rfl rfl ?_
  refine Run.mv rfl rfl rfl rfl ?_
  refine Run.lenO 1 rfl rfl sl_25 rfl rfl rfl ?_
  refine Run.add64 rfl rfl rfl rfl rfl (by first | omega | (simp <;> omega)) (by first | omega | (simp <;> omega)) ?_
  refine Run.int2 rfl rfl rfl rfl rfl rfl ?_
  refine Run.tt hlenq ?_
  refine Run.pick rfl rfl rfl rfl rfl ?_
  refine Run.mv rfl rfl rfl rfl ?_
  refine Run.mv rfl rfl rfl rfl ?_
  refine Run.mv rfl rfl rfl rfl ?_
  refine Run.mv rfl rfl rfl rfl ?_
  refine Run.lenO 1 rfl rfl sl_25 rfl rfl rfl ?_
  refine Run.sliceV (sv := bv) rfl rfl sl_25 rfl rfl rfl rfl (by omega) (by omega) (by omega) ?_
  refine Run.callLend (Δ := []) (Θ := [slA 37 encLoc bv.val (out ++ [⟨1, 0⟩]), slA 37 encLoc ov.val out]) (Ξ := []) rfl rfl rfl rfl ok_14 rfl rfl (ent.refl _) (fun g hg hd => same_ok (un hR g) _ _ out out (lent_at 1 rfl hg hd) (cut_back1 (lent_at 0 rfl hg hd)) hsl hsl) ?_; rintro _ _ ⟨rfl, rfl⟩; refine Run.tt rfl ?_
  refine Run.pick rfl rfl rfl rfl rfl ?_
  refine Run.mv rfl rfl rfl rfl ?_
  refine Run.mv rfl rfl rfl rfl ?_
  refine Run.mv rfl rfl rfl rfl ?_
  refine Run.lenO 1 rfl rfl sl_25 rfl rfl rfl ?_
  refine Run.idxO 0 rfl rfl rfl sl_25 rfl rfl rfl rfl (by first | omega | (simp <;> omega)) (by first | omega | (simp <;> omega)) ?_
  refine Run.loadOagg 0 _ rfl rfl ag_37 rfl rfl rfl rfl rfl (by assumption) ?_
  refine Run.build rfl bd_37 rfl rfl rfl rfl ?_
  refine Run.eqS rfl rfl rfl is_37 nf_37 rfl rfl rfl rfl ?_
  refine Run.eqv (v' := .bool true) rfl ?_
  refine Run.pick rfl rfl rfl rfl rfl ?_
  refine Run.mv rfl rfl rfl rfl ?_
  refine Run.nil ?_
  refine thn_next ?_
  refine WP.ret ?_
  exact retT [4] _ rfl rfl rfl
end Go.Proofs.Ytengcfamhoppbaa
