/- ScanPlaces: over what the law puts in order first, the scan gives what the document's own answer gives, and no error. -/
import Derived.Test.YtengcfamhoppbaaSorted
namespace Go.Proofs.Ytengcfamhoppbaa
open Go.Sep
set_option linter.unusedSimpArgs false
set_option linter.unusedVariables false
attribute [local irreducible] blk slA mp mpF

theorem scanL_good {xs : List Iv} {regs : Int} (hr : ¬ (regs < 1 ∨ regs > 8)) (h : SortedOk xs) : (scanL xs regs).2.2 = 0 := by
  unfold scanL
  rw [if_neg hr, wrongL_eq, h.right]; rfl

/-- the laws' opening: what was handed in, put in order, lent, scanned -/
theorem places_ok (hR : Heap) (v : Value) (xs : List Iv) (regs : Int) (hl : SlR encIv.rd hR v xs) :
    Tri Try.prog hR 4 #[v, .int .i64 regs] [] fun u _ => u = .bool true := by
  refine Tri.of (args := [v, .int .i64 regs]) Try.func4 rfl Try.ntmps4 (by simp) ?_
  refine WP.seq ?_
  refine WP.plain cf0 rfl ?_
  refine Run.mv rfl rfl rfl rfl ?_
  refine Run.nil ?_
  refine thn_next ?_
  refine WP.seqCut [(0, v), (1, .int .i64 regs), (5, .bool true)] [] ?_ ?_
  · refine WP.plain cf0 rfl ?_
    refine Run.call (Δ := []) (Θ := []) rfl rfl rfl rfl ok_9 rfl rfl (ent.refl _) (alive_ok hR) ?_; rintro _ Γ1 rfl
    refine Run.mv rfl rfl rfl rfl ?_
    refine Run.nil ?_
    exact thn_next ⟨⟨rfl, rfl, rfl, trivial⟩, pick_only [] _⟩
  refine WP.seq ?_
  refine WP.seqCut [(0, v), (1, .int .i64 regs), (5, .bool true), (19, .bool (decide (regs < 1 ∨ regs > 8)))] [] ?_ ?_
  · refine WP.plain cf0 rfl ?_
    all_goals (first | refine Run.mv rfl rfl rfl rfl ?_)
    all_goals (first | refine Run.int2 rfl rfl rfl rfl rfl rfl ?_)
    all_goals (first | refine Run.tt (by first | assumption | omega) ?_ | refine Run.ff (by first | assumption | omega) ?_ | refine Run.split (fun hc15 => ?_) (fun hc15 => ?_) | refine Run.splitB (fun hc15 => ?_) (fun hc15 => ?_) | skip)
    all_goals (first | refine Run.mv rfl rfl rfl rfl ?_)
    all_goals (first | refine Run.mv rfl rfl rfl rfl ?_ | refine Run.not rfl rfl ?_)
    all_goals (first | refine Run.int2 rfl rfl rfl rfl rfl rfl ?_ | refine Run.not rfl rfl ?_)
    all_goals (first | refine Run.pick rfl rfl rfl rfl rfl ?_)
    all_goals (refine Run.nil ?_)
    all_goals refine thn_next ⟨⟨rfl, rfl, rfl, ?_, trivial⟩, ent.refl _⟩
    all_goals simp [Env.get, *]
  refine WP.ite rfl (fun h => ?_) (fun hregs => ?_)
  · refine WP.seq ?_
    refine WP.plain cf0 rfl ?_
    refine Run.mv rfl rfl rfl rfl ?_
    refine Run.mv rfl rfl rfl rfl ?_
    refine Run.nil ?_
    refine thn_next ?_
    refine WP.ret ?_; refine thn_ret ?_
    exact retT [4] _ rfl rfl rfl
  refine WP.skip ?_; refine thn_next ?_
  refine WP.seq ?_
  refine WP.plain cf0 rfl ?_
  refine Run.mv rfl rfl rfl rfl ?_
  refine Run.call (Δ := []) (Θ := []) rfl rfl rfl rfl ok_15 rfl rfl (ent.refl _) (sorted_ok hR v xs hl) ?_; rintro _ _ ⟨sv, o, rfl, rfl, hso, hol, hox⟩
  refine Run.mv rfl rfl rfl rfl ?_
  refine Run.nil ?_
  refine thn_next ?_
  have hsl : (scanL o regs).1.length ≤ 1000000 := scanL_len o regs
  have hsc : (scanL o regs).2.2 = 0 := scanL_good hregs hso
  refine WP.seq ?_
  refine WP.plain cf0 rfl ?_
  refine Run.mv rfl rfl rfl rfl ?_
  refine Run.callLend (Δ := []) (Θ := [slA 35 encIv sv.val o]) (Ξ := []) rfl rfl rfl rfl ok_10 rfl rfl (ent.refl _) (fun g hg hd => lent_ok (un hR g) sv.val o (lent_at 0 rfl hg hd) (by omega)) ?_; rintro _ _ ⟨w, rfl, rfl⟩
  refine Run.mv rfl rfl rfl rfl ?_
  refine Run.callLend (Δ := []) (Θ := [slA 35 encIv w.val (o ++ [m71, m72])]) (Ξ := [slA 35 encIv sv.val o]) rfl rfl rfl rfl ok_11 rfl rfl (ent.refl _) (fun g hg hd => scan_ok (un hR g) _ o regs (lent_cut (lent_at 0 rfl hg hd)) (by omega)) ?_; rintro _ _ ⟨ov, rfl, rfl⟩
  refine Run.mv rfl rfl rfl rfl ?_
  refine Run.extract rfl rfl rfl rfl rfl ?_
  refine Run.extract rfl rfl rfl rfl rfl ?_
  refine Run.extract rfl rfl rfl rfl rfl ?_
  refine Run.mv rfl rfl rfl rfl ?_
  refine Run.mv rfl rfl rfl rfl ?_
  refine Run.mv rfl rfl rfl rfl ?_
  refine Run.nil ?_
  refine thn_next ?_
  refine WP.seq ?_
  refine WP.plain cf0 rfl ?_
  refine Run.mv rfl rfl rfl rfl ?_
  refine Run.mv rfl rfl rfl rfl ?_
  refine Run.callLend (Δ := []) (Θ := [slA 35 encIv sv.val o]) (Ξ := [slA 37 encLoc ov.val (scanL o regs).1, slA 35 encIv w.val (o ++ [m71, m72])]) rfl rfl rfl rfl ok_13 rfl rfl (pick_ent [2] _) (fun g hg hd => ref_ok (un hR g) _ o regs (lent_at 0 rfl hg hd) (by omega)) ?_; rintro _ _ ⟨rv, rfl, rfl⟩; rw [← scan_ref]
  refine Run.mv rfl rfl rfl rfl ?_
  refine Run.extract rfl rfl rfl rfl rfl ?_
  refine Run.extract rfl rfl rfl rfl rfl ?_
  refine Run.extract rfl rfl rfl rfl rfl ?_
  refine Run.mv rfl rfl rfl rfl ?_
  refine Run.mv rfl rfl rfl rfl ?_
  refine Run.mv rfl rfl rfl rfl ?_
  refine Run.nil ?_
  refine thn_next ?_
  refine WP.seq ?_
  refine WP.plain cf0 rfl ?_
  refine Run.mv rfl rfl rfl rfl ?_
  refine Run.mv rfl rfl rfl rfl ?_
  refine Run.mv rfl rfl rfl rfl ?_
  refine Run.int2 rfl rfl rfl rfl rfl rfl ?_
  refine Run.tt hsc ?_
  refine Run.pick rfl rfl rfl rfl rfl ?_
  refine Run.mv rfl rfl rfl rfl ?_
  refine Run.mv rfl rfl rfl rfl ?_
  refine Run.int2 rfl rfl rfl rfl rfl rfl ?_
  refine Run.tt hsc ?_
  refine Run.pick rfl rfl rfl rfl rfl ?_
  refine Run.mv rfl rfl rfl rfl ?_
  refine Run.mv rfl rfl rfl rfl ?_
  refine Run.mv rfl rfl rfl rfl ?_
  refine Run.int2 rfl rfl rfl rfl rfl rfl ?_
  refine Run.tt rfl ?_
  refine Run.pick rfl rfl rfl rfl rfl ?_
  refine Run.mv rfl rfl rfl rfl ?_
  refine Run.mv rfl rfl rfl rfl ?_
  refine Run.mv rfl rfl rfl rfl ?_
  refine Run.callLend (Δ := []) (Θ := [slA 37 encLoc rv.val (scanL o regs).1, slA 37 encLoc ov.val (scanL o regs).1]) (Ξ := []) rfl rfl rfl rfl ok_14 rfl rfl (pick_only [0, 1] _) (fun g hg hd => same_ok (un hR g) _ _ _ _ (lent_at 1 rfl hg hd) (lent_at 0 rfl hg hd) hsl hsl) ?_; rintro _ _ ⟨rfl, rfl⟩; refine Run.tt rfl ?_
  refine Run.pick rfl rfl rfl rfl rfl ?_
  refine Run.mv rfl rfl rfl rfl ?_
  refine Run.nil ?_
  refine thn_next ?_
  refine WP.ret ?_
  exact retT [4] _ rfl rfl rfl
end Go.Proofs.Ytengcfamhoppbaa
