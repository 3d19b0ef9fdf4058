/- The law that the scan gives what the document's own answer gives, walked. -/
import Derived.Test.YtengcfamhoppbaaPlain2
namespace Go.Proofs.Ytengcfamhoppbaa
open Go.Sep
set_option linter.unusedSimpArgs false
set_option linter.unusedVariables false
attribute [local irreducible] blk slA mp mpF

theorem lent_cut {h : Heap} {w : SV} {xs : List Iv} (H : SlR encIv.rd h w.val (xs ++ [m71, m72])) : SlR encIv.rd h (w.cut 3 0 xs.length).val xs := by
  have := SlR_cut H (lo := 0) (hi := xs.length) (Nat.zero_le _) (by simp)
  rw [List.drop_zero, List.take_left] at this
  exact this

theorem runL_len (xs : List Iv) : ∀ s : St, (runL s xs).out.length = s.out.length := by
  induction xs with
  | nil => exact fun s => rfl
  | cons x xs ih =>
      intro s
      rw [runL, ih]
      unfold stepS takeS
      split
      · simp
      · split <;> simp

theorem wrong_bound (xs : List Iv) : ∀ (p : Option Iv) (seen : Int → Bool), wrongGo p seen xs = false → ∀ x ∈ xs, x.r < 262144 := by
  induction xs with
  | nil => exact fun _ _ _ x hx => by cases hx
  | cons y ys ih =>
      intro p seen h x hx
      simp only [wrongGo] at h
      split at h
      · cases h
      · rename_i hb
        split at h
        · cases h
        · rcases List.mem_cons.1 hx with rfl | hx
          · unfold badIv at hb; omega
          · exact ih _ _ h x hx

theorem mostL_le (xs : List Iv) : ∀ m k : Int, m ≤ k → (∀ x ∈ xs, x.r ≤ k) → mostL m xs ≤ k := by
  induction xs with
  | nil => exact fun m k h _ => h
  | cons y ys ih =>
      intro m k h h2
      simp only [mostL]
      refine ih _ k ?_ (fun x hx => h2 x (by simp [hx]))
      have := h2 y (by simp); omega

theorem scanL_len (xs : List Iv) (regs : Int) : (scanL xs regs).1.length ≤ 1000000 := by
  unfold scanL
  split
  · simp
  · split
    · simp
    · rename_i hw
      have hw' : wrongL xs = false := by simpa using hw
      simp only [runL_len, startS, List.length_replicate]
      have := mostL_le xs (-1) 262143 (by omega) (fun x hx => by have := wrong_bound xs none _ hw' x hx; omega)
      omega

theorem exact_ok (hR : Heap) (v : Value) (xs : List Iv) (regs : Int) (hl : SlR encIv.rd hR v xs) :
    Tri Try.prog hR 3 #[v, .int .i64 regs] [] fun u _ => u = .bool true := by
  refine Tri.of (args := [v, .int .i64 regs]) Try.func3 rfl Try.ntmps3 (by simp) ?_
  refine WP.seq ?_
  refine WP.plain cf0 rfl ?_
  refine Run.mv rfl rfl rfl rfl ?_
  refine Run.nil ?_
  refine thn_next ?_
  refine WP.seqCut [(0, v), (1, .int .i64 regs), (5, .bool true)] [] ?_ ?_
  · refine WP.plain cf0 rfl ?_
    refine Run.call (Δ := []) (Θ := []) rfl rfl rfl rfl ok_9 rfl rfl (ent.refl _) (alive_ok hR) ?_; rintro _ Γ1 rfl
    refine Run.mv rfl rfl rfl rfl ?_
    refine Run.nil ?_
    exact thn_next ⟨⟨rfl, rfl, rfl, trivial⟩, pick_only [] _⟩
  refine WP.seq ?_
  refine WP.seq ?_
  refine WP.plain cf0 rfl ?_
  refine Run.mv rfl rfl rfl rfl ?_
  refine Run.lenR rfl rfl sl_22 rfl rfl (by assumption) ?_
  refine Run.int2 rfl rfl rfl rfl rfl rfl ?_
  refine Run.nil ?_
  refine thn_next ?_
  refine WP.ite rfl (fun h => ?_) (fun h => ?_)
  · refine WP.seq ?_
    refine WP.plain cf0 rfl ?_
    refine Run.mv rfl rfl rfl rfl ?_
    refine Run.mv rfl rfl rfl rfl ?_
    refine Run.nil ?_
    refine thn_next ?_
    refine WP.ret ?_; refine thn_ret ?_
    exact retT [4] _ rfl rfl rfl
  refine WP.skip ?_; refine thn_next ?_
  have hsl : (scanL xs regs).1.length ≤ 1000000 := scanL_len xs regs
  refine WP.seq ?_
  refine WP.plain cf0 rfl ?_
  refine Run.mv rfl rfl rfl rfl ?_
  refine Run.call (Δ := []) (Θ := []) rfl rfl rfl rfl ok_10 rfl rfl (ent.refl _) (lent_ok hR v xs hl (by omega)) ?_; rintro _ _ ⟨w, rfl, rfl⟩
  refine Run.mv rfl rfl rfl rfl ?_
  refine Run.nil ?_
  refine thn_next ?_
  refine WP.seq ?_
  refine WP.plain cf0 rfl ?_
  refine Run.mv rfl rfl rfl rfl ?_
  refine Run.mv rfl rfl rfl rfl ?_
  refine Run.callLend (Δ := []) (Θ := [slA 35 encIv w.val (xs ++ [m71, m72])]) (Ξ := []) rfl rfl rfl rfl ok_11 rfl rfl (ent.refl _) (fun g hg hd => scan_ok (un hR g) _ xs regs (lent_cut (lent_at 0 rfl hg hd)) (by omega)) ?_; rintro _ _ ⟨ov, rfl, rfl⟩
  refine Run.mv rfl rfl rfl rfl ?_
  refine Run.extract rfl rfl rfl rfl rfl ?_
  refine Run.extract rfl rfl rfl rfl rfl ?_
  refine Run.extract rfl rfl rfl rfl rfl ?_
  refine Run.mv rfl rfl rfl rfl ?_
  refine Run.mv rfl rfl rfl rfl ?_
  refine Run.mv rfl rfl rfl rfl ?_
  refine Run.nil ?_
  refine thn_next ?_
  refine WP.seqCut [(0, v), (1, .int .i64 regs), (5, .bool true), (7, ov.val), (8, .int .i64 (scanL xs regs).2.1), (9, .int .i64 (scanL xs regs).2.2), (10, .bool true)] [slA 37 encLoc ov.val (scanL xs regs).1] ?_ ?_
  · refine WP.plain cf0 rfl ?_
    refine Run.mv rfl rfl rfl rfl ?_
    refine Run.mv rfl rfl rfl rfl ?_
    refine Run.call (Δ := [slA 35 encIv w.val (xs ++ [m71, m72])]) (Θ := [slA 37 encLoc ov.val (scanL xs regs).1]) rfl rfl rfl rfl ok_12 rfl rfl (pick_ent [1] _) (stays_ok hR v xs w hl (by omega)) ?_; rintro _ Γ1 rfl
    refine Run.mv rfl rfl rfl rfl ?_
    refine Run.nil ?_
    exact thn_next ⟨⟨rfl, rfl, rfl, rfl, rfl, rfl, rfl, trivial⟩, ent.right _ _⟩
  refine WP.seq ?_
  refine WP.plain cf0 rfl ?_
  refine Run.mv rfl rfl rfl rfl ?_
  refine Run.mv rfl rfl rfl rfl ?_
  refine Run.call (Δ := []) (Θ := [slA 37 encLoc ov.val (scanL xs regs).1]) rfl rfl rfl rfl ok_13 rfl rfl (ent.refl _) (ref_ok hR v xs regs hl (by omega)) ?_; rintro _ _ ⟨rv, rfl, rfl⟩; rw [← scan_ref]
  refine Run.mv rfl rfl rfl rfl ?_
  refine Run.extract rfl rfl rfl rfl rfl ?_
  refine Run.extract rfl rfl rfl rfl rfl ?_
  refine Run.extract rfl rfl rfl rfl rfl ?_
  refine Run.mv rfl rfl rfl rfl ?_
  refine Run.mv rfl rfl rfl rfl ?_
  refine Run.mv rfl rfl rfl rfl ?_
  refine Run.nil ?_
  refine thn_next ?_
  refine WP.seq ?_
  refine WP.plain cf0 rfl ?_
  refine Run.mv rfl rfl rfl rfl ?_
  refine Run.mv rfl rfl rfl rfl ?_
  refine Run.mv rfl rfl rfl rfl ?_
  refine Run.pick rfl rfl rfl rfl rfl ?_
  refine Run.mv rfl rfl rfl rfl ?_
  refine Run.mv rfl rfl rfl rfl ?_
  refine Run.mv rfl rfl rfl rfl ?_
  refine Run.int2 rfl rfl rfl rfl rfl rfl ?_
  refine Run.tt rfl ?_
  refine Run.pick rfl rfl rfl rfl rfl ?_
  refine Run.mv rfl rfl rfl rfl ?_
  refine Run.mv rfl rfl rfl rfl ?_
  refine Run.mv rfl rfl rfl rfl ?_
  refine Run.int2 rfl rfl rfl rfl rfl rfl ?_
  refine Run.tt rfl ?_
  refine Run.pick rfl rfl rfl rfl rfl ?_
  refine Run.mv rfl rfl rfl rfl ?_
  refine Run.mv rfl rfl rfl rfl ?_
  refine Run.mv rfl rfl rfl rfl ?_
  refine Run.callLend (Δ := []) (Θ := [slA 37 encLoc rv.val (scanL xs regs).1, slA 37 encLoc ov.val (scanL xs regs).1]) (Ξ := []) rfl rfl rfl rfl ok_14 rfl rfl (ent.refl _) (fun g hg hd => same_ok (un hR g) _ _ _ _ (lent_at 1 rfl hg hd) (lent_at 0 rfl hg hd) hsl hsl) ?_; rintro _ _ ⟨rfl, rfl⟩; refine Run.tt rfl ?_
  refine Run.pick rfl rfl rfl rfl rfl ?_
  refine Run.mv rfl rfl rfl rfl ?_
  refine Run.nil ?_
  refine thn_next ?_
  refine WP.ret ?_
  exact retT [4] _ rfl rfl rfl
end Go.Proofs.Ytengcfamhoppbaa
