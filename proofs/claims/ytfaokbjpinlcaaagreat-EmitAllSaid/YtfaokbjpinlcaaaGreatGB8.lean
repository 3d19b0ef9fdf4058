/- emitted: Emit's answer is the document's, over one memory, as it is handed in, turned and written over; walked. -/
import Derived.Test.YtfaokbjpinlcaaaGreatGA4
import Derived.Test.YtfaokbjpinlcaaaGreatGB6
import Derived.Test.YtfaokbjpinlcaaaGreatGB7
import Derived.Test.YtfaokbjpinlcaaaGreatGA8
import Derived.Test.YtfaokbjpinlcaaaGreatGA5
import Derived.Test.YtfaokbjpinlcaaaGreatGB4
import Derived.Test.YtfaokbjpinlcaaaGreatGB1
import Derived.Test.YtfaokbjpinlcaaaGreatGA9
import Derived.Test.YtfaokbjpinlcaaaGreatGA3
import Derived.Test.YtfaokbjpinlcaaaGreatRows
section
/- emitted: Emit's answer is the document's, over one memory, as it is handed in, turned and written over; walked. -/
namespace Go.Proofs.YtfaokbjpinlcaaaGreat
open Go.Sep
set_option linter.unusedSimpArgs false
set_option linter.unusedVariables false
set_option maxRecDepth 100000
attribute [local irreducible] blk slA mp mpF rows rowsBut many mpK mpE lst lstQ insP blkP funP insQ blkQ funQ emL
/-- what is answered, whether it is ALIR or not -/
noncomputable def codeU (A : AL) : List RI × List RF := if okA nmB A then emL A.funcs else ([], [])
def mainU (A : AL) : Int := if okA nmB A then A.main else 0
def errU (A : AL) : Int := if okA nmB A then 0 else 190
theorem emL_len {l : List AF} (h : ∀ F ∈ l, FunOk F) : ∀ i, i ≤ l.length → (emL (l.take i)).1.length ≤ 3000000 * i ∧ (emL (l.take i)).2.length = i
  | 0, _ => by simp [emL]
  | i + 1, hi => by
    obtain ⟨F, gF⟩ : ∃ F, l[i]? = some F := ⟨_, List.getElem?_eq_getElem (by omega)⟩
    obtain ⟨h1, h2⟩ := emL_len h i (by omega)
    have hF := h F (List.mem_of_getElem? gF)
    have h3 := raw_len hF F.blocks.length (Nat.le_refl _)
    have h4 := sumB_le F F.blocks.length
    have h5 := hF.sm.st
    have h6 := hF.sm.sb
    rw [emL_step gF]
    unfold emS
    simp only [List.length_append, List.length_singleton, codeC_eq, List.length_map]
    omega
theorem codeU_len {A : AL} (hs : SmallA A) : (codeU A).1.length ≤ 2000000000 ∧ (codeU A).2.length ≤ 2000000000 := by
  unfold codeU
  by_cases h : okA nmB A = true
  · rw [if_pos h]
    have := emL_len (l := A.funcs) (fun F hF => okA_fun h hs hF) A.funcs.length (Nat.le_refl _)
    rw [List.take_length] at this
    have := hs.sf
    omega
  · rw [if_neg h]; simp
theorem emitU_ok (hR : Heap) (A : AL) (fv : SV) (hA : ALv hR A fv) : Tri Tryz.prog hR 9 #[.agg ⟨alv A fv⟩] [] fun v Γ' => ∃ iv gv : SV, v = .tuple #[.agg ⟨[iv.val, gv.val, vI (mainU A)]⟩, vI (errU A)] ∧ Γ' = [slA 38 encRI iv.val (codeU A).1, slA 77 encRF gv.val (codeU A).2] := by
  refine Tri.ent (Tri.mono (fun v Γ h => ?_) (emit_ok hR A fv hA))
  rcases h with ⟨h, iv, gv, rfl, rfl⟩ | ⟨h, rfl, rfl⟩
  · exact ⟨_, ent.refl _, iv, gv, by simp [mainU, errU, h], by simp [codeU, h]⟩
  · refine ⟨[slA 38 encRI nilS.val [], slA 77 encRF nilS.val []], (slA_nil 38 encRI []).trans (slA_nil 77 encRF _), nilS, nilS, by simp [mainU, errU, h], by simp [codeU, h]⟩
theorem docU_ok (hR : Heap) (A : AL) (fv : SV) (hA : ALv hR A fv) : Tri Tryz.prog hR 11 #[.agg ⟨alv A fv⟩] [] fun v Γ' => ∃ iv gv : SV, v = .tuple #[.agg ⟨[iv.val, gv.val, vI (mainU A)]⟩, vI (errU A)] ∧ Γ' = [slA 38 encRI iv.val (codeU A).1, slA 77 encRF gv.val (codeU A).2] := by
  refine Tri.ent (Tri.mono (fun v Γ h => ?_) (emit11_ok hR A fv hA))
  rcases h with ⟨h, iv, gv, rfl, rfl⟩ | ⟨h, rfl, rfl⟩
  · exact ⟨_, ent.refl _, iv, gv, by simp [mainU, errU, h], by simp [codeU, h]⟩
  · refine ⟨[slA 38 encRI nilS.val [], slA 77 encRF nilS.val []], (slA_nil 38 encRI []).trans (slA_nil 77 encRF _), nilS, nilS, by simp [mainU, errU, h], by simp [codeU, h]⟩
theorem leaseP_r {hR g : Heap} {u : SV} {Fs : List AF} (hg : sat [leaseP u Fs] g) (hd : Disj hR g) : LeaseR (un hR g) u Fs := by
  obtain ⟨h1, a, s⟩ := lent_sub 0 rfl hg hd
  exact lease_reads a s
theorem leaseP_v {hR g : Heap} {u : SV} {A : AL} (hs : SmallA A) (hg : sat [leaseP u A.funcs] g) (hd : Disj hR g) : ALv (un hR g) A u := ⟨(leaseP_r hg hd).read, hs⟩
theorem leaseQ_v {hR g : Heap} {u : SV} {A : AL} (hs : SmallA A) (hg : sat [leaseQ u A.funcs] g) (hd : Disj hR g) : ALv (un hR g) A u := by
  obtain ⟨h1, a, s⟩ := lent_sub 0 rfl hg hd
  exact ⟨lease_qr a s, hs⟩
theorem ALv.mono {h g : Heap} {A : AL} {fv : SV} (hs : Sub h g) (H : ALv h A fv) : ALv g A fv := ⟨H.hf.mono hs, H.sm⟩
set_option maxHeartbeats 4000000 in
theorem emitted_ok (hR : Heap) (A : AL) (fv : SV) (hA : ALv hR A fv) : Tri Tryz.prog hR 8 #[.agg ⟨alv A fv⟩] [] fun r Γ' => r = .bool true ∧ Γ' = [] := by
  have hs := hA.sm
  have hs2 := turn_small hs
  obtain ⟨n1, n2⟩ := codeU_len hs
  obtain ⟨n3, n4⟩ := codeU_len hs2
  refine Tri.ent (Tri.of (args := [.agg ⟨alv A fv⟩]) Tryz.func8 rfl Tryz.ntmps8 (by simp) ?_)
  refine Zp ?_
  refine Run.box rfl rfl rfl rfl rfl ?_
  intro b1
  refine Zm ?_
  refine Ze ?_
  refine Zp ?_
  refine Run.loadBagg 0 rfl rfl ag_24 rfl rfl rfl rfl rfl ?_
  refine Run.callP [] ok_19 (lent_ok hR A fv hA) ?_; rintro _ _ ⟨u, rfl, rfl⟩
  refine Run.alloc rfl zr_24 rfl rfl rfl ?_
  intro b3
  refine Run.storeB 2 rfl rfl rfl rfl ag_24 rfl rfl rfl rfl rfl ?_
  refine Ze ?_
  refine WP.trim [1, 2, 3] [1, 2, 0] ?_
  refine Zp ?_
  refine Run.loadBagg 1 rfl rfl ag_24 rfl rfl rfl rfl rfl ?_
  refine Run.callL [] [2] ok_9 (fun g hg hd => emitU_ok (un hR g) A u (leaseP_v hs hg hd)) ?_; rintro _ _ ⟨i1, g1, rfl, rfl⟩
  refine Zm ?_
  refine Run.extract rfl rfl rfl rfl rfl ?_
  refine Run.extract rfl rfl rfl rfl rfl ?_
  refine Run.alloc rfl zr_32 rfl rfl rfl ?_
  intro b4
  refine Run.storeB 5 rfl rfl rfl rfl ag_32 rfl rfl rfl rfl rfl ?_
  refine Zm ?_
  refine Ze ?_
  refine WP.trim [1, 2, 3, 4, 5] [3, 4, 2, 5, 0, 1] ?_
  refine Zp ?_
  refine Run.loadBagg 0 rfl rfl ag_24 rfl rfl rfl rfl rfl ?_
  refine Run.callP [] ok_11 (docU_ok hR A fv hA) ?_; rintro _ _ ⟨i2, g2, rfl, rfl⟩
  refine Zm ?_
  refine Run.extract rfl rfl rfl rfl rfl ?_
  refine Run.extract rfl rfl rfl rfl rfl ?_
  refine Run.alloc rfl zr_32 rfl rfl rfl ?_
  intro b6
  refine Run.storeB 8 rfl rfl rfl rfl ag_32 rfl rfl rfl rfl rfl ?_
  refine Zm ?_
  refine Ze ?_
  refine WP.trim [1, 2, 3, 4, 5, 6, 7] [2, 3, 4, 5, 6, 7, 8, 0, 1] ?_
  refine Zp ?_
  refine Run.loadBagg 1 rfl rfl ag_24 rfl rfl rfl rfl rfl ?_
  refine Run.loadBagg 0 rfl rfl ag_24 rfl rfl rfl rfl rfl ?_
  refine Run.callL [] [2] ok_20 (fun g hg hd => kept_ok (un hR g) A u fv (leaseP_r hg hd) (hA.mono (Sub.un_left _ _))) ?_; rintro _ _ ⟨rfl, rfl⟩
  refine Zm ?_
  refine Ze ?_
  refine WP.trim [1, 2, 3, 4, 5, 6, 7, 8] [0, 1, 2, 3, 4, 5, 6, 7, 8] ?_
  refine WP.via (lease_q _) ?_
  refine WP.seq ?_
  refine Zp ?_
  refine Zm ?_
  refine Run.bnotB rfl rfl rfl rfl ?_
  refine Run.eqv (v' := .bool false) rfl ?_
  refine Ze ?_
  refine Zno ?_
  refine Zb ?_
  refine Zp ?_
  refine Run.loadBagg 2 rfl rfl ag_24 rfl rfl rfl rfl rfl ?_
  refine Run.callP [0] ok_21 (turn_ok hR A u hs) ?_; rintro _ _ rfl
  refine Ze ?_
  refine WP.via (Γ' := [leaseQ u (turnA A).funcs, blk b1 (alv A fv) 24, blk b3 (alv (turnA A) u) 24, blk b4 [i1.val, g1.val, vI (mainU A)] 32, slA 38 encRI i1.val (codeU A).1, slA 77 encRF g1.val (codeU A).2, blk b6 [i2.val, g2.val, vI (mainU A)] 32, slA 38 encRI i2.val (codeU A).1, slA 77 encRF g2.val (codeU A).2]) (ent.refl _) ?_
  refine Zp ?_
  refine Run.loadBagg 2 rfl rfl ag_24 rfl rfl rfl rfl rfl ?_
  refine Run.callL [] [0] ok_19 (fun g hg hd => lent_ok (un hR g) (turnA A) u (leaseQ_v hs2 hg hd)) ?_; rintro _ _ ⟨y, rfl, rfl⟩
  refine Run.alloc rfl zr_24 rfl rfl rfl ?_
  intro b9
  refine Run.storeB 10 rfl rfl rfl rfl ag_24 rfl rfl rfl rfl rfl ?_
  refine Ze ?_
  refine WP.trim [1, 2, 3, 4, 5, 6, 7, 8, 9] [0, 1, 10, 3, 4, 5, 6, 7, 8, 9] ?_
  refine Zp ?_
  refine Run.loadBagg 3 rfl rfl ag_24 rfl rfl rfl rfl rfl ?_
  refine Run.callL [] [1] ok_9 (fun g hg hd => emitU_ok (un hR g) (turnA A) u (leaseQ_v hs2 hg hd)) ?_; rintro _ _ ⟨i3, g3, rfl, rfl⟩
  refine Zm ?_
  refine Run.extract rfl rfl rfl rfl rfl ?_
  refine Run.extract rfl rfl rfl rfl rfl ?_
  refine Run.alloc rfl zr_32 rfl rfl rfl ?_
  intro b10
  refine Run.storeB 12 rfl rfl rfl rfl ag_32 rfl rfl rfl rfl rfl ?_
  refine Zm ?_
  refine Ze ?_
  refine WP.trim [1, 2, 3, 4, 5, 6, 7, 8, 9, 10, 11] [3, 2, 4, 5, 6, 7, 8, 9, 10, 11, 12, 0, 1] ?_
  refine Zp ?_
  refine Run.loadBagg 2 rfl rfl ag_24 rfl rfl rfl rfl rfl ?_
  refine Run.callL [] [0] ok_11 (fun g hg hd => docU_ok (un hR g) (turnA A) y (leaseP_v hs2 hg hd)) ?_; rintro _ _ ⟨i4, g4, rfl, rfl⟩
  refine Zm ?_
  refine Run.extract rfl rfl rfl rfl rfl ?_
  refine Run.extract rfl rfl rfl rfl rfl ?_
  refine Run.alloc rfl zr_32 rfl rfl rfl ?_
  intro b12
  refine Run.storeB 15 rfl rfl rfl rfl ag_32 rfl rfl rfl rfl rfl ?_
  refine Zm ?_
  refine Ze ?_
  refine WP.trim [1, 2, 3, 4, 5, 6, 7, 8, 9, 10, 11, 12, 13] [3, 5, 6, 7, 8, 9, 10, 11, 12, 13, 14, 15, 0, 1] ?_
  refine Zp ?_
  refine Run.loadBagg 1 rfl rfl ag_24 rfl rfl rfl rfl rfl ?_
  refine Run.callP [0] ok_22 (spoil_ok hR (turnA A) u hs2) ?_; rintro _ _ rfl
  refine Ze ?_
  refine WP.trim [1, 2, 3, 4, 5, 6, 7, 8, 9, 10, 11, 12, 13] [0, 1, 2, 3, 4, 5, 6, 7, 8, 9, 10, 11, 12, 13] ?_
  refine WP.via (Γ' := [slA 51 encXF u.val (List.replicate (turnA A).funcs.length othF), blk b3 (alv (spoilt (turnA A)) u) 24, blk b4 [i1.val, g1.val, vI (mainU A)] 32, slA 38 encRI i1.val (codeU A).1, slA 77 encRF g1.val (codeU A).2, blk b6 [i2.val, g2.val, vI (mainU A)] 32, slA 38 encRI i2.val (codeU A).1, slA 77 encRF g2.val (codeU A).2, blk b10 [i3.val, g3.val, vI (mainU (turnA A))] 32, slA 38 encRI i3.val (codeU (turnA A)).1, slA 77 encRF g3.val (codeU (turnA A)).2, blk b12 [i4.val, g4.val, vI (mainU (turnA A))] 32, slA 38 encRI i4.val (codeU (turnA A)).1, slA 77 encRF g4.val (codeU (turnA A)).2]) (ent.refl _) ?_
  refine Zp ?_
  refine Run.loadBagg 1 rfl rfl ag_24 rfl rfl rfl rfl rfl ?_
  refine Run.callL [] [0] ok_9 (fun g hg hd => emit_bad (un hR g) (spoilt (turnA A)) u ⟨spoilt_reads (lent_at 0 rfl hg hd), spoilt_small hs2⟩ (spoilt_bad nmB _)) ?_; rintro _ _ ⟨rfl, rfl⟩
  refine Zm ?_
  refine Run.extract rfl rfl rfl rfl rfl ?_
  refine Run.extract rfl rfl rfl rfl rfl ?_
  refine Run.alloc rfl zr_32 rfl rfl rfl ?_
  intro b14
  refine Run.storeB 14 rfl rfl rfl rfl ag_32 rfl rfl rfl rfl rfl ?_
  refine Zm ?_
  refine Ze ?_
  refine WP.trim [1, 2, 3, 4, 5, 6, 7, 8, 9, 10, 11, 12, 13, 15] [2, 3, 4, 5, 6, 7, 8, 9, 10, 11, 12, 13] ?_
  refine Zp ?_
  refine Zm ?_
  refine Run.callP [] ok_16 (num_ok hR (errU A)) ?_; rintro _ _ ⟨rfl, rfl⟩
  refine Zm ?_
  refine Zi ?_
  refine Run.tt rfl ?_
  refine Zm ?_
  refine Run.loadBagg 0 rfl rfl ag_32 rfl rfl rfl rfl rfl ?_
  refine Run.loadBagg 3 rfl rfl ag_32 rfl rfl rfl rfl rfl ?_
  refine Run.callL [] [1, 2, 4, 5] ok_10 (fun g hg hd => same_ok (un hR g) i1 g1 i2 g2 (mainU A) (codeU A).1 (codeU A).2 (lent_at 0 rfl hg hd) (lent_at 1 rfl hg hd) (lent_at 2 rfl hg hd) (lent_at 3 rfl hg hd) n1 n2) ?_; rintro _ _ ⟨rfl, rfl⟩; refine Run.pk [4, 0, 1, 5, 2, 3, 6, 7, 8, 9, 10, 11] ?_
  refine Zq ?_
  refine Zm ?_
  refine Zm ?_
  refine Run.callP [] ok_16 (num_ok hR (errU (turnA A))) ?_; rintro _ _ ⟨rfl, rfl⟩
  refine Zm ?_
  refine Zi ?_
  refine Run.tt rfl ?_
  refine Zq ?_
  refine Zm ?_
  refine Run.loadBagg 6 rfl rfl ag_32 rfl rfl rfl rfl rfl ?_
  refine Run.loadBagg 9 rfl rfl ag_32 rfl rfl rfl rfl rfl ?_
  refine Run.callL [] [7, 8, 10, 11] ok_10 (fun g hg hd => same_ok (un hR g) i3 g3 i4 g4 (mainU (turnA A)) (codeU (turnA A)).1 (codeU (turnA A)).2 (lent_at 0 rfl hg hd) (lent_at 1 rfl hg hd) (lent_at 2 rfl hg hd) (lent_at 3 rfl hg hd) n3 n4) ?_; rintro _ _ ⟨rfl, rfl⟩
  refine Zq ?_
  refine Zm ?_
  refine Zm ?_
  refine Run.callP [] ok_16 (num_ok hR 190) ?_; rintro _ _ ⟨rfl, rfl⟩
  refine Zi ?_
  refine Run.tt rfl ?_
  refine Zq ?_
  refine Zm ?_
  refine Ze ?_
  refine WP.ret ?_
  exact retT [2] _ rfl rfl ⟨_, ent.none _, rfl, rfl⟩
end Go.Proofs.YtfaokbjpinlcaaaGreat
end
section
/- Many codes in memory that is owned; what is marked, and what is grown; plain. -/
namespace Go.Sep
/-- the first k of a list made anew -/
def redo {B : Type} (f : Nat → B) (xs : List B) (k : Nat) : List B := (List.range k).map f ++ xs.drop k
theorem redo_zero {B : Type} (f : Nat → B) (xs : List B) : redo f xs 0 = xs := rfl
theorem redo_all {B : Type} (f : Nat → B) (xs : List B) : redo f xs xs.length = (List.range xs.length).map f := by simp [redo]
theorem redo_len {B : Type} (f : Nat → B) (xs : List B) {k : Nat} (h : k ≤ xs.length) : (redo f xs k).length = xs.length := by simp [redo]; omega
theorem redo_get {B : Type} {f : Nat → B} {xs : List B} {k : Nat} {x : B} (h : xs[k]? = some x) : (redo f xs k)[k]? = some x := by
  unfold redo
  rw [List.getElem?_append_right (by simp)]
  simp only [List.length_map, List.length_range, Nat.sub_self, List.getElem?_drop, Nat.add_zero]; exact h
theorem redo_succ {B : Type} {f : Nat → B} {xs : List B} {k : Nat} {x : B} (h : xs[k]? = some x) : redo f xs (k + 1) = (redo f xs k).set k (f k) := by
  unfold redo
  rw [List.set_append_right _ _ (by simp), drop_at h, List.range_succ, List.map_append]
  simp
theorem take_zip {A B : Type} (q : A → B → HProp) {ws : List A} {ys : List B} {k : Nat} {w : A} {y : B} (h1 : ws[k]? = some w) (h2 : ys[k]? = some y) : (List.zipWith q ws ys).take (k + 1) = (List.zipWith q ws ys).take k ++ [q w y] := by
  rw [List.take_add_one, zip_get q h1 h2]; rfl
theorem zip_snoc {A B : Type} {ws : List A} {xs : List B} {w : A} {x : B} (h : ws[xs.length]? = some w) : ws.zip (xs ++ [x]) = ws.zip xs ++ [(w, x)] := by
  induction xs generalizing ws with
  | nil => cases ws with
    | nil => simp at h
    | cons a ws => simp at h; subst h; simp
  | cons y ys ih => cases ws with
    | nil => simp at h
    | cons a ws => simp only [List.length_cons, List.getElem?_cons_succ] at h; simp only [List.cons_append, List.zip_cons_cons, ih h]
end Go.Sep
namespace Go.Proofs.YtfaokbjpinlcaaaGreat
open Go.Sep
set_option linter.unusedSimpArgs false
set_option linter.unusedVariables false
structure CD where
  is : List RI
  fs : List RF
  main : Int
def encXC : Enc (CD × SV2) := ⟨3, fun x => [x.2.1.val, x.2.2.val, vI x.1.main], fun _ => rfl, fun _ => rfl⟩
def codeQ (w : SV2) (c : CD) : HProp := fun h => sat [slA 38 encRI w.1.val c.is, slA 77 encRF w.2.val c.fs] h
abbrev codesQ : SV → List CD → HProp := lstQ 32 encXC codeQ
def rdCD : Rd CD where
  sz := 3
  rel h x cs := ∃ u v : SV, cs = [u.val, v.val, vI x.main] ∧ SlR encRI.rd h u.val x.is ∧ SlR encRF.rd h v.val x.fs
  len := by rintro h x cs ⟨u, v, rfl, _⟩; rfl
  mono := by rintro h g x cs hs ⟨u, v, rfl, hu, hv⟩; exact ⟨u, v, rfl, hu.mono hs, hv.mono hs⟩
theorem codes_r {v : SV} {cs : List CD} {h H : Heap} (hb : codesQ v cs h) (hS : Sub h H) : SlR rdCD H v.val cs :=
  lstQ_reads (F := rdCD) rfl (fun w x h H hb hS => by
    obtain ⟨g1, a1, s1⟩ := sat_at 0 hb rfl hS
    obtain ⟨g2, a2, s2⟩ := sat_at 1 hb rfl hS
    exact ⟨w.1, w.2, rfl, slA_lend a1 s1, slA_lend a2 s2⟩) hb hS
theorem code_shut {u v : SV} {c : CD} (Γ : List HProp) : ent (slA 38 encRI u.val c.is :: slA 77 encRF v.val c.fs :: Γ) (codeQ (u, v) c :: Γ) := ent.pack (Θ := [slA 38 encRI u.val c.is, slA 77 encRF v.val c.fs]) (fun _ h => h) Γ
theorem codes_push {cv : SV} {ws : List SV2} {cs : List CD} {c : CD} {w1 w2 : SV2} (hl : ws.length = cs.length) (Γ : List HProp) : ent (slA 32 encXC cv.val (cs.zip ws ++ [(c, w1), (c, w2)]) :: many (List.zipWith codeQ ws cs) :: codeQ w1 c :: codeQ w2 c :: Γ) (codesQ cv (cs ++ [c, c]) :: Γ) := by
  have e1 : cs.zip ws ++ [(c, w1), (c, w2)] = (cs ++ [c, c]).zip (ws ++ [w1, w2]) := by rw [List.zip_append hl.symm]; rfl
  have e2 : List.zipWith codeQ (ws ++ [w1, w2]) (cs ++ [c, c]) = List.zipWith codeQ ws cs ++ [codeQ w1 c] ++ [codeQ w2 c] := by rw [List.zipWith_append hl, List.append_assoc]; rfl
  have s1 := many_snoc (List.zipWith codeQ ws cs) (codeQ w1 c) (codeQ w2 c :: Γ)
  have s2 := many_snoc (List.zipWith codeQ ws cs ++ [codeQ w1 c]) (codeQ w2 c) Γ
  rw [← e2] at s2
  rw [e1]
  exact (ent.cons (fun _ h => h) (s1.trans s2)).trans (lstQ_shut cv (ws ++ [w1, w2]) (by simp [hl]) Γ)
/-! ### Marked and grown -/
def mI (i j : Nat) : RI := ⟨-1 - (i : Int), 0, 0, 0, (j : Int)⟩
def gI (i : Nat) : RI := ⟨-1000000 - (i : Int), 0, 0, 0, 0⟩
def mF (i j : Nat) : RF := ⟨⟨#[]⟩, 0, -1 - (i : Int), (j : Int), 0⟩
def gF (i : Nat) : RF := ⟨⟨#[]⟩, 0, -1000000 - (i : Int), 0, 0⟩
def markC (i : Nat) (c : CD) : CD := ⟨(List.range c.is.length).map (mI i), (List.range c.fs.length).map (mF i), c.main⟩
def marked (cs : List CD) : List CD := cs.mapIdx markC
theorem marked_get {cs : List CD} {i : Nat} {c : CD} (h : cs[i]? = some c) : (marked cs)[i]? = some (markC i c) := by unfold marked; rw [List.getElem?_mapIdx, h]; rfl
def grQ (w : SV2 × SV2) (c : CD × Nat) : HProp := fun h => sat [stP 38 encRI w.1.1 w.2.1 c.1.is (List.replicate 60 (gI c.2)), stP 77 encRF w.1.2 w.2.2 c.1.fs (List.replicate 60 (gF c.2))] h
def grL (ws : List SV2) (cs : List CD) (xs : List SV2) : List HProp := List.zipWith grQ (ws.zip xs) (marked cs).zipIdx
theorem gr_snoc {ws : List SV2} {cs : List CD} {xs : List SV2} {w x : SV2} {c : CD} (h1 : ws[xs.length]? = some w) (h2 : cs[xs.length]? = some c) (hl : ws.length = cs.length) : grL ws cs (xs ++ [x]) = grL ws cs xs ++ [grQ (w, x) (markC xs.length c, xs.length)] := by
  unfold grL
  have hlt := (List.getElem?_eq_some_iff.1 h1).1
  have hz : (ws.zip xs).length = xs.length := by simp; omega
  rw [zip_snoc h1, zipWith_snoc grQ (x := (markC xs.length c, xs.length)) (by rw [hz, List.getElem?_zipIdx, marked_get h2]; simp)]
theorem gr_get {ws : List SV2} {cs : List CD} {xs : List SV2} {w x : SV2} {c : CD} {i : Nat} (h1 : ws[i]? = some w) (h2 : cs[i]? = some c) (h3 : xs[i]? = some x) : (grL ws cs xs)[i]? = some (grQ (w, x) (markC i c, i)) := by
  unfold grL
  exact zip_get grQ (List.getElem?_zip_eq_some.2 ⟨h1, h3⟩) (by rw [List.getElem?_zipIdx, marked_get h2]; simp)
theorem gr_reads {w x : SV2} {c : CD} {i : Nat} {h H : Heap} (hb : grQ (w, x) (c, i) h) (hS : Sub h H) : (SlR encRI.rd H w.1.val c.is ∧ SlR encRI.rd H x.1.val (c.is ++ List.replicate 60 (gI i))) ∧ (SlR encRF.rd H w.2.val c.fs ∧ SlR encRF.rd H x.2.val (c.fs ++ List.replicate 60 (gF i))) := by
  obtain ⟨g1, a1, s1⟩ := sat_at 0 hb rfl hS
  obtain ⟨g2, a2, s2⟩ := sat_at 1 hb rfl hS
  exact ⟨stP_reads a1 s1, stP_reads a2 s2⟩
theorem gr_shut {u v g h : SV} {c : CD} {i : Nat} (Γ : List HProp) : ent (stP 38 encRI u g c.is (List.replicate 60 (gI i)) :: stP 77 encRF v h c.fs (List.replicate 60 (gF i)) :: Γ) (grQ ((u, v), (g, h)) (c, i) :: Γ) := ent.pack (Θ := [stP 38 encRI u g c.is (List.replicate 60 (gI i)), stP 77 encRF v h c.fs (List.replicate 60 (gF i))]) (fun _ h => h) Γ
end Go.Proofs.YtfaokbjpinlcaaaGreat
end
section
/- apart: all codes are marked, then grown, then looked at; walked (printed by mkapart.py). -/
namespace Go.Proofs.YtfaokbjpinlcaaaGreat
open Go.Sep
set_option linter.unusedSimpArgs false
set_option linter.unusedVariables false
set_option maxRecDepth 100000
attribute [local irreducible] blk slA mp mpF rows rowsBut many mpK mpE codeQ grQ lstQ redo stP
set_option maxHeartbeats 8000000 in
theorem apart_ok (hR : Heap) (cv : SV) (cs : List CD) (hn : cs.length ≤ 1000) (hl : ∀ c ∈ cs, c.is.length ≤ 2000000000 ∧ c.fs.length ≤ 2000000000) : Tri Tryz.prog hR 12 #[cv.val] [codesQ cv cs] fun r Γ' => r = .bool true ∧ Γ' = [] := by
  refine Tri.ent (Tri.of (args := [cv.val]) Tryz.func12 rfl Tryz.ntmps12 (by simp) ?_)
  refine Zp ?_
  refine Zm ?_
  refine Ze ?_
  refine WP.trim [0, 2] [0] ?_
  refine WP.opens lstQ_open ?_
  rintro ⟨ws, hwl⟩
  simp only at hwl ⊢
  have hzl : (cs.zip ws).length = cs.length := by simp [hwl]
  have hml : (marked cs).length = cs.length := by simp [marked]
  generalize hREST : List.zipWith codeQ ws cs = REST
  generalize hDONE : List.zipWith codeQ ws (marked cs) = DONE
  have hdl : DONE.length = cs.length := by rw [← hDONE]; simp [hwl, hml]
  refine WP.via (Γ' := [many (DONE.take 0), slA 32 encXC cv.val (cs.zip ws), many REST]) (many_in [] _) ?_
  refine WP.trim [0, 2] [1, 2, 0] ?_
  -- all are marked
  refine WP.meetC (α := Unit) (fun _ => True) (fun _ => []) (fun _ => [(1, many (REST.drop cs.length)), (2, many DONE)]) ?_ ?_
  · refine Zp ?_
    refine Zm ?_
    refine Ze ?_
    refine WP.block ?_
    refine WP.trim [0, 2, 3] [0, 1, 2] ?_
    refine WP.loopC (α := Nat) (fun i => i ≤ cs.length) (fun i => [(3, vI (i : Int))]) (fun i => [(1, many (REST.drop i)), (2, many (DONE.take i))]) (fun i => cs.length - i) 0 (Nat.zero_le _) ?_
    intro i hi
    refine WP.trim [0, 2, 3] [0, 1, 2] ?_
    refine WP.seq ?_
    refine Zp ?_
    refine Zm ?_
    refine Zm ?_
    refine Run.lenO 0 rfl rfl sl_28 rfl rfl rfl ?_
    refine Zi ?_
    refine Ze ?_
    refine WP.ite rfl (fun hlt => ?_) (fun hge => ?_)
    · refine Zb ?_
      obtain ⟨c, gc⟩ : ∃ y, cs[i]? = some y := ⟨_, List.getElem?_eq_getElem (by omega)⟩
      obtain ⟨⟨u, v⟩, gw⟩ : ∃ y, ws[i]? = some y := ⟨_, List.getElem?_eq_getElem (by omega)⟩
      have gz : (cs.zip ws)[i]? = some ((c, u, v) : CD × SV2) := zip_at gc gw
      have hn2 : REST[i]? = some (codeQ (u, v) c) := by rw [← hREST]; exact zip_get codeQ gw gc
      have hdn : DONE.take (i + 1) = DONE.take i ++ [codeQ (u, v) (markC i c)] := by rw [← hDONE]; exact take_zip codeQ gw (marked_get gc)
      obtain ⟨hl1, hl2⟩ := hl c (List.mem_of_getElem? gc)
      refine WP.trim [0, 2, 3] [1, 0, 2] ?_
      refine WP.via (many_next hn2 _) ?_
      refine WP.via (ent.unpack (Θ := [slA 38 encRI u.val c.is, slA 77 encRF v.val c.fs]) (fun h hh => by unfold codeQ at hh; exact hh) _) ?_
      refine WP.trim [0, 2, 3] [3, 2, 4, 0, 1] ?_
      refine WP.seq ?_
      refine WP.block ?_
      refine WP.meetC (α := Unit) (fun _ => True) (fun _ => []) (fun _ => [(3, slA 38 encRI u.val ((List.range c.is.length).map (mI i)))]) ?_ ?_
      · refine Zp ?_
        refine Zm ?_
        refine Ze ?_
        refine WP.block ?_
        refine WP.trim [0, 2, 3, 4] [0, 1, 2, 3, 4] ?_
        refine WP.loopC (α := Nat) (fun j => j ≤ c.is.length) (fun j => [(4, vI (j : Int))]) (fun j => [(3, slA 38 encRI u.val (redo (mI i) c.is j))]) (fun j => c.is.length - j) 0 (Nat.zero_le _) ?_ (he := by rw [redo_zero]; exact ent.refl _)
        intro j hj
        refine WP.trim [0, 2, 3, 4] [0, 1, 2, 3, 4] ?_
        have hpl := redo_len (mI i) c.is hj
        refine WP.seq ?_
        refine Zp ?_
        iterate 3 refine Zm ?_
        refine Run.idxO 0 rfl rfl rfl sl_28 rfl rfl rfl rfl (by omega) (by omega) ?_
        refine Zf fo_32_0 ?_
        refine Run.loadO 0 i 0 rfl rfl ag_29 rfl rfl rfl rfl gz rfl ?_
        refine Run.lenO 3 rfl rfl sl_29 rfl rfl rfl ?_
        refine Zi ?_
        refine Ze ?_
        refine WP.ite rfl (fun hlt2 => ?_) (fun hge2 => ?_)
        · refine Zb ?_
          obtain ⟨x, gx⟩ : ∃ y, c.is[j]? = some y := ⟨_, List.getElem?_eq_getElem (by omega)⟩
          have gp := redo_get (f := mI i) gx
          refine WP.seq ?_
          refine WP.block ?_
          refine Zc ?_
          refine Zm ?_
          refine Zm ?_
          refine Run.idxO 0 rfl rfl rfl sl_28 rfl rfl rfl rfl (by omega) (by omega) ?_
          refine Zf fo_32_0 ?_
          refine Run.loadO 0 i 0 rfl rfl ag_29 rfl rfl rfl rfl gz rfl ?_
          refine Zm ?_
          refine Zm ?_
          refine Zs ?_
          refine Zm ?_
          refine Run.build rfl bd_38 rfl rfl rfl rfl ?_
          refine Run.idxO 3 rfl rfl rfl sl_29 rfl rfl rfl rfl (by omega) (by omega) ?_
          refine Run.storeO 3 j 0 (y' := mI i j) rfl rfl rfl rfl ag_38 rfl rfl rfl rfl gp rfl rfl ?_
          refine Run.nil ?_
          refine blk_norm ?_; refine thn_next ?_
          rw [← redo_succ gx]
          refine Zc ?_
          refine Zm ?_
          refine Za ?_
          refine Zm ?_
          refine Run.nil ?_
          exact thn_next ⟨j + 1, by omega, by omega, Ko.go, ent.refl _⟩
        · refine Zj ?_
          obtain rfl : j = c.is.length := by omega
          rw [redo_all]
          exact thn_next ⟨(), trivial, Ko.go, ent.refl _⟩
      intro _ _
      refine WP.trim [0, 2, 3] [0, 1, 2, 3, 4] ?_
      refine Zp ?_
      refine Zm ?_
      refine Ze ?_
      refine WP.block ?_
      refine WP.trim [0, 2, 3, 5] [0, 1, 2, 3, 4] ?_
      refine WP.loopC (α := Nat) (fun j => j ≤ c.fs.length) (fun j => [(5, vI (j : Int))]) (fun j => [(4, slA 77 encRF v.val (redo (mF i) c.fs j))]) (fun j => c.fs.length - j) 0 (Nat.zero_le _) ?_ (he := by rw [redo_zero]; exact ent.refl _)
      intro j hj
      refine WP.trim [0, 2, 3, 5] [0, 1, 2, 3, 4] ?_
      have hpl := redo_len (mF i) c.fs hj
      refine WP.seq ?_
      refine Zp ?_
      iterate 3 refine Zm ?_
      refine Run.idxO 0 rfl rfl rfl sl_28 rfl rfl rfl rfl (by omega) (by omega) ?_
      refine Zf fo_32_1 ?_
      refine Run.loadO 0 i 1 rfl rfl ag_30 rfl rfl rfl rfl gz rfl ?_
      refine Run.lenO 4 rfl rfl sl_30 rfl rfl rfl ?_
      refine Zi ?_
      refine Ze ?_
      refine WP.ite rfl (fun hlt2 => ?_) (fun hge2 => ?_)
      · refine Zb ?_
        obtain ⟨x, gx⟩ : ∃ y, c.fs[j]? = some y := ⟨_, List.getElem?_eq_getElem (by omega)⟩
        have gp := redo_get (f := mF i) gx
        refine WP.seq ?_
        refine WP.block ?_
        refine Zc ?_
        refine Zm ?_
        refine Zm ?_
        refine Run.idxO 0 rfl rfl rfl sl_28 rfl rfl rfl rfl (by omega) (by omega) ?_
        refine Zf fo_32_1 ?_
        refine Run.loadO 0 i 1 rfl rfl ag_30 rfl rfl rfl rfl gz rfl ?_
        refine Zm ?_
        refine Zm ?_
        refine Zs ?_
        refine Zm ?_
        refine Run.build rfl bd_77 rfl rfl rfl rfl ?_
        refine Run.idxO 4 rfl rfl rfl sl_30 rfl rfl rfl rfl (by omega) (by omega) ?_
        refine Run.storeO 4 j 0 (y' := mF i j) rfl rfl rfl rfl ag_77 rfl rfl rfl rfl gp rfl rfl ?_
        refine Run.nil ?_
        refine blk_norm ?_; refine thn_next ?_
        rw [← redo_succ gx]
        refine Zc ?_
        refine Zm ?_
        refine Za ?_
        refine Zm ?_
        refine Run.nil ?_
        exact thn_next ⟨j + 1, by omega, by omega, Ko.go, ent.refl _⟩
      · refine Zj ?_; refine blk_norm ?_; refine thn_next ?_
        obtain rfl : j = c.fs.length := by omega
        rw [redo_all]
        refine WP.trim [0, 2, 3] [3, 4, 2, 0, 1] ?_
        refine WP.via (code_shut (c := markC i c) _) ?_
        refine WP.trim [0, 2, 3] [1, 0, 2, 3] ?_
        refine WP.via (many_snoc _ _ _) ?_
        rw [← hdn]
        refine WP.trim [0, 2, 3] [1, 2, 0] ?_
        refine Zc ?_
        refine Zm ?_
        refine Za ?_
        refine Zm ?_
        refine Run.nil ?_
        exact thn_next ⟨i + 1, by omega, by omega, Ko.go, ent.refl _⟩
    · refine Zj ?_
      obtain rfl : i = cs.length := by omega
      rw [show DONE.take cs.length = DONE from List.take_of_length_le (by omega)]
      exact thn_next ⟨(), trivial, Ko.go, ent.refl _⟩
  intro _ _
  refine WP.trim [0, 2] [0, 2] ?_
  -- all are grown
  refine Zp ?_
  refine Zm ?_
  refine Ze ?_
  refine Zp ?_
  refine Zm ?_
  refine Ze ?_
  have hgr0 : grL ws cs [] = [] := by unfold grL; rw [List.zip_nil_right]; rfl
  refine WP.via (Γ' := [many (grL ws cs []), slA 32 encXC cv.val (cs.zip ws), many DONE, slA 29 Enc.slice nilS.val [], slA 30 Enc.slice nilS.val []]) (((slA_nil 29 Enc.slice _).trans (slA_nil 30 Enc.slice _)).trans (by rw [hgr0]; exact many_in [] _)) ?_
  refine WP.trim [0, 2, 6, 7] [1, 2, 0, 3, 4] ?_
  refine WP.meetC (α := SV × SV × List SV2) (fun z => z.2.2.length = cs.length) (fun z => [(6, z.1.val), (7, z.2.1.val)]) (fun z => [(1, many (DONE.drop cs.length)), (2, many (grL ws cs z.2.2)), (3, slA 29 Enc.slice z.1.val (z.2.2.map Prod.fst)), (4, slA 30 Enc.slice z.2.1.val (z.2.2.map Prod.snd))]) ?_ ?_
  · refine Zp ?_
    refine Zm ?_
    refine Ze ?_
    refine WP.block ?_
    refine WP.trim [0, 2, 6, 7, 8] [0, 1, 2, 3, 4] ?_
    refine WP.loopC (α := Nat × SV × SV × List SV2) (fun z => z.1 ≤ cs.length ∧ z.2.2.2.length = z.1) (fun z => [(8, vI (z.1 : Int)), (6, z.2.1.val), (7, z.2.2.1.val)]) (fun z => [(1, many (DONE.drop z.1)), (2, many (grL ws cs z.2.2.2)), (3, slA 29 Enc.slice z.2.1.val (z.2.2.2.map Prod.fst)), (4, slA 30 Enc.slice z.2.2.1.val (z.2.2.2.map Prod.snd))]) (fun z => cs.length - z.1) (0, nilS, nilS, []) ⟨Nat.zero_le _, rfl⟩ ?_
    rintro ⟨i, s6, s7, XS⟩ ⟨hi, hXS⟩
    simp only at hi hXS ⊢
    refine WP.trim [0, 2, 6, 7, 8] [0, 1, 2, 3, 4] ?_
    refine WP.seq ?_
    refine Zp ?_
    refine Zm ?_
    refine Zm ?_
    refine Run.lenO 0 rfl rfl sl_28 rfl rfl rfl ?_
    refine Zi ?_
    refine Ze ?_
    refine WP.ite rfl (fun hlt => ?_) (fun hge => ?_)
    · refine Zb ?_
      obtain ⟨c, gc⟩ : ∃ y, cs[i]? = some y := ⟨_, List.getElem?_eq_getElem (by omega)⟩
      obtain ⟨⟨u, v⟩, gw⟩ : ∃ y, ws[i]? = some y := ⟨_, List.getElem?_eq_getElem (by omega)⟩
      have gz : (cs.zip ws)[i]? = some ((c, u, v) : CD × SV2) := zip_at gc gw
      have hn2 : DONE[i]? = some (codeQ (u, v) (markC i c)) := by rw [← hDONE]; exact zip_get codeQ gw (marked_get gc)
      obtain ⟨hl1, hl2⟩ := hl c (List.mem_of_getElem? gc)
      have hm1 : (markC i c).is.length = c.is.length := by simp [markC]
      have hm2 : (markC i c).fs.length = c.fs.length := by simp [markC]
      have hgs : ∀ x : SV2, grL ws cs (XS ++ [x]) = grL ws cs XS ++ [grQ ((u, v), x) (markC i c, i)] := fun x => by
        have := gr_snoc (ws := ws) (cs := cs) (xs := XS) (w := (u, v)) (x := x) (c := c) (by rw [hXS]; exact gw) (by rw [hXS]; exact gc) hwl
        rw [this, hXS]
      generalize markC i c = mc at hn2 hm1 hm2 hgs
      refine WP.trim [0, 2, 6, 7, 8] [1, 0, 2, 3, 4] ?_
      refine WP.via (many_next hn2 _) ?_
      refine WP.via (ent.unpack (Θ := [slA 38 encRI u.val mc.is, slA 77 encRF v.val mc.fs]) (fun h hh => by unfold codeQ at hh; exact hh) _) ?_
      refine WP.via (ent.cons (fun _ => stP_start) (ent.cons (fun _ => stP_start) (ent.refl _))) ?_
      refine WP.trim [0, 2, 6, 7, 8] [3, 2, 4, 5, 6, 0, 1] ?_
      refine WP.seq ?_
      refine WP.block ?_
      refine Zp ?_
      refine Zm ?_
      refine Zm ?_
      refine Run.idxO 0 rfl rfl rfl sl_28 rfl rfl rfl rfl (by omega) (by omega) ?_
      refine Zf fo_32_0 ?_
      refine Run.loadO 0 i 0 rfl rfl ag_29 rfl rfl rfl rfl gz rfl ?_
      refine Zm ?_
      refine Ze ?_
      refine Zp ?_
      refine Zm ?_
      refine Zm ?_
      refine Run.idxO 0 rfl rfl rfl sl_28 rfl rfl rfl rfl (by omega) (by omega) ?_
      refine Zf fo_32_1 ?_
      refine Run.loadO 0 i 1 rfl rfl ag_30 rfl rfl rfl rfl gz rfl ?_
      refine Zm ?_
      refine Ze ?_
      refine WP.trim [0, 2, 6, 7, 8, 9, 10] [0, 1, 2, 3, 4, 5, 6] ?_
      refine WP.meetC (α := SV × SV) (fun _ => True) (fun z => [(9, z.1.val), (10, z.2.val)]) (fun z => [(5, stP 38 encRI u z.1 mc.is (List.replicate 60 (gI i))), (6, stP 77 encRF v z.2 mc.fs (List.replicate 60 (gF i)))]) ?_ ?_
      · refine Zp ?_
        refine Zm ?_
        refine Ze ?_
        refine WP.block ?_
        refine WP.trim [0, 2, 6, 7, 8, 9, 10, 11] [0, 1, 2, 3, 4, 5, 6] ?_
        refine WP.loopC (α := Nat × SV × SV) (fun z => z.1 ≤ 60) (fun z => [(11, vI (z.1 : Int)), (9, z.2.1.val), (10, z.2.2.val)]) (fun z => [(5, stP 38 encRI u z.2.1 mc.is (List.replicate z.1 (gI i))), (6, stP 77 encRF v z.2.2 mc.fs (List.replicate z.1 (gF i)))]) (fun z => 60 - z.1) (0, u, v) (Nat.zero_le _) ?_
        rintro ⟨j, p, q⟩ hj
        simp only at hj ⊢
        refine WP.trim [0, 2, 6, 7, 8, 9, 10, 11] [0, 1, 2, 3, 4, 5, 6] ?_
        refine WP.seq ?_
        refine Zp ?_
        refine Zm ?_
        refine Zi ?_
        refine Ze ?_
        refine WP.ite rfl (fun hlt2 => ?_) (fun hge2 => ?_)
        · refine Zb ?_
          refine WP.seq ?_
          refine WP.block ?_
          refine Zp ?_
          refine Zm ?_
          refine Zm ?_
          refine Zs ?_
          refine Run.build rfl bd_38 rfl rfl rfl rfl ?_
          refine Run.buildSlice (E := encRI) rfl sl_29 zr_38 ([gI i]) rfl rfl rfl (by decide) rfl rfl ?_
          intro b91
          refine Run.appendSt 5 (zs := [gI i]) rfl rfl rfl rfl rfl rfl sl_29 zr_38 rfl (src_own 7 rfl) (by simp only [List.length_replicate, List.length_singleton]; omega) (by simp only [List.length_replicate, List.length_singleton]; omega) ?_
          intro p2
          refine Zm ?_
          refine Ze ?_
          rw [← List.replicate_succ']
          refine WP.trim [0, 2, 6, 7, 8, 9, 10, 11] [0, 1, 2, 3, 4, 5, 6] ?_
          refine Zc ?_
          refine Zm ?_
          refine Zm ?_
          refine Zs ?_
          refine Run.build rfl bd_77 rfl rfl rfl rfl ?_
          refine Run.buildSlice (E := encRF) rfl sl_30 zr_77 ([gF i]) rfl rfl rfl (by decide) rfl rfl ?_
          intro b97
          refine Run.appendSt 6 (zs := [gF i]) rfl rfl rfl rfl rfl rfl sl_30 zr_77 rfl (src_own 7 rfl) (by simp only [List.length_replicate, List.length_singleton]; omega) (by simp only [List.length_replicate, List.length_singleton]; omega) ?_
          intro q2
          refine Zm ?_
          refine Run.nil ?_
          rw [← List.replicate_succ']
          refine blk_norm ?_; refine thn_next ?_
          refine WP.trim [0, 2, 6, 7, 8, 9, 10, 11] [0, 1, 2, 3, 4, 5, 6] ?_
          refine Zc ?_
          refine Zm ?_
          refine Za ?_
          refine Zm ?_
          refine Run.nil ?_
          exact thn_next ⟨(j + 1, p2, q2), by simp only; omega, by simp only; omega, Ko.go, ent.refl _⟩
        · refine Zj ?_
          obtain rfl : j = 60 := by omega
          exact thn_next ⟨(p, q), trivial, Ko.go, ent.refl _⟩
      rintro ⟨p, q⟩ _
      simp only
      refine WP.trim [0, 2, 6, 7, 8, 9, 10] [0, 1, 2, 3, 4, 5, 6] ?_
      refine Zp ?_
      refine Zm ?_
      refine Zm ?_
      refine Run.buildSlice (E := Enc.slice) rfl sl_93 zr_29 ([(p : SV)]) rfl rfl rfl (by decide) rfl rfl ?_
      intro b101
      refine Run.append (E := Enc.slice) (xs := XS.map Prod.fst) (ys := [(p : SV)]) 3 rfl rfl rfl rfl rfl rfl sl_93 zr_29 rfl (src_own 7 rfl) (by rw [List.length_map]; simp only [List.length_singleton]; omega) (by rw [List.length_map]; simp only [List.length_singleton]; omega) ?_
      intro s6b hs6b
      refine Zm ?_
      refine Ze ?_
      refine WP.trim [0, 2, 6, 7, 8, 9, 10] [0, 1, 2, 3, 4, 5, 6] ?_
      refine Zc ?_
      refine Zm ?_
      refine Zm ?_
      refine Run.buildSlice (E := Enc.slice) rfl sl_94 zr_30 ([(q : SV)]) rfl rfl rfl (by decide) rfl rfl ?_
      intro b105
      refine Run.append (E := Enc.slice) (xs := XS.map Prod.snd) (ys := [(q : SV)]) 4 rfl rfl rfl rfl rfl rfl sl_94 zr_30 rfl (src_own 7 rfl) (by rw [List.length_map]; simp only [List.length_singleton]; omega) (by rw [List.length_map]; simp only [List.length_singleton]; omega) ?_
      intro s7b hs7b
      refine Zm ?_
      refine Run.nil ?_
      refine blk_norm ?_; refine thn_next ?_
      refine WP.trim [0, 2, 6, 7, 8] [5, 6, 2, 0, 1, 3, 4] ?_
      refine WP.via (gr_shut (c := mc) (i := i) _) ?_
      refine WP.trim [0, 2, 6, 7, 8] [1, 0, 2, 3, 4, 5] ?_
      refine WP.via (many_snoc _ _ _) ?_
      rw [← hgs (p, q)]
      refine WP.trim [0, 2, 6, 7, 8] [1, 2, 0, 3, 4] ?_
      refine Zc ?_
      refine Zm ?_
      refine Za ?_
      refine Zm ?_
      refine Run.nil ?_
      refine thn_next ⟨(i + 1, s6b, s7b, XS ++ [(p, q)]), ⟨by simp only; omega, by simp [hXS]⟩, by simp only; omega, Ko.go, ?_⟩
      simp only [List.map_append, List.map_cons, List.map_nil]
      exact ent.refl _
    · refine Zj ?_
      obtain rfl : i = cs.length := by omega
      exact thn_next ⟨(s6, s7, XS), hXS, Ko.go, ent.refl _⟩
  rintro ⟨s6, s7, XS⟩ hXS
  simp only at hXS ⊢
  refine WP.trim [0, 2, 6, 7] [0, 2, 3, 4] ?_
  -- all are looked at
  refine WP.via (Γ' := [] ++ [slA 32 encXC cv.val (cs.zip ws), many (grL ws cs XS), slA 29 Enc.slice s6.val (XS.map Prod.fst), slA 30 Enc.slice s7.val (XS.map Prod.snd)]) (ent.refl _) ?_
  refine WP.freeze (Γ := []) [slA 32 encXC cv.val (cs.zip ws), many (grL ws cs XS), slA 29 Enc.slice s6.val (XS.map Prod.fst), slA 30 Enc.slice s7.val (XS.map Prod.snd)] fun g hg hd => ?_
  have hcv : SlR encXC.rd (un hR g) cv.val (cs.zip ws) := lent_at 0 rfl hg hd
  have h6 : SlR Enc.slice.rd (un hR g) s6.val (XS.map Prod.fst) := lent_at 2 rfl hg hd
  have h7 : SlR Enc.slice.rd (un hR g) s7.val (XS.map Prod.snd) := lent_at 3 rfl hg hd
  obtain ⟨gm, hgm, hgS⟩ := lent_sub 1 rfl hg hd
  refine WP.meetC (α := Unit) (fun _ => True) (fun _ => []) (fun _ => []) ?_ ?_
  · refine Zp ?_
    refine Zm ?_
    refine Ze ?_
    refine WP.block ?_
    refine WP.trim [0, 2, 6, 7, 12] [] ?_
    refine WP.loopC (α := Nat) (fun i => i ≤ cs.length) (fun i => [(12, vI (i : Int))]) (fun i => []) (fun i => cs.length - i) 0 (Nat.zero_le _) ?_
    intro i hi
    refine WP.trim [0, 2, 6, 7, 12] [] ?_
    refine WP.seq ?_
    refine Zp ?_
    refine Zm ?_
    refine Zm ?_
    refine Zh sl_28 hcv ?_
    refine Zi ?_
    refine Ze ?_
    refine WP.ite rfl (fun hlt => ?_) (fun hge => ?_)
    · refine Zb ?_
      obtain ⟨c, gc⟩ : ∃ y, cs[i]? = some y := ⟨_, List.getElem?_eq_getElem (by omega)⟩
      obtain ⟨⟨u, v⟩, gw⟩ : ∃ y, ws[i]? = some y := ⟨_, List.getElem?_eq_getElem (by omega)⟩
      obtain ⟨⟨p, q⟩, gx⟩ : ∃ y, XS[i]? = some y := ⟨_, List.getElem?_eq_getElem (by omega)⟩
      have gz : (cs.zip ws)[(i : Int).toNat]? = some ((c, u, v) : CD × SV2) := zip_at gc gw
      have gp : (XS.map Prod.fst)[(i : Int).toNat]? = some p := by rw [Int.toNat_natCast, List.getElem?_map, gx]; rfl
      have gq : (XS.map Prod.snd)[(i : Int).toNat]? = some q := by rw [Int.toNat_natCast, List.getElem?_map, gx]; rfl
      have hxl6 : (XS.map Prod.fst).length = cs.length := by rw [List.length_map]; exact hXS
      have hxl7 : (XS.map Prod.snd).length = cs.length := by rw [List.length_map]; exact hXS
      obtain ⟨ga, haa, hsa⟩ := sat_at i (show sat (grL ws cs XS) gm by unfold many at hgm; exact hgm) (gr_get gw gc gx) hgS
      obtain ⟨⟨r1, r2⟩, r3, r4⟩ := gr_reads haa hsa
      obtain ⟨hl1, hl2⟩ := hl c (List.mem_of_getElem? gc)
      simp only [markC] at r1 r2 r3 r4
      have k1 : ((List.range c.is.length).map (mI i)).length = c.is.length := by simp
      have k2 : ((List.range c.is.length).map (mI i) ++ List.replicate 60 (gI i)).length = c.is.length + 60 := by simp
      have k3 : ((List.range c.fs.length).map (mF i)).length = c.fs.length := by simp
      have k4 : ((List.range c.fs.length).map (mF i) ++ List.replicate 60 (gF i)).length = c.fs.length + 60 := by simp
      refine WP.seq ?_
      refine WP.block ?_
      refine Zp ?_
      refine Zm ?_
      refine Zm ?_
      refine Zx sl_28 hcv ?_
      refine Zf fo_32_0 ?_
      refine Zr ag_29 (SlR.cell hcv gz (off := 0) rfl) ?_
      refine Zh sl_29 r1 ?_; refine Run.eqv (v' := vI (c.is.length : Int)) (by rw [k1]) ?_
      refine Zm ?_
      refine Ze ?_
      refine WP.trim [0, 2, 6, 7, 12, 13] [] ?_
      refine WP.meetC (α := Unit) (fun _ => True) (fun _ => []) (fun _ => []) ?_ ?_
      · refine Zp ?_
        refine Zm ?_
        refine Ze ?_
        refine WP.block ?_
        refine WP.trim [0, 2, 6, 7, 12, 13, 14] [] ?_
        refine WP.loopC (α := Nat) (fun j => j ≤ c.is.length + 60) (fun j => [(14, vI (j : Int))]) (fun j => []) (fun j => c.is.length + 60 - j) 0 (Nat.zero_le _) ?_
        intro j hj
        refine WP.trim [0, 2, 6, 7, 12, 13, 14] [] ?_
        refine WP.seq ?_
        refine Zp ?_
        iterate 3 refine Zm ?_
        refine Zx sl_93 h6 ?_
        refine Zr ag_29 (SlR.cell0 h6 gp rfl) ?_
        refine Zh sl_29 r2 ?_; refine Run.eqv (v' := vI ((c.is.length + 60 : Nat) : Int)) (by rw [k2]) ?_
        refine Zi ?_
        refine Ze ?_
        refine WP.ite rfl (fun hlt2 => ?_) (fun hge2 => ?_)
        · refine Zb ?_
          refine WP.seq ?_
          refine WP.block ?_
          refine Zp ?_
          refine Zm ?_
          refine Zs ?_
          refine Zm ?_
          refine Run.build rfl bd_38 rfl rfl rfl rfl ?_
          refine Run.alloc rfl zr_38 rfl rfl rfl ?_
          intro b15
          refine Run.storeB 0 rfl rfl rfl rfl ag_38 rfl rfl rfl rfl rfl ?_
          refine Ze ?_
          refine WP.seq ?_
          by_cases hjn : (j : Int) < (c.is.length : Int)
          · have g1 : ((List.range c.is.length).map (mI i))[(j : Int).toNat]? = some (mI i j) := by rw [Int.toNat_natCast, List.getElem?_map, List.getElem?_range (by omega)]; rfl
            have g2 : ((List.range c.is.length).map (mI i) ++ List.replicate 60 (gI i))[(j : Int).toNat]? = some (mI i j) := by rw [List.getElem?_append_left (by rw [k1]; omega)]; exact g1
            refine WP.drawn0 cf0 mixed rfl (by kernel_rfl) ?_
            refine Zm ?_
            refine Zm ?_
            refine Zi ?_
            refine Run.tt hjn ?_
            iterate 3 refine Zm ?_
            refine Zx sl_93 h6 ?_
            refine Zr ag_29 (SlR.cell0 h6 gp rfl) ?_
            refine Zm ?_
            refine Zx sl_29 r2 ?_
            refine Run.loadRagg rfl rfl ag_38 rfl rfl (SlR.row r2 g2) rfl ?_
            refine Run.loadBagg 0 rfl rfl ag_38 rfl rfl rfl rfl rfl ?_
            refine Run.neRefl rfl rfl rfl mix_38 rfl rfl rfl ?_
            iterate 3 refine Zm ?_
            refine Zx sl_28 hcv ?_
            refine Zf fo_32_0 ?_
            refine Zr ag_29 (SlR.cell hcv gz (off := 0) rfl) ?_
            refine Zm ?_
            refine Zx sl_29 r1 ?_
            refine Run.loadRagg rfl rfl ag_38 rfl rfl (SlR.row r1 g1) rfl ?_
            refine Run.loadBagg 0 rfl rfl ag_38 rfl rfl rfl rfl rfl ?_
            refine Run.neRefl rfl rfl rfl mix_38 rfl rfl rfl ?_
            refine Zq ?_
            refine Zq ?_
            iterate 3 refine Zm ?_
            refine Zi ?_
            refine Run.ff (by omega) ?_
            refine Zm ?_
            iterate 11 refine Zv ?_
            refine Zq ?_
            refine Zq ?_
            refine Ze ?_
            refine Zno ?_
            refine WP.skip ?_; refine blk_norm ?_; refine thn_next ?_
            refine WP.trim [0, 2, 6, 7, 12, 13, 14] [] ?_
            refine Zc ?_
            refine Zm ?_
            refine Za ?_
            refine Zm ?_
            refine Run.nil ?_
            exact thn_next ⟨j + 1, by omega, by omega, Ko.go, ent.gc⟩
          · have g2 : ((List.range c.is.length).map (mI i) ++ List.replicate 60 (gI i))[(j : Int).toNat]? = some (gI i) := by rw [Int.toNat_natCast, List.getElem?_append_right (by rw [k1]; omega), k1, List.getElem?_replicate, if_pos (by omega)]
            refine WP.drawn0 cf0 mixed rfl (by kernel_rfl) ?_
            refine Zm ?_
            refine Zm ?_
            refine Zi ?_
            refine Run.ff hjn ?_
            refine Zm ?_
            iterate 21 refine Zv ?_
            refine Zq ?_
            iterate 3 refine Zm ?_
            refine Zi ?_
            refine Run.tt (by omega) ?_
            iterate 3 refine Zm ?_
            refine Zx sl_93 h6 ?_
            refine Zr ag_29 (SlR.cell0 h6 gp rfl) ?_
            refine Zm ?_
            refine Zx sl_29 r2 ?_
            refine Zf fo_38_0 ?_
            refine Zr ag_3 (SlR.cell r2 g2 (off := 0) rfl) ?_
            refine Zm ?_
            refine Zs ?_
            refine Zi ?_
            refine Run.ff (fun h => h rfl) ?_
            refine Zq ?_
            refine Zq ?_
            refine Ze ?_
            refine Zno ?_
            refine WP.skip ?_; refine blk_norm ?_; refine thn_next ?_
            refine WP.trim [0, 2, 6, 7, 12, 13, 14] [] ?_
            refine Zc ?_
            refine Zm ?_
            refine Za ?_
            refine Zm ?_
            refine Run.nil ?_
            exact thn_next ⟨j + 1, by omega, by omega, Ko.go, ent.gc⟩
        · refine Zj ?_
          exact thn_next ⟨(), trivial, Ko.go, ent.gc⟩
      intro _ _
      refine WP.trim [0, 2, 6, 7, 12] [] ?_
      refine Zp ?_
      refine Zm ?_
      refine Zm ?_
      refine Zx sl_28 hcv ?_
      refine Zf fo_32_1 ?_
      refine Zr ag_30 (SlR.cell hcv gz (off := 1) rfl) ?_
      refine Zh sl_30 r3 ?_; refine Run.eqv (v' := vI (c.fs.length : Int)) (by rw [k3]) ?_
      refine Zm ?_
      refine Ze ?_
      refine WP.trim [0, 2, 6, 7, 12, 16] [] ?_
      refine Zp ?_
      refine Zm ?_
      refine Ze ?_
      refine WP.block ?_
      refine WP.trim [0, 2, 6, 7, 12, 16, 17] [] ?_
      refine WP.loopC (α := Nat) (fun j => j ≤ c.fs.length + 60) (fun j => [(17, vI (j : Int))]) (fun j => []) (fun j => c.fs.length + 60 - j) 0 (Nat.zero_le _) ?_
      intro j hj
      refine WP.trim [0, 2, 6, 7, 12, 16, 17] [] ?_
      refine WP.seq ?_
      refine Zp ?_
      iterate 3 refine Zm ?_
      refine Zx sl_94 h7 ?_
      refine Zr ag_30 (SlR.cell0 h7 gq rfl) ?_
      refine Zh sl_30 r4 ?_; refine Run.eqv (v' := vI ((c.fs.length + 60 : Nat) : Int)) (by rw [k4]) ?_
      refine Zi ?_
      refine Ze ?_
      refine WP.ite rfl (fun hlt2 => ?_) (fun hge2 => ?_)
      · refine Zb ?_
        refine WP.seq ?_
        refine WP.block ?_
        refine Zp ?_
        refine Zm ?_
        refine Zs ?_
        refine Zm ?_
        refine Run.build rfl bd_77 rfl rfl rfl rfl ?_
        refine Run.alloc rfl zr_77 rfl rfl rfl ?_
        intro b18
        refine Run.storeB 0 rfl rfl rfl rfl ag_77 rfl rfl rfl rfl rfl ?_
        refine Ze ?_
        refine WP.seq ?_
        by_cases hjn : (j : Int) < (c.fs.length : Int)
        · have g1 : ((List.range c.fs.length).map (mF i))[(j : Int).toNat]? = some (mF i j) := by rw [Int.toNat_natCast, List.getElem?_map, List.getElem?_range (by omega)]; rfl
          have g2 : ((List.range c.fs.length).map (mF i) ++ List.replicate 60 (gF i))[(j : Int).toNat]? = some (mF i j) := by rw [List.getElem?_append_left (by rw [k3]; omega)]; exact g1
          refine WP.drawn0 cf0 mixed rfl (by kernel_rfl) ?_
          refine Zm ?_
          refine Zm ?_
          refine Zi ?_
          refine Run.tt hjn ?_
          iterate 3 refine Zm ?_
          refine Zx sl_94 h7 ?_
          refine Zr ag_30 (SlR.cell0 h7 gq rfl) ?_
          refine Zm ?_
          refine Zx sl_30 r4 ?_
          refine Run.loadRagg rfl rfl ag_77 rfl rfl (SlR.row r4 g2) rfl ?_
          refine Run.loadBagg 0 rfl rfl ag_77 rfl rfl rfl rfl rfl ?_
          refine Run.neRefl rfl rfl rfl mix_77 rfl rfl rfl ?_
          iterate 3 refine Zm ?_
          refine Zx sl_28 hcv ?_
          refine Zf fo_32_1 ?_
          refine Zr ag_30 (SlR.cell hcv gz (off := 1) rfl) ?_
          refine Zm ?_
          refine Zx sl_30 r3 ?_
          refine Run.loadRagg rfl rfl ag_77 rfl rfl (SlR.row r3 g1) rfl ?_
          refine Run.loadBagg 0 rfl rfl ag_77 rfl rfl rfl rfl rfl ?_
          refine Run.neRefl rfl rfl rfl mix_77 rfl rfl rfl ?_
          refine Zq ?_
          refine Zq ?_
          iterate 3 refine Zm ?_
          refine Zi ?_
          refine Run.ff (by omega) ?_
          refine Zm ?_
          iterate 11 refine Zv ?_
          refine Zq ?_
          refine Zq ?_
          refine Ze ?_
          refine Zno ?_
          refine WP.skip ?_; refine blk_norm ?_; refine thn_next ?_
          refine WP.trim [0, 2, 6, 7, 12, 16, 17] [] ?_
          refine Zc ?_
          refine Zm ?_
          refine Za ?_
          refine Zm ?_
          refine Run.nil ?_
          exact thn_next ⟨j + 1, by omega, by omega, Ko.go, ent.gc⟩
        · have g2 : ((List.range c.fs.length).map (mF i) ++ List.replicate 60 (gF i))[(j : Int).toNat]? = some (gF i) := by rw [Int.toNat_natCast, List.getElem?_append_right (by rw [k3]; omega), k3, List.getElem?_replicate, if_pos (by omega)]
          refine WP.drawn0 cf0 mixed rfl (by kernel_rfl) ?_
          refine Zm ?_
          refine Zm ?_
          refine Zi ?_
          refine Run.ff hjn ?_
          refine Zm ?_
          iterate 21 refine Zv ?_
          refine Zq ?_
          iterate 3 refine Zm ?_
          refine Zi ?_
          refine Run.tt (by omega) ?_
          iterate 3 refine Zm ?_
          refine Zx sl_94 h7 ?_
          refine Zr ag_30 (SlR.cell0 h7 gq rfl) ?_
          refine Zm ?_
          refine Zx sl_30 r4 ?_
          refine Zf fo_77_2 ?_
          refine Zr ag_3 (SlR.cell r4 g2 (off := 2) rfl) ?_
          refine Zm ?_
          refine Zs ?_
          refine Zi ?_
          refine Run.ff (fun h => h rfl) ?_
          refine Zq ?_
          refine Zq ?_
          refine Ze ?_
          refine Zno ?_
          refine WP.skip ?_; refine blk_norm ?_; refine thn_next ?_
          refine WP.trim [0, 2, 6, 7, 12, 16, 17] [] ?_
          refine Zc ?_
          refine Zm ?_
          refine Za ?_
          refine Zm ?_
          refine Run.nil ?_
          exact thn_next ⟨j + 1, by omega, by omega, Ko.go, ent.gc⟩
      · refine Zj ?_; refine blk_norm ?_; refine thn_next ?_
        refine WP.trim [0, 2, 6, 7, 12] [] ?_
        refine Zc ?_
        refine Zm ?_
        refine Za ?_
        refine Zm ?_
        refine Run.nil ?_
        exact thn_next ⟨i + 1, by omega, by omega, Ko.go, ent.gc⟩
    · refine Zj ?_
      exact thn_next ⟨(), trivial, Ko.go, ent.gc⟩
  intro _ _
  refine WP.trim [0, 2] [] ?_
  refine Zp ?_
  refine Zm ?_
  refine Ze ?_
  refine WP.ret ?_
  exact retT [2] _ rfl rfl ⟨_, ent.none _, rfl, rfl⟩
end Go.Proofs.YtfaokbjpinlcaaaGreat
end
section
/- fits: is ALIR small enough to be played? Walked. -/
namespace Go.Proofs.YtfaokbjpinlcaaaGreat
open Go.Sep
set_option linter.unusedSimpArgs false
set_option linter.unusedVariables false
set_option maxRecDepth 100000
attribute [local irreducible] blk slA mp mpF rows rowsBut many mpK mpE
/-- what an argument's reading bounds -/
structure WideF (F : AF) : Prop where
  name : F.name.size ≤ 140737488355327
  params : F.params.length ≤ 17592186044416
  blocks : F.blocks.length ≤ 17592186044416
  each : ∀ b ∈ F.blocks, b.body.length ≤ 17592186044416 ∧ b.term.to.length ≤ 17592186044416 ∧ ∀ x ∈ b.body, x.args.length ≤ 17592186044416 ∧ x.saves.length ≤ 17592186044416
structure WideA (A : AL) : Prop where
  funcs : A.funcs.length ≤ 17592186044416
  each : ∀ F ∈ A.funcs, WideF F
def smallX (x : AI) : Prop := x.args.length ≤ 200000 ∧ x.saves.length ≤ 200000
def smallB (b : AB) : Prop := b.body.length ≤ 20000 ∧ b.term.to.length ≤ 20000 ∧ ∀ x ∈ b.body, smallX x
theorem und_9 : Tryz.prog.underlying 9 = some .string := by kernel_rfl
theorem quo64 {a : Nat} (h : a ≤ 140737488355327) : IntKind.i64.wrap ((a : Int).tdiv 64) = ((a / 64 : Nat) : Int) := by
  have e : (a : Int).tdiv 64 = ((a / 64 : Nat) : Int) := (Int.ofNat_tdiv a 64).symm
  rw [e]
  exact wrapI (by omega) (by omega)
theorem quo8 {a : Nat} (h : a ≤ 140737488355327) : IntKind.i64.wrap ((a : Int).tdiv 8) = ((a / 8 : Nat) : Int) := by
  have e : (a : Int).tdiv 8 = ((a / 8 : Nat) : Int) := (Int.ofNat_tdiv a 8).symm
  rw [e]
  exact wrapI (by omega) (by omega)
set_option maxHeartbeats 4000000 in
theorem fits_ok (hR : Heap) (A : AL) (fv : SV) (hf : SlR rdAF hR fv.val A.funcs) (hW : WideA A) :
    Tri Tryz.prog hR 6 #[.agg ⟨alv A fv⟩] [] fun u Γ' => (∃ s : Bool, u = .bool s ∧ (s = true → SmallA A)) ∧ Γ' = [] := by
  have w1 := hW.funcs
  refine Tri.ent (Tri.of (args := [.agg ⟨alv A fv⟩]) Tryz.func6 rfl Tryz.ntmps6 (by simp) ?_)
  refine Zp ?_
  refine Run.box rfl rfl rfl rfl rfl ?_
  intro b1
  refine Zm ?_
  refine Ze ?_
  refine Zp ?_
  refine Zf fo_24_0 ?_
  refine Zl 0 ag_22 ?_
  refine Zh sl_22 hf ?_
  refine Zm ?_
  refine Ze ?_
  refine WP.trim [1, 2, 3] [0] ?_
  refine WP.meetC (α := Nat) (fun z => z ≤ 400000000000000 ∧ (z ≤ 20000 → ∀ F ∈ A.funcs, SmallF F)) (fun z => [(3, vI (z : Int))]) (fun _ => []) ?_ ?_
  · refine Zp ?_
    refine Zm ?_
    refine Ze ?_
    refine WP.block ?_
    refine WP.trim [1, 2, 3, 4] [0] ?_
    refine WP.loopC (α := Nat × Nat) (fun z => z.1 ≤ A.funcs.length ∧ z.2 ≤ 400000000000000 ∧ (z.2 ≤ 20000 → ∀ (k : Nat) (F : AF), k < z.1 → A.funcs[k]? = some F → SmallF F)) (fun z => [(4, vI (z.1 : Int)), (3, vI (z.2 : Int))]) (fun _ => []) (fun z => A.funcs.length - z.1) (0, A.funcs.length) ⟨Nat.zero_le _, by simp only; omega, fun _ k F h => by simp only at h; omega⟩ ?_
    rintro ⟨i, z⟩ ⟨hi, hz1, hz2⟩
    simp only at hi hz1 hz2 ⊢
    refine WP.trim [1, 2, 3, 4] [0] ?_
    refine WP.seq ?_
    refine WP.seq ?_
    by_cases hlt : (i : Int) < (A.funcs.length : Int)
    · by_cases hz : (z : Int) ≤ 20000
      · refine Zc ?_
        refine Zm ?_
        refine Zf fo_24_0 ?_
        refine Zl 0 ag_22 ?_
        refine Zh sl_22 hf ?_
        refine Zi ?_
        refine Run.tt hlt ?_
        refine Zm ?_
        refine Zm ?_
        refine Zi ?_
        refine Run.tt hz ?_
        refine Zq ?_
        refine Ze ?_
        refine Zyes ?_
        refine Zb ?_
        obtain ⟨F, gF⟩ : ∃ y, A.funcs[(i : Int).toNat]? = some y := ⟨_, List.getElem?_eq_getElem (by omega)⟩
        have gF' : A.funcs[i]? = some F := gF
        obtain ⟨v1, v2, v3, v4⟩ := hW.each F (List.mem_of_getElem? gF)
        obtain ⟨_, ⟨fu0, fw0, rfl, hfu, hfv⟩, hrow⟩ := hf.at gF
        obtain ⟨fu, rfl, _, _⟩ := SlR.sv hfu
        obtain ⟨fw, rfl, _, _⟩ := SlR.sv hfv
        refine WP.seq ?_
        refine WP.block ?_
        refine WP.seq ?_
        refine WP.drawn0 cf0 mixed rfl (by kernel_rfl) ?_
        refine Zm ?_
        refine Zf fo_24_0 ?_
        refine Zl 0 ag_22 ?_
        refine Zm ?_
        refine Zx sl_22 hf ?_
        refine Zf fo_51_1 ?_
        refine Zr ag_48 (hrow 1 _ rfl) ?_
        refine Zh sl_48 hfu ?_
        refine Za ?_
        refine Zf fo_24_0 ?_
        refine Zl 0 ag_22 ?_
        refine Zm ?_
        refine Zx sl_22 hf ?_
        refine Zf fo_51_0 ?_
        refine Zr ag_9 (hrow 0 _ rfl) ?_
        refine Run.lenStr rfl rfl und_9 rfl rfl ?_
        refine Zi ?_
        refine Run.eqv (v' := vI ((F.name.size / 64 : Nat) : Int)) (by rw [quo64 v1]) ?_
        refine Za ?_
        refine Zf fo_24_0 ?_
        refine Zl 0 ag_22 ?_
        refine Zm ?_
        refine Zx sl_22 hf ?_
        refine Zf fo_51_4 ?_
        refine Zr ag_49 (hrow 4 _ rfl) ?_
        refine Zh sl_49 hfv ?_
        refine Za ?_
        refine Zm ?_
        refine Run.eqv (v' := vI ((z + F.params.length + F.name.size / 64 + F.blocks.length : Nat) : Int)) (congrArg vI (by omega)) ?_
        refine Ze ?_
        generalize hz3 : z + F.params.length + F.name.size / 64 + F.blocks.length = z1
        refine WP.trim [1, 2, 3, 4] [0] ?_
        refine Zp ?_
        refine Zm ?_
        refine Ze ?_
        refine WP.block ?_
        refine WP.trim [1, 2, 3, 4, 5] [0] ?_
        refine WP.loopC (α := Nat × Nat) (fun y => y.1 ≤ F.blocks.length ∧ z1 + sumB F y.1 ≤ y.2 ∧ y.2 ≤ 400000000000000 ∧ (y.2 ≤ 20000 → ∀ (k : Nat) (b : AB), k < y.1 → F.blocks[k]? = some b → smallB b)) (fun y => [(5, vI (y.1 : Int)), (3, vI (y.2 : Int))]) (fun _ => []) (fun y => F.blocks.length - y.1) (0, z1) ⟨Nat.zero_le _, by simp [sumB], by simp only; omega, fun _ k b h => by simp only at h; omega⟩ ?_
        rintro ⟨j, y⟩ ⟨hj, hy1, hy2, hy3⟩
        simp only at hj hy1 hy2 hy3 ⊢
        refine WP.trim [1, 2, 3, 4, 5] [0] ?_
        refine WP.seq ?_
        refine WP.seq ?_
        by_cases hlt2 : (j : Int) < (F.blocks.length : Int)
        · by_cases hy : (y : Int) ≤ 20000
          · refine Zc ?_
            refine Zm ?_
            refine Zf fo_24_0 ?_
            refine Zl 0 ag_22 ?_
            refine Zm ?_
            refine Zx sl_22 hf ?_
            refine Zf fo_51_4 ?_
            refine Zr ag_49 (hrow 4 _ rfl) ?_
            refine Zh sl_49 hfv ?_
            refine Zi ?_
            refine Run.tt hlt2 ?_
            refine Zm ?_
            refine Zm ?_
            refine Zi ?_
            refine Run.tt hy ?_
            refine Zq ?_
            refine Ze ?_
            refine Zyes ?_
            refine Zb ?_
            obtain ⟨b, gb⟩ : ∃ y, F.blocks[(j : Int).toNat]? = some y := ⟨_, List.getElem?_eq_getElem (by omega)⟩
            have gb' : F.blocks[j]? = some b := gb
            obtain ⟨b1', b2', b3'⟩ := v4 b (List.mem_of_getElem? gb)
            have hstep := sumB_step gb'
            obtain ⟨_, ⟨bu0, bt0, rfl, hbu, hbt⟩, hbrow⟩ := hfv.at gb
            obtain ⟨bu, rfl, _, _⟩ := SlR.sv hbu
            obtain ⟨bt, rfl, _, _⟩ := SlR.sv hbt
            refine WP.seq ?_
            refine WP.block ?_
            refine Zp ?_
            refine Zf fo_24_0 ?_
            refine Zl 0 ag_22 ?_
            refine Zm ?_
            refine Zx sl_22 hf ?_
            refine Zf fo_51_4 ?_
            refine Zr ag_49 (hrow 4 _ rfl) ?_
            refine Zm ?_
            refine Zx sl_49 hfv ?_
            refine Run.loadRagg rfl rfl ag_58 rfl rfl hbrow (by rfl) ?_
            refine Run.alloc rfl zr_58 rfl rfl rfl ?_
            intro b6
            refine Run.storeB 1 rfl rfl rfl rfl ag_58 rfl rfl rfl rfl rfl ?_
            refine Ze ?_
            refine Zp ?_
            refine Zm ?_
            refine Zf fo_58_0 ?_
            refine Zl 1 ag_54 ?_
            refine Zh sl_54 hbu ?_
            refine Za ?_
            refine Zf fo_58_1 ?_
            refine Zf fo_56_2 ?_
            refine Zl 1 ag_44 ?_
            refine Zh sl_44 hbt ?_
            refine Za ?_
            refine Zm ?_
            refine Run.eqv (v' := vI ((y + b.body.length + b.term.to.length : Nat) : Int)) (congrArg vI (by omega)) ?_
            refine Ze ?_
            generalize hy4 : y + b.body.length + b.term.to.length = y1
            refine WP.trim [1, 2, 3, 4, 5, 6] [0, 1] ?_
            refine Zp ?_
            refine Zm ?_
            refine Ze ?_
            refine WP.block ?_
            refine WP.trim [1, 2, 3, 4, 5, 6, 7] [0, 1] ?_
            refine WP.loopC (α := Nat × Nat) (fun x => x.1 ≤ b.body.length ∧ y1 ≤ x.2 ∧ x.2 ≤ 400000000000000 ∧ (x.2 ≤ 20000 → ∀ (k : Nat) (q : AI), k < x.1 → b.body[k]? = some q → smallX q)) (fun x => [(7, vI (x.1 : Int)), (3, vI (x.2 : Int))]) (fun _ => []) (fun x => b.body.length - x.1) (0, y1) ⟨Nat.zero_le _, Nat.le_refl _, by simp only; omega, fun _ k b h => by simp only at h; omega⟩ ?_
            rintro ⟨k, x⟩ ⟨hk, hx1, hx2, hx3⟩
            simp only at hk hx1 hx2 hx3 ⊢
            refine WP.trim [1, 2, 3, 4, 5, 6, 7] [0, 1] ?_
            refine WP.seq ?_
            refine WP.seq ?_
            by_cases hlt3 : (k : Int) < (b.body.length : Int)
            · by_cases hx : (x : Int) ≤ 20000
              · refine Zc ?_
                refine Zm ?_
                refine Zf fo_58_0 ?_
                refine Zl 1 ag_54 ?_
                refine Zh sl_54 hbu ?_
                refine Zi ?_
                refine Run.tt hlt3 ?_
                refine Zm ?_
                refine Zm ?_
                refine Zi ?_
                refine Run.tt hx ?_
                refine Zq ?_
                refine Ze ?_
                refine Zyes ?_
                refine Zb ?_
                obtain ⟨q, gq⟩ : ∃ y, b.body[(k : Int).toNat]? = some y := ⟨_, List.getElem?_eq_getElem (by omega)⟩
                have gq' : b.body[k]? = some q := gq
                obtain ⟨q1, q2⟩ := b3' q (List.mem_of_getElem? gq)
                obtain ⟨_, ⟨qu0, qv0, rfl, hqu, hqv⟩, hqrow⟩ := hbu.at gq
                obtain ⟨qu, rfl, _, _⟩ := SlR.sv hqu
                obtain ⟨qv, rfl, _, _⟩ := SlR.sv hqv
                refine WP.seq ?_
                refine WP.block ?_
                refine WP.drawn0 cf0 mixed rfl (by kernel_rfl) ?_
                refine Zm ?_
                refine Zf fo_58_0 ?_
                refine Zl 1 ag_54 ?_
                refine Zm ?_
                refine Zx sl_54 hbu ?_
                refine Zf fo_53_3 ?_
                refine Zr ag_48 (hqrow 4 _ rfl) ?_
                refine Zh sl_48 hqu ?_
                refine Zi ?_
                refine Run.eqv (v' := vI ((q.args.length / 8 : Nat) : Int)) (by rw [quo8 (by omega)]) ?_
                refine Za ?_
                refine Zf fo_58_0 ?_
                refine Zl 1 ag_54 ?_
                refine Zm ?_
                refine Zx sl_54 hbu ?_
                refine Zf fo_53_4 ?_
                refine Zr ag_44 (hqrow 5 _ rfl) ?_
                refine Zh sl_44 hqv ?_
                refine Zi ?_
                refine Run.eqv (v' := vI ((q.saves.length / 8 : Nat) : Int)) (by rw [quo8 (by omega)]) ?_
                refine Za ?_
                refine Zm ?_
                refine Run.eqv (v' := vI ((x + q.args.length / 8 + q.saves.length / 8 : Nat) : Int)) (congrArg vI (by omega)) ?_
                refine Run.nil ?_
                refine blk_norm ?_; refine thn_next ?_
                refine Zc ?_
                refine Zm ?_
                refine Za ?_
                refine Zm ?_
                refine Run.nil ?_
                refine thn_next ⟨(k + 1, x + q.args.length / 8 + q.saves.length / 8), ⟨by simp only; omega, by simp only; omega, by simp only; omega, fun hs m q' hm gm => ?_⟩, by simp only; omega, Ko.go, ent.gc⟩
                simp only at hs hm
                by_cases e : m = k
                · subst e; rw [gq'] at gm; cases gm; exact ⟨by omega, by omega⟩
                · exact hx3 (by omega) m q' (by omega) gm
              · refine Zc ?_
                refine Zm ?_
                refine Zf fo_58_0 ?_
                refine Zl 1 ag_54 ?_
                refine Zh sl_54 hbu ?_
                refine Zi ?_
                refine Run.tt hlt3 ?_
                refine Zm ?_
                refine Zm ?_
                refine Zi ?_
                refine Run.ff hx ?_
                refine Zq ?_
                refine Ze ?_
                refine Zno ?_
                refine Zj ?_; refine blk_norm ?_; refine thn_next ?_
                refine WP.trim [1, 2, 3, 4, 5] [0] ?_
                refine Zc ?_
                refine Zm ?_
                refine Za ?_
                refine Zm ?_
                refine Run.nil ?_
                refine thn_next ⟨(j + 1, x), ⟨by simp only; omega, by simp only; omega, by simp only; omega, fun hs => by simp only at hs; omega⟩, by simp only; omega, Ko.go, ent.gc⟩
            · refine Zc ?_
              refine Zm ?_
              refine Zf fo_58_0 ?_
              refine Zl 1 ag_54 ?_
              refine Zh sl_54 hbu ?_
              refine Zi ?_
              refine Run.ff hlt3 ?_
              refine Zm ?_
              refine Zv ?_
              refine Zv ?_
              refine Zq ?_
              refine Ze ?_
              refine Zno ?_
              refine Zj ?_; refine blk_norm ?_; refine thn_next ?_
              refine WP.trim [1, 2, 3, 4, 5] [0] ?_
              refine Zc ?_
              refine Zm ?_
              refine Za ?_
              refine Zm ?_
              refine Run.nil ?_
              refine thn_next ⟨(j + 1, x), ⟨by simp only; omega, by simp only; omega, by simp only; omega, fun hs m b' hm gm => ?_⟩, by simp only; omega, Ko.go, ent.gc⟩
              simp only at hs hm
              by_cases e : m = j
              · subst e; rw [gb'] at gm; cases gm
                refine ⟨by omega, by omega, fun q hq => ?_⟩
                obtain ⟨k', hk'⟩ := List.getElem?_of_mem hq
                exact hx3 hs k' q (by have := (List.getElem?_eq_some_iff.1 hk').1; omega) hk'
              · exact hy3 (by omega) m b' (by omega) gm
          · refine Zc ?_
            refine Zm ?_
            refine Zf fo_24_0 ?_
            refine Zl 0 ag_22 ?_
            refine Zm ?_
            refine Zx sl_22 hf ?_
            refine Zf fo_51_4 ?_
            refine Zr ag_49 (hrow 4 _ rfl) ?_
            refine Zh sl_49 hfv ?_
            refine Zi ?_
            refine Run.tt hlt2 ?_
            refine Zm ?_
            refine Zm ?_
            refine Zi ?_
            refine Run.ff hy ?_
            refine Zq ?_
            refine Ze ?_
            refine Zno ?_
            refine Zj ?_; refine blk_norm ?_; refine thn_next ?_
            refine WP.trim [1, 2, 3, 4] [0] ?_
            refine Zc ?_
            refine Zm ?_
            refine Za ?_
            refine Zm ?_
            refine Run.nil ?_
            refine thn_next ⟨(i + 1, y), ⟨by simp only; omega, by simp only; omega, fun hs => by simp only at hs; omega⟩, by simp only; omega, Ko.go, ent.gc⟩
        · refine Zc ?_
          refine Zm ?_
          refine Zf fo_24_0 ?_
          refine Zl 0 ag_22 ?_
          refine Zm ?_
          refine Zx sl_22 hf ?_
          refine Zf fo_51_4 ?_
          refine Zr ag_49 (hrow 4 _ rfl) ?_
          refine Zh sl_49 hfv ?_
          refine Zi ?_
          refine Run.ff hlt2 ?_
          refine Zm ?_
          refine Zv ?_
          refine Zv ?_
          refine Zq ?_
          refine Ze ?_
          refine Zno ?_
          refine Zj ?_; refine blk_norm ?_; refine thn_next ?_
          refine WP.trim [1, 2, 3, 4] [0] ?_
          refine Zc ?_
          refine Zm ?_
          refine Za ?_
          refine Zm ?_
          refine Run.nil ?_
          refine thn_next ⟨(i + 1, y), ⟨by simp only; omega, by simp only; omega, fun hs m F' hm gm => ?_⟩, by simp only; omega, Ko.go, ent.gc⟩
          simp only at hs hm
          by_cases e : m = i
          · subst e; rw [gF'] at gm; cases gm
            have hall : ∀ b ∈ F.blocks, smallB b := fun b hb => by
              obtain ⟨k', hk'⟩ := List.getElem?_of_mem hb
              exact hy3 hs k' b (by have := (List.getElem?_eq_some_iff.1 hk').1; omega) hk'
            obtain rfl : j = F.blocks.length := by omega
            have hst : sumB F F.blocks.length = (F.blocks.map fun b => b.body.length).sum := by unfold sumB; rw [List.take_length]
            exact ⟨by omega, by omega, fun b hb => ⟨(hall b hb).1, (hall b hb).2.1, (hall b hb).2.2⟩, by omega, by omega⟩
          · exact hz2 (by omega) m F' (by omega) gm
      · refine Zc ?_
        refine Zm ?_
        refine Zf fo_24_0 ?_
        refine Zl 0 ag_22 ?_
        refine Zh sl_22 hf ?_
        refine Zi ?_
        refine Run.tt hlt ?_
        refine Zm ?_
        refine Zm ?_
        refine Zi ?_
        refine Run.ff hz ?_
        refine Zq ?_
        refine Ze ?_
        refine Zno ?_
        refine Zj ?_
        exact thn_next ⟨z, ⟨hz1, fun h => by omega⟩, Ko.go, ent.gc⟩
    · refine Zc ?_
      refine Zm ?_
      refine Zf fo_24_0 ?_
      refine Zl 0 ag_22 ?_
      refine Zh sl_22 hf ?_
      refine Zi ?_
      refine Run.ff hlt ?_
      refine Zm ?_
      refine Zv ?_
      refine Zv ?_
      refine Zq ?_
      refine Ze ?_
      refine Zno ?_
      refine Zj ?_
      refine thn_next ⟨z, ⟨hz1, fun h F hF => ?_⟩, Ko.go, ent.gc⟩
      obtain ⟨k, hk⟩ := List.getElem?_of_mem hF
      exact hz2 h k F (by have := (List.getElem?_eq_some_iff.1 hk).1; omega) hk
  rintro z ⟨hz1, hz2⟩
  refine WP.trim [1, 2, 3] [0] ?_
  refine WP.seq ?_
  by_cases hz : (z : Int) ≤ 20000
  · refine Zc ?_
    refine Zm ?_
    refine Zi ?_
    refine Run.tt hz ?_
    refine Zm ?_
    refine Zf fo_24_0 ?_
    refine Zl 0 ag_22 ?_
    refine Zh sl_22 hf ?_
    refine Zi ?_
    refine Zq ?_
    refine Zm ?_
    refine Ze ?_
    refine WP.ret ?_
    exact retT [2] _ rfl rfl ⟨_, ent.none _, ⟨_, rfl, fun h => ⟨by have := of_decide_eq_true h; omega, hz2 (by omega)⟩⟩, rfl⟩
  · refine Zc ?_
    refine Zm ?_
    refine Zi ?_
    refine Run.ff hz ?_
    refine Zm ?_
    iterate 4 refine Zv ?_
    refine Zq ?_
    refine Zm ?_
    refine Ze ?_
    refine WP.ret ?_
    exact retT [2] _ rfl rfl ⟨_, ent.none _, ⟨false, rfl, fun h => by cases h⟩, rfl⟩
end Go.Proofs.YtfaokbjpinlcaaaGreat
end
section
/- The laws' argument, opened: a value of ALIR with its bounds. -/
namespace Go.Proofs.YtfaokbjpinlcaaaGreat
open Go.Sep Go.ChangeShapes Go.WideShapes Go.ChangeAt Go.RowKit
set_option linter.unusedSimpArgs false
set_option linter.unusedVariables false
theorem co_3 : Tryz.prog.cellsOf 3 = 1 := by kernel_rfl
theorem co_9 : Tryz.prog.cellsOf 9 = 1 := by kernel_rfl
theorem co_44 : Tryz.prog.cellsOf 44 = 1 := by kernel_rfl
theorem co_46 : Tryz.prog.cellsOf 46 = 2 := by kernel_rfl
theorem co_48 : Tryz.prog.cellsOf 48 = 1 := by kernel_rfl
theorem co_49 : Tryz.prog.cellsOf 49 = 1 := by kernel_rfl
theorem co_54 : Tryz.prog.cellsOf 54 = 1 := by kernel_rfl
theorem co_22 : Tryz.prog.cellsOf 22 = 1 := by kernel_rfl
theorem co_53 : Tryz.prog.cellsOf 53 = 6 := by kernel_rfl
theorem co_56 : Tryz.prog.cellsOf 56 = 4 := by kernel_rfl
theorem co_58 : Tryz.prog.cellsOf 58 = 5 := by kernel_rfl
theorem co_51 : Tryz.prog.cellsOf 51 = 5 := by kernel_rfl
theorem co_24 : Tryz.prog.cellsOf 24 = 2 := by kernel_rfl
theorem by_3 : 8 ≤ Tryz.prog.bytesOf 3 := of_decide_eq_true (by kernel_rfl)
theorem by_46 : 8 ≤ Tryz.prog.bytesOf 46 := of_decide_eq_true (by kernel_rfl)
theorem by_53 : 8 ≤ Tryz.prog.bytesOf 53 := of_decide_eq_true (by kernel_rfl)
theorem by_58 : 8 ≤ Tryz.prog.bytesOf 58 := of_decide_eq_true (by kernel_rfl)
theorem by_51 : 8 ≤ Tryz.prog.bytesOf 51 := of_decide_eq_true (by kernel_rfl)
section
variable {P : Program} {w : World} {t : TypeId}
theorem partAt {A : Type} {E : Rd A} {G : A → Prop} {fs : Array Field} (ht : P.underlying t = some (.struct fs))
    {H : Type} {enc : TypeId × Value → H} {base : Nat} {spare : Nat → Bool} {held : Bool} {fuel : Nat} {cs : List Value} {x : DataW H × List MemPlace} (h : DataW.trod enc P w base spare held fuel t cs = some x)
    (hw : ∀ m ∈ x.1.weights P t, m ≤ reachBytes) (i k c : Nat) (ft : TypeId) {f : Field} (hf : fs[i]? = some f) (hk : f.offset = k) (hft : f.type = ft) (hc : P.cellsOf ft = c) (HE : OpensW P w ft E G) : ∃ a, E.rel (hp w) a ((cs.drop k).take c) ∧ G a := by
  subst hft
  have := OpensW.part ht h hw hf HE
  rw [hk, hc] at this
  exact this
theorem cells_len {fs : Array Field} (ht : P.underlying t = some (.struct fs))
    {H : Type} {enc : TypeId × Value → H} {base : Nat} {spare : Nat → Bool} {held : Bool} {fuel : Nat} {cs : List Value} {x : DataW H × List MemPlace} (h : DataW.trod enc P w base spare held fuel t cs = some x) : cs.length = P.cellsOf t := by
  obtain ⟨_, _, _, _, h1, _⟩ := DataW.trod_struct ht h
  exact h1
end
theorem int_open {w : World} : OpensW Tryz.prog w 3 rdI (fun n => (Lit.int .i64 n).wf = true) := OpensW.of (Opens.int Tryz.underlying3)
theorem ints_open {w : World} : OpensW Tryz.prog w 44 rdI.slice (fun xs => xs.length ≤ 17592186044416 ∧ ∀ x ∈ xs, (Lit.int .i64 x).wf = true) := OpensW.slice Tryz.underlying44 co_3 by_3 int_open
theorem loc_open {w : World} : OpensW Tryz.prog w 46 rdLc (fun _ => True) := fun {H enc base spare held fuel cs x} h hw => by
  have hl := cells_len Tryz.underlying46 h
  rw [co_46] at hl
  obtain ⟨a0, e0, _⟩ := partAt Tryz.underlying46 h hw 0 0 1 3 rfl rfl rfl co_3 int_open
  obtain ⟨a1, e1, _⟩ := partAt Tryz.underlying46 h hw 1 1 1 3 rfl rfl rfl co_3 int_open
  clear h hw
  match cs, hl with
  | [c0, c1], _ =>
    have g0 : [c0] = [Value.int .i64 a0] := e0
    have g1 : [c1] = [Value.int .i64 a1] := e1
    simp only [List.cons.injEq, and_true] at g0 g1
    subst g0 g1
    exact ⟨⟨a0, a1⟩, rfl, trivial⟩
theorem locs_open {w : World} : OpensW Tryz.prog w 48 rdLc.slice (fun xs => xs.length ≤ 17592186044416 ∧ ∀ x ∈ xs, True) := OpensW.slice Tryz.underlying48 co_46 by_46 loc_open
theorem ins_open {w : World} : OpensW Tryz.prog w 53 rdAI (fun x => x.args.length ≤ 17592186044416 ∧ x.saves.length ≤ 17592186044416) := fun {H enc base spare held fuel cs x} h hw => by
  have hl := cells_len Tryz.underlying53 h
  rw [co_53] at hl
  obtain ⟨a0, e0, _⟩ := partAt Tryz.underlying53 h hw 0 0 1 3 rfl rfl rfl co_3 int_open
  obtain ⟨a1, e1, _⟩ := partAt Tryz.underlying53 h hw 1 1 1 3 rfl rfl rfl co_3 int_open
  obtain ⟨a2, e2, _⟩ := partAt Tryz.underlying53 h hw 2 2 2 46 rfl rfl rfl co_46 loc_open
  obtain ⟨a3, ⟨u, e3, hu⟩, h3, _⟩ := partAt Tryz.underlying53 h hw 3 4 1 48 rfl rfl rfl co_48 locs_open
  obtain ⟨a4, ⟨v, e4, hv⟩, h4, _⟩ := partAt Tryz.underlying53 h hw 4 5 1 44 rfl rfl rfl co_44 ints_open
  clear h hw
  match cs, hl with
  | [c0, c1, c2, c3, c4, c5], _ =>
    have g0 : [c0] = [Value.int .i64 a0] := e0
    have g1 : [c1] = [Value.int .i64 a1] := e1
    have g2 : [c2, c3] = lcv a2 := e2
    have g3 : [c4] = [u] := e3
    have g4 : [c5] = [v] := e4
    simp only [List.cons.injEq, and_true] at g0 g1 g2 g3 g4
    obtain ⟨g2, g5⟩ := g2
    subst g0 g1 g2 g3 g4 g5
    exact ⟨⟨a0, a1, a2, a3, a4⟩, ⟨_, _, rfl, hu, hv⟩, h3, h4⟩
theorem inss_open {w : World} : OpensW Tryz.prog w 54 rdAI.slice (fun xs => xs.length ≤ 17592186044416 ∧ ∀ x ∈ xs, x.args.length ≤ 17592186044416 ∧ x.saves.length ≤ 17592186044416) := OpensW.slice Tryz.underlying54 co_53 by_53 ins_open
def rdAT : Rd AT where
  sz := 4
  rel h x cs := ∃ v, cs = atv x v ∧ SlR rdI h v x.to
  len := by rintro h x cs ⟨v, rfl, _⟩; rfl
  mono := by rintro h g x cs hs ⟨v, rfl, hv⟩; exact ⟨v, rfl, hv.mono hs⟩
theorem term_open {w : World} : OpensW Tryz.prog w 56 rdAT (fun x => x.to.length ≤ 17592186044416) := fun {H enc base spare held fuel cs x} h hw => by
  have hl := cells_len Tryz.underlying56 h
  rw [co_56] at hl
  obtain ⟨a0, e0, _⟩ := partAt Tryz.underlying56 h hw 0 0 1 3 rfl rfl rfl co_3 int_open
  obtain ⟨a1, e1, _⟩ := partAt Tryz.underlying56 h hw 1 1 2 46 rfl rfl rfl co_46 loc_open
  obtain ⟨a2, ⟨u, e2, hu⟩, h3, _⟩ := partAt Tryz.underlying56 h hw 2 3 1 44 rfl rfl rfl co_44 ints_open
  clear h hw
  match cs, hl with
  | [c0, c1, c2, c3], _ =>
    have g0 : [c0] = [Value.int .i64 a0] := e0
    have g1 : [c1, c2] = lcv a1 := e1
    have g2 : [c3] = [u] := e2
    simp only [List.cons.injEq, and_true] at g0 g1 g2
    obtain ⟨g1, g3⟩ := g1
    subst g0 g1 g2 g3
    exact ⟨⟨a0, a1, a2⟩, ⟨_, rfl, hu⟩, h3⟩
def wideB (b : AB) : Prop := b.body.length ≤ 17592186044416 ∧ b.term.to.length ≤ 17592186044416 ∧ ∀ x ∈ b.body, x.args.length ≤ 17592186044416 ∧ x.saves.length ≤ 17592186044416
theorem blk_open {w : World} : OpensW Tryz.prog w 58 rdAB wideB := fun {H enc base spare held fuel cs x} h hw => by
  have hl := cells_len Tryz.underlying58 h
  rw [co_58] at hl
  obtain ⟨a0, ⟨u, e0, hu⟩, h0, h1⟩ := partAt Tryz.underlying58 h hw 0 0 1 54 rfl rfl rfl co_54 inss_open
  obtain ⟨a1, ⟨tv, e1, ht⟩, h2⟩ := partAt Tryz.underlying58 h hw 1 1 4 56 rfl rfl rfl co_56 term_open
  clear h hw
  match cs, hl with
  | [c0, c1, c2, c3, c4], _ =>
    have g0 : [c0] = [u] := e0
    have g1 : [c1, c2, c3, c4] = atv a1 tv := e1
    simp only [List.cons.injEq, and_true] at g0 g1
    obtain ⟨g1, g2, g3, g4⟩ := g1
    subst g0 g1 g2 g3 g4
    exact ⟨⟨a0, a1⟩, ⟨_, _, rfl, hu, ht⟩, h0, h2, h1⟩
theorem blks_open {w : World} : OpensW Tryz.prog w 49 rdAB.slice (fun xs => xs.length ≤ 17592186044416 ∧ ∀ x ∈ xs, wideB x) := OpensW.slice Tryz.underlying49 co_58 by_58 blk_open
theorem fun_open {w : World} : OpensW Tryz.prog w 51 rdAF WideF := fun {H enc base spare held fuel cs x} h hw => by
  have hl := cells_len Tryz.underlying51 h
  rw [co_51] at hl
  obtain ⟨a0, e0, h0⟩ := partAt Tryz.underlying51 h hw 0 0 1 9 rfl rfl rfl co_9 (OpensW.str und_9)
  obtain ⟨a1, ⟨u, e1, hu⟩, h1, _⟩ := partAt Tryz.underlying51 h hw 1 1 1 48 rfl rfl rfl co_48 locs_open
  obtain ⟨a2, e2, _⟩ := partAt Tryz.underlying51 h hw 2 2 1 3 rfl rfl rfl co_3 int_open
  obtain ⟨a3, e3, _⟩ := partAt Tryz.underlying51 h hw 3 3 1 3 rfl rfl rfl co_3 int_open
  obtain ⟨a4, ⟨v, e4, hv⟩, h4, h5⟩ := partAt Tryz.underlying51 h hw 4 4 1 49 rfl rfl rfl co_49 blks_open
  clear h hw
  match cs, hl with
  | [c0, c1, c2, c3, c4], _ =>
    have g0 : [c0] = [Value.string a0] := e0
    have g1 : [c1] = [u] := e1
    have g2 : [c2] = [Value.int .i64 a2] := e2
    have g3 : [c3] = [Value.int .i64 a3] := e3
    have g4 : [c4] = [v] := e4
    simp only [List.cons.injEq, and_true] at g0 g1 g2 g3 g4
    subst g0 g1 g2 g3 g4
    exact ⟨⟨a0, a1, a2, a3, a4⟩, ⟨_, _, rfl, hu, hv⟩, h0, h1, h4, h5⟩
theorem funs_open {w : World} : OpensW Tryz.prog w 22 rdAF.slice (fun xs => xs.length ≤ 17592186044416 ∧ ∀ x ∈ xs, WideF x) := OpensW.slice Tryz.underlying22 co_51 by_51 fun_open
def rdAL : Rd AL where
  sz := 2
  rel h x cs := ∃ v, cs = [v, .int .i64 x.main] ∧ SlR rdAF h v x.funcs
  len := by rintro h x cs ⟨v, rfl, _⟩; rfl
  mono := by rintro h g x cs hs ⟨v, rfl, hv⟩; exact ⟨v, rfl, hv.mono hs⟩
theorem al_open {w : World} : OpensW Tryz.prog w 24 rdAL WideA := fun {H enc base spare held fuel cs x} h hw => by
  have hl := cells_len Tryz.underlying24 h
  rw [co_24] at hl
  obtain ⟨a0, ⟨u, e0, hu⟩, h0, h1⟩ := partAt Tryz.underlying24 h hw 0 0 1 22 rfl rfl rfl co_22 funs_open
  obtain ⟨a1, e1, _⟩ := partAt Tryz.underlying24 h hw 1 1 1 3 rfl rfl rfl co_3 int_open
  clear h hw
  match cs, hl with
  | [c0, c1], _ =>
    have g0 : [c0] = [u] := e0
    have g1 : [c1] = [Value.int .i64 a1] := e1
    simp only [List.cons.injEq, and_true] at g0 g1
    subst g0 g1
    exact ⟨⟨a0, a1⟩, ⟨_, rfl, hu⟩, h0, h1⟩
theorem weights_first {H : Type} {ts us : List TypeId} {ds gs : List (DataW H)} {t : TypeId} {d : DataW H} (h : (DataW.weightsEach Tryz.prog (t :: ts ++ us) (d :: ds ++ gs)).all (· ≤ reachBytes) = true) : ∀ m ∈ d.weights Tryz.prog t, m ≤ reachBytes := fun m hm => by
  have := List.all_eq_true.1 h m (DataW.weights_mem_each (j := 0) rfl rfl m hm)
  simpa using this
end Go.Proofs.YtfaokbjpinlcaaaGreat
end
