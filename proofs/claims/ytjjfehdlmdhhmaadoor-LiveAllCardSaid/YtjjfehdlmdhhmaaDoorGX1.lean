/- The library's swapping and rotating of ranges, at intervals; walked. -/
import Derived.Test.YtjjfehdlmdhhmaaDoorGL7
import Derived.Test.YtjjfehdlmdhhmaaDoorGT8
import Derived.Test.YtjjfehdlmdhhmaaDoorGT3
section
/- The library's swapping and rotating of ranges, at intervals; walked. -/
namespace Go.Proofs.YtjjfehdlmdhhmaaDoor
open Go.Sep
set_option linter.unusedSimpArgs false
set_option linter.unusedVariables false
attribute [local irreducible] blk slA mp mpF rows rowsBut many
section
variable {α : Type} (A B C : List α) (x y : α)
theorem two_get1 : (A ++ x :: (B ++ y :: C))[A.length]? = some x := by simp
theorem two_get2 : (A ++ x :: (B ++ y :: C))[A.length + 1 + B.length]? = some y := by
  rw [List.getElem?_append_right (by omega), show A.length + 1 + B.length - A.length = B.length + 1 by omega, List.getElem?_cons_succ, List.getElem?_append_right (Nat.le_refl _), Nat.sub_self]; rfl
theorem two_set : ((A ++ x :: (B ++ y :: C)).set A.length y).set (A.length + 1 + B.length) x = A ++ y :: (B ++ x :: C) := by
  rw [List.set_append_right _ _ (Nat.le_refl _), Nat.sub_self, List.set_cons_zero, List.set_append_right _ _ (by omega), show A.length + 1 + B.length - A.length = B.length + 1 by omega, List.set_cons_succ,
    List.set_append_right _ _ (Nat.le_refl _), Nat.sub_self, List.set_cons_zero]
end
/-- two ranges of one length, the first k of which have changed places -/
def swD (pre X M Y post : List Iv) (k : Nat) : List Iv := pre ++ ((Y.take k ++ X.drop k) ++ (M ++ ((X.take k ++ Y.drop k) ++ post)))
theorem swD_zero (pre X M Y post : List Iv) : swD pre X M Y post 0 = pre ++ (X ++ (M ++ (Y ++ post))) := by simp [swD]
theorem swD_all (pre X M Y post : List Iv) (h : X.length = Y.length) : swD pre X M Y post X.length = pre ++ (Y ++ (M ++ (X ++ post))) := by
  unfold swD
  rw [List.drop_length, List.take_length, h, List.take_length, List.drop_length]; simp
theorem drop_at {α : Type} {l : List α} {k : Nat} {x : α} (h : l[k]? = some x) : l.drop k = x :: l.drop (k + 1) := by
  obtain ⟨a, b⟩ := List.getElem?_eq_some_iff.1 h
  rw [List.drop_eq_getElem_cons a, b]
theorem take_at {α : Type} {l : List α} {k : Nat} {x : α} (h : l[k]? = some x) : l.take (k + 1) = l.take k ++ [x] := by rw [List.take_add_one, h]; rfl
theorem swD_step {pre X M Y post : List Iv} (h : X.length = Y.length) {k : Nat} {x y : Iv} (hx : X[k]? = some x) (hy : Y[k]? = some y) :
    (swD pre X M Y post k).length = pre.length + X.length + M.length + Y.length + post.length ∧ (swD pre X M Y post k)[pre.length + k]? = some x ∧ (swD pre X M Y post k)[pre.length + X.length + M.length + k]? = some y ∧
    ((swD pre X M Y post k).set (pre.length + k) y).set (pre.length + X.length + M.length + k) x = swD pre X M Y post (k + 1) := by
  have hk := (List.getElem?_eq_some_iff.1 hx).1
  have hk2 := (List.getElem?_eq_some_iff.1 hy).1
  have e : swD pre X M Y post k = (pre ++ Y.take k) ++ x :: ((X.drop (k + 1) ++ (M ++ X.take k)) ++ y :: (Y.drop (k + 1) ++ post)) := by
    unfold swD; rw [drop_at hx, drop_at hy]; simp
  have e2 : swD pre X M Y post (k + 1) = (pre ++ Y.take k) ++ y :: ((X.drop (k + 1) ++ (M ++ X.take k)) ++ x :: (Y.drop (k + 1) ++ post)) := by
    unfold swD; rw [take_at hx, take_at hy]; simp
  have l1 : (pre ++ Y.take k).length = pre.length + k := by simp; omega
  have l2 : (pre ++ Y.take k).length + 1 + (X.drop (k + 1) ++ (M ++ X.take k)).length = pre.length + X.length + M.length + k := by simp; omega
  rw [e, e2, ← l1, ← l2]
  exact ⟨by simp; omega, two_get1 _ _ _ _ _, two_get2 _ _ _ _ _, two_set _ _ _ _ _⟩
set_option maxHeartbeats 1000000 in
set_option maxRecDepth 100000 in
theorem swap_ok (hR : Heap) (sv : SV) (pre X M Y post : List Iv) (hxy : X.length = Y.length) (hl : pre.length + X.length + M.length + Y.length + post.length ≤ 1000000) :
    Tri Tryd.prog hR 110 #[sv.val, .int .i64 (pre.length : Int), .int .i64 ((pre.length + X.length + M.length : Nat) : Int), .int .i64 (X.length : Int), cmpF] [slA 62 encIv sv.val (pre ++ (X ++ (M ++ (Y ++ post))))] fun _ Γ' => Γ' = [slA 62 encIv sv.val (pre ++ (Y ++ (M ++ (X ++ post))))] := by
  refine Tri.ent (Tri.of (args := [sv.val, .int .i64 (pre.length : Int), .int .i64 ((pre.length + X.length + M.length : Nat) : Int), .int .i64 (X.length : Int), cmpF]) Tryd.func110 rfl Tryd.ntmps110 (by simp) ?_)
  refine Zp ?_
  refine Zm ?_
  refine Ze ?_
  refine WP.block ?_
  refine WP.trim [10, 0, 1, 2, 3] [0] ?_
  refine WP.loopC (α := Nat) (fun k => k ≤ X.length) (fun k => [(10, .int .i64 (k : Int))]) (fun k => [(0, slA 62 encIv sv.val (swD pre X M Y post k))]) (fun k => X.length - k) 0 (Nat.zero_le _) ?_ (he := by rw [swD_zero]; exact ent.gc)
  intro k hk
  refine WP.trim [10, 0, 1, 2, 3] [0] ?_
  refine WP.seq ?_
  refine Zp ?_
  refine Zm ?_
  refine Zm ?_
  refine Zi ?_
  refine Ze ?_
  refine WP.ite rfl (fun hlt => ?_) (fun hge => ?_)
  · refine Zb ?_
    obtain ⟨x, gx⟩ : ∃ x, X[k]? = some x := ⟨_, List.getElem?_eq_getElem (by omega)⟩
    obtain ⟨y, gy⟩ : ∃ y, Y[k]? = some y := ⟨_, List.getElem?_eq_getElem (by omega)⟩
    obtain ⟨h0, h1, h2, h3⟩ := swD_step (pre := pre) (M := M) (post := post) hxy gx gy
    generalize swD pre X M Y post k = D at h0 h1 h2 h3 ⊢
    have h2' : (D.set (pre.length + k) y)[pre.length + X.length + M.length + k]? = some y := by
      by_cases e : pre.length + k = pre.length + X.length + M.length + k
      · rw [← e, List.getElem?_set_self (by omega)]
      · rw [List.getElem?_set_ne e]; exact h2
    refine WP.seq ?_
    refine WP.block ?_
    refine WP.drawn0 cf0 mixed rfl (by kernel_rfl) ?_
    iterate 3 refine Zm ?_
    refine Za ?_
    iterate 3 refine Zm ?_
    refine Za ?_
    iterate 3 refine Zm ?_
    refine Za ?_
    refine Run.idxO 0 rfl rfl rfl sl_44 rfl rfl rfl rfl (by omega) (by omega) ?_
    refine Run.loadOagg 0 (pre.length + X.length + M.length + k) rfl rfl ag_62 rfl rfl rfl rfl rfl h2 ?_
    iterate 3 refine Zm ?_
    refine Za ?_
    refine Run.idxO 0 rfl rfl rfl sl_44 rfl rfl rfl rfl (by omega) (by omega) ?_
    refine Run.loadOagg 0 (pre.length + k) rfl rfl ag_62 rfl rfl rfl rfl rfl h1 ?_
    refine Run.idxO 0 rfl rfl rfl sl_44 rfl rfl rfl rfl (by omega) (by omega) ?_
    refine Run.storeO 0 (pre.length + k) 0 (y' := y) rfl rfl rfl rfl ag_62 rfl rfl rfl rfl h1 rfl rfl ?_
    refine Run.idxO 0 rfl rfl rfl sl_44 rfl rfl rfl rfl (by omega) (by rw [List.length_set]; omega) ?_
    refine Run.storeO 0 (pre.length + X.length + M.length + k) 0 (y' := x) rfl rfl rfl rfl ag_62 rfl rfl rfl rfl h2' rfl rfl ?_
    refine Run.nil ?_
    refine blk_norm ?_; refine thn_next ?_
    refine Zc ?_
    refine Zm ?_
    refine Za ?_
    refine Zm ?_
    refine Run.nil ?_
    exact thn_next ⟨k + 1, by omega, by omega, Ko.go, by rw [← h3]; exact ent.gc⟩
  · refine Zj ?_
    have ek : k = X.length := by omega
    subst ek
    exact retN [] [] rfl rfl ⟨_, by rw [swD_all _ _ _ _ _ hxy]; exact ent.gc, rfl⟩
set_option maxHeartbeats 1000000 in
set_option maxRecDepth 100000 in
theorem rot_ok (hR : Heap) (sv : SV) (pre U V post : List Iv) (hU : U ≠ []) (hV : V ≠ []) (hl : pre.length + U.length + V.length + post.length ≤ 1000000) :
    Tri Tryd.prog hR 103 #[sv.val, .int .i64 (pre.length : Int), .int .i64 ((pre.length + U.length : Nat) : Int), .int .i64 ((pre.length + U.length + V.length : Nat) : Int), cmpF] [slA 62 encIv sv.val (pre ++ (U ++ (V ++ post)))] fun _ Γ' => Γ' = [slA 62 encIv sv.val (pre ++ (V ++ (U ++ post)))] := by
  refine Tri.ent (Tri.of (args := [sv.val, .int .i64 (pre.length : Int), .int .i64 ((pre.length + U.length : Nat) : Int), .int .i64 ((pre.length + U.length + V.length : Nat) : Int), cmpF]) Tryd.func103 rfl Tryd.ntmps103 (by simp) ?_)
  have hU0 := List.length_pos_iff.2 hU
  have hV0 := List.length_pos_iff.2 hV
  refine Zp ?_
  refine Zm ?_
  refine Zm ?_
  refine Zs ?_
  refine Run.eqv (v' := .int .i64 (U.length : Int)) (by congr 1; omega) ?_
  refine Zm ?_
  refine Ze ?_
  refine Zp ?_
  refine Zm ?_
  refine Zm ?_
  refine Zs ?_
  refine Run.eqv (v' := .int .i64 (V.length : Int)) (by congr 1; omega) ?_
  refine Zm ?_
  refine Ze ?_
  refine WP.trim [10, 11, 0, 1, 2, 4] [0] ?_
  refine WP.meetC (α := List Iv × List Iv × List Iv × List Iv) (fun z => z.2.1.length = z.2.2.1.length ∧ z.1.length + z.2.1.length = U.length ∧ z.1 ++ (z.2.2.1 ++ (z.2.1 ++ z.2.2.2)) = V ++ U) (fun z => [(10, .int .i64 (z.2.1.length : Int)), (11, .int .i64 (z.2.2.1.length : Int))]) (fun z => [(0, slA 62 encIv sv.val (pre ++ (z.1 ++ (z.2.1 ++ (z.2.2.1 ++ (z.2.2.2 ++ post))))))]) ?_ ?_
  · refine WP.block ?_
    refine WP.loopC (α := List Iv × List Iv × List Iv × List Iv) (fun z => 0 < z.2.1.length ∧ 0 < z.2.2.1.length ∧ z.1.length + z.2.1.length = U.length ∧ z.1 ++ (z.2.2.1 ++ (z.2.1 ++ z.2.2.2)) = V ++ U) (fun z => [(10, .int .i64 (z.2.1.length : Int)), (11, .int .i64 (z.2.2.1.length : Int))]) (fun z => [(0, slA 62 encIv sv.val (pre ++ (z.1 ++ (z.2.1 ++ (z.2.2.1 ++ (z.2.2.2 ++ post))))))]) (fun z => z.2.1.length + z.2.2.1.length) ([], U, V, []) ⟨hU0, hV0, by simp, by simp⟩ ?_
    rintro ⟨A, X, Y, B⟩ ⟨hX0, hY0, hAX, hW⟩
    simp only at hX0 hY0 hAX hW
    have hWl := congrArg List.length hW
    simp only [List.length_append] at hWl
    refine WP.trim [10, 11, 0, 1, 2, 4] [0] ?_
    try simp only
    refine WP.seq ?_
    refine Zp ?_
    refine Zm ?_
    refine Zm ?_
    refine Zi ?_
    refine Ze ?_
    refine WP.ite rfl (fun hne => ?_) (fun heq => ?_)
    · refine Zb ?_
      refine WP.block ?_
      refine Zp ?_
      refine Zm ?_
      refine Zm ?_
      refine Zi ?_
      refine Ze ?_
      refine WP.ite rfl (fun hgt => ?_) (fun hle => ?_)
      · have hx1 : (X.take Y.length).length = Y.length := by simp; omega
        have hx2 : (X.drop Y.length).length = X.length - Y.length := by simp
        have hxx : X = X.take Y.length ++ X.drop Y.length := (List.take_append_drop _ _).symm
        generalize X.take Y.length = X1 at hx1 hxx
        generalize X.drop Y.length = X2 at hx2 hxx
        have hXl : X.length = X1.length + X2.length := by rw [hxx]; simp
        refine Zp ?_
        iterate 3 refine Zm ?_
        refine Zs ?_
        refine Run.eqv (v' := .int .i64 (((pre ++ A).length : Nat) : Int)) (by congr 1; simp; omega) ?_
        refine Zm ?_
        refine Run.eqv (v' := .int .i64 (((pre ++ A).length + X1.length + X2.length : Nat) : Int)) (by congr 1; simp; omega) ?_
        refine Zm ?_
        refine Run.eqv (v' := .int .i64 (X1.length : Int)) (by rw [hx1]) ?_
        refine Zm ?_
        refine Run.via (Γ' := [slA 62 encIv sv.val ((pre ++ A) ++ (X1 ++ (X2 ++ (Y ++ (B ++ post)))))]) (by rw [hxx]; simp only [List.append_assoc]; exact ent.refl _) ?_; refine Run.callP [0] ok_110 (swap_ok hR sv (pre ++ A) X1 X2 Y (B ++ post) hx1 (by simp; omega)) ?_; rintro _ _ rfl
        refine Ze ?_
        refine Zc ?_
        refine Zm ?_
        refine Zm ?_
        refine Zs ?_
        refine Run.eqv (v' := .int .i64 (X2.length : Int)) (by congr 1; omega) ?_
        refine Zm ?_
        refine Run.nil ?_
        refine blk_norm ?_
        refine thn_next ⟨(A ++ Y, X2, X1, B), ⟨by simp only; omega, by simp only; omega, by simp only [List.length_append]; omega, by simp only; rw [← hW, hxx]; simp⟩, by simp only; omega, Ko.go ⟨rfl, by rw [show (((A ++ Y, X2, X1, B) : List Iv × List Iv × List Iv × List Iv).2.2.1.length : Int) = (Y.length : Int) by simp only; omega]; rfl, trivial⟩, ?_⟩
        simp only [List.append_assoc]; exact ent.gc
      · have hle' : X.length < Y.length := by omega
        have hy1 : (Y.take (Y.length - X.length)).length = Y.length - X.length := by simp
        have hy2 : (Y.drop (Y.length - X.length)).length = X.length := by simp; omega
        have hyy : Y = Y.take (Y.length - X.length) ++ Y.drop (Y.length - X.length) := (List.take_append_drop _ _).symm
        generalize Y.take (Y.length - X.length) = Y1 at hy1 hyy
        generalize Y.drop (Y.length - X.length) = Y2 at hy2 hyy
        have hYl : Y.length = Y1.length + Y2.length := by rw [hyy]; simp
        refine Zp ?_
        iterate 3 refine Zm ?_
        refine Zs ?_
        refine Run.eqv (v' := .int .i64 (((pre ++ A).length : Nat) : Int)) (by congr 1; simp; omega) ?_
        refine Zm ?_
        refine Zm ?_
        refine Za ?_
        refine Zm ?_
        refine Zs ?_
        refine Run.eqv (v' := .int .i64 (((pre ++ A).length + X.length + Y1.length : Nat) : Int)) (by congr 1; simp; omega) ?_
        refine Zm ?_
        refine Zm ?_
        refine Run.via (Γ' := [slA 62 encIv sv.val ((pre ++ A) ++ (X ++ (Y1 ++ (Y2 ++ (B ++ post)))))]) (by rw [hyy]; simp only [List.append_assoc]; exact ent.refl _) ?_; refine Run.callP [0] ok_110 (swap_ok hR sv (pre ++ A) X Y1 Y2 (B ++ post) hy2.symm (by simp; omega)) ?_; rintro _ _ rfl
        refine Ze ?_
        refine Zc ?_
        refine Zm ?_
        refine Zm ?_
        refine Zs ?_
        refine Run.eqv (v' := .int .i64 (Y1.length : Int)) (by congr 1; omega) ?_
        refine Zm ?_
        refine Run.nil ?_
        refine blk_norm ?_
        refine thn_next ⟨(A, Y2, Y1, X ++ B), ⟨by simp only; omega, by simp only; omega, by simp only; omega, by simp only; rw [← hW, hyy]; simp⟩, by simp only; omega, Ko.go ⟨by rw [show (((A, Y2, Y1, X ++ B) : List Iv × List Iv × List Iv × List Iv).2.1.length : Int) = (X.length : Int) by simp only; omega]; rfl, rfl, trivial⟩, ?_⟩
        simp only [List.append_assoc]; exact ent.gc
    · refine Zj ?_
      exact thn_next ⟨(A, X, Y, B), ⟨by simp only; omega, hAX, hW⟩, Ko.go, ent.gc⟩
  rintro ⟨A, X, Y, B⟩ ⟨hXY, hAX, hW⟩
  simp only at hXY hAX hW
  have hWl := congrArg List.length hW
  simp only [List.length_append] at hWl
  refine WP.trim [10, 11, 0, 1, 2, 4] [0] ?_
  try simp only
  refine Zc ?_
  iterate 3 refine Zm ?_
  refine Zs ?_
  refine Run.eqv (v' := .int .i64 (((pre ++ A).length : Nat) : Int)) (by congr 1; simp; omega) ?_
  refine Zm ?_
  refine Run.eqv (v' := .int .i64 (((pre ++ A).length + X.length + ([] : List Iv).length : Nat) : Int)) (by congr 1; simp; omega) ?_
  refine Zm ?_
  refine Zm ?_
  refine Run.via (Γ' := [slA 62 encIv sv.val ((pre ++ A) ++ (X ++ ([] ++ (Y ++ (B ++ post)))))]) (by simp only [List.append_assoc, List.nil_append]; exact ent.refl _) ?_; refine Run.callP [0] ok_110 (swap_ok hR sv (pre ++ A) X [] Y (B ++ post) hXY (by simp; omega)) ?_; rintro _ _ rfl
  refine Run.nil ?_
  have e : (pre ++ A) ++ (Y ++ ([] ++ (X ++ (B ++ post)))) = pre ++ (V ++ (U ++ post)) := by
    have := congrArg (fun l => pre ++ (l ++ post)) hW
    simpa using this
  exact retN [] [] rfl rfl ⟨_, by rw [e]; exact ent.gc, rfl⟩
end Go.Proofs.YtjjfehdlmdhhmaaDoor
end
section
/- Merging two sorted lists, plain. -/
namespace Go.Proofs.YtjjfehdlmdhhmaaDoor
open Go.Sep
set_option linter.unusedSimpArgs false
set_option linter.unusedVariables false
theorem mem_take_ix {α : Type} {l : List α} {k : Nat} {x : α} (h : x ∈ l.take k) : ∃ i, i < k ∧ l[i]? = some x := by
  obtain ⟨i, hi⟩ := List.getElem?_of_mem h
  rw [List.getElem?_take] at hi
  split at hi
  · rename_i hk; exact ⟨i, hk, hi⟩
  · cases hi
theorem mem_drop_ix {α : Type} {l : List α} {k : Nat} {x : α} (h : x ∈ l.drop k) : ∃ i, k ≤ i ∧ l[i]? = some x := by
  obtain ⟨i, hi⟩ := List.getElem?_of_mem h
  rw [List.getElem?_drop] at hi
  exact ⟨k + i, by omega, hi⟩
theorem fr_le {L : List Iv} (h : L.Pairwise ltV) {i j : Nat} {x y : Iv} (hij : i ≤ j) (hi : L[i]? = some x) (hj : L[j]? = some y) : x.fr ≤ y.fr := by
  rcases Nat.eq_or_lt_of_le hij with e | e
  · subst e; rw [hi] at hj; cases hj; exact Int.le_refl _
  · obtain ⟨a1, e1⟩ := List.getElem?_eq_some_iff.1 hi
    obtain ⟨a2, e2⟩ := List.getElem?_eq_some_iff.1 hj
    have := List.pairwise_iff_getElem.1 h i j a1 a2 e
    rw [e1, e2] at this
    unfold ltV at this; omega
theorem pair_ins {l : List Iv} (h : l.Pairwise ltV) {k : Nat} {x : Iv} (h1 : ∀ y ∈ l.take k, ltV y x) (h2 : ∀ y ∈ l.drop k, ltV x y) : (l.take k ++ x :: l.drop k).Pairwise ltV := by
  have h' : (l.take k ++ l.drop k).Pairwise ltV := by rw [List.take_append_drop]; exact h
  rw [List.pairwise_append] at h' ⊢
  refine ⟨h'.1, List.pairwise_cons.2 ⟨h2, h'.2.1⟩, fun a ha b hb => ?_⟩
  rcases List.mem_cons.1 hb with e | hb
  · subst e; exact h1 a ha
  · exact h'.2.2 a ha b hb
theorem perm_ins {l : List Iv} {k : Nat} {x : Iv} : (l.take k ++ x :: l.drop k).Perm (x :: l) := by
  have : (l.take k ++ x :: l.drop k).Perm (x :: (l.take k ++ l.drop k)) := List.perm_middle
  rw [List.take_append_drop] at this; exact this
/-- the place at which the one on the left may stand -/
theorem ins_left {x : Iv} {R : List Iv} (hR : R.Pairwise ltV) (hr : ∀ y ∈ R, x.reg < y.reg) {k : Nat} (hk : k ≤ R.length) (h1 : k = 0 ∨ ∃ y, R[k - 1]? = some y ∧ y.fr < x.fr) (h2 : k = R.length ∨ ∃ y, R[k]? = some y ∧ ¬ y.fr < x.fr) : (R.take k ++ x :: R.drop k).Pairwise ltV := by
  refine pair_ins hR (fun y hy => ?_) (fun y hy => ?_)
  · obtain ⟨i, hi, gi⟩ := mem_take_ix hy
    rcases h1 with e | ⟨z, gz, hz⟩
    · omega
    · have := fr_le hR (show i ≤ k - 1 by omega) gi gz
      exact .inl (by omega)
  · obtain ⟨i, hi, gi⟩ := mem_drop_ix hy
    have hi2 := (List.getElem?_eq_some_iff.1 gi).1
    rcases h2 with e | ⟨z, gz, hz⟩
    · omega
    · have := fr_le hR hi gz gi
      have := hr y (List.mem_of_getElem? gi)
      unfold ltV; omega
/-- the place at which the one on the right may stand -/
theorem ins_right {y : Iv} {L : List Iv} (hL : L.Pairwise ltV) (hr : ∀ x ∈ L, x.reg < y.reg) {k : Nat} (hk : k ≤ L.length) (h1 : k = 0 ∨ ∃ x, L[k - 1]? = some x ∧ ¬ y.fr < x.fr) (h2 : k = L.length ∨ ∃ x, L[k]? = some x ∧ y.fr < x.fr) : (L.take k ++ y :: L.drop k).Pairwise ltV := by
  refine pair_ins hL (fun x hx => ?_) (fun x hx => ?_)
  · obtain ⟨i, hi, gi⟩ := mem_take_ix hx
    rcases h1 with e | ⟨z, gz, hz⟩
    · omega
    · have := fr_le hL (show i ≤ k - 1 by omega) gi gz
      have := hr x (List.mem_of_getElem? gi)
      unfold ltV; omega
  · obtain ⟨i, hi, gi⟩ := mem_drop_ix hx
    have hi2 := (List.getElem?_eq_some_iff.1 gi).1
    rcases h2 with e | ⟨z, gz, hz⟩
    · omega
    · have := fr_le hL hi gz gi
      exact .inl (by omega)
/-- both are cut, and the inner parts change places -/
theorem cut_merge {L R : List Iv} (hL : L.Pairwise ltV) (hR : R.Pairwise ltV) (hr : ∀ x ∈ L, ∀ y ∈ R, x.reg < y.reg) {s q : Nat} (hs : s ≤ L.length) (hq : q ≤ R.length)
    (hA : s = 0 ∨ q = R.length ∨ ∃ x y, L[s - 1]? = some x ∧ R[q]? = some y ∧ ¬ y.fr < x.fr) (hB : s = L.length ∨ q = 0 ∨ ∃ x y, L[s]? = some x ∧ R[q - 1]? = some y ∧ y.fr < x.fr)
    {Z1 Z2 : List Iv} (p1 : Z1.Perm (L.take s ++ R.take q)) (s1 : Z1.Pairwise ltV) (p2 : Z2.Perm (L.drop s ++ R.drop q)) (s2 : Z2.Pairwise ltV) : (Z1 ++ Z2).Perm (L ++ R) ∧ (Z1 ++ Z2).Pairwise ltV := by
  have hL' : (L.take s ++ L.drop s).Pairwise ltV := by rw [List.take_append_drop]; exact hL
  have hR' : (R.take q ++ R.drop q).Pairwise ltV := by rw [List.take_append_drop]; exact hR
  rw [List.pairwise_append] at hL' hR'
  refine ⟨?_, List.pairwise_append.2 ⟨s1, s2, fun a ha b hb => ?_⟩⟩
  · have h1 : ((L.take s ++ R.take q) ++ (L.drop s ++ R.drop q)).Perm ((L.take s ++ L.drop s) ++ (R.take q ++ R.drop q)) := by
      simp only [List.append_assoc]
      refine List.Perm.append_left _ ?_
      rw [← List.append_assoc, ← List.append_assoc]
      exact List.Perm.append_right _ List.perm_append_comm
    rw [List.take_append_drop, List.take_append_drop] at h1
    exact (List.Perm.append p1 p2).trans h1
  · have ha := p1.mem_iff.1 ha
    have hb := p2.mem_iff.1 hb
    rw [List.mem_append] at ha hb
    rcases ha with ha | ha <;> rcases hb with hb | hb
    · exact hL'.2.2 a ha b hb
    · obtain ⟨i, hi, gi⟩ := mem_take_ix ha
      obtain ⟨j, hj, gj⟩ := mem_drop_ix hb
      have hj2 := (List.getElem?_eq_some_iff.1 gj).1
      rcases hA with e | e | ⟨x, y, gx, gy, h⟩
      · omega
      · omega
      · have := fr_le hL (show i ≤ s - 1 by omega) gi gx
        have := fr_le hR hj gy gj
        have := hr a (List.mem_of_getElem? gi) b (List.mem_of_getElem? gj)
        unfold ltV; omega
    · obtain ⟨i, hi, gi⟩ := mem_take_ix ha
      obtain ⟨j, hj, gj⟩ := mem_drop_ix hb
      have hj2 := (List.getElem?_eq_some_iff.1 gj).1
      rcases hB with e | e | ⟨x, y, gx, gy, h⟩
      · omega
      · omega
      · have := fr_le hR (show i ≤ q - 1 by omega) gi gy
        have := fr_le hL hj gx gj
        exact .inl (by omega)
    · exact hR'.2.2 a ha b hb
theorem half_shr (s : Nat) : shiftR .shr .u64 (s : Int) 1 = some (.int .u64 ((s / 2 : Nat) : Int)) := by
  unfold shiftR
  have h1 : (min (1 : Int).toNat IntKind.u64.bits) = 1 := by decide
  simp only [show ¬ (1 : Int) < 0 by decide, if_false, h1, Int.pow_one]
  congr 2
  rw [Int.fdiv_eq_ediv_of_nonneg _ (by decide)]; rfl
end Go.Proofs.YtjjfehdlmdhhmaaDoor
end
section
/- The library's merge of two sorted ranges, at intervals; walked. -/
namespace Go.Proofs.YtjjfehdlmdhhmaaDoor
open Go.Sep
set_option linter.unusedSimpArgs false
set_option linter.unusedVariables false
attribute [local irreducible] blk slA mp mpF rows rowsBut many
theorem und_140 : Tryd.prog.underlying 140 = some (.int .u64) := by kernel_rfl
theorem adj_step (A C : List Iv) (x y : Iv) {D : List Iv} (hD : D = A ++ x :: y :: C) {n : Nat} (hn : A.length = n) : D.length = n + 2 + C.length ∧ D[n]? = some x ∧ D[n + 1]? = some y ∧ (D.set n y)[n + 1]? = some y ∧ (D.set n y).set (n + 1) x = A ++ y :: x :: C ∧
    (D.set (n + 1) x)[n]? = some x ∧ (D.set (n + 1) x).set n y = A ++ y :: x :: C := by
  subst hD hn
  have h1 := two_get1 A [] C x y
  have h2 := two_get2 A [] C x y
  have h3 := two_set A [] C x y
  simp only [List.nil_append, List.length_nil, Nat.add_zero] at h1 h2 h3
  refine ⟨by simp; omega, h1, h2, by rw [List.getElem?_set_ne (by omega)]; exact h2, h3, by rw [List.getElem?_set_ne (by omega)]; exact h1, ?_⟩
  rw [List.set_comm _ _ (by omega)]; exact h3
set_option maxHeartbeats 4000000 in
set_option maxRecDepth 100000 in
theorem sym_ok (hR : Heap) (sv : SV) : ∀ (N : Nat) (pre L R post : List Iv), L.length + R.length ≤ N → L ≠ [] → R ≠ [] → L.Pairwise ltV → R.Pairwise ltV → (∀ x ∈ L, ∀ y ∈ R, x.reg < y.reg) → (∀ x ∈ L, smallV x) → (∀ x ∈ R, smallV x) →
    pre.length + L.length + R.length + post.length ≤ 1000000 →
    Tri Tryd.prog hR 90 #[sv.val, .int .i64 (pre.length : Int), .int .i64 ((pre.length + L.length : Nat) : Int), .int .i64 ((pre.length + L.length + R.length : Nat) : Int), cmpF] [slA 62 encIv sv.val (pre ++ (L ++ (R ++ post)))]
      fun _ Γ' => ∃ Z : List Iv, Z.Perm (L ++ R) ∧ Z.Pairwise ltV ∧ Γ' = [slA 62 encIv sv.val (pre ++ (Z ++ post))] := by
  intro N
  induction N with
  | zero => intro pre L R post h hL; exact absurd (List.length_pos_iff.2 hL) (by omega)
  | succ N ih =>
  intro pre L R post hN hL hR' sL sR hreg smL smR hl
  have hL0 := List.length_pos_iff.2 hL
  have hR0 := List.length_pos_iff.2 hR'
  have gL : ∀ (i : Nat) (x : Iv), L[i]? = some x → (pre ++ (L ++ (R ++ post)))[pre.length + i]? = some x := fun i x h => by
    have := (List.getElem?_eq_some_iff.1 h).1
    rw [List.getElem?_append_right (by omega), Nat.add_sub_cancel_left, List.getElem?_append_left this]; exact h
  have gR : ∀ (j : Nat) (y : Iv), R[j]? = some y → (pre ++ (L ++ (R ++ post)))[pre.length + L.length + j]? = some y := fun j y h => by
    have := (List.getElem?_eq_some_iff.1 h).1
    rw [List.getElem?_append_right (by omega), show pre.length + L.length + j - pre.length = L.length + j by omega, List.getElem?_append_right (by omega), Nat.add_sub_cancel_left, List.getElem?_append_left this]; exact h
  have gl : (pre ++ (L ++ (R ++ post))).length = pre.length + L.length + R.length + post.length := by simp; omega
  refine Tri.ent (Tri.of (args := [sv.val, .int .i64 (pre.length : Int), .int .i64 ((pre.length + L.length : Nat) : Int), .int .i64 ((pre.length + L.length + R.length : Nat) : Int), cmpF]) Tryd.func90 rfl Tryd.ntmps90 (by simp) ?_)
  generalize hD : pre ++ (L ++ (R ++ post)) = D at gL gR gl ⊢
  refine WP.trim [0, 1, 2, 3, 4] [0] ?_
  refine WP.meetC (α := Unit) (fun _ => L.length ≠ 1) (fun _ => []) (fun _ => []) ?_ ?_
  · refine Zp ?_
    refine Zm ?_
    refine Zm ?_
    refine Zs ?_
    refine Zi ?_
    refine Ze ?_
    refine WP.ite rfl (fun h1 => ?_) (fun h1 => ?_)
    · have hl1 : L.length = 1 := by omega
      obtain ⟨x, eL⟩ := List.length_eq_one_iff.1 hl1
      have gx0 : L[0]? = some x := by rw [eL]; rfl
      have gx := gL 0 x gx0
      have hxs := smL x (by rw [eL]; simp)
      have hxr : ∀ y ∈ R, x.reg < y.reg := fun y hy => hreg x (by rw [eL]; simp) y hy
      refine Zp ?_
      refine Zm ?_
      refine Zm ?_
      refine Ze ?_
      refine Zp ?_
      refine Zm ?_
      refine Zm ?_
      refine Ze ?_
      refine WP.trim [10, 11, 0, 1, 2, 3, 4] [0] ?_
      refine WP.meetC (α := Nat) (fun k => k ≤ R.length ∧ (k = 0 ∨ ∃ y, R[k - 1]? = some y ∧ y.fr < x.fr) ∧ (k = R.length ∨ ∃ y, R[k]? = some y ∧ ¬ y.fr < x.fr)) (fun k => [(10, .int .i64 ((pre.length + L.length + k : Nat) : Int)), (11, .int .i64 ((pre.length + L.length + k : Nat) : Int))]) (fun _ => []) ?_ ?_
      · refine WP.block ?_
        refine WP.loopC (α := Nat × Nat) (fun z => z.1 ≤ z.2 ∧ z.2 ≤ R.length ∧ (z.1 = 0 ∨ ∃ y, R[z.1 - 1]? = some y ∧ y.fr < x.fr) ∧ (z.2 = R.length ∨ ∃ y, R[z.2]? = some y ∧ ¬ y.fr < x.fr)) (fun z => [(10, .int .i64 ((pre.length + L.length + z.1 : Nat) : Int)), (11, .int .i64 ((pre.length + L.length + z.2 : Nat) : Int))]) (fun _ => []) (fun z => z.2 - z.1) (0, R.length) ⟨Nat.zero_le _, Nat.le_refl _, .inl rfl, .inl rfl⟩ ?_
        rintro ⟨i, j⟩ ⟨hij, hjr, hi, hj⟩
        simp only at hij hjr hi hj
        refine WP.trim [10, 11, 0, 1, 2, 3, 4] [0] ?_
        try simp only
        refine WP.seq ?_
        refine Zp ?_
        refine Zm ?_
        refine Zm ?_
        refine Zi ?_
        refine Ze ?_
        refine WP.ite rfl (fun hlt => ?_) (fun hge => ?_)
        · refine Zb ?_
          obtain ⟨c, hc⟩ : ∃ c, c = (i + j) / 2 := ⟨_, rfl⟩
          obtain ⟨y, gy⟩ : ∃ y, R[c]? = some y := ⟨_, List.getElem?_eq_getElem (by omega)⟩
          have gy2 := gR c y gy
          refine WP.block ?_
          refine Zp ?_
          refine Zm ?_
          refine Zm ?_
          refine Za ?_
          refine Run.eqv (v' := .int .i64 ((2 * (pre.length + L.length) + i + j : Nat) : Int)) (by congr 1; omega) ?_
          refine Run.conv rfl rfl und_3 und_140 rfl rfl ?_
          refine Run.eqv (v' := .int .u64 ((2 * (pre.length + L.length) + i + j : Nat) : Int)) (by rw [wrap_u64 (by omega)]) ?_
          refine Run.shift rfl rfl rfl (half_shr _) rfl rfl ?_
          refine Run.conv rfl rfl und_140 und_3 rfl rfl ?_
          refine Run.eqv (v' := .int .i64 ((pre.length + L.length + c : Nat) : Int)) (by rw [wrapI (by omega) (by omega)]; congr 1; omega) ?_
          refine Zm ?_
          refine Ze ?_
          refine WP.seq ?_
          refine WP.drawn0 cf0 mixed rfl (by kernel_rfl) ?_
          iterate 3 refine Zm ?_
          refine Run.idxO 0 rfl rfl rfl sl_44 rfl rfl rfl rfl (by omega) (by omega) ?_
          refine Run.loadOagg 0 (pre.length + L.length + c) rfl rfl ag_62 rfl rfl rfl rfl rfl gy2 ?_
          refine Zm ?_
          refine Zm ?_
          refine Run.idxO 0 rfl rfl rfl sl_44 rfl rfl rfl rfl (by omega) (by omega) ?_
          refine Run.loadOagg 0 (pre.length + 0) rfl rfl ag_62 rfl rfl rfl rfl rfl gx ?_
          refine Run.callP [] ok_45 (cmp_ok hR y x (smR y (List.mem_of_getElem? gy)) hxs) ?_; rintro _ _ ⟨rfl, rfl⟩
          refine Zi ?_
          refine Ze ?_
          refine WP.ite rfl (fun hcm => ?_) (fun hcm => ?_)
          · refine Zc ?_
            refine Zm ?_
            refine Za ?_
            refine Zm ?_
            refine Run.nil ?_
            refine blk_norm ?_
            exact thn_next ⟨(c + 1, j), ⟨by simp only; omega, hjr, .inr ⟨y, gy, by omega⟩, hj⟩, by simp only; omega, Ko.go, ent.gc⟩
          · refine Zc ?_
            refine Zm ?_
            refine Zm ?_
            refine Run.nil ?_
            refine blk_norm ?_
            exact thn_next ⟨(i, c), ⟨by simp only; omega, by simp only; omega, hi, .inr ⟨y, gy, by omega⟩⟩, by simp only; omega, Ko.go, ent.gc⟩
        · refine Zj ?_
          have e : i = j := by omega
          subst e
          exact thn_next ⟨i, ⟨hjr, hi, hj⟩, Ko.go, ent.gc⟩
      rintro k ⟨hk, hk1, hk2⟩
      refine WP.trim [10, 0, 1, 2, 3, 4] [0] ?_
      refine WP.meetC (α := Nat) (fun _ => True) (fun t => [(13, .int .i64 (t : Int))]) (fun _ => [(0, slA 62 encIv sv.val (pre ++ ((R.take k ++ x :: R.drop k) ++ post)))]) ?_ ?_
      · refine Zp ?_
        refine Zm ?_
        refine Zm ?_
        refine Ze ?_
        refine WP.trim [13, 10, 0, 1, 2, 3, 4] [0] ?_
        refine WP.block ?_
        refine WP.loopC (α := Nat) (fun t => t ≤ k) (fun t => [(13, .int .i64 ((pre.length + t : Nat) : Int))]) (fun t => [(0, slA 62 encIv sv.val (pre ++ ((R.take t ++ x :: R.drop t) ++ post)))]) (fun t => k - t) 0 (Nat.zero_le _) ?_ (he := by rw [← hD, eL]; exact ent.gc)
        intro t ht
        refine WP.trim [13, 10, 0, 1, 2, 3, 4] [0] ?_
        refine WP.seq ?_
        refine Zp ?_
        refine Zm ?_
        refine Zm ?_
        refine Zs ?_
        refine Zi ?_
        refine Ze ?_
        refine WP.ite rfl (fun hlt => ?_) (fun hge => ?_)
        · refine Zb ?_
          obtain ⟨y, gy⟩ : ∃ y, R[t]? = some y := ⟨_, List.getElem?_eq_getElem (by omega)⟩
          have e1 : pre ++ ((R.take t ++ x :: R.drop t) ++ post) = (pre ++ R.take t) ++ x :: y :: (R.drop (t + 1) ++ post) := by rw [drop_at gy]; simp
          have e2 : pre ++ ((R.take (t + 1) ++ x :: R.drop (t + 1)) ++ post) = (pre ++ R.take t) ++ y :: x :: (R.drop (t + 1) ++ post) := by rw [take_at gy]; simp
          obtain ⟨f0, f1, f2, f3, f4, _, _⟩ := adj_step _ _ _ _ e1 (n := pre.length + t) (by simp; omega)
          rw [← e2] at f4
          generalize pre ++ ((R.take t ++ x :: R.drop t) ++ post) = E at f0 f1 f2 f3 f4 ⊢
          refine WP.seq ?_
          refine WP.block ?_
          refine WP.drawn0 cf0 mixed rfl (by kernel_rfl) ?_
          iterate 4 refine Zm ?_
          refine Za ?_
          refine Zm ?_
          refine Zm ?_
          refine Za ?_
          refine Run.idxO 0 rfl rfl rfl sl_44 rfl rfl rfl rfl (by omega) (by omega) ?_
          refine Run.loadOagg 0 (pre.length + t + 1) rfl rfl ag_62 rfl rfl rfl rfl rfl f2 ?_
          refine Zm ?_
          refine Zm ?_
          refine Run.idxO 0 rfl rfl rfl sl_44 rfl rfl rfl rfl (by omega) (by omega) ?_
          refine Run.loadOagg 0 (pre.length + t) rfl rfl ag_62 rfl rfl rfl rfl rfl f1 ?_
          refine Run.idxO 0 rfl rfl rfl sl_44 rfl rfl rfl rfl (by omega) (by omega) ?_
          refine Run.storeO 0 (pre.length + t) 0 (y' := y) rfl rfl rfl rfl ag_62 rfl rfl rfl rfl f1 rfl rfl ?_
          refine Run.idxO 0 rfl rfl rfl sl_44 rfl rfl rfl rfl (by omega) (by rw [List.length_set]; omega) ?_
          refine Run.storeO 0 (pre.length + t + 1) 0 (y' := x) rfl rfl rfl rfl ag_62 rfl rfl rfl rfl f3 rfl rfl ?_
          refine Run.nil ?_
          refine blk_norm ?_; refine thn_next ?_
          refine Zc ?_
          refine Zm ?_
          refine Za ?_
          refine Zm ?_
          refine Run.nil ?_
          exact thn_next ⟨t + 1, by omega, by omega, Ko.go, by rw [← f4]; exact ent.gc⟩
        · refine Zj ?_
          have e : t = k := by omega
          subst e
          exact thn_next ⟨pre.length + t, trivial, Ko.go, ent.gc⟩
      rintro t _
      refine WP.ret ?_; refine thn_ret ?_
      exact retT [] [] rfl rfl ⟨_, ent.gc, _, by rw [eL]; exact perm_ins, ins_left sR hxr hk hk1 hk2, rfl⟩
    · refine WP.skip ?_
      exact thn_next ⟨(), by omega, Ko.go, ent.gc⟩
  rintro _ hL1
  refine WP.trim [0, 1, 2, 3, 4] [0] ?_
  refine WP.meetC (α := Unit) (fun _ => R.length ≠ 1) (fun _ => []) (fun _ => []) ?_ ?_
  · refine Zp ?_
    refine Zm ?_
    refine Zm ?_
    refine Zs ?_
    refine Zi ?_
    refine Ze ?_
    refine WP.ite rfl (fun h1 => ?_) (fun h1 => ?_)
    · have hr1 : R.length = 1 := by omega
      obtain ⟨y, eR⟩ := List.length_eq_one_iff.1 hr1
      have gy0 : R[0]? = some y := by rw [eR]; rfl
      have gy := gR 0 y gy0
      have hys := smR y (by rw [eR]; simp)
      have hyr : ∀ x ∈ L, x.reg < y.reg := fun x hx => hreg x hx y (by rw [eR]; simp)
      refine Zp ?_
      refine Zm ?_
      refine Zm ?_
      refine Ze ?_
      refine Zp ?_
      refine Zm ?_
      refine Zm ?_
      refine Ze ?_
      refine WP.trim [14, 15, 0, 1, 2, 3, 4] [0] ?_
      refine WP.meetC (α := Nat) (fun k => k ≤ L.length ∧ (k = 0 ∨ ∃ x, L[k - 1]? = some x ∧ ¬ y.fr < x.fr) ∧ (k = L.length ∨ ∃ x, L[k]? = some x ∧ y.fr < x.fr)) (fun k => [(14, .int .i64 ((pre.length + k : Nat) : Int)), (15, .int .i64 ((pre.length + k : Nat) : Int))]) (fun _ => []) ?_ ?_
      · refine WP.block ?_
        refine WP.loopC (α := Nat × Nat) (fun z => z.1 ≤ z.2 ∧ z.2 ≤ L.length ∧ (z.1 = 0 ∨ ∃ x, L[z.1 - 1]? = some x ∧ ¬ y.fr < x.fr) ∧ (z.2 = L.length ∨ ∃ x, L[z.2]? = some x ∧ y.fr < x.fr)) (fun z => [(14, .int .i64 ((pre.length + z.1 : Nat) : Int)), (15, .int .i64 ((pre.length + z.2 : Nat) : Int))]) (fun _ => []) (fun z => z.2 - z.1) (0, L.length) ⟨Nat.zero_le _, Nat.le_refl _, .inl rfl, .inl rfl⟩ ?_
        rintro ⟨i, j⟩ ⟨hij, hjr, hi, hj⟩
        simp only at hij hjr hi hj
        refine WP.trim [14, 15, 0, 1, 2, 3, 4] [0] ?_
        try simp only
        refine WP.seq ?_
        refine Zp ?_
        refine Zm ?_
        refine Zm ?_
        refine Zi ?_
        refine Ze ?_
        refine WP.ite rfl (fun hlt => ?_) (fun hge => ?_)
        · refine Zb ?_
          obtain ⟨c, hc⟩ : ∃ c, c = (i + j) / 2 := ⟨_, rfl⟩
          obtain ⟨x, gx⟩ : ∃ x, L[c]? = some x := ⟨_, List.getElem?_eq_getElem (by omega)⟩
          have gx2 := gL c x gx
          refine WP.block ?_
          refine Zp ?_
          refine Zm ?_
          refine Zm ?_
          refine Za ?_
          refine Run.eqv (v' := .int .i64 ((2 * pre.length + i + j : Nat) : Int)) (by congr 1; omega) ?_
          refine Run.conv rfl rfl und_3 und_140 rfl rfl ?_
          refine Run.eqv (v' := .int .u64 ((2 * pre.length + i + j : Nat) : Int)) (by rw [wrap_u64 (by omega)]) ?_
          refine Run.shift rfl rfl rfl (half_shr _) rfl rfl ?_
          refine Run.conv rfl rfl und_140 und_3 rfl rfl ?_
          refine Run.eqv (v' := .int .i64 ((pre.length + c : Nat) : Int)) (by rw [wrapI (by omega) (by omega)]; congr 1; omega) ?_
          refine Zm ?_
          refine Ze ?_
          refine WP.seq ?_
          refine WP.drawn0 cf0 mixed rfl (by kernel_rfl) ?_
          iterate 3 refine Zm ?_
          refine Run.idxO 0 rfl rfl rfl sl_44 rfl rfl rfl rfl (by omega) (by omega) ?_
          refine Run.loadOagg 0 (pre.length + L.length + 0) rfl rfl ag_62 rfl rfl rfl rfl rfl gy ?_
          refine Zm ?_
          refine Zm ?_
          refine Run.idxO 0 rfl rfl rfl sl_44 rfl rfl rfl rfl (by omega) (by omega) ?_
          refine Run.loadOagg 0 (pre.length + c) rfl rfl ag_62 rfl rfl rfl rfl rfl gx2 ?_
          refine Run.callP [] ok_45 (cmp_ok hR y x hys (smL x (List.mem_of_getElem? gx))) ?_; rintro _ _ ⟨rfl, rfl⟩
          refine Zi ?_
          refine Run.bnot rfl rfl rfl rfl ?_
          refine Ze ?_
          refine WP.ite rfl (fun hcm => ?_) (fun hcm => ?_)
          · refine Zc ?_
            refine Zm ?_
            refine Za ?_
            refine Zm ?_
            refine Run.nil ?_
            refine blk_norm ?_
            exact thn_next ⟨(c + 1, j), ⟨by simp only; omega, hjr, .inr ⟨x, gx, by omega⟩, hj⟩, by simp only; omega, Ko.go, ent.gc⟩
          · refine Zc ?_
            refine Zm ?_
            refine Zm ?_
            refine Run.nil ?_
            refine blk_norm ?_
            exact thn_next ⟨(i, c), ⟨by simp only; omega, by simp only; omega, hi, .inr ⟨x, gx, by omega⟩⟩, by simp only; omega, Ko.go, ent.gc⟩
        · refine Zj ?_
          have e : i = j := by omega
          subst e
          exact thn_next ⟨i, ⟨hjr, hi, hj⟩, Ko.go, ent.gc⟩
      rintro k ⟨hk, hk1, hk2⟩
      refine WP.trim [14, 0, 1, 2, 3, 4] [0] ?_
      refine WP.meetC (α := Nat) (fun _ => True) (fun t => [(17, .int .i64 (t : Int))]) (fun _ => [(0, slA 62 encIv sv.val (pre ++ ((L.take k ++ y :: L.drop k) ++ post)))]) ?_ ?_
      · refine Zp ?_
        refine Zm ?_
        refine Zm ?_
        refine Ze ?_
        refine WP.trim [17, 14, 0, 1, 2, 3, 4] [0] ?_
        refine WP.block ?_
        refine WP.loopC (α := Nat) (fun u => k ≤ u ∧ u ≤ L.length) (fun u => [(17, .int .i64 ((pre.length + u : Nat) : Int))]) (fun u => [(0, slA 62 encIv sv.val (pre ++ ((L.take u ++ y :: L.drop u) ++ post)))]) (fun u => u) L.length ⟨hk, Nat.le_refl _⟩ ?_ (he := by
          rw [← hD, eR, List.take_length, List.drop_length, show pre ++ (L ++ ([y] ++ post)) = pre ++ ((L ++ [y]) ++ post) by simp]; exact ent.gc)
        rintro u ⟨hu1, hu2⟩
        refine WP.trim [17, 14, 0, 1, 2, 3, 4] [0] ?_
        refine WP.seq ?_
        refine Zp ?_
        refine Zm ?_
        refine Zm ?_
        refine Zi ?_
        refine Ze ?_
        refine WP.ite rfl (fun hlt => ?_) (fun hge => ?_)
        · refine Zb ?_
          obtain ⟨t, rfl⟩ : ∃ t, u = t + 1 := ⟨u - 1, by omega⟩
          obtain ⟨x, gx⟩ : ∃ x, L[t]? = some x := ⟨_, List.getElem?_eq_getElem (by omega)⟩
          have e1 : pre ++ ((L.take (t + 1) ++ y :: L.drop (t + 1)) ++ post) = (pre ++ L.take t) ++ x :: y :: (L.drop (t + 1) ++ post) := by rw [take_at gx]; simp
          have e2 : pre ++ ((L.take t ++ y :: L.drop t) ++ post) = (pre ++ L.take t) ++ y :: x :: (L.drop (t + 1) ++ post) := by rw [drop_at gx]; simp
          obtain ⟨f0, f1, f2, _, _, f3, f4⟩ := adj_step _ _ _ _ e1 (n := pre.length + t) (by simp; omega)
          rw [← e2] at f4
          generalize pre ++ ((L.take (t + 1) ++ y :: L.drop (t + 1)) ++ post) = E at f0 f1 f2 f3 f4 ⊢
          refine WP.seq ?_
          refine WP.block ?_
          refine WP.drawn0 cf0 mixed rfl (by kernel_rfl) ?_
          iterate 4 refine Zm ?_
          refine Zs ?_
          refine Run.eqv (v' := .int .i64 ((pre.length + t : Nat) : Int)) (by congr 1; omega) ?_
          refine Zm ?_
          refine Zm ?_
          refine Zs ?_
          refine Run.eqv (v' := .int .i64 ((pre.length + t : Nat) : Int)) (by congr 1; omega) ?_
          refine Run.idxO 0 rfl rfl rfl sl_44 rfl rfl rfl rfl (by omega) (by omega) ?_
          refine Run.loadOagg 0 (pre.length + t) rfl rfl ag_62 rfl rfl rfl rfl rfl f1 ?_
          refine Zm ?_
          refine Zm ?_
          refine Run.idxO 0 rfl rfl rfl sl_44 rfl rfl rfl rfl (by omega) (by omega) ?_
          refine Run.loadOagg 0 (pre.length + t + 1) rfl rfl ag_62 rfl rfl rfl rfl rfl f2 ?_
          refine Run.idxO 0 rfl rfl rfl sl_44 rfl rfl rfl rfl (by omega) (by omega) ?_
          refine Run.storeO 0 (pre.length + t + 1) 0 (y' := x) rfl rfl rfl rfl ag_62 rfl rfl rfl rfl f2 rfl rfl ?_
          refine Run.idxO 0 rfl rfl rfl sl_44 rfl rfl rfl rfl (by omega) (by rw [List.length_set]; omega) ?_
          refine Run.storeO 0 (pre.length + t) 0 (y' := y) rfl rfl rfl rfl ag_62 rfl rfl rfl rfl f3 rfl rfl ?_
          refine Run.nil ?_
          refine blk_norm ?_; refine thn_next ?_
          refine Zc ?_
          refine Zm ?_
          refine Zs ?_
          refine Run.eqv (v' := .int .i64 ((pre.length + t : Nat) : Int)) (by congr 1; omega) ?_
          refine Zm ?_
          refine Run.nil ?_
          exact thn_next ⟨t, by omega, by omega, Ko.go, by rw [← f4]; exact ent.gc⟩
        · refine Zj ?_
          have e : u = k := by omega
          subst e
          exact thn_next ⟨pre.length + u, trivial, Ko.go, ent.gc⟩
      rintro t _
      refine WP.ret ?_; refine thn_ret ?_
      exact retT [] [] rfl rfl ⟨_, ent.gc, _, by rw [eR]; exact perm_ins.trans (List.perm_append_comm (l₁ := [y]) (l₂ := L)), ins_right sL hyr hk hk1 hk2, rfl⟩
    · refine WP.skip ?_
      exact thn_next ⟨(), by omega, Ko.go, ent.gc⟩
  rintro _ hR1
  refine WP.trim [0, 1, 2, 3, 4] [0] ?_
  obtain ⟨h, hh⟩ : ∃ h, h = (L.length + R.length) / 2 := ⟨_, rfl⟩
  refine Zp ?_
  refine Zm ?_
  refine Zm ?_
  refine Za ?_
  refine Run.eqv (v' := .int .i64 ((2 * pre.length + L.length + R.length : Nat) : Int)) (by congr 1; omega) ?_
  refine Run.conv rfl rfl und_3 und_140 rfl rfl ?_
  refine Run.eqv (v' := .int .u64 ((2 * pre.length + L.length + R.length : Nat) : Int)) (by rw [wrap_u64 (by omega)]) ?_
  refine Run.shift rfl rfl rfl (half_shr _) rfl rfl ?_
  refine Run.conv rfl rfl und_140 und_3 rfl rfl ?_
  refine Run.eqv (v' := .int .i64 ((pre.length + h : Nat) : Int)) (by rw [wrapI (by omega) (by omega)]; congr 1; omega) ?_
  refine Zm ?_
  refine Ze ?_
  refine Zp ?_
  refine Zm ?_
  refine Zm ?_
  refine Za ?_
  refine Run.eqv (v' := .int .i64 ((2 * pre.length + h + L.length : Nat) : Int)) (by congr 1; omega) ?_
  refine Zm ?_
  refine Ze ?_
  refine Zp ?_
  refine Zm ?_
  refine Zm ?_
  refine Ze ?_
  refine WP.trim [20, 21, 18, 19, 0, 1, 2, 3, 4] [0] ?_
  refine WP.meetC (α := Nat × Nat) (fun z => z.1 ≤ z.2 ∧ z.2 ≤ L.length ∧ z.2 ≤ h ∧ h ≤ z.1 + R.length ∧ (z.1 = 0 ∨ h = z.1 + R.length) ∧ (z.2 = L.length ∨ z.2 = h)) (fun z => [(20, .int .i64 ((pre.length + z.1 : Nat) : Int)), (21, .int .i64 ((pre.length + z.2 : Nat) : Int))]) (fun _ => []) ?_ ?_
  · refine Zp ?_
    refine Zm ?_
    refine Zm ?_
    refine Zi ?_
    refine Ze ?_
    refine WP.ite rfl (fun h1 => ?_) (fun h1 => ?_)
    · refine Zp ?_
      refine Zm ?_
      refine Zm ?_
      refine Zs ?_
      refine Run.eqv (v' := .int .i64 ((pre.length + (h - R.length) : Nat) : Int)) (by congr 1; omega) ?_
      refine Zm ?_
      refine Ze ?_
      refine Zc ?_
      refine Zm ?_
      refine Zm ?_
      refine Run.nil ?_
      exact thn_next ⟨(h - R.length, h), ⟨by simp only; omega, by simp only; omega, Nat.le_refl _, by simp only; omega, .inr (by simp only; omega), .inr rfl⟩, Ko.go, ent.gc⟩
    · refine Zp ?_
      refine Zm ?_
      refine Zm ?_
      refine Ze ?_
      refine Zc ?_
      refine Zm ?_
      refine Zm ?_
      refine Run.nil ?_
      exact thn_next ⟨(0, L.length), ⟨Nat.zero_le _, Nat.le_refl _, by simp only; omega, by simp only; omega, .inl rfl, .inl rfl⟩, Ko.go, ent.gc⟩
  rintro ⟨s0, r0⟩ ⟨k1, k2, k3, k4, k5, k6⟩
  simp only at k1 k2 k3 k4 k5 k6
  refine WP.trim [20, 21, 18, 19, 0, 1, 2, 3, 4] [0] ?_
  try simp only
  refine Zp ?_
  refine Zm ?_
  refine Zs ?_
  refine Run.eqv (v' := .int .i64 ((2 * pre.length + h + L.length - 1 : Nat) : Int)) (by congr 1; omega) ?_
  refine Zm ?_
  refine Ze ?_
  refine WP.trim [20, 21, 22, 18, 19, 0, 1, 2, 3, 4] [0] ?_
  refine WP.meetC (α := Nat) (fun s => s0 ≤ s ∧ s ≤ r0 ∧ (s = s0 ∨ ∃ x y, L[s - 1]? = some x ∧ R[h - s]? = some y ∧ ¬ y.fr < x.fr) ∧ (s = r0 ∨ ∃ x y, L[s]? = some x ∧ R[h - s - 1]? = some y ∧ y.fr < x.fr)) (fun s => [(20, .int .i64 ((pre.length + s : Nat) : Int)), (21, .int .i64 ((pre.length + s : Nat) : Int))]) (fun _ => []) ?_ ?_
  · refine WP.block ?_
    refine WP.loopC (α := Nat × Nat) (fun z => s0 ≤ z.1 ∧ z.1 ≤ z.2 ∧ z.2 ≤ r0 ∧ (z.1 = s0 ∨ ∃ x y, L[z.1 - 1]? = some x ∧ R[h - z.1]? = some y ∧ ¬ y.fr < x.fr) ∧ (z.2 = r0 ∨ ∃ x y, L[z.2]? = some x ∧ R[h - z.2 - 1]? = some y ∧ y.fr < x.fr)) (fun z => [(20, .int .i64 ((pre.length + z.1 : Nat) : Int)), (21, .int .i64 ((pre.length + z.2 : Nat) : Int))]) (fun _ => []) (fun z => z.2 - z.1) (s0, r0) ⟨Nat.le_refl _, k1, Nat.le_refl _, .inl rfl, .inl rfl⟩ ?_
    rintro ⟨i, j⟩ ⟨h0i, hij, hjr, hi, hj⟩
    simp only at h0i hij hjr hi hj
    refine WP.trim [20, 21, 22, 18, 19, 0, 1, 2, 3, 4] [0] ?_
    try simp only
    refine WP.seq ?_
    refine Zp ?_
    refine Zm ?_
    refine Zm ?_
    refine Zi ?_
    refine Ze ?_
    refine WP.ite rfl (fun hlt => ?_) (fun hge => ?_)
    · refine Zb ?_
      obtain ⟨c, hc⟩ : ∃ c, c = (i + j) / 2 := ⟨_, rfl⟩
      obtain ⟨x, gx⟩ : ∃ x, L[c]? = some x := ⟨_, List.getElem?_eq_getElem (by omega)⟩
      obtain ⟨y, gy⟩ : ∃ y, R[h - c - 1]? = some y := ⟨_, List.getElem?_eq_getElem (by omega)⟩
      have gx2 := gL c x gx
      have gy2 := gR (h - c - 1) y gy
      refine WP.block ?_
      refine Zp ?_
      refine Zm ?_
      refine Zm ?_
      refine Za ?_
      refine Run.eqv (v' := .int .i64 ((2 * pre.length + i + j : Nat) : Int)) (by congr 1; omega) ?_
      refine Run.conv rfl rfl und_3 und_140 rfl rfl ?_
      refine Run.eqv (v' := .int .u64 ((2 * pre.length + i + j : Nat) : Int)) (by rw [wrap_u64 (by omega)]) ?_
      refine Run.shift rfl rfl rfl (half_shr _) rfl rfl ?_
      refine Run.conv rfl rfl und_140 und_3 rfl rfl ?_
      refine Run.eqv (v' := .int .i64 ((pre.length + c : Nat) : Int)) (by rw [wrapI (by omega) (by omega)]; congr 1; omega) ?_
      refine Zm ?_
      refine Ze ?_
      refine WP.seq ?_
      refine WP.drawn0 cf0 mixed rfl (by kernel_rfl) ?_
      iterate 4 refine Zm ?_
      refine Zs ?_
      refine Run.eqv (v' := .int .i64 ((pre.length + L.length + (h - c - 1) : Nat) : Int)) (by congr 1; omega) ?_
      refine Run.idxO 0 rfl rfl rfl sl_44 rfl rfl rfl rfl (by omega) (by omega) ?_
      refine Run.loadOagg 0 (pre.length + L.length + (h - c - 1)) rfl rfl ag_62 rfl rfl rfl rfl rfl gy2 ?_
      refine Zm ?_
      refine Zm ?_
      refine Run.idxO 0 rfl rfl rfl sl_44 rfl rfl rfl rfl (by omega) (by omega) ?_
      refine Run.loadOagg 0 (pre.length + c) rfl rfl ag_62 rfl rfl rfl rfl rfl gx2 ?_
      refine Run.callP [] ok_45 (cmp_ok hR y x (smR y (List.mem_of_getElem? gy)) (smL x (List.mem_of_getElem? gx))) ?_; rintro _ _ ⟨rfl, rfl⟩
      refine Zi ?_
      refine Run.bnot rfl rfl rfl rfl ?_
      refine Ze ?_
      refine WP.ite rfl (fun hcm => ?_) (fun hcm => ?_)
      · refine Zc ?_
        refine Zm ?_
        refine Za ?_
        refine Zm ?_
        refine Run.nil ?_
        refine blk_norm ?_
        exact thn_next ⟨(c + 1, j), ⟨by simp only; omega, by simp only; omega, hjr, .inr ⟨x, y, gx, by simp only; rw [show h - (c + 1) = h - c - 1 by omega]; exact gy, by omega⟩, hj⟩, by simp only; omega, Ko.go, ent.gc⟩
      · refine Zc ?_
        refine Zm ?_
        refine Zm ?_
        refine Run.nil ?_
        refine blk_norm ?_
        exact thn_next ⟨(i, c), ⟨h0i, by simp only; omega, by simp only; omega, hi, .inr ⟨x, y, gx, gy, by omega⟩⟩, by simp only; omega, Ko.go, ent.gc⟩
    · refine Zj ?_
      have e : i = j := by omega
      subst e
      exact thn_next ⟨i, ⟨h0i, hjr, hi, hj⟩, Ko.go, ent.gc⟩
  rintro s ⟨hs0, hs1, hsA, hsB⟩
  refine WP.trim [20, 18, 19, 0, 1, 2, 3, 4] [0] ?_
  obtain ⟨q, hq⟩ : ∃ q, q = h - s := ⟨_, rfl⟩
  have hqr : q ≤ R.length := by omega
  have hsl : s ≤ L.length := by omega
  have hA : s = 0 ∨ q = R.length ∨ ∃ x y, L[s - 1]? = some x ∧ R[q]? = some y ∧ ¬ y.fr < x.fr := by
    rcases hsA with e | ⟨x, y, gx, gy, hf⟩
    · rcases k5 with e2 | e2
      · exact .inl (by omega)
      · exact .inr (.inl (by omega))
    · exact .inr (.inr ⟨x, y, gx, by rw [hq]; exact gy, hf⟩)
  have hB : s = L.length ∨ q = 0 ∨ ∃ x y, L[s]? = some x ∧ R[q - 1]? = some y ∧ y.fr < x.fr := by
    rcases hsB with e | ⟨x, y, gx, gy, hf⟩
    · rcases k6 with e2 | e2
      · exact .inl (by omega)
      · exact .inr (.inl (by omega))
    · exact .inr (.inr ⟨x, y, gx, by rw [hq]; exact gy, hf⟩)
  have cm := fun {Z1 Z2 : List Iv} p1 s1 p2 s2 => cut_merge (Z1 := Z1) (Z2 := Z2) sL sR hreg hsl hqr hA hB p1 s1 p2 s2
  have l1 : (L.take s).length = s := by simp; omega
  have l2 : (L.drop s).length = L.length - s := by simp
  have l3 : (R.take q).length = q := by simp; omega
  have l4 : (R.drop q).length = R.length - q := by simp
  have sL' : (L.take s).Pairwise ltV ∧ (L.drop s).Pairwise ltV := ⟨sL.sublist (List.take_sublist _ _), sL.sublist (List.drop_sublist _ _)⟩
  have sR' : (R.take q).Pairwise ltV ∧ (R.drop q).Pairwise ltV := ⟨sR.sublist (List.take_sublist _ _), sR.sublist (List.drop_sublist _ _)⟩
  have mL1 : ∀ x ∈ L.take s, x ∈ L := fun x hx => List.mem_of_mem_take hx
  have mL2 : ∀ x ∈ L.drop s, x ∈ L := fun x hx => List.mem_of_mem_drop hx
  have mR1 : ∀ x ∈ R.take q, x ∈ R := fun x hx => List.mem_of_mem_take hx
  have mR2 : ∀ x ∈ R.drop q, x ∈ R := fun x hx => List.mem_of_mem_drop hx
  have hLL : L = L.take s ++ L.drop s := (List.take_append_drop _ _).symm
  have hRR : R = R.take q ++ R.drop q := (List.take_append_drop _ _).symm
  have hD2 : D = pre ++ ((L.take s ++ L.drop s) ++ ((R.take q ++ R.drop q) ++ post)) := by rw [← hLL, ← hRR, hD]
  generalize hL1' : L.take s = L1 at cm l1 sL' mL1 hD2
  generalize hL2' : L.drop s = L2 at cm l2 sL' mL2 hD2
  generalize hR1' : R.take q = R1 at cm l3 sR' mR1 hD2
  generalize hR2' : R.drop q = R2 at cm l4 sR' mR2 hD2
  clear hL1' hL2' hR1' hR2' hLL hRR hA hB hsA hsB gL gR
  have hLen : pre.length + L.length + R.length + post.length ≤ 1000000 := hl
  refine Zp ?_
  refine Zm ?_
  refine Zm ?_
  refine Zs ?_
  refine Run.eqv (v' := .int .i64 ((pre.length + L.length + q : Nat) : Int)) (by congr 1; omega) ?_
  refine Zm ?_
  refine Ze ?_
  refine WP.trim [20, 24, 18, 0, 1, 2, 3, 4] [0] ?_
  refine WP.meetC (α := Unit) (fun _ => True) (fun _ => []) (fun _ => [(0, slA 62 encIv sv.val (pre ++ (L1 ++ (R1 ++ (L2 ++ (R2 ++ post))))))]) ?_ ?_
  · refine WP.seq ?_
    by_cases h1 : ((pre.length + s : Nat) : Int) < ((pre.length + L.length : Nat) : Int)
    · by_cases h2 : ((pre.length + L.length : Nat) : Int) < ((pre.length + L.length + q : Nat) : Int)
      · refine Zc ?_
        refine Zm ?_
        refine Zm ?_
        refine Zi ?_
        refine Run.tt h1 ?_
        iterate 3 refine Zm ?_
        refine Zi ?_
        refine Run.tt h2 ?_
        refine Zq ?_
        refine Ze ?_
        refine Zyes ?_
        refine Zc ?_
        refine Zm ?_
        refine Zm ?_
        refine Run.eqv (v' := .int .i64 (((pre ++ L1).length : Nat) : Int)) (by congr 1; simp; omega) ?_
        refine Zm ?_
        refine Run.eqv (v' := .int .i64 (((pre ++ L1).length + L2.length : Nat) : Int)) (by congr 1; simp; omega) ?_
        refine Zm ?_
        refine Run.eqv (v' := .int .i64 (((pre ++ L1).length + L2.length + R1.length : Nat) : Int)) (by congr 1; simp; omega) ?_
        refine Zm ?_
        refine Run.via (Γ' := [slA 62 encIv sv.val ((pre ++ L1) ++ (L2 ++ (R1 ++ (R2 ++ post))))]) (by rw [hD2]; simp only [List.append_assoc]; exact ent.refl _) ?_; refine Run.callP [0] ok_103 (rot_ok hR sv (pre ++ L1) L2 R1 (R2 ++ post) (List.length_pos_iff.1 (by omega)) (List.length_pos_iff.1 (by omega)) (by simp; omega)) ?_; rintro _ _ rfl
        refine Run.nil ?_
        exact thn_next ⟨(), trivial, Ko.go, by simp only [List.append_assoc]; exact ent.gc⟩
      · refine Zc ?_
        refine Zm ?_
        refine Zm ?_
        refine Zi ?_
        refine Run.tt h1 ?_
        iterate 3 refine Zm ?_
        refine Zi ?_
        refine Run.ff h2 ?_
        refine Zq ?_
        refine Ze ?_
        refine Zno ?_
        refine WP.skip ?_
        have e : R1 = [] := List.length_eq_zero_iff.1 (by omega)
        subst e
        exact thn_next ⟨(), trivial, Ko.go, by rw [hD2]; simp only [List.append_assoc, List.nil_append]; exact ent.gc⟩
    · refine Zc ?_
      refine Zm ?_
      refine Zm ?_
      refine Zi ?_
      refine Run.ff h1 ?_
      refine Zm ?_
      iterate 3 refine Zv ?_
      refine Zq ?_
      refine Ze ?_
      refine Zno ?_
      refine WP.skip ?_
      have e : L2 = [] := List.length_eq_zero_iff.1 (by omega)
      subst e
      exact thn_next ⟨(), trivial, Ko.go, by rw [hD2]; simp only [List.append_assoc, List.nil_append, List.append_nil]; exact ent.gc⟩
  rintro _ _
  refine WP.trim [20, 24, 18, 0, 1, 2, 3, 4] [0] ?_
  refine WP.meetC (α := List Iv) (fun Z => Z.Perm (L1 ++ R1) ∧ Z.Pairwise ltV) (fun _ => []) (fun Z => [(0, slA 62 encIv sv.val (pre ++ (Z ++ (L2 ++ (R2 ++ post)))))]) ?_ ?_
  · refine WP.seq ?_
    by_cases h1 : (pre.length : Int) < ((pre.length + s : Nat) : Int)
    · by_cases h2 : ((pre.length + s : Nat) : Int) < ((pre.length + h : Nat) : Int)
      · refine Zc ?_
        refine Zm ?_
        refine Zm ?_
        refine Zi ?_
        refine Run.tt h1 ?_
        iterate 3 refine Zm ?_
        refine Zi ?_
        refine Run.tt h2 ?_
        refine Zq ?_
        refine Ze ?_
        refine Zyes ?_
        refine Zc ?_
        iterate 3 refine Zm ?_
        refine Run.eqv (v' := .int .i64 ((pre.length + L1.length : Nat) : Int)) (by congr 1; omega) ?_
        refine Zm ?_
        refine Run.eqv (v' := .int .i64 ((pre.length + L1.length + R1.length : Nat) : Int)) (by congr 1; omega) ?_
        refine Zm ?_
        refine Run.callP [0] ok_90 (ih pre L1 R1 (L2 ++ (R2 ++ post)) (by omega) (List.length_pos_iff.1 (by omega)) (List.length_pos_iff.1 (by omega)) sL'.1 sR'.1 (fun x hx y hy => hreg x (mL1 x hx) y (mR1 y hy)) (fun x hx => smL x (mL1 x hx)) (fun x hx => smR x (mR1 x hx)) (by simp only [List.length_append]; omega)) ?_; rintro _ _ ⟨Z, zp, zs, rfl⟩
        refine Run.nil ?_
        exact thn_next ⟨Z, ⟨zp, zs⟩, Ko.go, ent.gc⟩
      · refine Zc ?_
        refine Zm ?_
        refine Zm ?_
        refine Zi ?_
        refine Run.tt h1 ?_
        iterate 3 refine Zm ?_
        refine Zi ?_
        refine Run.ff h2 ?_
        refine Zq ?_
        refine Ze ?_
        refine Zno ?_
        refine WP.skip ?_
        have e : R1 = [] := List.length_eq_zero_iff.1 (by omega)
        subst e
        exact thn_next ⟨L1, ⟨by simp, sL'.1⟩, Ko.go, by simp only [List.nil_append]; exact ent.gc⟩
    · refine Zc ?_
      refine Zm ?_
      refine Zm ?_
      refine Zi ?_
      refine Run.ff h1 ?_
      refine Zm ?_
      iterate 3 refine Zv ?_
      refine Zq ?_
      refine Ze ?_
      refine Zno ?_
      refine WP.skip ?_
      have e : L1 = [] := List.length_eq_zero_iff.1 (by omega)
      subst e
      exact thn_next ⟨R1, ⟨by simp, sR'.1⟩, Ko.go, by simp only [List.nil_append]; exact ent.gc⟩
  rintro Z ⟨zp, zs⟩
  have hzl := zp.length_eq
  simp only [List.length_append] at hzl
  refine WP.trim [24, 18, 0, 1, 2, 3, 4] [0] ?_
  refine WP.seq ?_
  by_cases h1 : ((pre.length + h : Nat) : Int) < ((pre.length + L.length + q : Nat) : Int)
  · by_cases h2 : ((pre.length + L.length + q : Nat) : Int) < ((pre.length + L.length + R.length : Nat) : Int)
    · refine Zc ?_
      refine Zm ?_
      refine Zm ?_
      refine Zi ?_
      refine Run.tt h1 ?_
      iterate 3 refine Zm ?_
      refine Zi ?_
      refine Run.tt h2 ?_
      refine Zq ?_
      refine Ze ?_
      refine Zyes ?_
      refine Zc ?_
      refine Zm ?_
      refine Zm ?_
      refine Run.eqv (v' := .int .i64 (((pre ++ Z).length : Nat) : Int)) (by congr 1; simp; omega) ?_
      refine Zm ?_
      refine Run.eqv (v' := .int .i64 (((pre ++ Z).length + L2.length : Nat) : Int)) (by congr 1; simp; omega) ?_
      refine Zm ?_
      refine Run.eqv (v' := .int .i64 (((pre ++ Z).length + L2.length + R2.length : Nat) : Int)) (by congr 1; simp; omega) ?_
      refine Zm ?_
      refine Run.via (Γ' := [slA 62 encIv sv.val ((pre ++ Z) ++ (L2 ++ (R2 ++ post)))]) (by simp only [List.append_assoc]; exact ent.refl _) ?_; refine Run.callP [0] ok_90 (ih (pre ++ Z) L2 R2 post (by omega) (List.length_pos_iff.1 (by omega)) (List.length_pos_iff.1 (by omega)) sL'.2 sR'.2 (fun x hx y hy => hreg x (mL2 x hx) y (mR2 y hy)) (fun x hx => smL x (mL2 x hx)) (fun x hx => smR x (mR2 x hx)) (by simp only [List.length_append]; omega)) ?_; rintro _ _ ⟨Y, yp, ys, rfl⟩
      refine Run.nil ?_
      obtain ⟨c1, c2⟩ := cm zp zs yp ys
      refine retN [] [] rfl rfl ⟨_, ?_, Z ++ Y, c1, c2, rfl⟩
      simp only [List.append_assoc]; exact ent.gc
    · refine Zc ?_
      refine Zm ?_
      refine Zm ?_
      refine Zi ?_
      refine Run.tt h1 ?_
      iterate 3 refine Zm ?_
      refine Zi ?_
      refine Run.ff h2 ?_
      refine Zq ?_
      refine Ze ?_
      refine Zno ?_
      refine WP.skip ?_
      have e : R2 = [] := List.length_eq_zero_iff.1 (by omega)
      subst e
      obtain ⟨c1, c2⟩ := cm zp zs (Z2 := L2) (by simp) sL'.2
      refine retN [] [] rfl rfl ⟨_, ?_, Z ++ L2, c1, c2, rfl⟩
      simp only [List.append_assoc, List.nil_append]; exact ent.gc
  · refine Zc ?_
    refine Zm ?_
    refine Zm ?_
    refine Zi ?_
    refine Run.ff h1 ?_
    refine Zm ?_
    iterate 3 refine Zv ?_
    refine Zq ?_
    refine Ze ?_
    refine Zno ?_
    refine WP.skip ?_
    have e : L2 = [] := List.length_eq_zero_iff.1 (by omega)
    subst e
    obtain ⟨c1, c2⟩ := cm zp zs (Z2 := R2) (by simp) sR'.2
    refine retN [] [] rfl rfl ⟨_, ?_, Z ++ R2, c1, c2, rfl⟩
    simp only [List.append_assoc, List.nil_append]; exact ent.gc
end Go.Proofs.YtjjfehdlmdhhmaaDoor
end
section
/- The library's stable sort at intervals, of any length; walked. -/
namespace Go.Proofs.YtjjfehdlmdhhmaaDoor
open Go.Sep
set_option linter.unusedSimpArgs false
set_option linter.unusedVariables false
attribute [local irreducible] blk slA mp mpF rows rowsBut many
def regLt (a b : List Iv) : Prop := ∀ x ∈ a, ∀ y ∈ b, x.reg < y.reg
/-- sorted ranges, one behind the other, and the others behind them -/
structure R1 (xs : List Iv) (done : List (List Iv)) (rest : List Iv) : Prop where
  perm : (done.flatten ++ rest).Perm xs
  srt : ∀ r ∈ done, r.Pairwise ltV
  sep : (done ++ [rest]).Pairwise regLt
  inc : rest.Pairwise fun x y => x.reg < y.reg
structure Rn (xs : List Iv) (rs : List (List Iv)) : Prop where
  perm : rs.flatten.Perm xs
  srt : ∀ r ∈ rs, r.Pairwise ltV
  sep : rs.Pairwise regLt
theorem R1.step {xs : List Iv} {done : List (List Iv)} {rest seg : List Iv} (h : R1 xs done rest) (k : Nat) (hp : seg.Perm (rest.take k)) (hs : seg.Pairwise ltV) : R1 xs (done ++ [seg]) (rest.drop k) := by
  have hsep := List.pairwise_append.1 h.sep
  have hinc : (rest.take k ++ rest.drop k).Pairwise fun x y => x.reg < y.reg := by rw [List.take_append_drop]; exact h.inc
  rw [List.pairwise_append] at hinc
  refine ⟨?_, fun r hr => ?_, ?_, hinc.2.1⟩
  · refine List.Perm.trans ?_ h.perm
    simp only [List.flatten_append, List.flatten_cons, List.flatten_nil, List.append_nil, List.append_assoc]
    refine List.Perm.append_left _ ?_
    conv => rhs; rw [← List.take_append_drop k rest]
    exact List.Perm.append_right _ hp
  · rcases List.mem_append.1 hr with hr | hr
    · exact h.srt r hr
    · rw [List.mem_singleton.1 hr]; exact hs
  · rw [List.append_assoc, List.pairwise_append]
    refine ⟨hsep.1, ?_, fun a ha b hb => ?_⟩
    · simp only [List.cons_append, List.nil_append, List.pairwise_cons, List.mem_singleton, List.not_mem_nil, false_imp_iff, implies_true, List.Pairwise.nil, and_true]
      rintro b rfl
      exact fun x hx y hy => hinc.2.2 x (hp.mem_iff.1 hx) y hy
    · have h1 := hsep.2.2 a ha rest (by simp)
      simp only [List.cons_append, List.nil_append, List.mem_cons, List.not_mem_nil, or_false] at hb
      rcases hb with rfl | rfl
      · exact fun x hx y hy => h1 x hx y (List.mem_of_mem_take (hp.mem_iff.1 hy))
      · exact fun x hx y hy => h1 x hx y (List.mem_of_mem_drop hy)
theorem R1.last {xs : List Iv} {done : List (List Iv)} {rest seg : List Iv} (h : R1 xs done rest) (hp : seg.Perm rest) (hs : seg.Pairwise ltV) : Rn xs (done ++ [seg]) := by
  have h1 := h.step rest.length (by rw [List.take_length]; exact hp) hs
  rw [List.drop_length] at h1
  exact ⟨by simpa using h1.perm, h1.srt, (List.pairwise_append.1 h1.sep).1⟩
theorem Rn.merge {xs : List Iv} {A B : List (List Iv)} {r s Z : List Iv} (h : Rn xs (A ++ r :: s :: B)) (hp : Z.Perm (r ++ s)) (hs : Z.Pairwise ltV) : Rn xs (A ++ Z :: B) := by
  have h3 := List.pairwise_append.1 h.sep
  have h4 := List.pairwise_cons.1 h3.2.1
  have h5 := List.pairwise_cons.1 h4.2
  refine ⟨?_, fun t ht => ?_, ?_⟩
  · refine List.Perm.trans ?_ h.perm
    simp only [List.flatten_append, List.flatten_cons]
    refine List.Perm.append_left _ ?_
    rw [← List.append_assoc]
    exact List.Perm.append_right _ hp
  · rcases List.mem_append.1 ht with ht | ht
    · exact h.srt t (by simp [ht])
    · rcases List.mem_cons.1 ht with rfl | ht
      · exact hs
      · exact h.srt t (by simp [ht])
  · refine List.pairwise_append.2 ⟨h3.1, List.pairwise_cons.2 ⟨fun b hb => ?_, h5.2⟩, fun a ha b hb => ?_⟩
    · intro x hx y hy
      rcases List.mem_append.1 (hp.mem_iff.1 hx) with hx | hx
      · exact h4.1 b (by simp [hb]) x hx y hy
      · exact h5.1 b hb x hx y hy
    · rcases List.mem_cons.1 hb with rfl | hb
      · intro x hx y hy
        rcases List.mem_append.1 (hp.mem_iff.1 hy) with hy | hy
        · exact h3.2.2 a ha r (by simp) x hx y hy
        · exact h3.2.2 a ha s (by simp) x hx y hy
      · exact h3.2.2 a ha b (by simp [hb])
theorem Rn.nil {xs : List Iv} {A : List (List Iv)} (h : Rn xs (A ++ [[]])) : Rn xs A := ⟨by simpa using h.perm, fun r hr => h.srt r (by simp [hr]), (List.pairwise_append.1 h.sep).1⟩
theorem Rn.two {xs : List Iv} {A B : List (List Iv)} {r s : List Iv} (h : Rn xs (A ++ r :: s :: B)) : r.Pairwise ltV ∧ s.Pairwise ltV ∧ (∀ x ∈ r, ∀ y ∈ s, x.reg < y.reg) ∧ (∀ x ∈ r, x ∈ xs) ∧ (∀ x ∈ s, x ∈ xs) :=
  ⟨h.srt r (by simp), h.srt s (by simp), (List.pairwise_cons.1 (List.pairwise_append.1 h.sep).2.1).1 s (by simp), fun x hx => h.perm.mem_iff.1 (by simp [hx]), fun x hx => h.perm.mem_iff.1 (by simp [hx])⟩
theorem Rn.end {xs : List Iv} {done : List (List Iv)} {last : List Iv} {s : Nat} (h : Rn xs (done ++ [last])) (hl : ∀ r ∈ done, r.length = s) (hs0 : 0 < s) (hs : xs.length ≤ s) : (done ++ [last]).flatten.Pairwise ltV := by
  have hlen := h.perm.length_eq
  match done, hl with
  | [], _ => simpa using h.srt last (by simp)
  | [r], hl =>
    have h1 := hl r (by simp)
    simp at hlen
    have : last = [] := List.length_eq_zero_iff.1 (by omega)
    subst this
    simpa using h.srt r (by simp)
  | r :: r2 :: rest, hl =>
    have h1 := hl r (by simp)
    have h2 := hl r2 (by simp)
    simp at hlen
    omega
set_option maxHeartbeats 4000000 in
set_option maxRecDepth 100000 in
theorem stable_ok (hR : Heap) (sv : SV) (xs : List Iv) (hreg : xs.Pairwise fun x y => x.reg < y.reg) (hsm : ∀ x ∈ xs, smallV x) (hl : xs.length ≤ 1000000) :
    Tri Tryd.prog hR 71 #[sv.val, .int .i64 (xs.length : Int), cmpF] [slA 62 encIv sv.val xs] fun _ Γ' => ∃ ys : List Iv, ys.Perm xs ∧ ys.Pairwise ltV ∧ Γ' = [slA 62 encIv sv.val ys] := by
  refine Tri.ent (Tri.of (args := [sv.val, .int .i64 (xs.length : Int), cmpF]) Tryd.func71 rfl Tryd.ntmps71 (by simp) ?_)
  refine Zp ?_
  refine Zm ?_
  refine Ze ?_
  refine Zp ?_
  iterate 3 refine Zm ?_
  refine Ze ?_
  refine WP.trim [6, 7, 8, 0, 1, 2] [0] ?_
  refine WP.meetC (α := List (List Iv) × List Iv) (fun z => R1 xs z.1 z.2 ∧ (∀ r ∈ z.1, r.length = 20) ∧ z.2.length < 20) (fun z => [(7, .int .i64 ((z.1.flatten.length : Nat) : Int)), (8, .int .i64 ((z.1.flatten.length : Nat) + 20 : Int))]) (fun z => [(0, slA 62 encIv sv.val (z.1.flatten ++ z.2))]) ?_ ?_
  · refine WP.block ?_
    refine WP.loopC (α := List (List Iv) × List Iv) (fun z => R1 xs z.1 z.2 ∧ (∀ r ∈ z.1, r.length = 20)) (fun z => [(7, .int .i64 ((z.1.flatten.length : Nat) : Int)), (8, .int .i64 ((z.1.flatten.length : Nat) + 20 : Int))]) (fun z => [(0, slA 62 encIv sv.val (z.1.flatten ++ z.2))]) (fun z => z.2.length) ([], xs) ⟨⟨List.Perm.refl _, fun r hr => (by cases hr), by simp, hreg⟩, fun r hr => (by cases hr)⟩ ?_
    rintro ⟨done, rest⟩ ⟨h1, h20⟩
    simp only at h1 h20
    have hn := h1.perm.length_eq
    rw [List.length_append] at hn
    refine WP.trim [7, 8, 6, 0, 1, 2] [0] ?_
    try simp only
    refine WP.seq ?_
    refine Zp ?_
    refine Zm ?_
    refine Zm ?_
    refine Zi ?_
    refine Ze ?_
    refine WP.ite rfl (fun hlt => ?_) (fun hge => ?_)
    · refine Zb ?_
      have ht : (rest.take 20).length = 20 := by rw [List.length_take]; omega
      have hdl : (rest.drop 20).length = rest.length - 20 := List.length_drop
      refine WP.block ?_
      refine Zp ?_
      iterate 3 refine Zm ?_
      refine Run.eqv (v' := .int .i64 ((done.flatten.length + (rest.take 20).length : Nat) : Int)) (by congr 1; omega) ?_
      refine Zm ?_
      refine Run.via (Γ' := [slA 62 encIv sv.val (done.flatten ++ (rest.take 20 ++ rest.drop 20))]) (by rw [List.take_append_drop]; exact ent.refl _) ?_; refine Run.callP [0] ok_89 (insertion_ok hR sv done.flatten (rest.take 20) (rest.drop 20) (h1.inc.sublist (List.take_sublist _ _)) (fun x hx => hsm x (h1.perm.mem_iff.1 (List.mem_append_right _ (List.mem_of_mem_take hx)))) (by simp only [List.length_append]; omega)) ?_; rintro _ _ ⟨seg, zp, zs, rfl⟩
      refine Ze ?_
      have hsl : seg.length = 20 := by rw [zp.length_eq]; exact ht
      have hfl : (((done ++ [seg]).flatten.length : Nat) : Int) = (done.flatten.length : Int) + 20 := by simp [hsl]
      refine Zp ?_
      refine Zm ?_
      refine Zm ?_
      refine Ze ?_
      refine Zc ?_
      refine Zm ?_
      refine Zm ?_
      refine Za ?_
      refine Zm ?_
      refine Run.nil ?_
      refine blk_norm ?_
      refine thn_next ⟨(done ++ [seg], rest.drop 20), ⟨h1.step 20 zp zs, fun r hr => ?_⟩, by simp only; omega, Ko.go ⟨by simp only [hfl]; rfl, by simp only [hfl]; rfl, trivial⟩, ?_⟩
      · rcases List.mem_append.1 hr with hr | hr
        · exact h20 r hr
        · rw [List.mem_singleton.1 hr]; exact hsl
      · simp only [List.flatten_append, List.flatten_cons, List.flatten_nil, List.append_nil, List.append_assoc]; exact ent.gc
    · refine Zj ?_
      exact thn_next ⟨(done, rest), ⟨h1, h20, by simp only; omega⟩, Ko.go, ent.gc⟩
  rintro ⟨done, rest⟩ ⟨h1, h20, hr20⟩
  simp only at h1 h20 hr20
  have hn := h1.perm.length_eq
  rw [List.length_append] at hn
  refine WP.trim [6, 7, 0, 1, 2] [0] ?_
  try simp only
  refine WP.meetC (α := List Iv) (fun z => Rn xs (done ++ [z]) ∧ z.length < 20) (fun z => []) (fun z => [(0, slA 62 encIv sv.val (done ++ [z]).flatten)]) ?_ ?_
  · refine Zc ?_
    iterate 3 refine Zm ?_
    refine Run.eqv (v' := .int .i64 ((done.flatten.length + rest.length : Nat) : Int)) (by congr 1; omega) ?_
    refine Zm ?_
    refine Run.via (Γ' := [slA 62 encIv sv.val (done.flatten ++ (rest ++ []))]) (by rw [List.append_nil]; exact ent.refl _) ?_; refine Run.callP [0] ok_89 (insertion_ok hR sv done.flatten rest [] h1.inc (fun x hx => hsm x (h1.perm.mem_iff.1 (List.mem_append_right _ hx))) (by simp only [List.length_append, List.length_nil]; omega)) ?_; rintro _ _ ⟨seg, zp, zs, rfl⟩
    refine Run.nil ?_
    refine thn_next ⟨seg, ⟨h1.last zp zs, by rw [zp.length_eq]; exact hr20⟩, Ko.go, ?_⟩
    simp only [List.flatten_append, List.flatten_cons, List.flatten_nil, List.append_nil, List.append_assoc]; exact ent.gc
  rintro last ⟨hI, hl20⟩
  refine WP.trim [6, 0, 1, 2] [0] ?_
  refine WP.block ?_
  refine WP.loopC (α := Nat × List (List Iv) × List Iv) (fun z => 20 ≤ z.1 ∧ z.1 ≤ 2000000 ∧ Rn xs (z.2.1 ++ [z.2.2]) ∧ (∀ r ∈ z.2.1, r.length = z.1) ∧ z.2.2.length < z.1) (fun z => [(6, .int .i64 (z.1 : Int))]) (fun z => [(0, slA 62 encIv sv.val (z.2.1 ++ [z.2.2]).flatten)]) (fun z => xs.length - z.1) (20, done, last) ⟨Nat.le_refl _, by omega, hI, h20, hl20⟩ ?_
  clear hn h1 h20 hr20 hI hl20
  rintro ⟨s, done, last⟩ ⟨hs1, hs2, hI, hsl, hll⟩
  simp only at hs1 hs2 hI hsl hll
  refine WP.trim [6, 0, 1, 2] [0] ?_
  try simp only
  refine WP.seq ?_
  refine Zp ?_
  refine Zm ?_
  refine Zm ?_
  refine Zi ?_
  refine Ze ?_
  refine WP.ite rfl (fun hlt => ?_) (fun hge => ?_)
  · refine Zb ?_
    refine WP.block ?_
    refine Zp ?_
    refine Zm ?_
    refine Zu ?_
    refine Zm ?_
    refine Zm ?_
    refine Ze ?_
    refine WP.trim [7, 8, 6, 0, 1, 2] [0] ?_
    refine WP.meetC (α := List (List Iv) × List (List Iv)) (fun z => Rn xs (z.1 ++ (z.2 ++ [last])) ∧ (∀ r ∈ z.1, r.length = s * 2) ∧ (∀ r ∈ z.2, r.length = s) ∧ z.2.length ≤ 1) (fun z => [(7, .int .i64 ((z.1.flatten.length : Nat) : Int)), (8, .int .i64 ((z.1.flatten.length : Nat) + 2 * (s : Int)))]) (fun z => [(0, slA 62 encIv sv.val (z.1 ++ (z.2 ++ [last])).flatten)]) ?_ ?_
    · refine WP.block ?_
      refine WP.loopC (α := List (List Iv) × List (List Iv)) (fun z => Rn xs (z.1 ++ (z.2 ++ [last])) ∧ (∀ r ∈ z.1, r.length = s * 2) ∧ (∀ r ∈ z.2, r.length = s)) (fun z => [(7, .int .i64 ((z.1.flatten.length : Nat) : Int)), (8, .int .i64 ((z.1.flatten.length : Nat) + 2 * (s : Int)))]) (fun z => [(0, slA 62 encIv sv.val (z.1 ++ (z.2 ++ [last])).flatten)]) (fun z => z.2.length) ([], done) ⟨hI, fun r hr => (by cases hr), hsl⟩ ?_ (hc := Ko.go ⟨rfl, by simp only [List.flatten_nil, List.length_nil, Int.natCast_zero, Int.zero_add]; rfl, trivial⟩)
      rintro ⟨fin, todo⟩ ⟨hJ, hf, ht⟩
      simp only at hJ hf ht
      have hn := hJ.perm.length_eq
      simp only [List.flatten_append, List.length_append, List.flatten_cons, List.flatten_nil, List.append_nil] at hn
      refine WP.trim [7, 8, 6, 0, 1, 2] [0] ?_
      try simp only
      refine WP.seq ?_
      refine Zp ?_
      refine Zm ?_
      refine Zm ?_
      refine Zi ?_
      refine Ze ?_
      refine WP.ite rfl (fun hlt2 => ?_) (fun hge2 => ?_)
      · refine Zb ?_
        match todo, ht with
        | [], _ => simp only [List.flatten_nil, List.flatten_cons, List.append_nil, List.length_nil, List.length_append, Nat.zero_add, Nat.add_zero] at hn; exfalso; omega
        | [r1], ht => have e1 := ht r1 (by simp); simp only [List.flatten_nil, List.flatten_cons, List.append_nil, List.length_nil, List.length_append, Nat.zero_add, Nat.add_zero] at hn; exfalso; omega
        | r1 :: r2 :: rest, ht =>
        have e1 := ht r1 (by simp)
        have e2 := ht r2 (by simp)
        obtain ⟨t1, t2, t3, t4, t5⟩ := Rn.two (A := fin) (B := rest ++ [last]) hJ
        simp only [List.flatten_cons, List.length_append] at hn
        have hpl : (rest ++ [last]).flatten.length = rest.flatten.length + last.length := by simp
        have hmem : (fin ++ ((r1 :: r2 :: rest) ++ [last])).flatten = fin.flatten ++ (r1 ++ (r2 ++ (rest ++ [last]).flatten)) := by simp
        rw [hmem]
        refine WP.block ?_
        refine Zp ?_
        iterate 4 refine Zm ?_
        refine Za ?_
        refine Run.eqv (v' := .int .i64 ((fin.flatten.length + r1.length : Nat) : Int)) (by congr 1; omega) ?_
        refine Zm ?_
        refine Run.eqv (v' := .int .i64 ((fin.flatten.length + r1.length + r2.length : Nat) : Int)) (by congr 1; omega) ?_
        refine Zm ?_
        refine Run.callP [0] ok_90 (sym_ok hR sv _ fin.flatten r1 r2 (rest ++ [last]).flatten (Nat.le_refl _) (List.length_pos_iff.1 (by omega)) (List.length_pos_iff.1 (by omega)) t1 t2 t3 (fun x hx => hsm x (t4 x hx)) (fun x hx => hsm x (t5 x hx)) (by omega)) ?_; rintro _ _ ⟨Z, zp, zs, rfl⟩
        refine Ze ?_
        have hzl : Z.length = s * 2 := by rw [zp.length_eq, List.length_append]; omega
        have hfl : (((fin ++ [Z]).flatten.length : Nat) : Int) = (fin.flatten.length : Int) + 2 * (s : Int) := by simp [hzl]; omega
        refine Zp ?_
        refine Zm ?_
        refine Zm ?_
        refine Ze ?_
        refine Zc ?_
        refine Zm ?_
        refine Zm ?_
        refine Zu ?_
        refine Za ?_
        refine Zm ?_
        refine Run.nil ?_
        refine blk_norm ?_
        refine thn_next ⟨(fin ++ [Z], rest), ⟨by have := hJ.merge (A := fin) (B := rest ++ [last]) zp zs; simpa using this, fun r hr => ?_, fun r hr => ht r (by simp [hr])⟩, by simp only [List.length_cons]; omega, Ko.go ⟨by simp only [hfl]; rfl, by simp only [hfl]; rfl, trivial⟩, ?_⟩
        · rcases List.mem_append.1 hr with hr | hr
          · exact hf r hr
          · rw [List.mem_singleton.1 hr]; exact hzl
        · simp only [List.flatten_append, List.flatten_cons, List.flatten_nil, List.append_nil, List.append_assoc]; exact ent.gc
      · refine Zj ?_
        refine thn_next ⟨(fin, todo), ⟨hJ, hf, ht, ?_⟩, Ko.go, ent.gc⟩
        match todo, ht with
        | [], _ => simp
        | [r1], ht => simp
        | r1 :: r2 :: rest, ht =>
          have e1 := ht r1 (by simp)
          have e2 := ht r2 (by simp)
          simp only [List.flatten_cons, List.length_append] at hn
          exfalso; omega
    rintro ⟨fin, todo⟩ ⟨hJ, hf, ht, ht1⟩
    simp only at hJ hf ht ht1
    have hn := hJ.perm.length_eq
    simp only [List.flatten_append, List.length_append, List.flatten_cons, List.flatten_nil, List.append_nil] at hn
    refine WP.trim [7, 6, 0, 1, 2] [0] ?_
    try simp only
    refine WP.meetC (α := List Iv) (fun z => Rn xs (fin ++ [z]) ∧ z.length < s * 2) (fun z => []) (fun z => [(0, slA 62 encIv sv.val (fin ++ [z]).flatten)]) ?_ ?_
    · refine Zp ?_
      refine Zm ?_
      refine Zm ?_
      refine Za ?_
      refine Zm ?_
      refine Ze ?_
      refine Zp ?_
      refine Zm ?_
      refine Zm ?_
      refine Zi ?_
      refine Ze ?_
      match todo, ht, ht1 with
      | [], _, _ =>
        simp only [List.flatten_nil, List.flatten_cons, List.append_nil, List.length_nil, List.length_append, Nat.zero_add, Nat.add_zero] at hn
        refine WP.ite rfl (fun h => ?_) (fun h => ?_)
        · exfalso; omega
        · refine WP.skip ?_
          exact thn_next ⟨last, ⟨hJ, by omega⟩, Ko.go, ent.gc⟩
      | [r], ht, _ =>
        have e1 := ht r (by simp)
        obtain ⟨t1, t2, t3, t4, t5⟩ := Rn.two (A := fin) (B := []) hJ
        have hmem : (fin ++ ([r] ++ [last])).flatten = fin.flatten ++ (r ++ (last ++ [])) := by simp
        simp only [List.flatten_nil, List.flatten_cons, List.append_nil, List.length_nil, List.length_append, Nat.zero_add, Nat.add_zero] at hn
        refine WP.ite rfl (fun h => ?_) (fun h => ?_)
        · rw [hmem]
          refine Zc ?_
          iterate 3 refine Zm ?_
          refine Run.eqv (v' := .int .i64 ((fin.flatten.length + r.length : Nat) : Int)) (by congr 1; omega) ?_
          refine Zm ?_
          refine Run.eqv (v' := .int .i64 ((fin.flatten.length + r.length + last.length : Nat) : Int)) (by congr 1; omega) ?_
          refine Zm ?_
          refine Run.callP [0] ok_90 (sym_ok hR sv _ fin.flatten r last [] (Nat.le_refl _) (List.length_pos_iff.1 (by omega)) (List.length_pos_iff.1 (by omega)) t1 t2 t3 (fun x hx => hsm x (t4 x hx)) (fun x hx => hsm x (t5 x hx)) (by simp only [List.length_nil]; omega)) ?_; rintro _ _ ⟨Z, zp, zs, rfl⟩
          refine Run.nil ?_
          refine thn_next ⟨Z, ⟨hJ.merge (A := fin) (B := []) zp zs, by rw [zp.length_eq, List.length_append]; omega⟩, Ko.go, ?_⟩
          simp only [List.flatten_append, List.flatten_cons, List.flatten_nil, List.append_nil, List.append_assoc]; exact ent.gc
        · refine WP.skip ?_
          have el : last = [] := List.length_eq_zero_iff.1 (by omega)
          subst el
          refine thn_next ⟨r, ⟨Rn.nil (A := fin ++ [r]) (by simpa using hJ), by omega⟩, Ko.go, ?_⟩
          simp only [List.flatten_append, List.flatten_cons, List.flatten_nil, List.append_nil, List.append_assoc]; exact ent.gc
      | r1 :: r2 :: rest, _, h => simp at h
    rintro last2 ⟨hK, hl2⟩
    refine WP.trim [6, 0, 1, 2] [0] ?_
    refine Zc ?_
    refine Zm ?_
    refine Zu ?_
    refine Zm ?_
    refine Run.nil ?_
    refine blk_norm ?_
    exact thn_next ⟨(s * 2, fin, last2), ⟨by simp only; omega, by simp only; omega, hK, hf, hl2⟩, by simp only; omega, Ko.go, ent.gc⟩
  · refine Zj ?_
    exact retN [] [] rfl rfl ⟨_, ent.refl _, _, hI.perm, hI.end hsl (by omega) (by omega), rfl⟩
set_option maxRecDepth 100000 in
theorem sortStable_ok (hR : Heap) (sv : SV) (xs : List Iv) (hreg : xs.Pairwise fun x y => x.reg < y.reg) (hsm : ∀ x ∈ xs, smallV x) (hl : xs.length ≤ 1000000) :
    Tri Tryd.prog hR 44 #[sv.val, cmpF] [slA 62 encIv sv.val xs] fun _ Γ' => ∃ ys : List Iv, ys.Perm xs ∧ ys.Pairwise ltV ∧ Γ' = [slA 62 encIv sv.val ys] := by
  refine Tri.ent (Tri.of (args := [sv.val, cmpF]) Tryd.func44 rfl Tryd.ntmps44 (by simp) ?_)
  refine Zc ?_
  refine Zm ?_
  refine Zm ?_
  refine Run.lenO 0 rfl rfl sl_44 rfl rfl rfl ?_
  refine Zm ?_
  refine Run.callP [0] ok_71 (stable_ok hR sv xs hreg hsm hl) ?_; rintro _ _ ⟨ys, h1, h2, rfl⟩
  refine Run.nil ?_
  exact retN [] [] rfl rfl ⟨_, ent.refl _, ys, h1, h2, rfl⟩
end Go.Proofs.YtjjfehdlmdhhmaaDoor
end
