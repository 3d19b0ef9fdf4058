/- append, slices of literals, make, slicing. Over any program. -/
import Derived.Test.YtengcfamhoppbaaS7
namespace Go.Sep
section
variable {P : Program} {hR : Heap} {n : Nat} {cf : Op → Cls} {ops : Array Oper} {l : List Oper} {K : Env → List HProp → Prop} {ρ : Env} {Γ : List HProp} {o : Oper} {d : Nat}
variable {A : Type} {TE : TypeId} {E : Enc A} {v : Value} {xs ys : List A}

theorem src_own (m : Nat) {TE2 : TypeId} {v2 : Value} (hm : Γ[m]? = some (slA TE2 E v2 ys)) : ∀ h w, sat Γ h → Fits hR h w → SlR E.rd (hp w) v2 ys := fun _ _ hs hf => by
  obtain ⟨h1, h2, g1, hd, e, _⟩ := sat_get hs hm
  subst e
  exact slA_lend g1 ((sub_un_left h1 h2).trans hf.own)
theorem src_ro {v2 : Value} (hr : SlR E.rd hR v2 ys) : ∀ h w, sat Γ h → Fits hR h w → SlR E.rd (hp w) v2 ys := fun _ _ _ hf => hr.mono hf.ro

theorem cells_of_SlR {w : World} {ad : Addr} {m c : Nat} {ys : List A} (hr : SlR E.rd (hp w) (.slice (some ad) m c) ys) (hne : ys ≠ []) :
    ∀ j u, (ys.flatMap E.cells)[j]? = some u → w.cell? (ad.add j) = some u := by
  obtain ⟨a0, c0, he, _, g3⟩ := hr
  obtain ⟨ad', h1, g4⟩ := g3 hne
  simp only [Value.slice.injEq] at he
  obtain ⟨rfl, _, _⟩ := he
  cases h1
  intro j u hj
  by_cases hz : E.sz = 0
  · have := flat_len E ys
    rw [hz, Nat.mul_zero] at this
    rw [List.length_eq_zero_iff.1 this] at hj
    simp at hj
  have hpos : 0 < E.sz := by omega
  have hjl := (List.getElem?_eq_some_iff.1 hj).1
  rw [flat_len] at hjl
  have hq : j / E.sz < ys.length := Nat.div_lt_of_lt_mul (by rw [Nat.mul_comm]; exact hjl)
  have hr : j % E.sz < E.sz := Nat.mod_lt _ hpos
  have hkd : j / E.sz * E.sz + j % E.sz = j := by rw [Nat.mul_comm]; exact Nat.div_add_mod j E.sz
  obtain ⟨cs, rfl, g5⟩ := g4 (j / E.sz) _ (List.getElem?_eq_getElem hq)
  have h2 := flat_get E ys (j / E.sz) (j % E.sz) _ (List.getElem?_eq_getElem hq) hr
  rw [hkd, hj] at h2
  obtain ⟨cc, T, fz, k1, k2, k3⟩ := g5 _ _ h2.symm
  rw [add_add] at k1 k2 k3
  have : j / E.sz * (Enc.rd E).sz + j % E.sz = j := hkd
  rw [this] at k1 k2 k3
  exact cell?_of k1 k2 k3

theorem Step.push {w : World} {h : Heap} {ob : Obj} (k : Nat) (hf : Fits hR h w) : Step w h (World.push { w with drawn := k } ob) (put h w.heap.size ob) ∧ h w.heap.size = none := by
  have hb : hp w w.heap.size = none := by simp [hp]
  have n2 : h w.heap.size = none := by
    cases hx : h w.heap.size with
    | none => rfl
    | some x => have := hf.own _ _ hx; rw [hb] at this; cases this
  refine ⟨⟨fun c x hx => ?_, by simp [World.push], fun c hc _ => ?_, fun c hc => ?_, ⟨rfl, rfl, rfl⟩⟩, n2⟩
  · unfold put at hx
    split at hx
    · rename_i e; subst e; cases hx; simp [hp, World.push]
    · have := hf.own c x hx
      unfold hp World.push at *
      rw [Array.getElem?_push_lt (hp_lt this)]
      exact (Array.getElem?_eq_getElem (hp_lt this)).symm.trans this
  · unfold hp World.push; rw [Array.getElem?_push_lt hc]; exact (Array.getElem?_eq_getElem hc).symm
  · unfold put at hc
    split at hc
    · rename_i e; exact .inr (by omega)
    · exact .inl hc

theorem push_eq (w : World) (ob : Obj) : World.alloc w.drew ob = World.push { w with drawn := w.drawn + 1 } ob := rfl

theorem flat_append (xs ys : List A) : (xs ++ ys).flatMap E.cells = xs.flatMap E.cells ++ ys.flatMap E.cells := List.flatMap_append

theorem zeroCells_size (z : Array Value) (k : Nat) : (Builtin.zeroCells z k).size = k * z.size := by simp [Builtin.zeroCells]

theorem splice_mid (pre X Y post : List Value) (h : Y.length ≤ post.length) : setManyL (pre ++ X ++ post) (pre.length + X.length) Y = pre ++ (X ++ Y) ++ post.drop Y.length := by
  apply List.ext_getElem?
  intro j
  rw [setManyL_get _ _ _ _ (by simp only [List.length_append]; omega)]
  by_cases h1 : pre.length + X.length ≤ j ∧ j < pre.length + X.length + Y.length
  · rw [if_pos h1]
    have e : pre ++ (X ++ Y) ++ post.drop Y.length = (pre ++ X) ++ (Y ++ post.drop Y.length) := by simp
    rw [e, List.getElem?_append_right (by rw [List.length_append]; omega), List.getElem?_append_left (by rw [List.length_append]; omega), List.length_append]
  · rw [if_neg h1]
    by_cases h2 : j < pre.length + X.length
    · have e : pre ++ (X ++ Y) ++ post.drop Y.length = (pre ++ X) ++ (Y ++ post.drop Y.length) := by simp
      have hl : j < (pre ++ X).length := by rw [List.length_append]; omega
      rw [e, List.getElem?_append_left hl, List.getElem?_append_left hl]
    · rw [List.getElem?_append_right (by rw [List.length_append]; omega), List.getElem?_append_right (by simp only [List.length_append]; omega), List.getElem?_drop]
      simp only [List.length_append]; congr 1; omega

/-- append, onto a slice that is owned -/
theorem Run.append (k : Nat) {T : TypeId} {x y : Operand} {v2 : Value} {by' : Nat} {z : Value} (hop : o.op = .call { callee := .builtin .append, args := #[x, y], argTypes := #[T, T] })
    (hx : ρ.val x = some v) (hy : ρ.val y = some v2) (_hd : o.dst = some d) (hs : preC .E n cf ops ρ o d = true)
    (hk : Γ[k]? = some (slA TE E v xs)) (hT : slT P T = some (TE, E.sz, by')) (hz : zr P TE = some z) (hzs : z.cells.size = E.sz) (hsrc : ∀ h w, sat Γ h → Fits hR h w → SlR E.rd (hp w) v2 ys) (hb : (xs.length + ys.length) * by' ≤ 140737488355328) (h63 : xs.length + ys.length ≤ 9223372036854775807)
    (H : ∀ sv : SV, sv.n = xs.length + ys.length → Run P hR n cf ops l K ((d, sv.val) :: ρ) (Γ.set k (slA TE E sv.val (xs ++ ys)))) : Run P hR n cf ops (o :: l) K ρ Γ := by
  intro a h ho ht hl
  obtain ⟨h1, h2, h3, h4⟩ := preC_spec hs
  obtain ⟨hu, inf, hinf, hisz, hiby⟩ := slT_spec hT
  have hiz : inf.zero = some z := by unfold zr at hz; rw [hinf] at hz; simpa using hz
  unfold opsRun
  rw [gd_wanted ho h4, if_pos rfl, h3]
  intro w f
  obtain ⟨g1, g2, gA, hd, e, hset⟩ := sat_get ht hk
  have hY := hsrc h w ht f
  -- how it ends
  suffices hres : ∃ (sv : SV) (w' : World) (g1' : Heap), (Builtin.append_ #[T, T] o.type #[v, v2]).run P w = .ok sv.val w' ∧ sv.n = xs.length + ys.length ∧
      slA TE E sv.val (xs ++ ys) g1' ∧ Disj g1' g2 ∧ Step w h w' (un g1' g2) by
    obtain ⟨sv, w', g1', hr, hn, hA', hd', hst⟩ := hres
    unfold Oper.wp
    have hrun : (execOp a.eval o).run P w = .ok (.value sv.val) w' := by
      simp [execOp, hop, resolve, invoke, builtin, ho.eval hx, ho.eval hy, hr]
    rw [hrun]
    refine ⟨_, hst, ?_⟩
    rw [h1]
    exact H sv hn _ _ (ho.put h2 _) (hset _ _ hA' hd') ⟨_, f.step hst⟩
  by_cases hys : ys = []
  · -- nothing is put behind
    subst hys
    obtain ⟨a2, c2, rfl, _⟩ := hY
    obtain ⟨a0, c0, rfl, hc0, _⟩ := slA_shape gA
    refine ⟨⟨a0, xs.length, c0⟩, w, g1, ?_, by simp, by simpa [SV.val] using gA, hd, by rw [← e]; exact .refl f.own⟩
    have hf0 : (Builtin.firstCells inf.size 0 (.slice a2 0 c2)).run P w = .ok #[] w := by
      cases a2 with
      | none => exact run_firstCells_none w _ _ _ _
      | some ad => exact run_firstCells_some w inf.size 0 ad 0 c2 [] (by simp) (by simp)
    cases a0 <;> simp [Builtin.append_, underlying, hu, sizeOf, typeInfo, hinf, Builtin.lenOf, hc0, hf0, SV.val, storeCells]
  have hne := hys
  obtain ⟨a2, c2, rfl, hc2, hsome⟩ := hY
  obtain ⟨ad, rfl, _⟩ := hsome hne
  have hY' : SlR E.rd (hp w) (.slice (some ad) ys.length c2) ys := hsrc h w ht f
  have hcells := cells_of_SlR hY' hne
  have hnews : (ys.flatMap E.cells).length = ys.length * inf.size := by rw [flat_len, hisz]
  have hpos : 0 < ys.length := List.length_pos_iff.2 hne
  have h63' : ((xs.length + ys.length : Nat) : Int) ≤ 9223372036854775807 := by omega
  rcases gA with ⟨rfl, rfl, hg1⟩ | ⟨b, o', c, pre, post, rfl, q1, q2, q3, q4⟩
  · -- onto nil
    have hle1 : ys.length * inf.bytes ≤ 281474976710656 := by rw [hiby]; simp at hb; omega
    have hr := run_append_nil (P := P) w T o.type TE inf z hu hinf hiz ad ys.length c2 _ hnews hcells hpos (by simpa using h63') hle1
    obtain ⟨hst, hnone⟩ := Step.push (ob := .cells ((ys.flatMap E.cells).toArray ++ Builtin.zeroCells z.cells (grownCap w ys.length 0 TE - ys.length)) TE) (w.drawn + 1) f
    refine ⟨⟨some ⟨w.heap.size, 0, none⟩, ys.length, grownCap w ys.length 0 TE⟩, _, put emp w.heap.size (.cells ((ys.flatMap E.cells).toArray ++ Builtin.zeroCells z.cells (grownCap w ys.length 0 TE - ys.length)) TE), hr, by simp, ?_, ?_, ?_⟩
    · refine .inr ⟨w.heap.size, 0, grownCap w ys.length 0 TE, [], (Builtin.zeroCells z.cells (grownCap w ys.length 0 TE - ys.length)).toList, by simp [SV.val], ?_, rfl, ?_, ?_⟩
      · have : ys.length ≤ grownCap w ys.length 0 TE := by unfold grownCap; exact Nat.le_add_right _ _
        simpa using this
      · simp [zeroCells_size, hzs]
      · congr 2; apply Array.ext'; simp
    · intro cc
      by_cases hcc : cc = w.heap.size
      · subst hcc; right; rw [e] at hnone; unfold un at hnone; cases hx : g2 w.heap.size <;> simp [hx] at hnone ⊢
      · left; simp [put, hcc, emp]
    · have : un (put emp w.heap.size (.cells ((ys.flatMap E.cells).toArray ++ Builtin.zeroCells z.cells (grownCap w ys.length 0 TE - ys.length)) TE)) g2 = put h w.heap.size (.cells ((ys.flatMap E.cells).toArray ++ Builtin.zeroCells z.cells (grownCap w ys.length 0 TE - ys.length)) TE) := by
        rw [e, hg1]; funext cc; unfold un put; by_cases hcc : cc = w.heap.size <;> simp [hcc, emp]
      rw [this]; exact hst
  · subst q4
    have hbw : hp w b = some (.cells ⟨pre ++ xs.flatMap E.cells ++ post⟩ TE (0, 0)) := f.own b _ (by rw [e]; exact un_left_some put_emp_self)
    have hlx := flat_len E xs
    have hly := flat_len E ys
    by_cases hroom : xs.length + ys.length ≤ c
    · -- in its place
      have hm1 : ys.length * E.sz ≤ (c - xs.length) * E.sz := Nat.mul_le_mul_right _ (by omega)
      have hsc := run_storeCells (P := P) (off := o' + xs.length * E.sz) (ys.flatMap E.cells) ⟨pre ++ xs.flatMap E.cells ++ post⟩ 0 w hbw (by
        unfold oneCells; rw [List.all_flatMap]; exact List.all_eq_true.2 fun y _ => E.one y) (by simp only [List.size_toArray, List.length_append]; omega)
      rw [Nat.add_zero, setMany_list] at hsc
      have hnew : setManyL (pre ++ xs.flatMap E.cells ++ post) (o' + xs.length * E.sz) (ys.flatMap E.cells) = pre ++ (xs ++ ys).flatMap E.cells ++ post.drop (ys.length * E.sz) := by
        rw [flat_append, ← hlx, ← hly, ← q2]
        exact splice_mid _ _ _ _ (by omega)
      rw [hnew] at hsc
      have hst := step_write (ob' := .cells ⟨pre ++ (xs ++ ys).flatMap E.cells ++ post.drop (ys.length * E.sz)⟩ TE (0, 0)) (by rw [← e]; exact f.own) hd e
      refine ⟨⟨some ⟨b, o', none⟩, xs.length + ys.length, c⟩, _, put emp b (.cells ⟨pre ++ (xs ++ ys).flatMap E.cells ++ post.drop (ys.length * E.sz)⟩ TE (0, 0)), ?_, rfl, ?_, ?_, hst⟩
      · have hf1 := run_firstCells_some (P := P) w inf.size ys.length ad ys.length c2 _ hnews hcells
        rw [hisz] at hf1
        simp [Builtin.append_, underlying, hu, sizeOf, typeInfo, hinf, Builtin.lenOf, hroom, hisz, hf1, add_lit, hsc, SV.val]
      · refine .inr ⟨b, o', c, pre, post.drop (ys.length * E.sz), by simp [SV.val], by simpa using hroom, q2, ?_, rfl⟩
        rw [List.length_append, List.length_drop]
        have : (c - (xs.length + ys.length)) * E.sz = (c - xs.length) * E.sz - ys.length * E.sz := by rw [← Nat.sub_mul]; congr 1; omega
        rw [this]; omega
      · intro cc
        by_cases hcc : cc = b
        · subst hcc; exact .inr ((hd cc).resolve_left (by simp [put]))
        · exact .inl (by simp [put, hcc, emp])
    · -- in a new place
      have hold : ∀ j u, (xs.flatMap E.cells)[j]? = some u → w.cell? ((⟨b, o', none⟩ : Addr).add j) = some u := fun j u hj => by
        have hjl := (List.getElem?_eq_some_iff.1 hj).1
        rw [add_lit]
        refine cell?_of hbw rfl ?_
        simp only [List.getElem?_toArray]
        rw [List.append_assoc, List.getElem?_append_right (by omega), List.getElem?_append_left (by omega)]
        rw [← q2, Nat.add_sub_cancel_left]; exact hj
      have hfit : Builtin.nextslicecap (xs.length + ys.length) c * inf.bytes ≤ 281474976710656 := growslice_fits (by omega) (by rw [hiby]; exact hb)
      have hr := run_append_grow (P := P) w T o.type TE inf z hu hinf hiz ⟨b, o', none⟩ xs.length c (xs.flatMap E.cells) (by rw [hlx, hisz]) hold ad ys.length c2 _ hnews hcells (by omega) h63' hfit
      obtain ⟨hst, hnone⟩ := Step.push (ob := .cells ((xs.flatMap E.cells).toArray ++ (ys.flatMap E.cells).toArray ++ Builtin.zeroCells z.cells (grownCap w (xs.length + ys.length) c TE - (xs.length + ys.length))) TE) (w.drawn + 1) f
      refine ⟨⟨some ⟨w.heap.size, 0, none⟩, xs.length + ys.length, grownCap w (xs.length + ys.length) c TE⟩, _, put emp w.heap.size (.cells ((xs.flatMap E.cells).toArray ++ (ys.flatMap E.cells).toArray ++ Builtin.zeroCells z.cells (grownCap w (xs.length + ys.length) c TE - (xs.length + ys.length))) TE), hr, rfl, ?_, ?_, ?_⟩
      · refine .inr ⟨w.heap.size, 0, grownCap w (xs.length + ys.length) c TE, [], (Builtin.zeroCells z.cells (grownCap w (xs.length + ys.length) c TE - (xs.length + ys.length))).toList, by simp [SV.val], ?_, rfl, ?_, ?_⟩
        · have : xs.length + ys.length ≤ grownCap w (xs.length + ys.length) c TE := by unfold grownCap; exact Nat.le_add_right _ _
          simpa using this
        · simp [zeroCells_size, hzs]
        · congr 2; apply Array.ext'; simp
      · intro cc
        by_cases hcc : cc = w.heap.size
        · subst hcc; right; rw [e] at hnone; unfold un at hnone; cases hx : g2 w.heap.size <;> simp [hx] at hnone ⊢
        · left; simp [put, hcc, emp]
      · have hsub : Step w h (World.push { w with drawn := w.drawn + 1 } (.cells ((xs.flatMap E.cells).toArray ++ (ys.flatMap E.cells).toArray ++ Builtin.zeroCells z.cells (grownCap w (xs.length + ys.length) c TE - (xs.length + ys.length))) TE))
            (un (put emp w.heap.size (.cells ((xs.flatMap E.cells).toArray ++ (ys.flatMap E.cells).toArray ++ Builtin.zeroCells z.cells (grownCap w (xs.length + ys.length) c TE - (xs.length + ys.length))) TE)) g2) := by
          refine ⟨fun cc x hx => hst.sub cc x ?_, hst.size, hst.keep, fun cc hcc => hst.dom cc ?_, hst.same⟩
          · unfold un at hx; unfold put at hx ⊢
            by_cases hcc : cc = w.heap.size
            · simp [hcc] at hx ⊢; exact hx
            · simp [hcc, emp] at hx ⊢
              rw [e]; exact sub_un_right hd cc x hx
          · unfold un at hcc; unfold put at hcc ⊢
            by_cases hc1 : cc = w.heap.size
            · simp [hc1]
            · simp [hc1, emp] at hcc ⊢
              rw [e]; intro h0
              cases hx : g2 cc with
              | none => exact hcc hx
              | some x => rw [sub_un_right hd cc x hx] at h0; cases h0
        exact hsub
end
end Go.Sep
