/- append that tells its two ways apart: elder slices of the same block stay what they were. Over any program. -/
import Derived.Test.YtengcfamhoppbaaS21
namespace Go.Sep
section
variable {P : Program} {hR : Heap} {n : Nat} {cf : Op → Cls} {ops : Array Oper} {l : List Oper} {K : Env → List HProp → Prop} {ρ : Env} {Γ : List HProp} {o : Oper} {d : Nat}
variable {A : Type} {TE : TypeId} {E : Enc A} {v : SV} {xs ys : List A}

/-- append, and what was there before stays: in its place, or in a block of its own -/
theorem Run.append2 (k : Nat) {T : TypeId} {x y : Operand} {v2 : Value} {by' : Nat} {z : Value} (hop : o.op = .call { callee := .builtin .append, args := #[x, y], argTypes := #[T, T] })
    (hx : ρ.val x = some v.val) (hy : ρ.val y = some v2) (_hd : o.dst = some d) (hs : preC .E n cf ops ρ o d = true)
    (hk : Γ[k]? = some (slA TE E v.val xs)) (hT : slT P T = some (TE, E.sz, by')) (hz : zr P TE = some z) (hzs : z.cells.size = E.sz) (hsrc : ∀ h w, sat Γ h → Fits hR h w → SlR E.rd (hp w) v2 ys) (hb : (xs.length + ys.length) * by' ≤ 140737488355328) (h63 : xs.length + ys.length ≤ 9223372036854775807)
    (H1 : ∀ sv : SV, sv.n = xs.length + ys.length → sv.a = v.a → sv.c = v.c → Run P hR n cf ops l K ((d, sv.val) :: ρ) (Γ.set k (slA TE E sv.val (xs ++ ys))))
    (H2 : ∀ sv : SV, sv.n = xs.length + ys.length → Run P hR n cf ops l K ((d, sv.val) :: ρ) (Γ ++ [slA TE E sv.val (xs ++ ys)])) : Run P hR n cf ops (o :: l) K ρ Γ := by
  intro a h ho ht hl
  obtain ⟨h1, h2, h3, h4⟩ := preC_spec hs
  obtain ⟨hu, inf, hinf, hisz, hiby⟩ := slT_spec hT
  have hiz : inf.zero = some z := by unfold zr at hz; rw [hinf] at hz; simpa using hz
  unfold opsRun
  rw [gd_wanted ho h4, if_pos rfl, h3]
  intro w f
  obtain ⟨g1, g2, gA, hd, e, hset⟩ := sat_get ht hk
  have hY := hsrc h w ht f
  -- how it ends
  suffices hres : ∃ (sv : SV) (w' : World), (Builtin.append_ #[T, T] o.type #[v.val, v2]).run P w = .ok sv.val w' ∧ sv.n = xs.length + ys.length ∧
      ((sv.a = v.a ∧ sv.c = v.c ∧ ∃ g1', slA TE E sv.val (xs ++ ys) g1' ∧ Disj g1' g2 ∧ Step w h w' (un g1' g2)) ∨ ∃ b ob, h b = none ∧ slA TE E sv.val (xs ++ ys) (put emp b ob) ∧ Step w h w' (put h b ob)) by
    obtain ⟨sv, w', hr, hn, hor⟩ := hres
    unfold Oper.wp
    have hrun : (execOp a.eval o).run P w = .ok (.value sv.val) w' := by
      simp [execOp, hop, resolve, invoke, builtin, ho.eval hx, ho.eval hy, hr]
    rw [hrun]
    rcases hor with ⟨ha, hc, g1', hA', hd', hst⟩ | ⟨b, ob, hnb, hA', hst⟩
    · refine ⟨_, hst, ?_⟩
      rw [h1]
      exact H1 sv hn ha hc _ _ (ho.put h2 _) (hset _ _ hA' hd') ⟨_, f.step hst⟩
    · refine ⟨_, hst, ?_⟩
      rw [h1]
      exact H2 sv hn _ _ (ho.put h2 _) (sat_snoc ht hnb hA') ⟨_, f.step hst⟩
  obtain ⟨va, vn, vc⟩ := v
  simp only [SV.val] at gA ⊢
  by_cases hys : ys = []
  · -- nothing is put behind
    subst hys
    obtain ⟨a2, c2, rfl, _⟩ := hY
    obtain ⟨a0, c0, hv0, hc0, _⟩ := slA_shape gA
    simp only [Value.slice.injEq] at hv0
    obtain ⟨rfl, rfl, rfl⟩ := hv0
    refine ⟨⟨va, xs.length, vc⟩, w, ?_, by simp, .inl ⟨rfl, rfl, g1, by simpa [SV.val] using gA, hd, by rw [← e]; exact .refl f.own⟩⟩
    have hf0 : (Builtin.firstCells inf.size 0 (.slice a2 0 c2)).run P w = .ok #[] w := by
      cases a2 with
      | none => exact run_firstCells_none w _ _ _ _
      | some ad => exact run_firstCells_some w inf.size 0 ad 0 c2 [] (by simp) (by simp)
    cases va <;> simp [Builtin.append_, underlying, hu, sizeOf, typeInfo, hinf, Builtin.lenOf, hc0, hf0, SV.val, storeCells]
  have hne := hys
  obtain ⟨a2, c2, rfl, hc2, hsome⟩ := hY
  obtain ⟨ad, rfl, _⟩ := hsome hne
  have hY' : SlR E.rd (hp w) (.slice (some ad) ys.length c2) ys := hsrc h w ht f
  have hcells := cells_of_SlR hY' hne
  have hnews : (ys.flatMap E.cells).length = ys.length * inf.size := by rw [flat_len, hisz]
  have hpos : 0 < ys.length := List.length_pos_iff.2 hne
  have h63' : ((xs.length + ys.length : Nat) : Int) ≤ 9223372036854775807 := by omega
  rcases gA with ⟨hv0, rfl, hg1⟩ | ⟨b, o', c, pre, post, hv0, q1, q2, q3, q4⟩
  · -- onto nil
    simp only [Value.slice.injEq] at hv0
    obtain ⟨rfl, rfl, rfl⟩ := hv0
    have hle1 : ys.length * inf.bytes ≤ 281474976710656 := by rw [hiby]; simp at hb; omega
    have hr := run_append_nil (P := P) w T o.type TE inf z hu hinf hiz ad ys.length c2 _ hnews hcells hpos (by simpa using h63') hle1
    obtain ⟨hst, hnone⟩ := Step.push (ob := .cells ((ys.flatMap E.cells).toArray ++ Builtin.zeroCells z.cells (grownCap w ys.length 0 TE - ys.length)) TE) (w.drawn + 1) f
    refine ⟨⟨some ⟨w.heap.size, 0, none⟩, ys.length, grownCap w ys.length 0 TE⟩, _, hr, by simp, .inr ⟨w.heap.size, .cells ((ys.flatMap E.cells).toArray ++ Builtin.zeroCells z.cells (grownCap w ys.length 0 TE - ys.length)) TE, hnone, ?_, hst⟩⟩
    · refine .inr ⟨w.heap.size, 0, grownCap w ys.length 0 TE, [], (Builtin.zeroCells z.cells (grownCap w ys.length 0 TE - ys.length)).toList, by simp [SV.val], ?_, rfl, ?_, ?_⟩
      · have : ys.length ≤ grownCap w ys.length 0 TE := by unfold grownCap; exact Nat.le_add_right _ _
        simpa using this
      · simp [zeroCells_size, hzs]
      · congr 2; apply Array.ext'; simp
  · subst q4
    simp only [Value.slice.injEq] at hv0
    obtain ⟨rfl, rfl, hvc⟩ := hv0
    have hvc' := hvc.symm
    subst hvc'
    have hbw : hp w b = some (.cells ⟨pre ++ xs.flatMap E.cells ++ post⟩ TE (0, 0)) := f.own b _ (by rw [e]; exact un_left_some put_emp_self)
    have hlx := flat_len E xs
    have hly := flat_len E ys
    by_cases hroom : xs.length + ys.length ≤ c
    · -- in its place
      have hm1 : ys.length * E.sz ≤ (c - xs.length) * E.sz := Nat.mul_le_mul_right _ (by omega)
      have hsc := run_storeCells (P := P) (off := o' + xs.length * E.sz) (ys.flatMap E.cells) ⟨pre ++ xs.flatMap E.cells ++ post⟩ 0 w hbw (by
        unfold oneCells; rw [List.all_flatMap]; exact List.all_eq_true.2 fun y _ => E.one y) (by simp only [List.size_toArray, List.length_append]; omega)
      rw [Nat.add_zero, setMany_list] at hsc
      have hnew : setManyL (pre ++ xs.flatMap E.cells ++ post) (o' + xs.length * E.sz) (ys.flatMap E.cells) = pre ++ (xs ++ ys).flatMap E.cells ++ post.drop (ys.length * E.sz) := by
        rw [flat_append, ← hlx, ← hly, ← q2]
        exact splice_mid _ _ _ _ (by omega)
      rw [hnew] at hsc
      have hst := step_write (ob' := .cells ⟨pre ++ (xs ++ ys).flatMap E.cells ++ post.drop (ys.length * E.sz)⟩ TE (0, 0)) (by rw [← e]; exact f.own) hd e
      refine ⟨⟨some ⟨b, o', none⟩, xs.length + ys.length, c⟩, _, ?_, rfl, .inl ⟨rfl, rfl, put emp b (.cells ⟨pre ++ (xs ++ ys).flatMap E.cells ++ post.drop (ys.length * E.sz)⟩ TE (0, 0)), ?_, ?_, hst⟩⟩
      · have hf1 := run_firstCells_some (P := P) w inf.size ys.length ad ys.length c2 _ hnews hcells
        rw [hisz] at hf1
        simp [Builtin.append_, underlying, hu, sizeOf, typeInfo, hinf, Builtin.lenOf, hroom, hisz, hf1, add_lit, hsc, SV.val]
      · refine .inr ⟨b, o', c, pre, post.drop (ys.length * E.sz), by simp [SV.val], by simpa using hroom, q2, ?_, rfl⟩
        rw [List.length_append, List.length_drop]
        have : (c - (xs.length + ys.length)) * E.sz = (c - xs.length) * E.sz - ys.length * E.sz := by rw [← Nat.sub_mul]; congr 1; omega
        rw [this]; omega
      · intro cc
        by_cases hcc : cc = b
        · subst hcc; exact .inr ((hd cc).resolve_left (by simp [put]))
        · exact .inl (by simp [put, hcc, emp])
    · -- in a new place
      have hold : ∀ j u, (xs.flatMap E.cells)[j]? = some u → w.cell? ((⟨b, o', none⟩ : Addr).add j) = some u := fun j u hj => by
        have hjl := (List.getElem?_eq_some_iff.1 hj).1
        rw [add_lit]
        refine cell?_of hbw rfl ?_
        simp only [List.getElem?_toArray]
        rw [List.append_assoc, List.getElem?_append_right (by omega), List.getElem?_append_left (by omega)]
        rw [← q2, Nat.add_sub_cancel_left]; exact hj
      have hfit : Builtin.nextslicecap (xs.length + ys.length) c * inf.bytes ≤ 281474976710656 := growslice_fits (by omega) (by rw [hiby]; exact hb)
      have hr := run_append_grow (P := P) w T o.type TE inf z hu hinf hiz ⟨b, o', none⟩ xs.length c (xs.flatMap E.cells) (by rw [hlx, hisz]) hold ad ys.length c2 _ hnews hcells (by omega) h63' hfit
      obtain ⟨hst, hnone⟩ := Step.push (ob := .cells ((xs.flatMap E.cells).toArray ++ (ys.flatMap E.cells).toArray ++ Builtin.zeroCells z.cells (grownCap w (xs.length + ys.length) c TE - (xs.length + ys.length))) TE) (w.drawn + 1) f
      refine ⟨⟨some ⟨w.heap.size, 0, none⟩, xs.length + ys.length, grownCap w (xs.length + ys.length) c TE⟩, _, hr, rfl, .inr ⟨w.heap.size, .cells ((xs.flatMap E.cells).toArray ++ (ys.flatMap E.cells).toArray ++ Builtin.zeroCells z.cells (grownCap w (xs.length + ys.length) c TE - (xs.length + ys.length))) TE, hnone, ?_, hst⟩⟩
      · refine .inr ⟨w.heap.size, 0, grownCap w (xs.length + ys.length) c TE, [], (Builtin.zeroCells z.cells (grownCap w (xs.length + ys.length) c TE - (xs.length + ys.length))).toList, by simp [SV.val], ?_, rfl, ?_, ?_⟩
        · have : xs.length + ys.length ≤ grownCap w (xs.length + ys.length) c TE := by unfold grownCap; exact Nat.le_add_right _ _
          simpa using this
        · simp [zeroCells_size, hzs]
        · congr 2; apply Array.ext'; simp

theorem perm1 {B : Type} : ∀ {Γ : List B} {k : Nat} {A : B}, Γ[k]? = some A → ∃ rest, Γ.Perm (A :: rest) ∧ ∀ A', (Γ.set k A').Perm (A' :: rest)
  | [], _, _, h => by simp at h
  | C :: Γ, 0, A, h => by simp at h; subst h; exact ⟨Γ, .refl _, fun _ => .refl _⟩
  | C :: Γ, k + 1, A, h => by
    obtain ⟨rest, h1, h2⟩ := perm1 (Γ := Γ) (k := k) (A := A) (by simpa using h)
    exact ⟨C :: rest, (h1.cons C).trans (.swap _ _ _), fun A' => ((h2 A').cons C).trans (.swap _ _ _)⟩
theorem perm2 {C0 : Type} : ∀ {Γ : List C0} {k j : Nat} {A B : C0}, k ≠ j → Γ[k]? = some A → Γ[j]? = some B → ∃ rest, Γ.Perm (A :: B :: rest) ∧ ∀ A' B', ((Γ.set k A').set j B').Perm (A' :: B' :: rest)
  | [], _, _, _, _, _, h, _ => by simp at h
  | C :: Γ, 0, 0, _, _, hn, _, _ => absurd rfl hn
  | C :: Γ, 0, j + 1, A, B, _, h, h' => by
    simp at h; subst h
    obtain ⟨rest, h1, h2⟩ := perm1 (Γ := Γ) (k := j) (A := B) (by simpa using h')
    exact ⟨rest, h1.cons _, fun A' B' => (h2 B').cons A'⟩
  | C :: Γ, k + 1, 0, A, B, _, h, h' => by
    simp at h'; subst h'
    obtain ⟨rest, h1, h2⟩ := perm1 (Γ := Γ) (k := k) (A := A) (by simpa using h)
    exact ⟨rest, (h1.cons _).trans (.swap _ _ _), fun A' B' => ((h2 A').cons B').trans (.swap _ _ _)⟩
  | C :: Γ, k + 1, j + 1, A, B, hn, h, h' => by
    obtain ⟨rest, h1, h2⟩ := perm2 (Γ := Γ) (k := k) (j := j) (A := A) (B := B) (by omega) (by simpa using h) (by simpa using h')
    have key : ∀ X Y : C0, (C :: X :: Y :: rest).Perm (X :: Y :: C :: rest) := fun X Y => (List.Perm.swap _ _ _).trans ((List.Perm.swap _ _ _).cons _)
    exact ⟨C :: rest, (h1.cons C).trans (key _ _), fun A' B' => ((h2 A' B').cons C).trans (key _ _)⟩

/-- the elder ones are kept among rows -/
theorem Run.appendG (k j : Nat) {T : TypeId} {x y : Operand} {v2 : Value} {by' : Nat} {z : Value} {p : List (SV × List A)} (hop : o.op = .call { callee := .builtin .append, args := #[x, y], argTypes := #[T, T] })
    (hx : ρ.val x = some v.val) (hy : ρ.val y = some v2) (_hd : o.dst = some d) (hs : preC .E n cf ops ρ o d = true)
    (hk : Γ[k]? = some (slA TE E v.val xs)) (hT : slT P T = some (TE, E.sz, by')) (hz : zr P TE = some z) (hzs : z.cells.size = E.sz) (hj : Γ[j]? = some (rows TE E p)) (hkj : k ≠ j) (hsrc : ∀ h w, sat Γ h → Fits hR h w → SlR E.rd (hp w) v2 ys)
    (hb : (xs.length + ys.length) * by' ≤ 140737488355328) (h63 : xs.length + ys.length ≤ 9223372036854775807)
    (H : ∀ (sv : SV) (p' : List (SV × List A)), sv.n = xs.length + ys.length → ((p' = p ∧ sv.a = v.a ∧ sv.c = v.c) ∨ p' = p ++ [(v, xs)]) → Run P hR n cf ops l K ((d, sv.val) :: ρ) ((Γ.set k (slA TE E sv.val (xs ++ ys))).set j (rows TE E p'))) :
    Run P hR n cf ops (o :: l) K ρ Γ := by
  refine Run.append2 k hop hx hy _hd hs hk hT hz hzs hsrc hb h63 (fun sv hn ha hc => ?_) (fun sv hn => ?_)
  · have h1 := H sv p hn (.inl ⟨rfl, ha, hc⟩)
    have e : ((Γ.set k (slA TE E sv.val (xs ++ ys))).set j (rows TE E p)) = Γ.set k (slA TE E sv.val (xs ++ ys)) := by
      apply List.ext_getElem?
      intro i
      by_cases hi : j = i
      · subst hi
        have hl := (List.getElem?_eq_some_iff.1 hj).1
        rw [List.getElem?_set_self (by simpa using hl), List.getElem?_set_ne hkj, hj]
      · rw [List.getElem?_set_ne hi]
    rw [e] at h1; exact h1
  · refine Run.via ?_ (H sv (p ++ [(v, xs)]) hn (.inr rfl))
    obtain ⟨rest, q1, q2⟩ := perm2 hkj hk hj
    have e1 : ent (Γ ++ [slA TE E sv.val (xs ++ ys)]) (rows TE E p :: slA TE E v.val xs :: (rest ++ [slA TE E sv.val (xs ++ ys)])) :=
      ent.perm ((q1.append_right _).trans (.swap _ _ _))
    have e2 : ent (rows TE E (p ++ [(v, xs)]) :: (rest ++ [slA TE E sv.val (xs ++ ys)])) ((Γ.set k (slA TE E sv.val (xs ++ ys))).set j (rows TE E (p ++ [(v, xs)]))) := by
      refine ent.perm (List.Perm.trans ?_ (q2 _ _).symm)
      have h3 : (rows TE E (p ++ [(v, xs)]) :: (rest ++ [slA TE E sv.val (xs ++ ys)])).Perm (rows TE E (p ++ [(v, xs)]) :: slA TE E sv.val (xs ++ ys) :: rest) :=
        (List.perm_append_comm (l₁ := rest) (l₂ := [slA TE E sv.val (xs ++ ys)])).cons _
      exact h3.trans (.swap _ _ _)
    exact e1.trans ((rows_snoc _).trans e2)
end
end Go.Sep
