/- append that tells its two ways apart: elder slices of the same block stay what they were. Over any program. -/
import Derived.Test.YtfaokbjpinlcaaaGreatGA2
import Derived.RangeFuncRecord
section
/- append that tells its two ways apart: elder slices of the same block stay what they were. Over any program. -/
namespace Go.Sep
section
variable {P : Program} {hR : Heap} {n : Fr} {cf : Op → Cls} {ops : Array Oper} {l : List Oper} {K : Env → List HProp → Prop} {ρ : Env} {Γ : List HProp} {o : Oper} {d : Nat}
variable {A : Type} {TE : TypeId} {E : Enc A} {v : SV} {xs ys : List A}
/-- append, and what was there before stays: in its place, or in a block of its own -/
theorem Run.append2 (k : Nat) {T : TypeId} {x y : Operand} {v2 : Value} {by' : Nat} {z : Value} (hop : o.op = .call { callee := .builtin .append, args := #[x, y], argTypes := #[T, T] })
    (hx : ρ.val x = some v.val) (hy : ρ.val y = some v2) (_hd : o.dst = some d) (hs : preC .E n cf ops ρ o d = true)
    (hk : Γ[k]? = some (slA TE E v.val xs)) (hT : slT P T = some (TE, E.sz, by')) (hz : zr P TE = some z) (hzs : z.cells.size = E.sz) (hsrc : ∀ h w, sat Γ h → Fits hR h w → SlR E.rd (hp w) v2 ys) (hb : (xs.length + ys.length) * by' ≤ 140737488355328) (h63 : xs.length + ys.length ≤ 9223372036854775807)
    (H1 : ∀ sv : SV, sv.n = xs.length + ys.length → sv.a = v.a → sv.c = v.c → Run P hR n cf ops l K ((d, sv.val) :: ρ) (Γ.set k (slA TE E sv.val (xs ++ ys))))
    (H2 : ∀ sv : SV, sv.n = xs.length + ys.length → Run P hR n cf ops l K ((d, sv.val) :: ρ) (Γ ++ [slA TE E sv.val (xs ++ ys)])) : Run P hR n cf ops (o :: l) K ρ Γ := by
  intro a h ho ht hl
  obtain ⟨h1, h2, h3, h4⟩ := preC_spec hs
  obtain ⟨hu, inf, hinf, hisz, hiby⟩ := slT_spec hT
  have hiz : inf.zero = some z := by unfold zr at hz; rw [hinf] at hz; simpa using hz
  unfold opsRun
  rw [gd_wanted ho h4, if_pos rfl, h3]
  intro w f
  obtain ⟨g1, g2, gA, hd, e, hset⟩ := sat_get ht hk
  have hY := hsrc h w ht f
  -- how it ends
  suffices hres : ∃ (sv : SV) (w' : World), (Builtin.append_ #[T, T] o.type #[v.val, v2]).run P w = .ok sv.val w' ∧ sv.n = xs.length + ys.length ∧
      ((sv.a = v.a ∧ sv.c = v.c ∧ ∃ g1', slA TE E sv.val (xs ++ ys) g1' ∧ Disj g1' g2 ∧ Step w h w' (un g1' g2)) ∨ ∃ b ob, h b = none ∧ slA TE E sv.val (xs ++ ys) (put emp b ob) ∧ Step w h w' (put h b ob)) by
    obtain ⟨sv, w', hr, hn, hor⟩ := hres
    unfold Oper.wp
    have hrun : (execOp a.eval o).run P w = .ok (.value sv.val) w' := by
      simp [execOp, hop, resolve, invoke, builtin, ho.eval hx, ho.eval hy, hr]
    rw [hrun]
    rcases hor with ⟨ha, hc, g1', hA', hd', hst⟩ | ⟨b, ob, hnb, hA', hst⟩
    · refine ⟨_, hst, ?_⟩
      rw [h1]
      exact H1 sv hn ha hc _ _ (ho.put h2 _) (hset _ _ hA' hd') ⟨_, f.step hst⟩
    · refine ⟨_, hst, ?_⟩
      rw [h1]
      exact H2 sv hn _ _ (ho.put h2 _) (sat_snoc ht hnb hA') ⟨_, f.step hst⟩
  obtain ⟨va, vn, vc⟩ := v
  simp only [SV.val] at gA ⊢
  by_cases hys : ys = []
  · -- nothing is put behind
    subst hys
    obtain ⟨a2, c2, rfl, _⟩ := hY
    obtain ⟨a0, c0, hv0, hc0, _⟩ := slA_shape gA
    simp only [Value.slice.injEq] at hv0
    obtain ⟨rfl, rfl, rfl⟩ := hv0
    refine ⟨⟨va, xs.length, vc⟩, w, ?_, by simp, .inl ⟨rfl, rfl, g1, by simpa [SV.val] using gA, hd, by rw [← e]; exact .refl f.own⟩⟩
    have hf0 : (Builtin.firstCells inf.size 0 (.slice a2 0 c2)).run P w = .ok #[] w := by
      cases a2 with
      | none => exact run_firstCells_none w _ _ _ _
      | some ad => exact run_firstCells_some w inf.size 0 ad 0 c2 [] (by simp) (by simp)
    cases va <;> simp [Builtin.append_, underlying, hu, sizeOf, typeInfo, hinf, Builtin.lenOf, hc0, hf0, SV.val, storeCells]
  have hne := hys
  obtain ⟨a2, c2, rfl, hc2, hsome⟩ := hY
  obtain ⟨ad, rfl, _⟩ := hsome hne
  have hY' : SlR E.rd (hp w) (.slice (some ad) ys.length c2) ys := hsrc h w ht f
  have hcells := cells_of_SlR hY' hne
  have hnews : (ys.flatMap E.cells).length = ys.length * inf.size := by rw [flat_len, hisz]
  have hpos : 0 < ys.length := List.length_pos_iff.2 hne
  have h63' : ((xs.length + ys.length : Nat) : Int) ≤ 9223372036854775807 := by omega
  rcases gA with ⟨hv0, rfl, hg1⟩ | ⟨b, o', c, pre, post, hv0, q1, q2, q3, q4⟩
  · -- onto nil
    simp only [Value.slice.injEq] at hv0
    obtain ⟨rfl, rfl, rfl⟩ := hv0
    have hle1 : ys.length * inf.bytes ≤ 281474976710656 := by rw [hiby]; simp at hb; omega
    have hr := run_append_nil (P := P) w T o.type TE inf z hu hinf hiz ad ys.length c2 _ hnews hcells hpos (by simpa using h63') hle1
    obtain ⟨hst, hnone⟩ := Step.push (ob := .cells ((ys.flatMap E.cells).toArray ++ Builtin.zeroCells z.cells (grownCap w ys.length 0 TE - ys.length)) TE) (w.drawn + 1) f
    refine ⟨⟨some ⟨w.heap.size, 0, none⟩, ys.length, grownCap w ys.length 0 TE⟩, _, hr, by simp, .inr ⟨w.heap.size, .cells ((ys.flatMap E.cells).toArray ++ Builtin.zeroCells z.cells (grownCap w ys.length 0 TE - ys.length)) TE, hnone, ?_, hst⟩⟩
    · refine .inr ⟨w.heap.size, 0, grownCap w ys.length 0 TE, [], (Builtin.zeroCells z.cells (grownCap w ys.length 0 TE - ys.length)).toList, by simp [SV.val], ?_, rfl, ?_, ?_⟩
      · have : ys.length ≤ grownCap w ys.length 0 TE := by unfold grownCap; exact Nat.le_add_right _ _
        simpa using this
      · simp [zeroCells_size, hzs]
      · congr 2; apply Array.ext'; simp
  · subst q4
    simp only [Value.slice.injEq] at hv0
    obtain ⟨rfl, rfl, hvc⟩ := hv0
    have hvc' := hvc.symm
    subst hvc'
    have hbw : hp w b = some (.cells ⟨pre ++ xs.flatMap E.cells ++ post⟩ TE (0, 0)) := f.own b _ (by rw [e]; exact un_left_some put_emp_self)
    have hlx := flat_len E xs
    have hly := flat_len E ys
    by_cases hroom : xs.length + ys.length ≤ c
    · -- in its place
      have hm1 : ys.length * E.sz ≤ (c - xs.length) * E.sz := Nat.mul_le_mul_right _ (by omega)
      have hsc := run_storeCells (P := P) (off := o' + xs.length * E.sz) (ys.flatMap E.cells) ⟨pre ++ xs.flatMap E.cells ++ post⟩ 0 w hbw (by
        unfold oneCells; rw [List.all_flatMap]; exact List.all_eq_true.2 fun y _ => E.one y) (by simp only [List.size_toArray, List.length_append]; omega)
      rw [Nat.add_zero, setMany_list] at hsc
      have hnew : setManyL (pre ++ xs.flatMap E.cells ++ post) (o' + xs.length * E.sz) (ys.flatMap E.cells) = pre ++ (xs ++ ys).flatMap E.cells ++ post.drop (ys.length * E.sz) := by
        rw [flat_append, ← hlx, ← hly, ← q2]
        exact splice_mid _ _ _ _ (by omega)
      rw [hnew] at hsc
      have hst := step_write (ob' := .cells ⟨pre ++ (xs ++ ys).flatMap E.cells ++ post.drop (ys.length * E.sz)⟩ TE (0, 0)) (by rw [← e]; exact f.own) hd e
      refine ⟨⟨some ⟨b, o', none⟩, xs.length + ys.length, c⟩, _, ?_, rfl, .inl ⟨rfl, rfl, put emp b (.cells ⟨pre ++ (xs ++ ys).flatMap E.cells ++ post.drop (ys.length * E.sz)⟩ TE (0, 0)), ?_, ?_, hst⟩⟩
      · have hf1 := run_firstCells_some (P := P) w inf.size ys.length ad ys.length c2 _ hnews hcells
        rw [hisz] at hf1
        simp [Builtin.append_, underlying, hu, sizeOf, typeInfo, hinf, Builtin.lenOf, hroom, hisz, hf1, add_lit, hsc, SV.val]
      · refine .inr ⟨b, o', c, pre, post.drop (ys.length * E.sz), by simp [SV.val], by simpa using hroom, q2, ?_, rfl⟩
        rw [List.length_append, List.length_drop]
        have : (c - (xs.length + ys.length)) * E.sz = (c - xs.length) * E.sz - ys.length * E.sz := by rw [← Nat.sub_mul]; congr 1; omega
        rw [this]; omega
      · intro cc
        by_cases hcc : cc = b
        · subst hcc; exact .inr ((hd cc).resolve_left (by simp [put]))
        · exact .inl (by simp [put, hcc, emp])
    · -- in a new place
      have hold : ∀ j u, (xs.flatMap E.cells)[j]? = some u → w.cell? ((⟨b, o', none⟩ : Addr).add j) = some u := fun j u hj => by
        have hjl := (List.getElem?_eq_some_iff.1 hj).1
        rw [add_lit]
        refine cell?_of hbw rfl ?_
        simp only [List.getElem?_toArray]
        rw [List.append_assoc, List.getElem?_append_right (by omega), List.getElem?_append_left (by omega)]
        rw [← q2, Nat.add_sub_cancel_left]; exact hj
      have hfit : Builtin.nextslicecap (xs.length + ys.length) c * inf.bytes ≤ 281474976710656 := growslice_fits (by omega) (by rw [hiby]; exact hb)
      have hr := run_append_grow (P := P) w T o.type TE inf z hu hinf hiz ⟨b, o', none⟩ xs.length c (xs.flatMap E.cells) (by rw [hlx, hisz]) hold ad ys.length c2 _ hnews hcells (by omega) h63' hfit
      obtain ⟨hst, hnone⟩ := Step.push (ob := .cells ((xs.flatMap E.cells).toArray ++ (ys.flatMap E.cells).toArray ++ Builtin.zeroCells z.cells (grownCap w (xs.length + ys.length) c TE - (xs.length + ys.length))) TE) (w.drawn + 1) f
      refine ⟨⟨some ⟨w.heap.size, 0, none⟩, xs.length + ys.length, grownCap w (xs.length + ys.length) c TE⟩, _, hr, rfl, .inr ⟨w.heap.size, .cells ((xs.flatMap E.cells).toArray ++ (ys.flatMap E.cells).toArray ++ Builtin.zeroCells z.cells (grownCap w (xs.length + ys.length) c TE - (xs.length + ys.length))) TE, hnone, ?_, hst⟩⟩
      · refine .inr ⟨w.heap.size, 0, grownCap w (xs.length + ys.length) c TE, [], (Builtin.zeroCells z.cells (grownCap w (xs.length + ys.length) c TE - (xs.length + ys.length))).toList, by simp [SV.val], ?_, rfl, ?_, ?_⟩
        · have : xs.length + ys.length ≤ grownCap w (xs.length + ys.length) c TE := by unfold grownCap; exact Nat.le_add_right _ _
          simpa using this
        · simp [zeroCells_size, hzs]
        · congr 2; apply Array.ext'; simp
theorem perm1 {B : Type} : ∀ {Γ : List B} {k : Nat} {A : B}, Γ[k]? = some A → ∃ rest, Γ.Perm (A :: rest) ∧ ∀ A', (Γ.set k A').Perm (A' :: rest)
  | [], _, _, h => by simp at h
  | C :: Γ, 0, A, h => by simp at h; subst h; exact ⟨Γ, .refl _, fun _ => .refl _⟩
  | C :: Γ, k + 1, A, h => by
    obtain ⟨rest, h1, h2⟩ := perm1 (Γ := Γ) (k := k) (A := A) (by simpa using h)
    exact ⟨C :: rest, (h1.cons C).trans (.swap _ _ _), fun A' => ((h2 A').cons C).trans (.swap _ _ _)⟩
end
end Go.Sep
end
section
/- A region that draws its order, in two parts: in the first one a piece of memory is only read (its readings stand in no order), in the second one, which is behind all of the first, it may be written. Over any program. -/
namespace Go.Sep
def chkL2 (cl : Nat → Cls) (ops : Array Oper) (m : Array Nat) (l2 : List Nat) : List Nat → Bool
  | [] => true
  | x :: l => predsB ops x (x :: l ++ l2) && l.all (fun y => (m.getD y 0).testBit x || (swapC (cl x) (cl y) && apartB ops y x)) && chkL2 cl ops m l2 l
def chk2 (cl : Nat → Cls) (ops : Array Oper) (l1 l2 : List Nat) : Bool :=
  permB ops.size (l1 ++ l2) && Region.noSelect ops && chkL2 cl ops (masks ops) l2 l1 && chkL cl ops (masks ops) l2 && l2.all fun y => l1.all fun x => ((masks ops).getD y 0).testBit x
section
variable {P : Program} {hR : Heap} {ops : Array Oper} {cl : Nat → Cls}
theorem chkL2_chkL {m : Array Nat} {l2 : List Nat} : ∀ {l : List Nat}, chkL2 cl ops m l2 l = true → chkL cl ops m l = true
  | [], _ => rfl
  | x :: l, h => by
    simp only [chkL2, Bool.and_eq_true] at h
    simp only [chkL, Bool.and_eq_true]
    refine ⟨⟨?_, h.1.2⟩, chkL2_chkL h.2⟩
    have h1 := h.1.1
    unfold predsB at h1 ⊢
    split
    · rename_i o ho
      simp only [ho] at h1
      rw [Array.all_eq_true_iff_forall_mem] at h1 ⊢
      intro e he
      have h2 := h1 e he
      simp only [Bool.or_eq_true, Bool.and_eq_true, Bool.not_eq_true', decide_eq_true_eq] at h2 ⊢
      refine h2.imp id fun h3 => ⟨h3.1, ?_⟩
      have h4 := h3.2
      simp only [List.contains_eq_mem, decide_eq_false_iff_not, List.mem_append, not_or] at h4 ⊢
      exact h4.1
    · rename_i ho; simp only [ho] at h1; cases h1
theorem chkL2_erase {m : Array Nat} {l2 : List Nat} {i : Nat} : ∀ {l : List Nat}, chkL2 cl ops m l2 l = true → chkL2 cl ops m l2 (l.erase i) = true
  | [], _ => rfl
  | x :: l, h => by
    simp only [chkL2, Bool.and_eq_true] at h
    rw [List.erase_cons]
    split
    · exact h.2
    · simp only [chkL2, Bool.and_eq_true]
      refine ⟨⟨?_, ?_⟩, chkL2_erase h.2⟩
      · have h1 := h.1.1
        unfold predsB at h1 ⊢
        split
        · rename_i o ho
          simp only [ho] at h1
          rw [Array.all_eq_true_iff_forall_mem] at h1 ⊢
          intro e he
          have h2 := h1 e he
          simp only [Bool.or_eq_true, Bool.and_eq_true, Bool.not_eq_true', decide_eq_true_eq] at h2 ⊢
          refine h2.imp id fun h3 => ⟨h3.1, ?_⟩
          have h4 := h3.2
          simp only [List.contains_eq_mem, decide_eq_false_iff_not, List.mem_append, List.mem_cons, not_or] at h4 ⊢
          exact ⟨⟨h4.1.1, fun hm => h4.1.2 (List.mem_of_mem_erase hm)⟩, h4.2⟩
        · rename_i ho; simp only [ho] at h1; cases h1
      · rw [List.all_eq_true] at *
        exact fun y hy => h.1.2 y (List.mem_of_mem_erase hy)
theorem Fits.unfreeze {hF h1 : Heap} {w : World} (hd : Disj hR hF) (f : Fits (un hR hF) h1 w) : Fits hR (un h1 hF) w := by
  have hd1 := un_disj.1 f.apart
  refine ⟨fun b o hb => f.ro b o (sub_un_left hR hF b o hb), fun b o hb => ?_, disj_un.2 ⟨hd1.1, hd⟩⟩
  unfold un at hb
  cases hx : h1 b with
  | some o' => simp [hx] at hb; subst hb; exact f.own b _ hx
  | none => simp [hx] at hb; exact f.ro b o (sub_un_right hd b o hb)
theorem wpAny_of_run2 {Q : Exit → Act → World → Prop} {K : Act → Heap → Prop} {w0 : World} {h0 hF : Heap} (hd : Disj hR hF) (hsel : Region.noSelect ops = true)
    (hQ : ∀ a h w, Step w0 h0 w h → K a h → Q .normal a w) (l2 : List Nat) (hchk2 : chkL cl ops (masks ops) l2 = true) : ∀ (fuel : Nat) (l1 : List Nat) (listed : Array Bool) (a : Act) (h1 : Heap) (w : World),
      (∀ i, i ∈ l1 ++ l2 ↔ i < ops.size ∧ listed.getD i true = false) → (l1 ++ l2).Nodup → listed.size = ops.size → Closed ops listed → chkL2 cl ops (masks ops) l2 l1 = true → (∀ y ∈ l2, ∀ x ∈ l1, ((masks ops).getD y 0).testBit x = true) →
      (l1 ++ l2).length ≤ fuel → Fits (un hR hF) h1 w → Step w0 h0 w (un h1 hF) → ARun P (un hR hF) cl ops l1 a h1 (fun a' h1' => ARun P hR cl ops l2 a' (un h1' hF) K) → wpAny P .any ops Q fuel listed a w := by
  intro fuel
  induction fuel with
  | zero =>
    intro l1 listed a h1 w hmem hnd hsz hcl hc1 hx hlen f s H
    have e : l1 = [] := List.length_eq_zero_iff.1 (by rw [List.length_append] at hlen; omega)
    subst e
    exact wpAny_of_run hsel hQ 0 l2 listed a _ w hmem hnd hsz hcl hchk2 (by simpa using hlen) (f.unfreeze hd) s H
  | succ fuel ih =>
    intro l1 listed a h1 w hmem hnd hsz hcl hc1 hx hlen f s H
    cases hl1 : l1 with
    | nil =>
      subst hl1
      exact wpAny_of_run hsel hQ (fuel + 1) l2 listed a _ w hmem hnd hsz hcl hchk2 (by simpa using hlen) (f.unfreeze hd) s H
    | cons x0 l1' =>
    have hx0 : x0 ∈ l1 := by rw [hl1]; simp
    refine ⟨fun hr => ?_, fun i hi => ?_⟩
    · exfalso
      have hx := (hmem x0).1 (List.mem_append_left _ hx0)
      rw [hl1] at hc1
      simp only [chkL2, Bool.and_eq_true] at hc1
      have h1 := hc1.1.1
      unfold predsB at h1
      have ho : ops[x0]? = some ops[x0] := Array.getElem?_eq_getElem hx.1
      simp only [ho] at h1
      have : x0 ∈ Region.ready .any ops listed := by
        rw [mem_ready]
        refine ⟨hx.2, _, ho, fun e he hb => ?_⟩
        have h2 := Array.all_eq_true_iff_forall_mem.1 h1 e he
        simp only [hb, Bool.not_true, Bool.false_or, Bool.and_eq_true, decide_eq_true_eq, Bool.not_eq_true', List.contains_eq_mem, decide_eq_false_iff_not] at h2
        cases hg : listed.getD e.on false with
        | true => rfl
        | false => exact absurd ((hmem e.on).2 ⟨h2.1, by
            rw [Array.getD_eq_getD_getElem?, Array.getElem?_eq_getElem (by omega)] at hg ⊢; exact hg⟩) (by rw [hl1]; exact h2.2)
      rw [hr] at this; cases this
    · have hi' := mem_ready.1 hi
      obtain ⟨hun, o, ho, hpre⟩ := hi'
      have hil : i ∈ l1 ++ l2 := (hmem i).2 ⟨(Array.getElem?_eq_some_iff.1 ho).1, hun⟩
      have hdir : ∀ k, Edged ops k i → listed.getD k false = true := fun k ⟨o', ho', e, he, hb, hk⟩ => by
        rw [ho] at ho'; cases ho'; rw [← hk]; exact hpre e he hb
      have hA : ∀ x ∈ l1 ++ l2, ¬ Anc ops x i := fun x hx ha => by
        have h1 := hcl.anc ha hdir
        have h2 := ((hmem x).1 hx).2
        have h3 := ((hmem x).1 hx).1
        rw [Array.getD_eq_getD_getElem?, Array.getElem?_eq_getElem (by omega)] at h1 h2
        simp only [Option.getD_some] at h1 h2
        rw [h1] at h2; cases h2
      have hi1 : i ∈ l1 := by
        rcases List.mem_append.1 hil with h | h
        · exact h
        · exact absurd (masks_spec (hx i h x0 hx0)) (hA x0 (List.mem_append_left _ hx0))
      have hi2 : i ∉ l2 := fun h => by
        obtain ⟨_, _, h3⟩ := List.nodup_append.1 hnd
        exact h3 i hi1 i h rfl
      have H1 := bubble hsel (fun x hx => masks_spec hx) (fun x hx => hA x (List.mem_append_left _ hx)) hi1 (chkL2_chkL hc1) ⟨w, f⟩ H
      refine AStep.wpOp f (fun a' h' w' s' k => ?_) H1
      have hlen' : (l1.erase i).length = l1.length - 1 := List.length_erase_of_mem hi1
      have hpos : 0 < l1.length := List.length_pos_of_mem hi1
      have hfr := s'.frame (g := hF) (fun b o hb => f.ro b o (sub_un_right hd b o hb)) ((un_disj.1 f.apart).2.symm)
      refine ih (l1.erase i) _ a' h' w' (fun j => ?_) ?_ (by simp [hsz]) (fun j k hj he => ?_) (chkL2_erase hc1) (fun y hy x hx' => hx y hy x (List.mem_of_mem_erase hx')) (by rw [List.length_append] at hlen ⊢; omega) (f.step s') (s.trans hfr.1) k
      · have key : j ∈ l1.erase i ++ l2 ↔ j ≠ i ∧ j ∈ l1 ++ l2 := by
          rw [List.mem_append, List.mem_append, (List.nodup_append.1 hnd).1.mem_erase_iff]
          constructor
          · rintro (⟨h1, h2⟩ | h2)
            · exact ⟨h1, .inl h2⟩
            · exact ⟨fun e => hi2 (e ▸ h2), .inr h2⟩
          · rintro ⟨h1, h2 | h2⟩
            · exact .inl ⟨h1, h2⟩
            · exact .inr h2
        rw [key, hmem]
        by_cases hji : i = j
        · subst hji; simp [hsz] <;> (intros; omega)
        · rw [getD_set_ne true hji]; constructor
          · exact fun h => h.2
          · exact fun h => ⟨Ne.symm hji, h⟩
      · obtain ⟨n1, n2, n3⟩ := List.nodup_append.1 hnd
        exact List.nodup_append.2 ⟨n1.erase i, n2, fun x hx' y hy => n3 x (List.mem_of_mem_erase hx') y hy⟩
      · by_cases hji : i = j
        · subst hji; exact getD_set_true (hdir k he)
        · rw [getD_set_ne false hji] at hj; exact getD_set_true (hcl j k hj he)
theorem wp_region_drawn2 {Q : Exit → Act → World → Prop} {K : Act → Heap → Prop} {id : Nat} {a : Act} {h1 hF : Heap} {w : World} (l1 l2 : List Nat) (hm : P.follows .mixedOrders = true)
    (hchk : chk2 cl ops l1 l2 = true) (hd : Disj hR hF) (hQ : ∀ a h' w', Step w (un h1 hF) w' h' → K a h' → Q .normal a w') (f : Fits (un hR hF) h1 w)
    (H : ARun P (un hR hF) cl ops l1 a h1 (fun a' h1' => ARun P hR cl ops l2 a' (un h1' hF) K)) {ro : Option Nat} {m : Nat} (hn : ndB ro ops = true) : (Code.region id ops true).wpIn (FR ro) m P Q a w := by
  simp only [chk2, Bool.and_eq_true] at hchk
  obtain ⟨⟨⟨⟨hp, hs⟩, hc1⟩, hc2⟩, hcross⟩ := hchk
  obtain ⟨p1, p2, p3⟩ := permB_spec hp
  have f0 : Fits hR (un h1 hF) w := f.unfreeze hd
  have hst : Step w (un h1 hF) { w with drawn := w.drawn + 1 } (un h1 hF) := ⟨f0.own, Nat.le_refl _, fun _ _ _ => rfl, fun _ hb => .inl hb, ⟨rfl, rfl, rfl⟩⟩
  have hst1 : Step w h1 { w with drawn := w.drawn + 1 } h1 := ⟨f.own, Nat.le_refl _, fun _ _ _ => rfl, fun _ hb => .inl hb, ⟨rfl, rfl, rfl⟩⟩
  refine wpIn_drawn_of hm hn (wpAny_of_run2 (Q := fun e a w => e = .normal ∧ Q .normal a w) hd hs (fun a h w s k => ⟨rfl, hQ a h w s k⟩) l2 hc2 _ l1 _ a h1 _ (fun i => ?_) p2 (by simp) (fun i j hi => ?_) hc1 (fun y hy x hx => ?_) (Nat.le_of_eq p3) (f.step hst1) hst H)
  · rw [p1]
    constructor
    · exact fun hi => ⟨hi, by simp [hi]⟩
    · exact fun h => h.1
  · rw [Array.getD_eq_getD_getElem?] at hi
    by_cases hlt : i < ops.size
    · simp [hlt] at hi
    · rw [Array.getElem?_eq_none (by simp; omega)] at hi; simp at hi
  · exact List.all_eq_true.1 (List.all_eq_true.1 hcross y hy) x hx
end
section
variable {P : Program} {hR : Heap} {n : Fr} {Q : Exit → Env → List HProp → Prop} {ρ : Env} {Γ : List HProp}
theorem WP.drawnF {id : Nat} {ops : Array Oper} (cf : Op → Cls) {la lb : List Oper} (l1 l2 : List Nat) (Θ : List HProp) (hm : P.follows .mixedOrders = true) (hl1 : collectO (l1.map (ops[·]?)) = some la) (hl2 : collectO (l2.map (ops[·]?)) = some lb)
    (hk : chk2 (clOf cf ops) ops l1 l2 = true) (H : ∀ g, sat Θ g → Disj hR g → Run P (un hR g) n cf ops la (fun ρ' Γ' => Run P hR n cf ops lb (Q .normal) ρ' (Γ' ++ Θ)) ρ Γ) (hn : ndB n.ro ops = true := by rfl) : WP P hR n (.region id ops true) Q ρ (Γ ++ Θ) := by
  intro a h w ho hs hf
  obtain ⟨h1, h2, g1, g2, hd, rfl⟩ := sat_append.1 hs
  have hRg : Disj hR h2 := (hf.right hd).apart
  have hf' : Fits (un hR h2) h1 w := by
    refine ⟨fun b o hb => ?_, hf.left.own, un_disj.2 ⟨hf.left.apart, hd.symm⟩⟩
    unfold un at hb
    cases hx : hR b with
    | some o => simp [hx] at hb; subst hb; exact hf.ro b _ hx
    | none => simp [hx] at hb; exact (hf.right hd).own b o hb
  have H1 := arun_of_ops _ la (collectO_spec hl1) a h1 (H h2 g2 hRg a h1 ho g1 ⟨w, hf'⟩)
  refine wp_region_drawn2 l1 l2 hm hk hRg (fun a h' w' s k => ?_) hf' (ARun.mono (fun a' h1' hlive k => ?_) l1 ⟨w, hf'⟩ H1) (K := fun a' h' => ∃ ρ' Γ', Ok n ρ' a' ∧ sat Γ' h' ∧ Q .normal ρ' Γ') (hn := hn)
  · obtain ⟨ρ', Γ', o, t, q⟩ := k
    exact ⟨h', ρ', Γ', s, o, t, q⟩
  · obtain ⟨ρ', Γ', o, t, q⟩ := k
    obtain ⟨w1, f1⟩ := hlive
    have hd1 := (un_disj.1 f1.apart).2.symm
    exact arun_of_ops _ lb (collectO_spec hl2) a' _ (q a' _ o (sat_append.2 ⟨h1', h2, t, g2, hd1, rfl⟩) ⟨w1, f1.unfreeze hRg⟩)
/-- a block that is owned, lent -/
theorem lent_blk {b : Nat} {cs : List Value} {T : TypeId} {Θ : List HProp} {g : Heap} (k j : Nat) {v : Value} (hk : Θ[k]? = some (blk b cs T)) (hj : cs[j]? = some v) (hs : sat Θ g) (hd : Disj hR g) : cellH (un hR g) ⟨b, j, none⟩ v := by
  obtain ⟨h1, h2, g1, hd', e, _⟩ := sat_get hs hk
  subst g1
  refine ⟨⟨cs⟩, T, (0, 0), ?_, rfl, by simpa using hj⟩
  exact sub_un_right hd b _ (by rw [e]; exact un_left_some put_emp_self)
theorem lent_sub {Θ : List HProp} {g : Heap} {A : HProp} (k : Nat) (hk : Θ[k]? = some A) (hs : sat Θ g) (hd : Disj hR g) : ∃ h1, A h1 ∧ Sub h1 (un hR g) := by
  obtain ⟨h1, h2, g1, hd', e, _⟩ := sat_get hs hk
  subst e
  exact ⟨h1, g1, (sub_un_left h1 h2).trans (sub_un_right hd)⟩
end
end Go.Sep
end
section
/- Rows, more: the first one taken off; rows turned row by row. Over any program. -/
namespace Go.Sep
section
variable {A : Type} {T : TypeId} {E : Enc A}
end
end Go.Sep
end
section
/- A range over a function: the rounds, yield, the marks. Over any program. -/
namespace Go.Sep
set_option linter.unusedVariables false
set_option linter.unusedSimpArgs false
def lop (l : Nat) (r : Loop) : HProp := fun h => h = put emp l (.loop r)
def yv (l : Nat) : Value := .func (.yield l) #[] #[]
theorem Step.alloc {hR : Heap} {w : World} {h : Heap} {ob : Obj} (hf : Fits hR h w) : Step w h (w.alloc ob) (put h w.heap.size ob) ∧ h w.heap.size = none := by
  have hb : hp w w.heap.size = none := by unfold hp; exact Array.getElem?_eq_none (Nat.le_refl _)
  have n2 : h w.heap.size = none := by
    cases hx : h w.heap.size with
    | none => rfl
    | some x => have := hf.own _ _ hx; rw [hb] at this; cases this
  have hsz : (w.alloc ob).heap = w.heap.push ob := rfl
  refine ⟨⟨fun c x hx => ?_, by rw [hsz, Array.size_push]; omega, fun c hc _ => ?_, fun c hc => ?_, ⟨rfl, rfl, rfl⟩⟩, n2⟩
  · unfold hp; rw [hsz]
    unfold put at hx
    split at hx
    · rename_i e; subst e; cases hx; rw [Array.getElem?_push, if_pos rfl]
    · have := hf.own c x hx
      unfold hp at this
      rw [Array.getElem?_push_lt (hp_lt this)]
      exact (Array.getElem?_eq_getElem (hp_lt this)).symm.trans this
  · unfold hp; rw [hsz, Array.getElem?_push_lt hc]; exact (Array.getElem?_eq_getElem hc).symm
  · unfold put at hc
    split at hc
    · rename_i e; exact .inr (by omega)
    · exact .inl hc
/-- a block that is owned becomes another object -/
theorem Step.turn {w : World} {h : Heap} {l : Nat} {o o' : Obj} (hs : Sub (un (put emp l o) h) (hp w)) (hd : Disj (put emp l o) h) : Step w (un (put emp l o) h) (w.putObj l o') (un (put emp l o') h) ∧ Disj (put emp l o') h := by
  have h0 : hp w l = some o := hs l o (un_left_some put_emp_self)
  have hlt := hp_lt h0
  have hln : h l = none := (hd l).resolve_left (by rw [put_emp_self]; simp)
  have hother : ∀ c, c ≠ l → put emp l o' c = none := fun c hc => by simp [put, hc, emp]
  have hother2 : ∀ c, c ≠ l → put emp l o c = none := fun c hc => by simp [put, hc, emp]
  refine ⟨⟨fun c x hx => ?_, by rw [World.putObj_size]; exact Nat.le_refl _, fun c hc hn => ?_, fun c hc => ?_, ⟨rfl, rfl, rfl⟩⟩, fun c => ?_⟩
  · by_cases e : c = l
    · subst e
      rw [un_left_some put_emp_self] at hx; cases hx
      exact World.putObj_heap_same hlt
    · unfold un at hx
      rw [hother c e] at hx
      simp only [Option.none_or] at hx
      unfold hp; rw [World.putObj_heap_other e]
      exact hs c x (by unfold un; rw [hother2 c e]; simpa using hx)
  · by_cases e : c = l
    · subst e; rw [un_left_some put_emp_self] at hn; cases hn
    · unfold hp; rw [World.putObj_heap_other e]
  · by_cases e : c = l
    · subst e; exact .inl (by rw [un_left_some put_emp_self]; simp)
    · refine .inl ?_
      unfold un at hc ⊢
      rw [hother c e] at hc; rw [hother2 c e]; exact hc
  · by_cases e : c = l
    · subst e; exact .inr hln
    · exact .inl (hother c e)
section
variable {P : Program} {hR : Heap} {n : Fr} {Q : Exit → Env → List HProp → Prop} {ρ : Env} {Γ : List HProp}
/-- what a call of yield does -/
def Yld (P : Program) (hR : Heap) (l : Nat) (args : List Value) (Γ : List HProp) (R : Value → List HProp → Prop) : Prop :=
  ∀ h w, sat Γ h → Fits hR h w → ∃ f tmps asg body, (Instr.yield l ⟨args⟩).run P w = .ok (.round l f tmps asg body) w ∧
    RoundIn (FR none) 0 P l f tmps asg body w fun e w' => ∃ v h' Γ', e = .returned v ∧ Step w h w' h' ∧ sat Γ' h' ∧ R v Γ'
theorem Yld.frame {l : Nat} {args : List Value} {R : Value → List HProp → Prop} (Θ : List HProp) (H : Yld P hR l args Γ R) : Yld P hR l args (Γ ++ Θ) fun v Γ' => ∃ Γ1, Γ' = Γ1 ++ Θ ∧ R v Γ1 := by
  intro h w hs hf
  obtain ⟨h1, h2, g1, g2, hd, rfl⟩ := sat_append.1 hs
  obtain ⟨f, tmps, asg, body, hy, hr⟩ := H h1 w g1 hf.left
  refine ⟨f, tmps, asg, body, hy, hr.mono ?_⟩
  rintro e w' ⟨v, h', Γ', rfl, s, t, r⟩
  obtain ⟨s', hd'⟩ := s.frame (hf.right hd).own hd
  exact ⟨v, un h' h2, Γ' ++ Θ, rfl, s', sat_append.2 ⟨h', h2, t, g2, hd', rfl⟩, Γ', rfl, r⟩
end
end Go.Sep
end
section
/- A range over a function: the statement, and functions that hold one. Over any program. -/
namespace Go.Sep
set_option linter.unusedVariables false
set_option linter.unusedSimpArgs false
def bindE : List Tmp → List Value → Env → Env
  | t :: ts, v :: vs, ρ => bindE ts vs ((t, v) :: ρ)
  | _, _, ρ => ρ
section
variable {P : Program} {hR : Heap} {k : Nat} {ρ : Env} {Γ : List HProp} {g : Operand} {ps : Array Tmp} {asg body : Code} {G : Nat → List HProp} {N : Nat} {argsOf : Nat → List Value} {gf : FuncId} {lb : Array Value}
structure RangeAt (P : Program) (hR : Heap) (k : Nat) (ρ : Env) (Γ : List HProp) (g : Operand) (ps : Array Tmp) (asg body : Code) (G : Nat → List HProp) (N : Nat) (argsOf : Nat → List Value) (gf : FuncId) (lb : Array Value) : Prop where
  hg : ρ.val g = some (.func (.func gf) #[] lb)
  ok : calleeOk P gf = true
  sz : ∀ i, (argsOf i).length = ps.size
  start : ent Γ (G 0)
  iter : ∀ l r, (∀ i, i < N → Yld P hR l (argsOf i) (lop l r :: G i) (fun v Γ' => v = .bool true ∧ Γ' = lop l r :: G (i + 1))) → Tri P hR gf (#[yv l] ++ lb) (lop l r :: G 0) (fun _ Γ' => Γ' = lop l r :: G N)
  round : ∀ l i, i < N → WP P hR ⟨k, [], some l⟩ asg (fun e ρ' Γ' => e = .normal ∧ WP P hR ⟨k, [], some l⟩ body (fun e _ Γ'' => e = .normal ∧ ent Γ'' (G (i + 1))) ρ' Γ') (bindE ps.toList (argsOf i) ρ) (G i)
abbrev RQ (P : Program) (fn : Func) (R : Value → List HProp → Prop) (w : World) (h : Heap) : Exit → Act → World → Prop :=
  bodyPostM Fence.wide 0 P fn (fun e w' => ∃ v h' Γ', e = .returned v ∧ Step w h w' h' ∧ sat Γ' h' ∧ R v Γ')
theorem args_ok {fn : Func} {args : List Value} (hn : fn.ntmps = k) (hlen : args.length ≤ k) : Ok ⟨k, [], none⟩ (argEnv 0 args) { tmps := (⟨args⟩ : Array Value) ++ Array.replicate (fn.ntmps - (⟨args⟩ : Array Value).size) undef, defers := [] } := by
  refine ⟨by simp; omega, rfl, fun t v hv => ?_⟩
  obtain ⟨_, h2⟩ := argEnv_get args 0 t v hv
  have h2' : args[t]? = some v := by simpa using h2
  have hlt : t < args.length := (List.getElem?_eq_some_iff.1 h2').1
  show ((⟨args⟩ : Array Value) ++ _)[t]? = some v
  rw [Array.getElem?_append_left (by simpa using hlt)]
  simpa using h2'
/-- what is left of a function's code, up to its end -/
def WX (P : Program) (hR : Heap) (k : Nat) (fn : Func) (R : Value → List HProp → Prop) (c : Code) (ρ : Env) (Γ : List HProp) : Prop :=
  ∀ w0 h0 a h w, Fits hR h0 w0 → Step w0 h0 w h → Ok ⟨k, [], none⟩ ρ a → sat Γ h → c.wpIn (FR none) 0 P (RQ P fn R w0 h0) a w
theorem WX.pre {fn : Func} {R : Value → List HProp → Prop} {c1 c2 : Code} (H : WP P hR ⟨k, [], none⟩ c1 (fun e ρ Γ => e = .normal ∧ WX P hR k fn R c2 ρ Γ) ρ Γ) : WX P hR k fn R (.seq c1 c2) ρ Γ := by
  intro w0 h0 a h w hf0 s o t
  refine wpIn_seq (wpIn_mono (H a h w o t (hf0.step s)) ?_)
  rintro e a1 w1 ⟨h1, ρ1, Γ1, s1, o1, t1, rfl, q⟩
  exact q w0 h0 a1 h1 w1 hf0 (s.trans s1) o1 t1
end
end Go.Sep
end
section
/- Shifts, bits, other kinds of integers. Over any program. -/
namespace Go.Sep
set_option linter.unusedVariables false
set_option linter.unusedSimpArgs false
section
variable {P : Program} {hR : Heap} {n : Fr} {cf : Op → Cls} {ops : Array Oper} {l : List Oper} {K : Env → List HProp → Prop} {ρ : Env} {Γ : List HProp} {o : Oper} {d : Nat}
def shiftR (op : BinOp) (k : IntKind) (a b : Int) : Option Value :=
  if b < 0 then none else
  match op with
  | .shl => some (.int k (k.wrap (a * 2 ^ (min b.toNat k.bits))))
  | .shr => some (.int k (a.fdiv (2 ^ (min b.toNat k.bits))))
  | _ => none
theorem Run.shift {op : BinOp} {T T' : TypeId} {x y : Operand} {k yk : IntKind} {a b : Int} {v : Value} (hop : o.op = .binOp op T x y T') (hx : ρ.val x = some (.int k a)) (hy : ρ.val y = some (.int yk b))
    (hv : shiftR op k a b = some v) (_hd : o.dst = some d) (hs : pre n cf ops ρ o d = true) (H : Run P hR n cf ops l K ((d, v) :: ρ) Γ) : Run P hR n cf ops (o :: l) K ρ Γ :=
  Run.val hs (fun A h ho ht w => by
    unfold shiftR at hv
    split at hv
    · cases hv
    rename_i hb
    cases op <;> simp only at hv <;> first | (cases hv; done) | skip
    all_goals
      cases hv
      simp [execOp, hop, ho.eval hx, ho.eval hy, eqGuard, binOp, Op.shift, hb]) H
theorem Run.conv {S T : TypeId} {us : TypeDesc} {x : Operand} {k k' : IntKind} {a : Int} (hop : o.op = .convert S T x) (hx : ρ.val x = some (.int k a)) (hS : P.underlying S = some us) (hT : P.underlying T = some (.int k'))
    (_hd : o.dst = some d) (hs : pre n cf ops ρ o d = true) (H : Run P hR n cf ops l K ((d, .int k' (k'.wrap a)) :: ρ) Γ) : Run P hR n cf ops (o :: l) K ρ Γ :=
  Run.val hs (fun A h ho ht w => by
    simp [execOp, hop, ho.eval hx, convert, underlying, hS, hT, Conv.intToInt]) H
end
/-- words of 64 bits -/
def Enc.u64 : Enc (BitVec 64) := ⟨1, fun x => [.int .u64 (x.toNat : Int)], fun _ => rfl, fun _ => rfl⟩
end Go.Sep
end
section
/- Loops and meetings that keep the frame's other slots; pieces matched one by one. Over any program. -/
namespace Go.Sep
set_option linter.unusedVariables false
/-- all that the second knows is known in the first -/
def sup (ρ' ρ : Env) : Prop := ∀ t v, ρ.get t = some v → ρ'.get t = some v
theorem sup.refl (ρ : Env) : sup ρ ρ := fun _ _ h => h
theorem Ok.sup {n : Fr} {ρ ρ' : Env} {a : Act} (h : Ok n ρ a) (hc : sup ρ ρ') : Ok n ρ' a := ⟨h.size, h.defers, fun t v hv => h.get t v (hc t v hv)⟩
def hasS (t : Nat) : Env → Bool
  | [] => false
  | (u, _) :: r => Nat.beq t u || hasS t r
/-- what is new names only slots that are carried or that are not known -/
def newB (car ρ : Env) : Env → Bool
  | [] => true
  | (t, _) :: r => (hasS t car || !hasS t ρ) && newB car ρ r
theorem get_app : ∀ (a b : Env) (t : Nat), Env.get (a ++ b) t = if hasS t a = true then a.get t else b.get t
  | [], b, t => by simp [hasS]
  | (u, v) :: r, b, t => by
    simp only [List.cons_append, Env.get, hasS]
    have hb : Nat.beq t u = true ∨ Nat.beq t u = false := by cases Nat.beq t u <;> simp
    rcases hb with e | e
    · simp only [e, cond_true, Bool.true_or, if_true]
    · simp only [e, cond_false, Bool.false_or]; exact get_app r b t
theorem get_none : ∀ {ρ : Env} {t : Nat}, hasS t ρ = false → ρ.get t = none
  | [], _, _ => rfl
  | (u, v) :: r, t, h => by
    simp only [hasS, Bool.or_eq_false_iff] at h
    simp [Env.get, h.1, get_none h.2]
theorem newB_spec {car ρ : Env} {t : Nat} : ∀ {a : Env}, newB car ρ a = true → hasS t a = true → hasS t car = true ∨ hasS t ρ = false
  | (u, v) :: r, h, ht => by
    simp only [newB, Bool.and_eq_true, Bool.or_eq_true, Bool.not_eq_true'] at h
    simp only [hasS, Bool.or_eq_true] at ht
    rcases ht with ht | ht
    · have := Nat.eq_of_beq_eq_true ht; subst this; exact h.1
    · exact newB_spec h.2 ht
theorem covers_get {ρ' : Env} : ∀ {car : Env}, covers ρ' car → ∀ t v, car.get t = some v → ρ'.get t = some v := fun h => h.get
theorem sup_keep {ρ' car ρ : Env} (hc : covers ρ' car) (hd : ρ'.drop (ρ'.length - ρ.length) = ρ) (hn : newB car ρ (ρ'.take (ρ'.length - ρ.length)) = true) : sup ρ' (car ++ ρ) := by
  intro t v h
  rw [get_app] at h
  by_cases hs : hasS t car = true
  · rw [if_pos hs] at h; exact covers_get hc t v h
  · rw [if_neg hs] at h
    have e : ρ' = ρ'.take (ρ'.length - ρ.length) ++ ρ := by
      conv => lhs; rw [← List.take_append_drop (ρ'.length - ρ.length) ρ', hd]
    rw [e, get_app]
    split
    · rename_i hs2
      rcases newB_spec hn hs2 with h3 | h3
      · exact absurd h3 hs
      · rw [get_none h3] at h; cases h
    · exact h
section
variable {P : Program} {hR : Heap} {n : Fr} {Q : Exit → Env → List HProp → Prop} {ρ : Env} {Γ : List HProp}
theorem WP.sup {c : Code} {ρ' : Env} {Γ' : List HProp} (hc : sup ρ ρ') (he : ent Γ Γ') (H : WP P hR n c Q ρ' Γ') : WP P hR n c Q ρ Γ :=
  fun a h w ho hs hf => H a h w (ho.sup hc) (he h hs) hf
theorem WP.loopS {α : Type} {c : Code} (good : α → Prop) (env : α → Env) (mem : α → List HProp) (μ : α → Nat) (x0 : α) (hg : good x0) (hc : Go.Sep.sup ρ (env x0)) (he : ent Γ (mem x0))
    (round : ∀ x, good x → WP P hR n c (thn (fun ρ' Γ' => ∃ x', good x' ∧ μ x' < μ x ∧ Go.Sep.sup ρ' (env x') ∧ ent Γ' (mem x')) Q) (env x) (mem x)) : WP P hR n (.loop c) Q ρ Γ := by
  intro a h w ho hs hf
  let I : Act → World → Prop := fun a' w' => ∃ x h', good x ∧ Step w h w' h' ∧ Ok n (env x) a' ∧ sat (mem x) h'
  intro b ks cs hro hb hr
  have key : ∀ k x a' w' h', good x → μ x = k → Step w h w' h' → Ok n (env x) a' → sat (mem x) h' →
      ∃ e a2 w2, lift n Q w h e a2 w2 ∧ ArrivesIn (Machine.fenced P (FR n.ro)) P (lone (b.atR a' (.code c :: .inLoop c :: ks)) cs w') b ks cs e a2 w2 := by
    intro k
    induction k using Nat.strongRecOn with
    | _ k ih =>
      intro x a' w' h' g hk s o t
      obtain ⟨e, a1, w1, ⟨h1, ρ1, Γ1, s1, o1, t1, q⟩, harr⟩ := round x g a' h' w' o t (hf.step s) b (.inLoop c :: ks) cs hro hb hr
      cases e with
      | normal =>
        obtain ⟨x', g', hlt, hc', he'⟩ := q
        obtain ⟨e2, a2, w2, hq2, harr2⟩ := ih (μ x') (hk ▸ hlt) x' a1 w1 h1 g' rfl (s.trans s1) (o1.sup hc') (he' h1 t1)
        exact ⟨e2, a2, w2, hq2, .of_steps (StepsIn.trans harr (.one (fenced_calm hb hr rfl) stepR_inLoop)) harr2⟩
      | exit id => exact ⟨_, a1, w1, ⟨h1, ρ1, Γ1, s.trans s1, o1, t1, q⟩, .pass (x := .inLoop c) rfl (fun _ _ => .inl (by simp)) harr⟩
      | goto l => exact ⟨_, a1, w1, ⟨h1, ρ1, Γ1, s.trans s1, o1, t1, q⟩, .pass (x := .inLoop c) rfl (fun _ _ => .inl (by simp)) harr⟩
      | ret => exact ⟨_, a1, w1, ⟨h1, ρ1, Γ1, s.trans s1, o1, t1, q⟩, .pass (x := .inLoop c) rfl (fun _ _ => .inl (by simp)) harr⟩
      | panic ch => exact ⟨_, a1, w1, ⟨h1, ρ1, Γ1, s.trans s1, o1, t1, q⟩, .pass (x := .inLoop c) rfl (fun _ _ => .inl (by simp)) harr⟩
      | outgrown => exact ⟨_, a1, w1, ⟨h1, ρ1, Γ1, s.trans s1, o1, t1, q⟩, .pass (x := .inLoop c) rfl (fun _ _ => .inl (by simp)) harr⟩
  obtain ⟨e, a', w', hq, harr⟩ := key _ x0 a w h hg rfl (.refl hf.own) (ho.sup hc) (he h hs)
  exact ⟨e, a', w', hq, .of_steps (.one (fenced_calm hb hr rfl) stepR_loop) harr⟩
/-- the slots that change are told; the others stay as they are known -/
structure Kp (ρ' car ρ : Env) : Prop where
  hc : covers ρ' car
  hd : ρ'.drop (ρ'.length - ρ.length) = ρ
  hn : newB car ρ (ρ'.take (ρ'.length - ρ.length)) = true
theorem Kp.sup {ρ' car ρ : Env} (h : Kp ρ' car ρ) : Go.Sep.sup ρ' (car ++ ρ) := sup_keep h.hc h.hd h.hn
end
/-! ### pieces, one by one -/
theorem ent.none (Γ : List HProp) : ent Γ [] := fun _ _ => trivial
theorem ent.at {Γ Δ : List HProp} {A : HProp} (k : Nat) (h : Γ[k]? = some A) (H : ent (Γ.eraseIdx k) Δ) : ent Γ (A :: Δ) := by
  have h1 := ent.perm (front_perm k Γ)
  unfold front at h1
  rw [h] at h1
  exact h1.trans (ent.cons (fun _ h => h) H)
/-- the pieces are matched one by one -/
theorem ent.go {Γ Δ : List HProp} (h : ent Γ Δ := by repeat first | exact ent.none _ | refine ent.at 0 rfl ?_ | refine ent.at 1 rfl ?_ | refine ent.at 2 rfl ?_ | refine ent.at 3 rfl ?_ | refine ent.at 4 rfl ?_ | refine ent.at 5 rfl ?_ | refine ent.at 6 rfl ?_ | refine ent.at 7 rfl ?_ | refine ent.at 8 rfl ?_ | refine ent.at 9 rfl ?_ | refine ent.at 10 rfl ?_ | refine ent.at 11 rfl ?_ | refine ent.at 12 rfl ?_ | refine ent.at 13 rfl ?_ | refine ent.at 14 rfl ?_ | refine ent.at 15 rfl ?_ | refine ent.at 16 rfl ?_ | refine ent.at 17 rfl ?_ | refine ent.at 18 rfl ?_ | refine ent.at 19 rfl ?_ | refine ent.at 20 rfl ?_ | refine ent.at 21 rfl ?_ | refine ent.at 22 rfl ?_ | refine ent.at 23 rfl ?_) : ent Γ Δ := h
end Go.Sep
end
section
/- A region that calls yield, the call told by its place. Over any program. -/
namespace Go.Sep
section
variable {P : Program} {hR : Heap} {n : Fr} {Q : Exit → Env → List HProp → Prop} {ρ : Env} {Γ : List HProp}
end
end Go.Sep
namespace Go.Sep
section
variable {P : Program} {hR : Heap} {k : Nat} {ρ : Env} {Γ : List HProp} {fn : Func} {R : Value → List HProp → Prop}
theorem WX.sup {c : Code} {ρ' : Env} {Γ' : List HProp} (hc : Go.Sep.sup ρ ρ') (he : ent Γ Γ') (H : WX P hR k fn R c ρ' Γ') : WX P hR k fn R c ρ Γ :=
  fun w0 h0 a h w hf s o t => H w0 h0 a h w hf s (o.sup hc) (he h t)
theorem Tri.ent {f : FuncId} {args : Array Value} {R0 : Value → List HProp → Prop} (H : Tri P hR f args Γ (fun v Γ' => ∃ Δ, Go.Sep.ent Γ' Δ ∧ R0 v Δ)) : Tri P hR f args Γ R0 :=
  fun h w hs hf => (H h w hs hf).mono fun e w' ⟨v, h', Γ', he, s, t, Δ, hd, r⟩ => ⟨v, h', Δ, he, s, hd h' t, r⟩
end
end Go.Sep
namespace Go.Sep
end Go.Sep
end
section
/- copy, onto a slice that is owned, of as many elements. Over any program. -/
namespace Go.Sep
section
variable {P : Program} {hR : Heap} {n : Fr} {cf : Op → Cls} {ops : Array Oper} {l : List Oper} {K : Env → List HProp → Prop} {ρ : Env} {Γ : List HProp} {o : Oper} {d : Nat}
variable {A : Type} {TE : TypeId} {E : Enc A} {v : Value} {xs ys : List A}
end
end Go.Sep
end
section
/- clear of what lies behind a place of a slice that is owned. Over any program. -/
namespace Go.Sep
section
variable {P : Program} {hR : Heap} {n : Fr} {cf : Op → Cls} {ops : Array Oper} {l : List Oper} {K : Env → List HProp → Prop} {ρ : Env} {Γ : List HProp} {o : Oper}
variable {A : Type} {TE : TypeId} {E : Enc A} {xs : List A}
end
end Go.Sep
end
section
/- Strings are compared and measured; an argument that is opened with its bounds. Over any program. -/
namespace Go.Sep
section
variable {P : Program} {hR : Heap} {n : Fr} {cf : Op → Cls} {ops : Array Oper} {l : List Oper} {K : Env → List HProp → Prop} {ρ : Env} {Γ : List HProp} {o : Oper} {d : Nat}
theorem Run.lenStr {T : TypeId} {x : Operand} {a : ByteArray} (hop : o.op = .call { callee := .builtin .len, args := #[x], argTypes := #[T] }) (hx : ρ.val x = some (.string a))
    (hT : P.underlying T = some .string) (_hd : o.dst = some d) (hs : pre n cf ops ρ o d = true) (H : Run P hR n cf ops l K ((d, .int .i64 (a.size : Int)) :: ρ) Γ) : Run P hR n cf ops (o :: l) K ρ Γ :=
  Run.val hs (fun A h ho ht w => by
    simp [execOp, hop, resolve, invoke, builtin, Builtin.len_, underlying, hT, ho.eval hx, goInt]) H
end
/-- a type's reading opens, where it is not too great -/
def OpensW {A : Type} (P : Program) (w : World) (t : TypeId) (E : Rd A) (G : A → Prop) : Prop :=
  ∀ {H : Type} {enc : TypeId × Value → H} {base : Nat} {spare : Nat → Bool} {held : Bool} {fuel : Nat} {cs : List Value} {x : DataW H × List MemPlace},
    DataW.trod enc P w base spare held fuel t cs = some x → (∀ m ∈ x.1.weights P t, m ≤ reachBytes) → ∃ a, E.rel (hp w) a cs ∧ G a
section
variable {P : Program} {w : World} {t e : TypeId}
theorem OpensW.of {A : Type} {E : Rd A} {G : A → Prop} (h : Opens P w t E G) : OpensW P w t E G := fun h1 _ => h h1
theorem OpensW.str (ht : P.underlying t = some .string) : OpensW P w t Enc.str.rd (fun s => s.size ≤ 140737488355327) := fun h hw => by
  obtain ⟨s, rfl, rfl, _⟩ := DataW.trod_string ht h
  refine ⟨s, rfl, ?_⟩
  have := hw s.data.toList.length (by simp [DataW.weights])
  simp only [reachBytes] at this
  have e : s.size = s.data.toList.length := by cases s; rfl
  show s.size ≤ 140737488355327
  rw [e]
  exact Nat.le_trans this (by decide)
theorem weightsAll_mem {H : Type} {P : Program} {e : TypeId} {m : Nat} {d : DataW H} : ∀ {ds : List (DataW H)}, d ∈ ds → m ∈ d.weights P e → m ∈ DataW.weightsAll P e ds
  | x :: r, hd, hm => by
    simp only [DataW.weightsAll, List.mem_append]
    rcases List.mem_cons.1 hd with rfl | h
    · exact .inl hm
    · exact .inr (weightsAll_mem h hm)
theorem reachBytes_le : reachBytes ≤ 140737488351232 := Nat.le_of_eq rfl
theorem OpensW.sliceT {A : Type} {E : Rd A} {G : A → Prop} (ht : P.underlying t = some (.slice e)) (hc : P.cellsOf e = E.sz) (hb : 8 ≤ P.bytesOf e) (HE : OpensW P w e E G) :
    OpensW P w t E.slice (fun xs => xs.length ≤ 17592186043904 ∧ ∀ x ∈ xs, G x) := fun {H enc base spare held fuel cs x} h hw => by
  rcases DataW.trod_slice ht h with ⟨rfl, _⟩ | ⟨a, len, cap, elems, rest, n, _, rfl, hxe, _, hle, _, hlen, hel, _⟩
  · exact ⟨[], ⟨_, rfl, none, 0, rfl, Nat.le_refl _, fun h => absurd rfl h⟩, by simp, fun x hx => by cases hx⟩
  · have hx1 : x.1 = .slice (elems.map (·.1)) (rest.map (·.1)) := by rw [hxe]
    have hwt : x.1.weights P t = ((elems.map (·.1)).length + (rest.map (·.1)).length) * P.bytesOf e :: (DataW.weightsAll P e (elems.map (·.1)) ++ DataW.weightsAll P e (rest.map (·.1))) := by
      rw [hx1]; simp only [DataW.weights, ht]
    rw [hwt] at hw
    have each : ∀ i, i < len → ∃ y : A, (∃ cs, E.rel (hp w) y cs ∧ rowH (hp w) (a.add (i * E.sz)) cs) ∧ G y := fun i hi => by
      have h1 := hel i hi
      rw [List.getElem?_eq_getElem (by omega)] at h1
      obtain ⟨cs', h2, h3⟩ := Option.bind_eq_some_iff.1 h1
      obtain ⟨y, h4, h5⟩ := HE h3 fun m hm => hw m (List.mem_cons_of_mem _ (List.mem_append_left _ (weightsAll_mem (List.mem_map_of_mem (List.getElem_mem _)) hm)))
      rw [hc] at h2
      exact ⟨y, ⟨cs', h4, rowH_of h2⟩, h5⟩
    obtain ⟨xs, hx1, hx2⟩ := choose_list len each
    have hbl : len * 8 ≤ 140737488351232 := by
      have h0 := hw _ List.mem_cons_self
      simp only [List.length_map, hlen] at h0
      have h1 : len * 8 ≤ (len + rest.length) * P.bytesOf e := Nat.mul_le_mul (Nat.le_add_right _ _) hb
      have h2 := reachBytes_le
      omega
    refine ⟨xs, ⟨_, rfl, some a, cap, by rw [hx1], by rw [hx1]; exact hle, fun _ => ⟨a, rfl, fun i y hy => (hx2 i y hy).1⟩⟩, by rw [hx1]; omega, fun y hy => ?_⟩
    obtain ⟨i, hi⟩ := List.getElem?_of_mem hy
    exact (hx2 i y hi).2
theorem OpensW.slice {A : Type} {E : Rd A} {G : A → Prop} (ht : P.underlying t = some (.slice e)) (hc : P.cellsOf e = E.sz) (hb : 8 ≤ P.bytesOf e) (HE : OpensW P w e E G) :
    OpensW P w t E.slice (fun xs => xs.length ≤ 17592186044416 ∧ ∀ x ∈ xs, G x) := fun {H enc base spare held fuel cs x} h hw => by
  obtain ⟨xs, h1, h2, h3⟩ := OpensW.sliceT ht hc hb HE h hw
  exact ⟨xs, h1, by omega, h3⟩
theorem OpensW.part {A : Type} {E : Rd A} {G : A → Prop} {fs : Array Field} (ht : P.underlying t = some (.struct fs))
    {H : Type} {enc : TypeId × Value → H} {base : Nat} {spare : Nat → Bool} {held : Bool} {fuel : Nat} {cs : List Value} {x : DataW H × List MemPlace} (h : DataW.trod enc P w base spare held fuel t cs = some x)
    (hw : ∀ m ∈ x.1.weights P t, m ≤ reachBytes) {i : Nat} {f : Field} (hf : fs[i]? = some f) (HE : OpensW P w f.type E G) : ∃ a, E.rel (hp w) a ((cs.drop f.offset).take (P.cellsOf f.type)) ∧ G a := by
  obtain ⟨xs, n, _, hxe, h1, h2, h3⟩ := DataW.trod_struct ht h
  have hg := h3 i f hf
  have hi : i < xs.length := by rw [h2]; exact (Array.getElem?_eq_some_iff.1 hf).1
  rw [List.getElem?_eq_getElem hi] at hg
  refine HE hg fun m hm => hw m ?_
  have hwt : x.1.weights P t = DataW.weightsEach P (fs.toList.map (·.type)) (xs.map (·.1)) := by
    rw [hxe]; simp only [DataW.weights, ht]
  rw [hwt]
  refine DataW.weights_mem_each (j := i) (t := f.type) (d := xs[i].1) ?_ ?_ m hm
  · rw [List.getElem?_map, Array.getElem?_toList, hf]; rfl
  · rw [List.getElem?_map, List.getElem?_eq_getElem hi]; rfl
end
end Go.Sep
end
