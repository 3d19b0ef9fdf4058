/- Two truth values compared. Over any program. -/
import Derived.Test.YtjjfehdlmdhhmaaDoorGL3
import Derived.Laws.StructEq
import Derived.Scope
section
/- Two truth values compared. Over any program. -/
namespace Go.Sep
section
variable {P : Program} {hR : Heap} {n : Fr} {cf : Op → Cls} {ops : Array Oper} {l : List Oper} {K : Env → List HProp → Prop} {ρ : Env} {Γ : List HProp} {o : Oper} {d : Nat}
end
end Go.Sep
end
section
/- Slices of slices and structs of two parts, read and opened. Over any program. -/
namespace Go.Sep
open Go.ChangeShapes Go.WideShapes Go.ChangeAt Go.RowKit
theorem SlR.rowV {A : Type} {E : Rd A} {yss : List (List A)} {h : Heap} {v : Value} (hr : SlR E.slice h v yss) {i : Nat} {ys : List A} (hi : yss[i]? = some ys) :
    ∃ u, cellH h (elemAddr v (i * 1)) u ∧ SlR E h u ys := by
  obtain ⟨cs, ⟨u, rfl, hu⟩, h2⟩ := hr.at hi
  refine ⟨u, ?_, hu⟩
  have := h2 0 u rfl
  exact this
theorem add_plus (a : Addr) (i j : Nat) : (a.add i).add j = a.add (i + j) := by
  unfold Addr.add
  by_cases hi : i = 0 <;> by_cases hj : j = 0 <;> simp [hi, hj, Nat.add_assoc]
end Go.Sep
end
section
/- A scope that is run through straight. Over any program. -/
namespace Go.Sep
section
variable {P : Program} {hR : Heap} {n : Fr} {Q : Exit → Env → List HProp → Prop} {ρ : Env} {Γ : List HProp}
end
end Go.Sep
end
section
/- Natural numbers in cells; rows of slices as one piece. Over any program. -/
namespace Go.Sep
def Enc.nat : Enc Nat := ⟨1, fun b => [.int .i64 (b : Int)], fun _ => rfl, fun _ => rfl⟩
/-- what is read as one thing is read as another -/
theorem SlR.turn {A B : Type} {E : Rd A} {F : Rd B} {h : Heap} {v : Value} {xs : List A} {ys : List B} (hl : ys.length = xs.length) (hs : F.sz = E.sz)
    (ht : ∀ (i : Nat) (x : A) (y : B), xs[i]? = some x → ys[i]? = some y → ∀ cs, E.rel h x cs → F.rel h y cs) (H : SlR E h v xs) : SlR F h v ys := by
  obtain ⟨a, c, h1, h2, h3⟩ := H
  refine ⟨a, c, by rw [hl]; exact h1, by rw [hl]; exact h2, fun hne => ?_⟩
  obtain ⟨ad, e, h4⟩ := h3 (fun e => hne (List.length_eq_zero_iff.1 (by rw [hl, e]; rfl)))
  refine ⟨ad, e, fun i y hy => ?_⟩
  have hlt := (List.getElem?_eq_some_iff.1 hy).1
  have hx : xs[i]? = some (xs[i]'(by omega)) := List.getElem?_eq_getElem _
  obtain ⟨cs, g1, g2⟩ := h4 i _ hx
  exact ⟨cs, ht i _ y hx hy cs g1, by rw [hs]; exact g2⟩
def toI (l : List Nat) : List Int := l.map fun (b : Nat) => (b : Int)
theorem SlR.nat {h : Heap} {v : Value} {l : List Nat} (H : SlR (Enc.int .i64).rd h v (toI l)) : SlR Enc.nat.rd h v l :=
  SlR.turn (E := (Enc.int .i64).rd) (F := Enc.nat.rd) (H := H) (by simp [toI]) rfl fun i x y hx hy cs hc => by
    simp only [toI, List.getElem?_map, hy, Option.map_some, Option.some.injEq] at hx
    subst hx; exact hc
theorem SlR.int {h : Heap} {v : Value} {l : List Nat} (H : SlR Enc.nat.rd h v l) : SlR (Enc.int .i64).rd h v (toI l) :=
  SlR.turn (E := Enc.nat.rd) (F := (Enc.int .i64).rd) (H := H) (by simp [toI]) rfl fun i x y hx hy cs hc => by
    simp only [toI, List.getElem?_map, hx, Option.map_some, Option.some.injEq] at hy
    subst hy; exact hc
section
variable {P : Program} {hR : Heap} {n : Fr} {cf : Op → Cls} {ops : Array Oper} {l : List Oper} {K : Env → List HProp → Prop} {ρ : Env} {Γ : List HProp} {o : Oper} {d : Nat}
theorem Run.neB {T T' : TypeId} {x y : Operand} {a b : Bool} (hop : o.op = .binOp .neq T x y T') (hx : ρ.val x = some (.bool a)) (hy : ρ.val y = some (.bool b)) (hT : P.underlying T = some .bool)
    (_hd : o.dst = some d) (hs : pre n cf ops ρ o d = true) (H : Run P hR n cf ops l K ((d, .bool (!(a == b))) :: ρ) Γ) : Run P hR n cf ops (o :: l) K ρ Γ :=
  Run.val hs (fun A h ho ht w => by
    have e := run_equalIn_bool' (P := P) w 9999 T a b hT
    have g : (Op.equal T (.bool a) (.bool b)).run P w = .ok (a == b) w := e
    simp [execOp, hop, ho.eval hx, ho.eval hy, eqGuard, binOp, g]) H
end
/-! ### many pieces as one -/
def many (Θ : List HProp) : HProp := fun h => sat Θ h
theorem many_in (Θ Γ : List HProp) : ent (Θ ++ Γ) (many Θ :: Γ) := fun h hs => by
  obtain ⟨h1, h2, g1, g2, hd, e⟩ := sat_append.1 hs
  exact ⟨h1, h2, g1, g2, hd, e⟩
theorem many_out (Θ Γ : List HProp) : ent (many Θ :: Γ) (Θ ++ Γ) := fun h ⟨h1, h2, g1, g2, hd, e⟩ => sat_append.2 ⟨h1, h2, g1, g2, hd, e⟩
theorem ent.at0 {Γ Δ Θ : List HProp} (h : ent Γ Δ) : ent (Γ ++ Θ) (Δ ++ Θ) := ent.app h (ent.refl _)
section
variable {A : Type} (T : TypeId) (E : Enc A)
def rowsL (p : List (SV × List A)) : List HProp := p.map fun q => slA T E q.1.val q.2
/-- rows of slices, each owned -/
def rows (p : List (SV × List A)) : HProp := many (rowsL T E p)
def rowsBut (i : Nat) (p : List (SV × List A)) : HProp := many ((rowsL T E p).eraseIdx i)
variable {T E}
theorem rows_new (Γ : List HProp) : ent Γ (rows T E [] :: Γ) := many_in [] Γ
theorem rows_snoc {p : List (SV × List A)} {sv : SV} {xs : List A} (Γ : List HProp) : ent (rows T E p :: slA T E sv.val xs :: Γ) (rows T E (p ++ [(sv, xs)]) :: Γ) := by
  have h1 := many_out (rowsL T E p) (slA T E sv.val xs :: Γ)
  have h2 := many_in (rowsL T E (p ++ [(sv, xs)])) Γ
  have e : rowsL T E (p ++ [(sv, xs)]) ++ Γ = rowsL T E p ++ (slA T E sv.val xs :: Γ) := by simp [rowsL]
  rw [e] at h2
  exact h1.trans h2
theorem rows_out {p : List (SV × List A)} {i : Nat} {sv : SV} {xs : List A} (hi : p[i]? = some (sv, xs)) (Γ : List HProp) : ent (rows T E p :: Γ) (slA T E sv.val xs :: rowsBut T E i p :: Γ) := by
  have h1 := many_out (rowsL T E p) Γ
  have h2 : ent (rowsL T E p) (slA T E sv.val xs :: (rowsL T E p).eraseIdx i) := by
    have := ent.perm (front_perm i (rowsL T E p))
    have e : (rowsL T E p)[i]? = some (slA T E sv.val xs) := by simp [rowsL, hi]
    unfold front at this; rw [e] at this; exact this
  refine h1.trans ((ent.at0 h2).trans ?_)
  exact ent.cons (fun _ h => h) (many_in _ Γ)
theorem rows_in {p : List (SV × List A)} {i : Nat} {sv : SV} {xs : List A} (hi : i < p.length) (Γ : List HProp) : ent (slA T E sv.val xs :: rowsBut T E i p :: Γ) (rows T E (p.set i (sv, xs)) :: Γ) := by
  have h1 : ent (slA T E sv.val xs :: rowsBut T E i p :: Γ) (slA T E sv.val xs :: ((rowsL T E p).eraseIdx i ++ Γ)) := ent.cons (fun _ h => h) (many_out _ Γ)
  have h2 : ent (slA T E sv.val xs :: (rowsL T E p).eraseIdx i) (rowsL T E (p.set i (sv, xs))) := by
    have := ent.perm (front_perm i (rowsL T E (p.set i (sv, xs)))).symm
    have e : (rowsL T E (p.set i (sv, xs)))[i]? = some (slA T E sv.val xs) := by simp [rowsL, hi]
    have e2 : (rowsL T E (p.set i (sv, xs))).eraseIdx i = (rowsL T E p).eraseIdx i := by
      unfold rowsL; rw [List.map_set, List.eraseIdx_set_eq]
    unfold front at this; rw [e, e2] at this; exact this
  exact h1.trans ((ent.at0 (Θ := Γ) h2).trans (many_in _ Γ))
theorem sat_rows {p : List (SV × List A)} {g : Heap} (hs : rows T E p g) {i : Nat} {sv : SV} {xs : List A} (hi : p[i]? = some (sv, xs)) : SlR E.rd g sv.val xs := by
  have h0 : sat [rows T E p] g := ⟨g, emp, hs, trivial, fun _ => .inr rfl, (un_emp _ fun _ => rfl).symm⟩
  obtain ⟨h1, h2, g1, _, _, e⟩ := rows_out hi [] g h0
  subst e
  exact slA_lend g1 (sub_un_left h1 h2)
/-- slices of slices, lent for reading -/
theorem lent_rows {T1 : TypeId} {v : Value} {p : List (SV × List A)} {Θ : List HProp} {hR g : Heap} (k1 k2 : Nat) (hk1 : Θ[k1]? = some (slA T1 Enc.slice v (p.map Prod.fst))) (hk2 : Θ[k2]? = some (rows T E p)) (hs : sat Θ g) (hd : Disj hR g) :
    SlR E.rd.slice (un hR g) v (p.map Prod.snd) := by
  obtain ⟨a1, a2, b1, _, e1, _⟩ := sat_get hs hk1
  obtain ⟨c1, c2, d1, _, e2, _⟩ := sat_get hs hk2
  have s1 : Sub a1 (un hR g) := by rw [e1] at hd ⊢; exact (sub_un_left a1 a2).trans (sub_un_right hd)
  have s2 : Sub c1 (un hR g) := by rw [e2] at hd ⊢; exact (sub_un_left c1 c2).trans (sub_un_right hd)
  refine SlR.turn (E := Enc.slice.rd) (F := E.rd.slice) (H := slA_lend b1 s1) (by simp) rfl fun i x y hx hy cs hc => ?_
  simp only [List.getElem?_map] at hx hy
  cases hp : p[i]? with
  | none => rw [hp] at hx; cases hx
  | some q =>
    rw [hp] at hx hy; cases hx; cases hy
    exact ⟨q.1.val, hc, (sat_rows d1 hp).mono s2⟩
end
end Go.Sep
end
section
/- What is owned is frozen for a piece of code: it is only read there. Rows of nothing. Over any program. -/
namespace Go.Sep
section
variable {P : Program} {hR : Heap} {n : Fr} {Q : Exit → Env → List HProp → Prop} {ρ : Env} {Γ : List HProp}
theorem WP.freeze {c : Code} (Θ : List HProp) (H : ∀ g, sat Θ g → Disj hR g → WP P (un hR g) n c (fun e ρ' Γ' => Q e ρ' (Γ' ++ Θ)) ρ Γ) : WP P hR n c Q ρ (Γ ++ Θ) := by
  intro a h w ho hs hf
  obtain ⟨h1, h2, g1, g2, hd, rfl⟩ := sat_append.1 hs
  have hRg : Disj hR h2 := (hf.right hd).apart
  have hf' : Fits (un hR h2) h1 w := by
    refine ⟨fun b o hb => ?_, hf.left.own, un_disj.2 ⟨hf.left.apart, hd.symm⟩⟩
    unfold un at hb
    cases hx : hR b with
    | some o => simp [hx] at hb; subst hb; exact hf.ro b _ hx
    | none => simp [hx] at hb; exact (hf.right hd).own b o hb
  refine wpIn_mono (H h2 g2 hRg a h1 w ho g1 hf') ?_
  rintro e a1 w1 ⟨h', ρ1, Γ1, s, o1, t1, q⟩
  obtain ⟨s', hd'⟩ := s.frame (hf.right hd).own hd
  exact ⟨un h' h2, ρ1, Γ1 ++ Θ, s', o1, sat_append.2 ⟨h', h2, t1, g2, hd', rfl⟩, q⟩
end
section
variable {A : Type} {T : TypeId} {E : Enc A}
theorem rows_nils (Γ : List HProp) : ∀ n : Nat, ent Γ (rows T E (List.replicate n ((⟨none, 0, 0⟩ : SV), ([] : List A))) :: Γ)
  | 0 => rows_new Γ
  | n + 1 => by
    have h1 := rows_nils Γ n
    have h2 := slA_nil T E (rows T E (List.replicate n ((⟨none, 0, 0⟩ : SV), ([] : List A))) :: Γ)
    have h3 : ent (rows T E (List.replicate n ((⟨none, 0, 0⟩ : SV), ([] : List A))) :: Γ ++ [slA T E (.slice none 0 0) []]) (rows T E (List.replicate n ((⟨none, 0, 0⟩ : SV), ([] : List A))) :: slA T E (SV.val ⟨none, 0, 0⟩) [] :: Γ) :=
      ent.cons (fun _ h => h) (ent.perm (List.perm_append_comm (l₁ := Γ) (l₂ := [slA T E (.slice none 0 0) []])))
    have e : List.replicate (n + 1) ((⟨none, 0, 0⟩ : SV), ([] : List A)) = List.replicate n ((⟨none, 0, 0⟩ : SV), ([] : List A)) ++ [(⟨none, 0, 0⟩, [])] := by
      rw [List.replicate_succ']
    rw [e]
    exact h1.trans (h2.trans (h3.trans (rows_snoc Γ)))
end
theorem sum_set : ∀ (l : List Nat) (i x y : Nat), l[i]? = some y → (l.set i x).sum + y = l.sum + x
  | [], _, _, _, h => by simp at h
  | a :: l, 0, x, y, h => by simp at h; subst h; simp; omega
  | a :: l, i + 1, x, y, h => by
    have := sum_set l i x y (by simpa using h)
    simp only [List.set_cons_succ, List.sum_cons]; omega
end Go.Sep
end
section
/- What is frozen is read at any time: its reading stands in no order. Over any program. -/
namespace Go.Sep
def cfF : Op → Cls
  | .load .. => .P
  | o => cf0 o
section
variable {P : Program} {hR : Heap} {n : Fr} {cf : Op → Cls} {ops : Array Oper} {l : List Oper} {K : Env → List HProp → Prop} {ρ : Env} {Γ : List HProp} {o : Oper} {d : Nat}
theorem Run.loadF_of {T : TypeId} {x : Operand} {p : Addr} {v : Value} (hop : o.op = .load T x) (hx : ρ.val x = some (.pointer (some p))) (hs : preC .P n cf ops ρ o d = true)
    (hv : ∃ ob, hR p.block = some ob ∧ ∀ w, hp w p.block = some ob → (loadVar T p).run P w = .ok v w) (H : Run P hR n cf ops l K ((d, v) :: ρ) Γ) : Run P hR n cf ops (o :: l) K ρ Γ := by
  intro a h ho ht hl
  obtain ⟨h1, h2, h3, h4⟩ := preC_spec hs
  unfold opsRun
  rw [gd_wanted ho h4, if_pos rfl, h3]
  obtain ⟨ob, hob, hrun⟩ := hv
  have ho' : Ok n ((d, v) :: ρ) (a.put o.dst v) := by rw [h1]; exact ho.put h2 v
  refine ⟨v, fun w hw => ?_, H _ h ho' ht hl⟩
  simp only [execOp, hop, ho.eval hx, Instr.loadAt, Instr.sureAddr, Sem.run_bind, Sem.run_pure, Result.andThen_ok, hrun w (hw _ _ hob)]
theorem Run.loadF {T : TypeId} {x : Operand} {p : Addr} {v : Value} {s : Nat} (hop : o.op = .load T x) (hx : ρ.val x = some (.pointer (some p))) (hT : ag P T = some (false, s))
    (_hd : o.dst = some d) (hs : preC .P n cf ops ρ o d = true) (hv : cellH hR p v) (H : Run P hR n cf ops l K ((d, v) :: ρ) Γ) : Run P hR n cf ops (o :: l) K ρ Γ :=
  Run.loadF_of hop hx hs (by
    obtain ⟨c, U, fz, h1, h2, h3⟩ := hv
    exact ⟨_, h1, fun w hw => loadVar_cell hT h2 h3 w hw⟩) H
theorem Run.loadFagg {T : TypeId} {x : Operand} {p : Addr} {cs : List Value} {m : Nat} (hop : o.op = .load T x) (hx : ρ.val x = some (.pointer (some p))) (hT' : ag P T = some (true, m + 1))
    (_hd : o.dst = some d) (hs : preC .P n cf ops ρ o d = true) (hv : rowH hR p cs) (hm : cs.length = m + 1) (H : Run P hR n cf ops l K ((d, .agg ⟨cs⟩) :: ρ) Γ) : Run P hR n cf ops (o :: l) K ρ Γ :=
  Run.loadF_of hop hx hs (by
    have hT : ag P T = some (true, cs.length) := by rw [hm]; exact hT'
    obtain ⟨c, U, fz, h1, h2, h3⟩ := rowH_block hv (by intro e; rw [e] at hm; simp at hm)
    exact ⟨_, h1, fun w hw => loadVar_row hT w fun j v hj => cell?_of (by rw [add_block]; exact hw) (add_spot _ h2) (by rw [add_off]; exact h3 j v hj)⟩) H
end
end Go.Sep
end
section
/- append that tells its two ways apart: elder slices of the same block stay what they were. Over any program. -/
namespace Go.Sep
section
variable {P : Program} {hR : Heap} {n : Fr} {cf : Op → Cls} {ops : Array Oper} {l : List Oper} {K : Env → List HProp → Prop} {ρ : Env} {Γ : List HProp} {o : Oper} {d : Nat}
variable {A : Type} {TE : TypeId} {E : Enc A} {v : SV} {xs ys : List A}
/-- append, and what was there before stays: in its place, or in a block of its own -/
theorem Run.append2 (k : Nat) {T : TypeId} {x y : Operand} {v2 : Value} {by' : Nat} {z : Value} (hop : o.op = .call { callee := .builtin .append, args := #[x, y], argTypes := #[T, T] })
    (hx : ρ.val x = some v.val) (hy : ρ.val y = some v2) (_hd : o.dst = some d) (hs : preC .E n cf ops ρ o d = true)
    (hk : Γ[k]? = some (slA TE E v.val xs)) (hT : slT P T = some (TE, E.sz, by')) (hz : zr P TE = some z) (hzs : z.cells.size = E.sz) (hsrc : ∀ h w, sat Γ h → Fits hR h w → SlR E.rd (hp w) v2 ys) (hb : (xs.length + ys.length) * by' ≤ 140737488355328) (h63 : xs.length + ys.length ≤ 9223372036854775807)
    (H1 : ∀ sv : SV, sv.n = xs.length + ys.length → sv.a = v.a → sv.c = v.c → Run P hR n cf ops l K ((d, sv.val) :: ρ) (Γ.set k (slA TE E sv.val (xs ++ ys))))
    (H2 : ∀ sv : SV, sv.n = xs.length + ys.length → Run P hR n cf ops l K ((d, sv.val) :: ρ) (Γ ++ [slA TE E sv.val (xs ++ ys)])) : Run P hR n cf ops (o :: l) K ρ Γ := by
  intro a h ho ht hl
  obtain ⟨h1, h2, h3, h4⟩ := preC_spec hs
  obtain ⟨hu, inf, hinf, hisz, hiby⟩ := slT_spec hT
  have hiz : inf.zero = some z := by unfold zr at hz; rw [hinf] at hz; simpa using hz
  unfold opsRun
  rw [gd_wanted ho h4, if_pos rfl, h3]
  intro w f
  obtain ⟨g1, g2, gA, hd, e, hset⟩ := sat_get ht hk
  have hY := hsrc h w ht f
  -- how it ends
  suffices hres : ∃ (sv : SV) (w' : World), (Builtin.append_ #[T, T] o.type #[v.val, v2]).run P w = .ok sv.val w' ∧ sv.n = xs.length + ys.length ∧
      ((sv.a = v.a ∧ sv.c = v.c ∧ ∃ g1', slA TE E sv.val (xs ++ ys) g1' ∧ Disj g1' g2 ∧ Step w h w' (un g1' g2)) ∨ ∃ b ob, h b = none ∧ slA TE E sv.val (xs ++ ys) (put emp b ob) ∧ Step w h w' (put h b ob)) by
    obtain ⟨sv, w', hr, hn, hor⟩ := hres
    unfold Oper.wp
    have hrun : (execOp a.eval o).run P w = .ok (.value sv.val) w' := by
      simp [execOp, hop, resolve, invoke, builtin, ho.eval hx, ho.eval hy, hr]
    rw [hrun]
    rcases hor with ⟨ha, hc, g1', hA', hd', hst⟩ | ⟨b, ob, hnb, hA', hst⟩
    · refine ⟨_, hst, ?_⟩
      rw [h1]
      exact H1 sv hn ha hc _ _ (ho.put h2 _) (hset _ _ hA' hd') ⟨_, f.step hst⟩
    · refine ⟨_, hst, ?_⟩
      rw [h1]
      exact H2 sv hn _ _ (ho.put h2 _) (sat_snoc ht hnb hA') ⟨_, f.step hst⟩
  obtain ⟨va, vn, vc⟩ := v
  simp only [SV.val] at gA ⊢
  by_cases hys : ys = []
  · -- nothing is put behind
    subst hys
    obtain ⟨a2, c2, rfl, _⟩ := hY
    obtain ⟨a0, c0, hv0, hc0, _⟩ := slA_shape gA
    simp only [Value.slice.injEq] at hv0
    obtain ⟨rfl, rfl, rfl⟩ := hv0
    refine ⟨⟨va, xs.length, vc⟩, w, ?_, by simp, .inl ⟨rfl, rfl, g1, by simpa [SV.val] using gA, hd, by rw [← e]; exact .refl f.own⟩⟩
    have hf0 : (Builtin.firstCells inf.size 0 (.slice a2 0 c2)).run P w = .ok #[] w := by
      cases a2 with
      | none => exact run_firstCells_none w _ _ _ _
      | some ad => exact run_firstCells_some w inf.size 0 ad 0 c2 [] (by simp) (by simp)
    cases va <;> simp [Builtin.append_, underlying, hu, sizeOf, typeInfo, hinf, Builtin.lenOf, hc0, hf0, SV.val, storeCells]
  have hne := hys
  obtain ⟨a2, c2, rfl, hc2, hsome⟩ := hY
  obtain ⟨ad, rfl, _⟩ := hsome hne
  have hY' : SlR E.rd (hp w) (.slice (some ad) ys.length c2) ys := hsrc h w ht f
  have hcells := cells_of_SlR hY' hne
  have hnews : (ys.flatMap E.cells).length = ys.length * inf.size := by rw [flat_len, hisz]
  have hpos : 0 < ys.length := List.length_pos_iff.2 hne
  have h63' : ((xs.length + ys.length : Nat) : Int) ≤ 9223372036854775807 := by omega
  rcases gA with ⟨hv0, rfl, hg1⟩ | ⟨b, o', c, pre, post, hv0, q1, q2, q3, q4⟩
  · -- onto nil
    simp only [Value.slice.injEq] at hv0
    obtain ⟨rfl, rfl, rfl⟩ := hv0
    have hle1 : ys.length * inf.bytes ≤ 281474976710656 := by rw [hiby]; simp at hb; omega
    have hr := run_append_nil (P := P) w T o.type TE inf z hu hinf hiz ad ys.length c2 _ hnews hcells hpos (by simpa using h63') hle1
    obtain ⟨hst, hnone⟩ := Step.push (ob := .cells ((ys.flatMap E.cells).toArray ++ Builtin.zeroCells z.cells (grownCap w ys.length 0 TE - ys.length)) TE) (w.drawn + 1) f
    refine ⟨⟨some ⟨w.heap.size, 0, none⟩, ys.length, grownCap w ys.length 0 TE⟩, _, hr, by simp, .inr ⟨w.heap.size, .cells ((ys.flatMap E.cells).toArray ++ Builtin.zeroCells z.cells (grownCap w ys.length 0 TE - ys.length)) TE, hnone, ?_, hst⟩⟩
    · refine .inr ⟨w.heap.size, 0, grownCap w ys.length 0 TE, [], (Builtin.zeroCells z.cells (grownCap w ys.length 0 TE - ys.length)).toList, by simp [SV.val], ?_, rfl, ?_, ?_⟩
      · have : ys.length ≤ grownCap w ys.length 0 TE := by unfold grownCap; exact Nat.le_add_right _ _
        simpa using this
      · simp [zeroCells_size, hzs]
      · congr 2; apply Array.ext'; simp
  · subst q4
    simp only [Value.slice.injEq] at hv0
    obtain ⟨rfl, rfl, hvc⟩ := hv0
    have hvc' := hvc.symm
    subst hvc'
    have hbw : hp w b = some (.cells ⟨pre ++ xs.flatMap E.cells ++ post⟩ TE (0, 0)) := f.own b _ (by rw [e]; exact un_left_some put_emp_self)
    have hlx := flat_len E xs
    have hly := flat_len E ys
    by_cases hroom : xs.length + ys.length ≤ c
    · -- in its place
      have hm1 : ys.length * E.sz ≤ (c - xs.length) * E.sz := Nat.mul_le_mul_right _ (by omega)
      have hsc := run_storeCells (P := P) (off := o' + xs.length * E.sz) (ys.flatMap E.cells) ⟨pre ++ xs.flatMap E.cells ++ post⟩ 0 w hbw (by
        unfold oneCells; rw [List.all_flatMap]; exact List.all_eq_true.2 fun y _ => E.one y) (by simp only [List.size_toArray, List.length_append]; omega)
      rw [Nat.add_zero, setMany_list] at hsc
      have hnew : setManyL (pre ++ xs.flatMap E.cells ++ post) (o' + xs.length * E.sz) (ys.flatMap E.cells) = pre ++ (xs ++ ys).flatMap E.cells ++ post.drop (ys.length * E.sz) := by
        rw [flat_append, ← hlx, ← hly, ← q2]
        exact splice_mid _ _ _ _ (by omega)
      rw [hnew] at hsc
      have hst := step_write (ob' := .cells ⟨pre ++ (xs ++ ys).flatMap E.cells ++ post.drop (ys.length * E.sz)⟩ TE (0, 0)) (by rw [← e]; exact f.own) hd e
      refine ⟨⟨some ⟨b, o', none⟩, xs.length + ys.length, c⟩, _, ?_, rfl, .inl ⟨rfl, rfl, put emp b (.cells ⟨pre ++ (xs ++ ys).flatMap E.cells ++ post.drop (ys.length * E.sz)⟩ TE (0, 0)), ?_, ?_, hst⟩⟩
      · have hf1 := run_firstCells_some (P := P) w inf.size ys.length ad ys.length c2 _ hnews hcells
        rw [hisz] at hf1
        simp [Builtin.append_, underlying, hu, sizeOf, typeInfo, hinf, Builtin.lenOf, hroom, hisz, hf1, add_lit, hsc, SV.val]
      · refine .inr ⟨b, o', c, pre, post.drop (ys.length * E.sz), by simp [SV.val], by simpa using hroom, q2, ?_, rfl⟩
        rw [List.length_append, List.length_drop]
        have : (c - (xs.length + ys.length)) * E.sz = (c - xs.length) * E.sz - ys.length * E.sz := by rw [← Nat.sub_mul]; congr 1; omega
        rw [this]; omega
      · intro cc
        by_cases hcc : cc = b
        · subst hcc; exact .inr ((hd cc).resolve_left (by simp [put]))
        · exact .inl (by simp [put, hcc, emp])
    · -- in a new place
      have hold : ∀ j u, (xs.flatMap E.cells)[j]? = some u → w.cell? ((⟨b, o', none⟩ : Addr).add j) = some u := fun j u hj => by
        have hjl := (List.getElem?_eq_some_iff.1 hj).1
        rw [add_lit]
        refine cell?_of hbw rfl ?_
        simp only [List.getElem?_toArray]
        rw [List.append_assoc, List.getElem?_append_right (by omega), List.getElem?_append_left (by omega)]
        rw [← q2, Nat.add_sub_cancel_left]; exact hj
      have hfit : Builtin.nextslicecap (xs.length + ys.length) c * inf.bytes ≤ 281474976710656 := growslice_fits (by omega) (by rw [hiby]; exact hb)
      have hr := run_append_grow (P := P) w T o.type TE inf z hu hinf hiz ⟨b, o', none⟩ xs.length c (xs.flatMap E.cells) (by rw [hlx, hisz]) hold ad ys.length c2 _ hnews hcells (by omega) h63' hfit
      obtain ⟨hst, hnone⟩ := Step.push (ob := .cells ((xs.flatMap E.cells).toArray ++ (ys.flatMap E.cells).toArray ++ Builtin.zeroCells z.cells (grownCap w (xs.length + ys.length) c TE - (xs.length + ys.length))) TE) (w.drawn + 1) f
      refine ⟨⟨some ⟨w.heap.size, 0, none⟩, xs.length + ys.length, grownCap w (xs.length + ys.length) c TE⟩, _, hr, rfl, .inr ⟨w.heap.size, .cells ((xs.flatMap E.cells).toArray ++ (ys.flatMap E.cells).toArray ++ Builtin.zeroCells z.cells (grownCap w (xs.length + ys.length) c TE - (xs.length + ys.length))) TE, hnone, ?_, hst⟩⟩
      · refine .inr ⟨w.heap.size, 0, grownCap w (xs.length + ys.length) c TE, [], (Builtin.zeroCells z.cells (grownCap w (xs.length + ys.length) c TE - (xs.length + ys.length))).toList, by simp [SV.val], ?_, rfl, ?_, ?_⟩
        · have : xs.length + ys.length ≤ grownCap w (xs.length + ys.length) c TE := by unfold grownCap; exact Nat.le_add_right _ _
          simpa using this
        · simp [zeroCells_size, hzs]
        · congr 2; apply Array.ext'; simp
theorem perm1 {B : Type} : ∀ {Γ : List B} {k : Nat} {A : B}, Γ[k]? = some A → ∃ rest, Γ.Perm (A :: rest) ∧ ∀ A', (Γ.set k A').Perm (A' :: rest)
  | [], _, _, h => by simp at h
  | C :: Γ, 0, A, h => by simp at h; subst h; exact ⟨Γ, .refl _, fun _ => .refl _⟩
  | C :: Γ, k + 1, A, h => by
    obtain ⟨rest, h1, h2⟩ := perm1 (Γ := Γ) (k := k) (A := A) (by simpa using h)
    exact ⟨C :: rest, (h1.cons C).trans (.swap _ _ _), fun A' => ((h2 A').cons C).trans (.swap _ _ _)⟩
theorem perm2 {C0 : Type} : ∀ {Γ : List C0} {k j : Nat} {A B : C0}, k ≠ j → Γ[k]? = some A → Γ[j]? = some B → ∃ rest, Γ.Perm (A :: B :: rest) ∧ ∀ A' B', ((Γ.set k A').set j B').Perm (A' :: B' :: rest)
  | [], _, _, _, _, _, h, _ => by simp at h
  | C :: Γ, 0, 0, _, _, hn, _, _ => absurd rfl hn
  | C :: Γ, 0, j + 1, A, B, _, h, h' => by
    simp at h; subst h
    obtain ⟨rest, h1, h2⟩ := perm1 (Γ := Γ) (k := j) (A := B) (by simpa using h')
    exact ⟨rest, h1.cons _, fun A' B' => (h2 B').cons A'⟩
  | C :: Γ, k + 1, 0, A, B, _, h, h' => by
    simp at h'; subst h'
    obtain ⟨rest, h1, h2⟩ := perm1 (Γ := Γ) (k := k) (A := A) (by simpa using h)
    exact ⟨rest, (h1.cons _).trans (.swap _ _ _), fun A' B' => ((h2 A').cons B').trans (.swap _ _ _)⟩
  | C :: Γ, k + 1, j + 1, A, B, hn, h, h' => by
    obtain ⟨rest, h1, h2⟩ := perm2 (Γ := Γ) (k := k) (j := j) (A := A) (B := B) (by omega) (by simpa using h) (by simpa using h')
    have key : ∀ X Y : C0, (C :: X :: Y :: rest).Perm (X :: Y :: C :: rest) := fun X Y => (List.Perm.swap _ _ _).trans ((List.Perm.swap _ _ _).cons _)
    exact ⟨C :: rest, (h1.cons C).trans (key _ _), fun A' B' => ((h2 A' B').cons C).trans (key _ _)⟩
/-- the elder ones are kept among rows -/
theorem Run.appendG (k j : Nat) {T : TypeId} {x y : Operand} {v2 : Value} {by' : Nat} {z : Value} {p : List (SV × List A)} (hop : o.op = .call { callee := .builtin .append, args := #[x, y], argTypes := #[T, T] })
    (hx : ρ.val x = some v.val) (hy : ρ.val y = some v2) (_hd : o.dst = some d) (hs : preC .E n cf ops ρ o d = true)
    (hk : Γ[k]? = some (slA TE E v.val xs)) (hT : slT P T = some (TE, E.sz, by')) (hz : zr P TE = some z) (hzs : z.cells.size = E.sz) (hj : Γ[j]? = some (rows TE E p)) (hkj : k ≠ j) (hsrc : ∀ h w, sat Γ h → Fits hR h w → SlR E.rd (hp w) v2 ys)
    (hb : (xs.length + ys.length) * by' ≤ 140737488355328) (h63 : xs.length + ys.length ≤ 9223372036854775807)
    (H : ∀ (sv : SV) (p' : List (SV × List A)), sv.n = xs.length + ys.length → ((p' = p ∧ sv.a = v.a ∧ sv.c = v.c) ∨ p' = p ++ [(v, xs)]) → Run P hR n cf ops l K ((d, sv.val) :: ρ) ((Γ.set k (slA TE E sv.val (xs ++ ys))).set j (rows TE E p'))) :
    Run P hR n cf ops (o :: l) K ρ Γ := by
  refine Run.append2 k hop hx hy _hd hs hk hT hz hzs hsrc hb h63 (fun sv hn ha hc => ?_) (fun sv hn => ?_)
  · have h1 := H sv p hn (.inl ⟨rfl, ha, hc⟩)
    have e : ((Γ.set k (slA TE E sv.val (xs ++ ys))).set j (rows TE E p)) = Γ.set k (slA TE E sv.val (xs ++ ys)) := by
      apply List.ext_getElem?
      intro i
      by_cases hi : j = i
      · subst hi
        have hl := (List.getElem?_eq_some_iff.1 hj).1
        rw [List.getElem?_set_self (by simpa using hl), List.getElem?_set_ne hkj, hj]
      · rw [List.getElem?_set_ne hi]
    rw [e] at h1; exact h1
  · refine Run.via ?_ (H sv (p ++ [(v, xs)]) hn (.inr rfl))
    obtain ⟨rest, q1, q2⟩ := perm2 hkj hk hj
    have e1 : ent (Γ ++ [slA TE E sv.val (xs ++ ys)]) (rows TE E p :: slA TE E v.val xs :: (rest ++ [slA TE E sv.val (xs ++ ys)])) :=
      ent.perm ((q1.append_right _).trans (.swap _ _ _))
    have e2 : ent (rows TE E (p ++ [(v, xs)]) :: (rest ++ [slA TE E sv.val (xs ++ ys)])) ((Γ.set k (slA TE E sv.val (xs ++ ys))).set j (rows TE E (p ++ [(v, xs)]))) := by
      refine ent.perm (List.Perm.trans ?_ (q2 _ _).symm)
      have h3 : (rows TE E (p ++ [(v, xs)]) :: (rest ++ [slA TE E sv.val (xs ++ ys)])).Perm (rows TE E (p ++ [(v, xs)]) :: slA TE E sv.val (xs ++ ys) :: rest) :=
        (List.perm_append_comm (l₁ := rest) (l₂ := [slA TE E sv.val (xs ++ ys)])).cons _
      exact h3.trans (.swap _ _ _)
    exact e1.trans ((rows_snoc _).trans e2)
end
end Go.Sep
end
