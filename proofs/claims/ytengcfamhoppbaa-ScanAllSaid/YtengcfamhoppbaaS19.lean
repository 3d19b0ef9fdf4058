/- Natural numbers in cells; rows of slices as one piece. Over any program. -/
import Derived.Test.YtengcfamhoppbaaS18
namespace Go.Sep

def Enc.nat : Enc Nat := ⟨1, fun b => [.int .i64 (b : Int)], fun _ => rfl, fun _ => rfl⟩

/-- what is read as one thing is read as another -/
theorem SlR.turn {A B : Type} {E : Rd A} {F : Rd B} {h : Heap} {v : Value} {xs : List A} {ys : List B} (hl : ys.length = xs.length) (hs : F.sz = E.sz)
    (ht : ∀ (i : Nat) (x : A) (y : B), xs[i]? = some x → ys[i]? = some y → ∀ cs, E.rel h x cs → F.rel h y cs) (H : SlR E h v xs) : SlR F h v ys := by
  obtain ⟨a, c, h1, h2, h3⟩ := H
  refine ⟨a, c, by rw [hl]; exact h1, by rw [hl]; exact h2, fun hne => ?_⟩
  obtain ⟨ad, e, h4⟩ := h3 (fun e => hne (List.length_eq_zero_iff.1 (by rw [hl, e]; rfl)))
  refine ⟨ad, e, fun i y hy => ?_⟩
  have hlt := (List.getElem?_eq_some_iff.1 hy).1
  have hx : xs[i]? = some (xs[i]'(by omega)) := List.getElem?_eq_getElem _
  obtain ⟨cs, g1, g2⟩ := h4 i _ hx
  exact ⟨cs, ht i _ y hx hy cs g1, by rw [hs]; exact g2⟩

def toI (l : List Nat) : List Int := l.map fun (b : Nat) => (b : Int)
theorem toI_len (l : List Nat) : (toI l).length = l.length := by simp [toI]
theorem SlR.nat {h : Heap} {v : Value} {l : List Nat} (H : SlR (Enc.int .i64).rd h v (toI l)) : SlR Enc.nat.rd h v l :=
  SlR.turn (E := (Enc.int .i64).rd) (F := Enc.nat.rd) (H := H) (by simp [toI]) rfl fun i x y hx hy cs hc => by
    simp only [toI, List.getElem?_map, hy, Option.map_some, Option.some.injEq] at hx
    subst hx; exact hc
theorem SlR.int {h : Heap} {v : Value} {l : List Nat} (H : SlR Enc.nat.rd h v l) : SlR (Enc.int .i64).rd h v (toI l) :=
  SlR.turn (E := Enc.nat.rd) (F := (Enc.int .i64).rd) (H := H) (by simp [toI]) rfl fun i x y hx hy cs hc => by
    simp only [toI, List.getElem?_map, hx, Option.map_some, Option.some.injEq] at hy
    subst hy; exact hc
theorem SlR.nats {h : Heap} {v : Value} {l : List (List Nat)} (H : SlR (Enc.int .i64).rd.slice h v (l.map toI)) : SlR Enc.nat.rd.slice h v l :=
  SlR.turn (E := (Enc.int .i64).rd.slice) (F := Enc.nat.rd.slice) (H := H) (by simp) rfl fun i x y hx hy cs hc => by
    simp only [List.getElem?_map, hy, Option.map_some, Option.some.injEq] at hx
    subst hx
    obtain ⟨u, e, hu⟩ := hc
    exact ⟨u, e, hu.nat⟩
theorem SlR.intss {h : Heap} {v : Value} {l : List (List Nat)} (H : SlR Enc.nat.rd.slice h v l) : SlR (Enc.int .i64).rd.slice h v (l.map toI) :=
  SlR.turn (E := Enc.nat.rd.slice) (F := (Enc.int .i64).rd.slice) (H := H) (by simp) rfl fun i x y hx hy cs hc => by
    simp only [List.getElem?_map, hx, Option.map_some, Option.some.injEq] at hy
    subst hy
    obtain ⟨u, e, hu⟩ := hc
    exact ⟨u, e, hu.int⟩

/-- an owned slice of one kind of elements as one of another kind with the same cells -/
theorem slA_turn {A B : Type} {T : TypeId} {E : Enc A} {F : Enc B} {v : Value} {xs : List A} {ys : List B} (hs : F.sz = E.sz) (hc : ys.map F.cells = xs.map E.cells) : ∀ h, slA T E v xs h → slA T F v ys h := by
  have hl : ys.length = xs.length := by have := congrArg List.length hc; simpa using this
  have hf : ys.flatMap F.cells = xs.flatMap E.cells := by rw [List.flatMap_def, List.flatMap_def, hc]
  rintro h (⟨rfl, rfl, rfl⟩ | ⟨b, o, c, pre, post, rfl, h1, h2, h3, rfl⟩)
  · exact .inl ⟨rfl, List.length_eq_zero_iff.1 hl, rfl⟩
  · exact .inr ⟨b, o, c, pre, post, by rw [hl], by omega, h2, by rw [hl, hs]; exact h3, by rw [hf]⟩

section
variable {P : Program} {hR : Heap} {n : Nat} {cf : Op → Cls} {ops : Array Oper} {l : List Oper} {K : Env → List HProp → Prop} {ρ : Env} {Γ : List HProp} {o : Oper} {d : Nat}
theorem Run.neB {T T' : TypeId} {x y : Operand} {a b : Bool} (hop : o.op = .binOp .neq T x y T') (hx : ρ.val x = some (.bool a)) (hy : ρ.val y = some (.bool b)) (hT : P.underlying T = some .bool)
    (_hd : o.dst = some d) (hs : pre n cf ops ρ o d = true) (H : Run P hR n cf ops l K ((d, .bool (!(a == b))) :: ρ) Γ) : Run P hR n cf ops (o :: l) K ρ Γ :=
  Run.val hs (fun A h ho ht w => by
    have e := run_equalIn_bool' (P := P) w 9999 T a b hT
    have g : (Op.equal T (.bool a) (.bool b)).run P w = .ok (a == b) w := e
    simp [execOp, hop, ho.eval hx, ho.eval hy, eqGuard, binOp, g]) H
end

/-! ### many pieces as one -/
def many (Θ : List HProp) : HProp := fun h => sat Θ h
theorem many_in (Θ Γ : List HProp) : ent (Θ ++ Γ) (many Θ :: Γ) := fun h hs => by
  obtain ⟨h1, h2, g1, g2, hd, e⟩ := sat_append.1 hs
  exact ⟨h1, h2, g1, g2, hd, e⟩
theorem many_out (Θ Γ : List HProp) : ent (many Θ :: Γ) (Θ ++ Γ) := fun h ⟨h1, h2, g1, g2, hd, e⟩ => sat_append.2 ⟨h1, h2, g1, g2, hd, e⟩
theorem ent.at0 {Γ Δ Θ : List HProp} (h : ent Γ Δ) : ent (Γ ++ Θ) (Δ ++ Θ) := ent.app h (ent.refl _)

section
variable {A : Type} (T : TypeId) (E : Enc A)
def rowsL (p : List (SV × List A)) : List HProp := p.map fun q => slA T E q.1.val q.2
/-- rows of slices, each owned -/
def rows (p : List (SV × List A)) : HProp := many (rowsL T E p)
def rowsBut (i : Nat) (p : List (SV × List A)) : HProp := many ((rowsL T E p).eraseIdx i)

variable {T E}
theorem rows_new (Γ : List HProp) : ent Γ (rows T E [] :: Γ) := many_in [] Γ
theorem rows_snoc {p : List (SV × List A)} {sv : SV} {xs : List A} (Γ : List HProp) : ent (rows T E p :: slA T E sv.val xs :: Γ) (rows T E (p ++ [(sv, xs)]) :: Γ) := by
  have h1 := many_out (rowsL T E p) (slA T E sv.val xs :: Γ)
  have h2 := many_in (rowsL T E (p ++ [(sv, xs)])) Γ
  have e : rowsL T E (p ++ [(sv, xs)]) ++ Γ = rowsL T E p ++ (slA T E sv.val xs :: Γ) := by simp [rowsL]
  rw [e] at h2
  exact h1.trans h2
theorem rows_out {p : List (SV × List A)} {i : Nat} {sv : SV} {xs : List A} (hi : p[i]? = some (sv, xs)) (Γ : List HProp) : ent (rows T E p :: Γ) (slA T E sv.val xs :: rowsBut T E i p :: Γ) := by
  have h1 := many_out (rowsL T E p) Γ
  have h2 : ent (rowsL T E p) (slA T E sv.val xs :: (rowsL T E p).eraseIdx i) := by
    have := ent.perm (front_perm i (rowsL T E p))
    have e : (rowsL T E p)[i]? = some (slA T E sv.val xs) := by simp [rowsL, hi]
    unfold front at this; rw [e] at this; exact this
  refine h1.trans ((ent.at0 h2).trans ?_)
  exact ent.cons (fun _ h => h) (many_in _ Γ)
theorem rows_in {p : List (SV × List A)} {i : Nat} {sv : SV} {xs : List A} (hi : i < p.length) (Γ : List HProp) : ent (slA T E sv.val xs :: rowsBut T E i p :: Γ) (rows T E (p.set i (sv, xs)) :: Γ) := by
  have h1 : ent (slA T E sv.val xs :: rowsBut T E i p :: Γ) (slA T E sv.val xs :: ((rowsL T E p).eraseIdx i ++ Γ)) := ent.cons (fun _ h => h) (many_out _ Γ)
  have h2 : ent (slA T E sv.val xs :: (rowsL T E p).eraseIdx i) (rowsL T E (p.set i (sv, xs))) := by
    have := ent.perm (front_perm i (rowsL T E (p.set i (sv, xs)))).symm
    have e : (rowsL T E (p.set i (sv, xs)))[i]? = some (slA T E sv.val xs) := by simp [rowsL, hi]
    have e2 : (rowsL T E (p.set i (sv, xs))).eraseIdx i = (rowsL T E p).eraseIdx i := by
      unfold rowsL; rw [List.map_set, List.eraseIdx_set_eq]
    unfold front at this; rw [e, e2] at this; exact this
  exact h1.trans ((ent.at0 (Θ := Γ) h2).trans (many_in _ Γ))

theorem sat_rows {p : List (SV × List A)} {g : Heap} (hs : rows T E p g) {i : Nat} {sv : SV} {xs : List A} (hi : p[i]? = some (sv, xs)) : SlR E.rd g sv.val xs := by
  have h0 : sat [rows T E p] g := ⟨g, emp, hs, trivial, fun _ => .inr rfl, (un_emp _ fun _ => rfl).symm⟩
  obtain ⟨h1, h2, g1, _, _, e⟩ := rows_out hi [] g h0
  subst e
  exact slA_lend g1 (sub_un_left h1 h2)

/-- slices of slices, lent for reading -/
theorem lent_rows {T1 : TypeId} {v : Value} {p : List (SV × List A)} {Θ : List HProp} {hR g : Heap} (k1 k2 : Nat) (hk1 : Θ[k1]? = some (slA T1 Enc.slice v (p.map Prod.fst))) (hk2 : Θ[k2]? = some (rows T E p)) (hs : sat Θ g) (hd : Disj hR g) :
    SlR E.rd.slice (un hR g) v (p.map Prod.snd) := by
  obtain ⟨a1, a2, b1, _, e1, _⟩ := sat_get hs hk1
  obtain ⟨c1, c2, d1, _, e2, _⟩ := sat_get hs hk2
  have s1 : Sub a1 (un hR g) := by rw [e1] at hd ⊢; exact (sub_un_left a1 a2).trans (sub_un_right hd)
  have s2 : Sub c1 (un hR g) := by rw [e2] at hd ⊢; exact (sub_un_left c1 c2).trans (sub_un_right hd)
  refine SlR.turn (E := Enc.slice.rd) (F := E.rd.slice) (H := slA_lend b1 s1) (by simp) rfl fun i x y hx hy cs hc => ?_
  simp only [List.getElem?_map] at hx hy
  cases hp : p[i]? with
  | none => rw [hp] at hx; cases hx
  | some q =>
    rw [hp] at hx hy; cases hx; cases hy
    exact ⟨q.1.val, hc, (sat_rows d1 hp).mono s2⟩
end
end Go.Sep
