/- Slots and pieces chosen by their numbers; loops that tell what changes. Over any program. -/
import Derived.Test.YtjjfehdlmdhhmaaDoorGL6
section
/- Slots and pieces chosen by their numbers; loops that tell what changes. Over any program. -/
namespace Go.Sep
set_option linter.unusedVariables false

inductive Tr (ρ : Env) : List Nat → Env → Prop
  | nil : Tr ρ [] []
  | cons {t : Nat} {ts : List Nat} {v : Value} {e : Env} (h : ρ.get t = some v) (r : Tr ρ ts e) : Tr ρ (t :: ts) ((t, v) :: e)
theorem Tr.covers {ρ : Env} {ts : List Nat} {e : Env} (h : Tr ρ ts e) : Go.Sep.covers ρ e := by
  induction h with
  | nil => trivial
  | cons h _ ih => exact ⟨h, ih⟩

inductive Cp : List HProp → List HProp → Prop
  | nil : Cp [] []
  | cons {A : HProp} {Γ Δ : List HProp} (r : Cp Γ Δ) : Cp (A :: Γ) (A :: Δ)
theorem Cp.eq {Γ Δ : List HProp} (h : Cp Γ Δ) : Γ = Δ := by
  induction h with
  | nil => rfl
  | cons _ ih => rw [ih]
/-- the pieces of these numbers -/
inductive Pk : List HProp → List Nat → List HProp → Prop
  | nil {Γ : List HProp} : Pk Γ [] []
  | cons {Γ : List HProp} {i : Nat} {is : List Nat} {A : HProp} {Δ : List HProp} (h : Γ[i]? = some A) (r : Pk (Γ.eraseIdx i) (is.map fun j => bif Nat.blt i j then j - 1 else j) Δ) : Pk Γ (i :: is) (A :: Δ)
theorem Pk.ent {Γ : List HProp} {is : List Nat} {Δ : List HProp} (h : Pk Γ is Δ) : Go.Sep.ent Γ Δ := by
  induction h with
  | nil => exact ent.none _
  | cons h _ ih => exact ent.at _ h ih
/-- and the others -/
inductive Pr : List HProp → List Nat → List HProp → List HProp → Prop
  | nil {Γ Ξ : List HProp} (h : Cp Γ Ξ) : Pr Γ [] [] Ξ
  | cons {Γ : List HProp} {i : Nat} {is : List Nat} {A : HProp} {Δ Ξ : List HProp} (h : Γ[i]? = some A) (r : Pr (Γ.eraseIdx i) (is.map fun j => bif Nat.blt i j then j - 1 else j) Δ Ξ) : Pr Γ (i :: is) (A :: Δ) Ξ
theorem Pr.ent {Γ : List HProp} {is : List Nat} {Δ Ξ : List HProp} (h : Pr Γ is Δ Ξ) : Go.Sep.ent Γ (Δ ++ Ξ) := by
  induction h with
  | nil h => rw [h.eq]; exact ent.refl _
  | cons h _ ih => exact ent.at _ h ih

inductive Kc (ρ' : Env) (ks : List Nat) : Env → Prop
  | nil : Kc ρ' ks []
  | skip {t : Nat} {v : Value} {e : Env} (h : ks.contains t = true) (r : Kc ρ' ks e) : Kc ρ' ks ((t, v) :: e)
  | keep {t : Nat} {v : Value} {e : Env} (h : ρ'.get t = some v) (r : Kc ρ' ks e) : Kc ρ' ks ((t, v) :: e)
theorem hasS_of {t : Nat} : ∀ {car : Env}, (car.map Prod.fst).contains t = true → hasS t car = true
  | [], h => by simp at h
  | (u, v) :: r, h => by
    simp only [List.map_cons, List.contains_cons, Bool.or_eq_true, beq_iff_eq] at h
    simp only [hasS, Bool.or_eq_true]
    rcases h with h | h
    · subst h; exact .inl (by simp)
    · exact .inr (hasS_of h)
theorem Kc.get {ρ' : Env} {car ρ : Env} (h : Kc ρ' (car.map Prod.fst) ρ) {t : Nat} (hn : hasS t car = false) {v : Value} (hv : ρ.get t = some v) : ρ'.get t = some v := by
  induction h with
  | nil => cases hv
  | skip h _ ih =>
    simp only [Env.get] at hv
    rename_i u w e _
    cases e' : Nat.beq t u with
    | true => have := Nat.eq_of_beq_eq_true e'; subst this; rw [hasS_of h] at hn; cases hn
    | false => rw [e'] at hv; exact ih hv
  | keep h _ ih =>
    simp only [Env.get] at hv
    rename_i u w e _
    cases e' : Nat.beq t u with
    | true => rw [e'] at hv; have := Nat.eq_of_beq_eq_true e'; subst this; cases hv; exact h
    | false => rw [e'] at hv; exact ih hv
/-- what is carried is as told, the rest as it was -/
structure Ko (ρ' car ρ : Env) : Prop where
  hc : covers ρ' car
  hk : Kc ρ' (car.map Prod.fst) ρ
theorem Ko.sup {ρ' car ρ : Env} (h : Ko ρ' car ρ) : Go.Sep.sup ρ' (car ++ ρ) := by
  intro t v hv
  rw [get_app] at hv
  by_cases hs : hasS t car = true
  · rw [if_pos hs] at hv; exact covers_get h.hc t v hv
  · rw [if_neg hs] at hv; exact h.hk.get (by simpa using hs) hv
theorem Ko.go {ρ' car ρ : Env} (hc : covers ρ' car := by repeat first | exact trivial | refine ⟨rfl, ?_⟩) (hk : Kc ρ' (car.map Prod.fst) ρ := by repeat first | exact Kc.nil | refine Kc.skip rfl ?_ | refine Kc.keep rfl ?_) : Ko ρ' car ρ := ⟨hc, hk⟩

def chgs : List (Nat × HProp) → List HProp → List HProp
  | [], Γ => Γ
  | (i, A) :: l, Γ => chgs l (Γ.set i A)
theorem ent.gc {Γ Δ : List HProp} (h : ent Γ Δ := by (try simp only [chgs, List.set_cons_zero, List.set_cons_succ, List.cons_append, List.nil_append]); repeat first | exact ent.none _ | refine ent.at 0 rfl ?_ | refine ent.at 1 rfl ?_ | refine ent.at 2 rfl ?_ | refine ent.at 3 rfl ?_ | refine ent.at 4 rfl ?_ | refine ent.at 5 rfl ?_ | refine ent.at 6 rfl ?_ | refine ent.at 7 rfl ?_ | refine ent.at 8 rfl ?_ | refine ent.at 9 rfl ?_ | refine ent.at 10 rfl ?_ | refine ent.at 11 rfl ?_ | refine ent.at 12 rfl ?_ | refine ent.at 13 rfl ?_ | refine ent.at 14 rfl ?_ | refine ent.at 15 rfl ?_ | refine ent.at 16 rfl ?_ | refine ent.at 17 rfl ?_ | refine ent.at 18 rfl ?_ | refine ent.at 19 rfl ?_ | refine ent.at 20 rfl ?_ | refine ent.at 21 rfl ?_ | refine ent.at 22 rfl ?_ | refine ent.at 23 rfl ?_) : ent Γ Δ := h

section
variable {P : Program} {hR : Heap} {n : Fr} {Q : Exit → Env → List HProp → Prop} {ρ : Env} {Γ : List HProp}
/-- only these slots and these pieces are kept -/
theorem WP.trim {c : Code} (ts is : List Nat) {ρ' : Env} {Γ' : List HProp} (H : WP P hR n c Q ρ' Γ') (h1 : Tr ρ ts ρ' := by repeat first | exact Tr.nil | apply Tr.cons; exact rfl)
    (h2 : Pk Γ is Γ' := by repeat first | exact Pk.nil | apply Pk.cons; exact rfl) : WP P hR n c Q ρ Γ :=
  H.weaken h1.covers h2.ent

theorem WP.loopC {α : Type} {c : Code} (good : α → Prop) (car : α → Env) (chg : α → List (Nat × HProp)) (μ : α → Nat) (x0 : α) (hg : good x0)
    (round : ∀ x, good x → WP P hR n c (thn (fun ρ' Γ' => ∃ x', good x' ∧ μ x' < μ x ∧ Ko ρ' (car x') ρ ∧ ent Γ' (chgs (chg x') Γ)) Q) (car x ++ ρ) (chgs (chg x) Γ))
    (hc : Ko ρ (car x0) ρ := by exact Ko.go) (he : ent Γ (chgs (chg x0) Γ) := by exact ent.gc) : WP P hR n (.loop c) Q ρ Γ :=
  WP.loopS good (fun x => car x ++ ρ) (fun x => chgs (chg x) Γ) μ x0 hg hc.sup he fun x g => (round x g).mono fun e ρ' Γ' h => by
    cases e with
    | normal => obtain ⟨x', g', m, k, en⟩ := h; exact ⟨x', g', m, k.sup, en⟩
    | _ => exact h

theorem WP.meetC {α : Type} {x y : Code} (good : α → Prop) (car : α → Env) (chg : α → List (Nat × HProp)) (H1 : WP P hR n x (thn (fun ρ' Γ' => ∃ z, good z ∧ Ko ρ' (car z) ρ ∧ ent Γ' (chgs (chg z) Γ)) Q) ρ Γ)
    (H2 : ∀ z, good z → WP P hR n y Q (car z ++ ρ) (chgs (chg z) Γ)) : WP P hR n (.seq x y) Q ρ Γ :=
  WP.seq (H1.mono fun e ρ' Γ' h => by
    cases e with
    | normal => obtain ⟨z, g, h1, h2⟩ := h; exact (H2 z g).sup h1.sup h2
    | _ => exact h)
end

section
variable {P : Program} {hR : Heap} {n : Fr} {cf : Op → Cls} {ops : Array Oper} {l : List Oper} {K : Env → List HProp → Prop} {ρ : Env} {Γ : List HProp} {o : Oper} {d : Nat}
/-- a call that is handed the pieces of these numbers -/
theorem Run.callP (is : List Nat) {Δ Θ : List HProp} {R : Value → List HProp → Prop} {f : FuncId} {c : Call} {x : Operand} {first captured args : Array Value} {vs : List Value} (hf : calleeOk P f = true) (hT : Tri P hR f args Δ R)
    (H : ∀ v Γ', R v Γ' → Run P hR n cf ops l K ((d, v) :: ρ) (Γ' ++ Θ)) (hop : o.op = .call c := by exact rfl) (hc : c.callee = .value x := by exact rfl)
    (hx : ρ.val x = some (.func (.func f) first captured) := by exact rfl) (hargs : collectV (c.args.toList.map ρ.val) = some vs := by exact rfl) (_hd : o.dst = some d := by exact rfl) (hs : preC .E n cf ops ρ o d = true := by exact rfl)
    (ha : args = first ++ vs.toArray ++ captured := by exact rfl) (he : Pr Γ is Δ Θ := by repeat first | exact Cp.nil | apply Cp.cons | apply Pr.nil | apply Pr.cons; exact rfl) : Run P hR n cf ops (o :: l) K ρ Γ :=
  Run.call hop hc hx hargs hf _hd hs he.ent (ha ▸ hT) H
/-- the same, and lent the pieces of others -/
theorem Run.callL (is js : List Nat) {Δ Θ Ξ Φ : List HProp} {R : Value → List HProp → Prop} {f : FuncId} {c : Call} {x : Operand} {first captured args : Array Value} {vs : List Value} (hf : calleeOk P f = true)
    (hT : ∀ g, sat Θ g → Disj hR g → Tri P (un hR g) f args Δ R)
    (H : ∀ v Γ', R v Γ' → Run P hR n cf ops l K ((d, v) :: ρ) ((Γ' ++ Θ) ++ Ξ)) (hop : o.op = .call c := by exact rfl) (hc : c.callee = .value x := by exact rfl)
    (hx : ρ.val x = some (.func (.func f) first captured) := by exact rfl) (hargs : collectV (c.args.toList.map ρ.val) = some vs := by exact rfl) (_hd : o.dst = some d := by exact rfl) (hs : preC .E n cf ops ρ o d = true := by exact rfl)
    (ha : args = first ++ vs.toArray ++ captured := by exact rfl) (he : Pr Γ (is ++ js) Φ Ξ := by repeat first | exact Cp.nil | apply Cp.cons | apply Pr.nil | apply Pr.cons; exact rfl) (hp : Φ = Δ ++ Θ := by exact rfl) : Run P hR n cf ops (o :: l) K ρ Γ :=
  Run.callLend hop hc hx hargs hf _hd hs (hp ▸ he.ent) (fun g h1 h2 => ha ▸ hT g h1 h2) H
/-- other slots and pieces -/
theorem Run.pk (is : List Nat) {Δ : List HProp} (H : Run P hR n cf ops l K ρ Δ) (h2 : Pk Γ is Δ := by repeat first | exact Pk.nil | apply Pk.cons; exact rfl) : Run P hR n cf ops l K ρ Γ := H.via h2.ent
end
end Go.Sep
end
