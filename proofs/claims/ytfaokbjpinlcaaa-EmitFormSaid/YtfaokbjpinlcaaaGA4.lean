/- Slots and pieces chosen by their numbers; loops that tell what changes. Over any program. -/
import Derived.Test.YtfaokbjpinlcaaaGA3
import Derived.Laws.IdiomStrings
section
/- Slots and pieces chosen by their numbers; loops that tell what changes. Over any program. -/
namespace Go.Sep
set_option linter.unusedVariables false
inductive Tr (ρ : Env) : List Nat → Env → Prop
  | nil : Tr ρ [] []
  | cons {t : Nat} {ts : List Nat} {v : Value} {e : Env} (h : ρ.get t = some v) (r : Tr ρ ts e) : Tr ρ (t :: ts) ((t, v) :: e)
theorem Tr.covers {ρ : Env} {ts : List Nat} {e : Env} (h : Tr ρ ts e) : Go.Sep.covers ρ e := by
  induction h with
  | nil => trivial
  | cons h _ ih => exact ⟨h, ih⟩
/-- the pieces of these numbers -/
inductive Pk (Γ : List HProp) : List Nat → List HProp → Prop
  | nil : Pk Γ [] []
  | cons {i : Nat} {is : List Nat} {A : HProp} {Δ : List HProp} (h : Γ[i]? = some A) (r : Pk Γ is Δ) : Pk Γ (i :: is) (A :: Δ)
def ndN : List Nat → Bool
  | [] => true
  | i :: is => !(is.any fun j => Nat.beq i j) && ndN is
theorem Pk.set {Γ : List HProp} {is : List Nat} {Δ : List HProp} {i : Nat} {T : HProp} (h : Pk Γ is Δ) (hi : is.any (fun j => Nat.beq i j) = false) : Pk (Γ.set i T) is Δ := by
  induction h with
  | nil => exact .nil
  | cons h _ ih =>
    simp only [List.any_cons, Bool.or_eq_false_iff] at hi
    refine .cons ?_ (ih hi.2)
    rw [List.getElem?_set_ne (Nat.ne_of_beq_eq_false hi.1)]; exact h
theorem ent.out {Γ : List HProp} {i : Nat} {A : HProp} (h : Γ[i]? = some A) : Go.Sep.ent Γ (A :: Γ.set i fun _ => True) := by
  have h1 := ent.perm (front_perm i Γ)
  unfold front at h1
  rw [h] at h1
  refine h1.trans (ent.cons (fun _ h => h) ?_)
  have hlt := (List.getElem?_eq_some_iff.1 h).1
  have h2 : ((fun _ => True) :: Γ.eraseIdx i : List HProp).Perm (Γ.set i fun _ => True) := by
    have h3 := front_perm i (Γ.set i fun _ => True)
    unfold front at h3
    rw [List.getElem?_set_self hlt, List.eraseIdx_set_eq] at h3
    exact h3.symm
  have h4 : Go.Sep.ent (Γ.eraseIdx i) ((fun _ => True) :: Γ.eraseIdx i) := fun h hs => ⟨emp, h, trivial, hs, fun _ => .inl rfl, (emp_un h fun _ => rfl).symm⟩
  exact h4.trans (ent.perm h2)
theorem Pk.ent' {Γ : List HProp} {is : List Nat} {Δ : List HProp} (h : Pk Γ is Δ) (hn : ndN is = true) : Go.Sep.ent Γ Δ := by
  induction is generalizing Γ Δ with
  | nil => cases h; exact ent.none _
  | cons i is ih =>
    cases h with
    | cons h r =>
      simp only [ndN, Bool.and_eq_true, Bool.not_eq_true'] at hn
      exact (ent.out h).trans (ent.cons (fun _ h => h) (ih (r.set hn.1) hn.2))
/-- the pieces of other numbers -/
inductive Rs (is : List Nat) : Nat → List HProp → List HProp → Prop
  | nil {k : Nat} : Rs is k [] []
  | skip {k : Nat} {A : HProp} {Γ Ξ : List HProp} (h : (is.any fun j => Nat.beq j k) = true) (r : Rs is (k + 1) Γ Ξ) : Rs is k (A :: Γ) Ξ
  | keep {k : Nat} {A : HProp} {Γ Ξ : List HProp} (h : (is.any fun j => Nat.beq j k) = false) (r : Rs is (k + 1) Γ Ξ) : Rs is k (A :: Γ) (A :: Ξ)
theorem Pk.shift {Γ : List HProp} {js : List Nat} {Δ : List HProp} {A : HProp} (h : Pk Γ js Δ) : Pk (A :: Γ) (js.map (· + 1)) Δ := by
  induction h with
  | nil => exact .nil
  | cons h _ ih => exact .cons (by simpa using h) ih
theorem Rs.at {is : List Nat} {k : Nat} {Γ Ξ : List HProp} (h : Rs is k Γ Ξ) : ∃ js : List Nat, Pk Γ js Ξ ∧ ndN js = true ∧ ∀ j ∈ js, (is.any fun i => Nat.beq i (k + j)) = false := by
  induction h with
  | nil => exact ⟨[], .nil, rfl, fun j h => by cases h⟩
  | skip h _ ih =>
    obtain ⟨js, h1, h2, h3⟩ := ih
    refine ⟨js.map (· + 1), ?_, ?_, fun j hj => ?_⟩
    · exact Pk.shift h1
    · clear h1 h3
      induction js with
      | nil => rfl
      | cons j js ih =>
        simp only [ndN, Bool.and_eq_true, Bool.not_eq_true', List.map_cons] at h2 ⊢
        refine ⟨?_, ih h2.2⟩
        rw [List.any_map]
        rw [List.any_eq_false] at h2 ⊢
        intro x hx
        have := h2.1 x hx
        simpa [Nat.beq_eq] using this
    · obtain ⟨j', hj', rfl⟩ := List.mem_map.1 hj
      have := h3 j' hj'
      rwa [show ∀ k : Nat, k + 1 + j' = k + (j' + 1) by omega] at this
  | keep h _ ih =>
    obtain ⟨js, h1, h2, h3⟩ := ih
    rename_i k A Γ Ξ _
    refine ⟨0 :: js.map (· + 1), .cons rfl (Pk.shift h1), ?_, fun j hj => ?_⟩
    · simp only [ndN, Bool.and_eq_true, Bool.not_eq_true']
      refine ⟨by rw [List.any_map, List.any_eq_false]; intro x _; simp, ?_⟩
      clear h1 h3
      induction js with
      | nil => rfl
      | cons j js ih =>
        simp only [ndN, Bool.and_eq_true, Bool.not_eq_true', List.map_cons] at h2 ⊢
        refine ⟨?_, ih h2.2⟩
        rw [List.any_map]
        rw [List.any_eq_false] at h2 ⊢
        intro x hx
        have := h2.1 x hx
        simpa [Nat.beq_eq] using this
    · rcases List.mem_cons.1 hj with rfl | hj
      · exact h
      · obtain ⟨j', hj', rfl⟩ := List.mem_map.1 hj
        have := h3 j' hj'
        rwa [show ∀ k : Nat, k + 1 + j' = k + (j' + 1) by omega] at this
theorem Pk.app {Γ : List HProp} {is js : List Nat} {Δ Ξ : List HProp} (h : Pk Γ is Δ) (h2 : Pk Γ js Ξ) : Pk Γ (is ++ js) (Δ ++ Ξ) := by
  induction h with
  | nil => exact h2
  | cons h _ ih => exact .cons h ih
theorem ndN_app : ∀ {is js : List Nat}, ndN is = true → ndN js = true → (∀ j ∈ js, (is.any fun i => Nat.beq i j) = false) → ndN (is ++ js) = true
  | [], _, _, h, _ => h
  | i :: is, js, h1, h2, h3 => by
    simp only [ndN, Bool.and_eq_true, Bool.not_eq_true', List.cons_append] at h1 ⊢
    refine ⟨?_, ndN_app h1.2 h2 fun j hj => ?_⟩
    · rw [List.any_append, h1.1, Bool.false_or, List.any_eq_false]
      intro j hj
      have := h3 j hj
      simp only [List.any_cons, Bool.or_eq_false_iff] at this
      rw [this.1]; simp
    · have := h3 j hj
      simp only [List.any_cons, Bool.or_eq_false_iff] at this
      exact this.2
theorem pr_ent {Γ : List HProp} {is : List Nat} {Δ Ξ : List HProp} (h : Pk Γ is Δ) (hn : ndN is = true) (hr : Rs is 0 Γ Ξ) : Go.Sep.ent Γ (Δ ++ Ξ) := by
  obtain ⟨js, h1, h2, h3⟩ := hr.at
  exact (h.app h1).ent' (ndN_app hn h2 fun j hj => by have := h3 j hj; simpa using this)
inductive Kc (ρ' : Env) (ks : List Nat) : Env → Prop
  | nil : Kc ρ' ks []
  | skip {t : Nat} {v : Value} {e : Env} (h : ks.contains t = true) (r : Kc ρ' ks e) : Kc ρ' ks ((t, v) :: e)
  | keep {t : Nat} {v : Value} {e : Env} (h : ρ'.get t = some v) (r : Kc ρ' ks e) : Kc ρ' ks ((t, v) :: e)
theorem hasS_of {t : Nat} : ∀ {car : Env}, (car.map Prod.fst).contains t = true → hasS t car = true
  | [], h => by simp at h
  | (u, v) :: r, h => by
    simp only [List.map_cons, List.contains_cons, Bool.or_eq_true, beq_iff_eq] at h
    simp only [hasS, Bool.or_eq_true]
    rcases h with h | h
    · subst h; exact .inl (by simp)
    · exact .inr (hasS_of h)
theorem Kc.get {ρ' : Env} {car ρ : Env} (h : Kc ρ' (car.map Prod.fst) ρ) {t : Nat} (hn : hasS t car = false) {v : Value} (hv : ρ.get t = some v) : ρ'.get t = some v := by
  induction h with
  | nil => cases hv
  | skip h _ ih =>
    simp only [Env.get] at hv
    rename_i u w e _
    cases e' : Nat.beq t u with
    | true => have := Nat.eq_of_beq_eq_true e'; subst this; rw [hasS_of h] at hn; cases hn
    | false => rw [e'] at hv; exact ih hv
  | keep h _ ih =>
    simp only [Env.get] at hv
    rename_i u w e _
    cases e' : Nat.beq t u with
    | true => rw [e'] at hv; have := Nat.eq_of_beq_eq_true e'; subst this; cases hv; exact h
    | false => rw [e'] at hv; exact ih hv
/-- what is carried is as told, the rest as it was -/
structure Ko (ρ' car ρ : Env) : Prop where
  hc : covers ρ' car
  hk : Kc ρ' (car.map Prod.fst) ρ
theorem Ko.sup {ρ' car ρ : Env} (h : Ko ρ' car ρ) : Go.Sep.sup ρ' (car ++ ρ) := by
  intro t v hv
  rw [get_app] at hv
  by_cases hs : hasS t car = true
  · rw [if_pos hs] at hv; exact covers_get h.hc t v hv
  · rw [if_neg hs] at hv; exact h.hk.get (by simpa using hs) hv
theorem Ko.go {ρ' car ρ : Env} (hc : covers ρ' car := by repeat first | exact trivial | refine ⟨rfl, ?_⟩) (hk : Kc ρ' (car.map Prod.fst) ρ := by repeat first | exact Kc.nil | refine Kc.skip rfl ?_ | refine Kc.keep rfl ?_) : Ko ρ' car ρ := ⟨hc, hk⟩
def chgs : List (Nat × HProp) → List HProp → List HProp
  | [], Γ => Γ
  | (i, A) :: l, Γ => chgs l (Γ.set i A)
theorem ent.gc {Γ Δ : List HProp} (h : ent Γ Δ := by (try simp only [chgs, List.set_cons_zero, List.set_cons_succ, List.cons_append, List.nil_append]); repeat first | exact ent.none _ | refine ent.at 0 rfl ?_ | refine ent.at 1 rfl ?_ | refine ent.at 2 rfl ?_ | refine ent.at 3 rfl ?_ | refine ent.at 4 rfl ?_ | refine ent.at 5 rfl ?_ | refine ent.at 6 rfl ?_ | refine ent.at 7 rfl ?_ | refine ent.at 8 rfl ?_ | refine ent.at 9 rfl ?_ | refine ent.at 10 rfl ?_ | refine ent.at 11 rfl ?_ | refine ent.at 12 rfl ?_ | refine ent.at 13 rfl ?_ | refine ent.at 14 rfl ?_ | refine ent.at 15 rfl ?_ | refine ent.at 16 rfl ?_ | refine ent.at 17 rfl ?_ | refine ent.at 18 rfl ?_ | refine ent.at 19 rfl ?_ | refine ent.at 20 rfl ?_ | refine ent.at 21 rfl ?_ | refine ent.at 22 rfl ?_ | refine ent.at 23 rfl ?_) : ent Γ Δ := h
section
variable {P : Program} {hR : Heap} {n : Fr} {Q : Exit → Env → List HProp → Prop} {ρ : Env} {Γ : List HProp}
/-- only these slots and these pieces are kept -/
theorem WP.trim {c : Code} (ts is : List Nat) {ρ' : Env} {Γ' : List HProp} (H : WP P hR n c Q ρ' Γ') (h1 : Tr ρ ts ρ' := by repeat first | exact Tr.nil | apply Tr.cons; exact rfl)
    (h2 : Pk Γ is Γ' := by repeat first | exact Pk.nil | apply Pk.cons; exact rfl) (h3 : ndN is = true := by exact rfl) : WP P hR n c Q ρ Γ :=
  H.weaken h1.covers (h2.ent' h3)
theorem WP.loopC {α : Type} {c : Code} (good : α → Prop) (car : α → Env) (chg : α → List (Nat × HProp)) (μ : α → Nat) (x0 : α) (hg : good x0)
    (round : ∀ x, good x → WP P hR n c (thn (fun ρ' Γ' => ∃ x', good x' ∧ μ x' < μ x ∧ Ko ρ' (car x') ρ ∧ ent Γ' (chgs (chg x') Γ)) Q) (car x ++ ρ) (chgs (chg x) Γ))
    (hc : Ko ρ (car x0) ρ := by exact Ko.go) (he : ent Γ (chgs (chg x0) Γ) := by exact ent.gc) : WP P hR n (.loop c) Q ρ Γ :=
  WP.loopS good (fun x => car x ++ ρ) (fun x => chgs (chg x) Γ) μ x0 hg hc.sup he fun x g => (round x g).mono fun e ρ' Γ' h => by
    cases e with
    | normal => obtain ⟨x', g', m, k, en⟩ := h; exact ⟨x', g', m, k.sup, en⟩
    | _ => exact h
theorem WP.meetC {α : Type} {x y : Code} (good : α → Prop) (car : α → Env) (chg : α → List (Nat × HProp)) (H1 : WP P hR n x (thn (fun ρ' Γ' => ∃ z, good z ∧ Ko ρ' (car z) ρ ∧ ent Γ' (chgs (chg z) Γ)) Q) ρ Γ)
    (H2 : ∀ z, good z → WP P hR n y Q (car z ++ ρ) (chgs (chg z) Γ)) : WP P hR n (.seq x y) Q ρ Γ :=
  WP.seq (H1.mono fun e ρ' Γ' h => by
    cases e with
    | normal => obtain ⟨z, g, h1, h2⟩ := h; exact (H2 z g).sup h1.sup h2
    | _ => exact h)
end
section
variable {P : Program} {hR : Heap} {n : Fr} {cf : Op → Cls} {ops : Array Oper} {l : List Oper} {K : Env → List HProp → Prop} {ρ : Env} {Γ : List HProp} {o : Oper} {d : Nat}
/-- a call that is handed the pieces of these numbers -/
theorem Run.callP (is : List Nat) {Δ Θ : List HProp} {R : Value → List HProp → Prop} {f : FuncId} {c : Call} {x : Operand} {first captured args : Array Value} {vs : List Value} (hf : calleeOk P f = true) (hT : Tri P hR f args Δ R)
    (H : ∀ v Γ', R v Γ' → Run P hR n cf ops l K ((d, v) :: ρ) (Γ' ++ Θ)) (hop : o.op = .call c := by exact rfl) (hc : c.callee = .value x := by exact rfl)
    (hx : ρ.val x = some (.func (.func f) first captured) := by exact rfl) (hargs : collectV (c.args.toList.map ρ.val) = some vs := by exact rfl) (_hd : o.dst = some d := by exact rfl) (hs : preC .E n cf ops ρ o d = true := by exact rfl)
    (ha : args = first ++ vs.toArray ++ captured := by exact rfl) (he : Pk Γ is Δ := by repeat first | exact Pk.nil | apply Pk.cons; exact rfl) (h3 : ndN is = true := by exact rfl) (hr : Rs is 0 Γ Θ := by repeat first | exact Rs.nil | apply Rs.skip; exact rfl | apply Rs.keep; exact rfl) : Run P hR n cf ops (o :: l) K ρ Γ :=
  Run.call hop hc hx hargs hf _hd hs (pr_ent he h3 hr) (ha ▸ hT) H
/-- the same, and lent the pieces of others -/
theorem Run.callL (is js : List Nat) {Δ Θ Ξ : List HProp} {R : Value → List HProp → Prop} {f : FuncId} {c : Call} {x : Operand} {first captured args : Array Value} {vs : List Value} (hf : calleeOk P f = true)
    (hT : ∀ g, sat Θ g → Disj hR g → Tri P (un hR g) f args Δ R)
    (H : ∀ v Γ', R v Γ' → Run P hR n cf ops l K ((d, v) :: ρ) ((Γ' ++ Θ) ++ Ξ)) (hop : o.op = .call c := by exact rfl) (hc : c.callee = .value x := by exact rfl)
    (hx : ρ.val x = some (.func (.func f) first captured) := by exact rfl) (hargs : collectV (c.args.toList.map ρ.val) = some vs := by exact rfl) (_hd : o.dst = some d := by exact rfl) (hs : preC .E n cf ops ρ o d = true := by exact rfl)
    (ha : args = first ++ vs.toArray ++ captured := by exact rfl) (he1 : Pk Γ is Δ := by repeat first | exact Pk.nil | apply Pk.cons; exact rfl) (he2 : Pk Γ js Θ := by repeat first | exact Pk.nil | apply Pk.cons; exact rfl) (h3 : ndN (is ++ js) = true := by exact rfl) (hr : Rs (is ++ js) 0 Γ Ξ := by repeat first | exact Rs.nil | apply Rs.skip; exact rfl | apply Rs.keep; exact rfl) : Run P hR n cf ops (o :: l) K ρ Γ :=
  Run.callLend hop hc hx hargs hf _hd hs (pr_ent (he1.app he2) h3 hr) (fun g h1 h2 => ha ▸ hT g h1 h2) H
end
end Go.Sep
end
section
/- Short names of the steps. Over any program. -/
namespace Go.Sep
set_option linter.unusedVariables false
section
variable {P : Program} {hR : Heap} {n : Fr} {cf : Op → Cls} {ops : Array Oper} {l : List Oper} {K : Env → List HProp → Prop} {ρ : Env} {Γ : List HProp} {o : Oper} {d : Nat}
theorem Zm {x : Operand} {v : Value} (H : Run P hR n cf ops l K ((d, v) :: ρ) Γ) (hx : mvOp o.op = some x := by exact rfl) (hv : ρ.val x = some v := by exact rfl) (_hd : o.dst = some d := by exact rfl) (hs : pre n cf ops ρ o d = true := by exact rfl) :
    Run P hR n cf ops (o :: l) K ρ Γ := Run.mv hx hv _hd hs H
theorem Zn {x : Operand} {p : Addr} (H : Run P hR n cf ops l K ((d, .pointer (some p)) :: ρ) Γ) (hop : o.op = .nilCheck x := by exact rfl) (hx : ρ.val x = some (.pointer (some p)) := by exact rfl) (_hd : o.dst = some d := by exact rfl) (hs : pre n cf ops ρ o d = true := by exact rfl) :
    Run P hR n cf ops (o :: l) K ρ Γ := Run.nilCheck hop hx _hd hs H
theorem Zf {S : TypeId} {f : Nat} {x : Operand} {p : Addr} {off : Nat} (hf : fldOff P S f = some off) (H : Run P hR n cf ops l K ((d, .pointer (some (p.add off))) :: ρ) Γ) (hop : o.op = .fieldAddr S x f := by exact rfl) (hx : ρ.val x = some (.pointer (some p)) := by exact rfl)
    (_hd : o.dst = some d := by exact rfl) (hs : pre n cf ops ρ o d = true := by exact rfl) : Run P hR n cf ops (o :: l) K ρ Γ := Run.fieldAddr hop hx hf _hd hs H
theorem Zi {op : BinOp} {T T' : TypeId} {x y : Operand} {k : IntKind} {a b : Int} {v : Value} (H : Run P hR n cf ops l K ((d, v) :: ρ) Γ) (hop : o.op = .binOp op T x y T' := by exact rfl) (hx : ρ.val x = some (.int k a) := by exact rfl) (hy : ρ.val y = some (.int k b) := by exact rfl)
    (hv : intOpR op k a b = some v := by exact rfl) (_hd : o.dst = some d := by exact rfl) (hs : pre n cf ops ρ o d = true := by exact rfl) : Run P hR n cf ops (o :: l) K ρ Γ := Run.int2 hop hx hy hv _hd hs H
theorem Za {T T' : TypeId} {x y : Operand} {a b : Int} (H : Run P hR n cf ops l K ((d, .int .i64 (a + b)) :: ρ) Γ) (hop : o.op = .binOp .add T x y T' := by exact rfl) (hx : ρ.val x = some (.int .i64 a) := by exact rfl) (hy : ρ.val y = some (.int .i64 b) := by exact rfl)
    (_hd : o.dst = some d := by exact rfl) (hs : pre n cf ops ρ o d = true := by exact rfl) (h1 : -9223372036854775808 ≤ a + b := by first | omega | (simp <;> omega)) (h2 : a + b ≤ 9223372036854775807 := by first | omega | (simp <;> omega)) : Run P hR n cf ops (o :: l) K ρ Γ := Run.add64 hop hx hy _hd hs h1 h2 H
theorem Zs {T T' : TypeId} {x y : Operand} {a b : Int} (H : Run P hR n cf ops l K ((d, .int .i64 (a - b)) :: ρ) Γ) (hop : o.op = .binOp .sub T x y T' := by exact rfl) (hx : ρ.val x = some (.int .i64 a) := by exact rfl) (hy : ρ.val y = some (.int .i64 b) := by exact rfl)
    (_hd : o.dst = some d := by exact rfl) (hs : pre n cf ops ρ o d = true := by exact rfl) (h1 : -9223372036854775808 ≤ a - b := by first | omega | (simp <;> omega)) (h2 : a - b ≤ 9223372036854775807 := by first | omega | (simp <;> omega)) : Run P hR n cf ops (o :: l) K ρ Γ := Run.sub64 hop hx hy _hd hs h1 h2 H
theorem Zu {T T' : TypeId} {x y : Operand} {a b : Int} (H : Run P hR n cf ops l K ((d, .int .i64 (a * b)) :: ρ) Γ) (hop : o.op = .binOp .mul T x y T' := by exact rfl) (hx : ρ.val x = some (.int .i64 a) := by exact rfl) (hy : ρ.val y = some (.int .i64 b) := by exact rfl)
    (_hd : o.dst = some d := by exact rfl) (hs : pre n cf ops ρ o d = true := by exact rfl) (h1 : -9223372036854775808 ≤ a * b := by first | omega | (simp <;> omega)) (h2 : a * b ≤ 9223372036854775807 := by first | omega | (simp <;> omega)) : Run P hR n cf ops (o :: l) K ρ Γ := Run.mul64 hop hx hy _hd hs h1 h2 H
theorem Zl (k : Nat) {T U : TypeId} {x : Operand} {p : Addr} {v : Value} {s b off : Nat} {cs : List Value} (hT : ag P T = some (false, s)) (H : Run P hR n cf ops l K ((d, v) :: ρ) Γ) (hop : o.op = .load T x := by exact rfl) (hx : ρ.val x = some (.pointer (some p)) := by exact rfl)
    (_hd : o.dst = some d := by exact rfl) (hs : preC .R n cf ops ρ o d = true := by exact rfl) (hk : Γ[k]? = some (blk b cs U) := by exact rfl) (hp' : p = ⟨b, off, none⟩ := by exact rfl) (hv : cs[off]? = some v := by exact rfl) : Run P hR n cf ops (o :: l) K ρ Γ := Run.loadB k hop hx hT _hd hs hk hp' hv H
theorem Zr {T : TypeId} {x : Operand} {p : Addr} {v : Value} {s : Nat} (hT : ag P T = some (false, s)) (hv : cellH hR p v) (H : Run P hR n cf ops l K ((d, v) :: ρ) Γ) (hop : o.op = .load T x := by exact rfl) (hx : ρ.val x = some (.pointer (some p)) := by exact rfl)
    (_hd : o.dst = some d := by exact rfl) (hs : preC .R n cf ops ρ o d = true := by exact rfl) : Run P hR n cf ops (o :: l) K ρ Γ := Run.loadR hop hx hT _hd hs hv H
theorem Zh {v : Value} {B : Type} {F : Rd B} {ys : List B} {T : TypeId} {x : Operand} {ty' : TypeId × Nat × Nat} (hT : slT P T = some ty') (hr : SlR F hR v ys) (H : Run P hR n cf ops l K ((d, .int .i64 (ys.length : Int)) :: ρ) Γ) (hop : o.op = .call { callee := .builtin .len, args := #[x], argTypes := #[T] } := by exact rfl)
    (hx : ρ.val x = some v := by exact rfl) (_hd : o.dst = some d := by exact rfl) (hs : pre n cf ops ρ o d = true := by exact rfl) : Run P hR n cf ops (o :: l) K ρ Γ := Run.lenR hop hx hT _hd hs hr H
theorem Zx {v : Value} {B : Type} {F : Rd B} {ys : List B} {T EE : TypeId} {x ix : Operand} {kd : IntKind} {i : Int} {sz by' : Nat} (hT : slT P T = some (EE, sz, by')) (hr : SlR F hR v ys) (H : Run P hR n cf ops l K ((d, .pointer (some (elemAddr v (i.toNat * F.sz)))) :: ρ) Γ) (hop : o.op = .indexAddr T x ix := by exact rfl)
    (hx : ρ.val x = some v := by exact rfl) (hi : ρ.val ix = some (.int kd i) := by exact rfl) (_hd : o.dst = some d := by exact rfl) (hs : pre n cf ops ρ o d = true := by exact rfl) (hsz : F.sz = sz := by exact rfl) (h0 : 0 ≤ i := by omega) (h1 : i < ys.length := by omega) : Run P hR n cf ops (o :: l) K ρ Γ :=
  Run.idxR hop hx hi hT _hd hs hr hsz h0 h1 H
theorem Zv (H : Run P hR n cf ops l K (ρ.ext o.dst undef) Γ) (hg : gd ops ρ o = some false := by exact rfl) (hd : dstOk n o.dst = true := by exact rfl) : Run P hR n cf ops (o :: l) K ρ Γ := Run.not hg hd H
theorem Zq {c x y : Operand} {t : Bool} {v : Value} (H : Run P hR n cf ops l K ((d, v) :: ρ) Γ) (hop : o.op = .pick c x y := by exact rfl) (hc : ρ.val c = some (.bool t) := by exact rfl) (hv : (bif t then ρ.val x else ρ.val y) = some v := by exact rfl)
    (_hd : o.dst = some d := by exact rfl) (hs : pre n cf ops ρ o d = true := by exact rfl) : Run P hR n cf ops (o :: l) K ρ Γ := Run.pick hop hc hv _hd hs H
end
section
variable {P : Program} {hR : Heap} {n : Fr} {Q : Exit → Env → List HProp → Prop} {ρ : Env} {Γ : List HProp} {nx : Env → List HProp → Prop} {id id' : Nat}
theorem Ze {cf : Op → Cls} {ops : Array Oper} (H : nx ρ Γ) : Run P hR n cf ops [] (thn nx Q .normal) ρ Γ := Run.nil H
theorem Zp {y : Code} {ops : Array Oper} {l : List Oper} (H : Run P hR n cf0 ops l (thn (fun ρ Γ => WP P hR n y Q ρ Γ) Q .normal) ρ Γ) (hl : ops = ⟨l⟩ := by exact rfl) (hn : ndB n.ro ops = true := by rfl) : WP P hR n (.seq (.region id ops false) y) Q ρ Γ :=
  WP.seq (WP.plain cf0 hl H hn)
theorem Zc {ops : Array Oper} {l : List Oper} (H : Run P hR n cf0 ops l (Q .normal) ρ Γ) (hl : ops = ⟨l⟩ := by exact rfl) (hn : ndB n.ro ops = true := by rfl) : WP P hR n (.region id ops false) Q ρ Γ := WP.plain cf0 hl H hn
theorem Zb (H : nx ρ Γ) : WP P hR n .skip (thn nx Q) ρ Γ := WP.skip H
theorem Zj {n1 n2 : Env → List HProp → Prop} (H : Q .normal ρ Γ) : WP P hR n (.exit id) (thn n1 (thn n2 (blk' id Q))) ρ Γ := WP.exit (thn_exit (thn_exit (blk_hit H)))
theorem Zno {x y : Code} {c : Operand} (H : WP P hR n y Q ρ Γ) (hv : ρ.val c = some (.bool false) := by exact rfl) : WP P hR n (.cond c x y) Q ρ Γ := WP.cond hv (fun h => by cases h) fun _ => H
theorem Zyes {x y : Code} {c : Operand} (H : WP P hR n x Q ρ Γ) (hv : ρ.val c = some (.bool true) := by exact rfl) : WP P hR n (.cond c x y) Q ρ Γ := WP.cond hv (fun _ => H) fun h => by cases h
end
end Go.Sep
end
section
/- Maps of any keys; methods that are found behind interfaces. Over any program. -/
namespace Go.Sep
set_option linter.unusedVariables false
set_option linter.unusedSimpArgs false
set_option linter.unusedSectionVars false
/-! ### Keys -/
structure KeyOk (P : Program) {κ : Type} [DecidableEq κ] (TK : TypeId) (enc : κ → Value) : Prop where
  inj : ∀ a b, enc a = enc b → a = b
  chk : ∀ (e : Bool) (k : κ) (w : World), (Instr.checkKey e 10000 TK (enc k)).run P w = .ok () w
  eq : ∀ (k k' : κ) (w : World), (Op.equal TK (enc k) (enc k')).run P w = .ok (decide (k = k')) w
  und : ∃ ud, P.underlying TK = some ud ∧ ∀ k k' : κ, Instr.sameNow ud (enc k) (enc k') = none ∨ Instr.sameNow ud (enc k) (enc k') = some (decide (k = k'))
  bits : ∀ k, Instr.sameBits 10000 (enc k) (enc k) = true
section
variable {P : Program} {κ : Type} [DecidableEq κ] {TK : TypeId} {enc : κ → Value}
open Classical in
noncomputable def fk (v : Value) : List MapEntry → Nat → Option (Nat × Value)
  | [], _ => none
  | e :: es, i => if e.key = v then some (i, e.val) else fk v es (i + 1)
theorem findNow_fk (H : KeyOk P TK enc) {ud : TypeDesc} (hu : ∀ k k' : κ, Instr.sameNow ud (enc k) (enc k') = none ∨ Instr.sameNow ud (enc k) (enc k') = some (decide (k = k'))) (k : κ) :
    ∀ (es : List MapEntry) (i : Nat), (∀ e ∈ es, ∃ k', e.key = enc k') → Instr.findNow ud (enc k) es i = none ∨ Instr.findNow ud (enc k) es i = some (fk (enc k) es i)
  | [], i, _ => .inr rfl
  | e :: es, i, h => by
    obtain ⟨k', hk⟩ := h e (by simp)
    have ih := findNow_fk H hu k es (i + 1) (fun e he => h e (by simp [he]))
    unfold Instr.findNow fk
    rw [hk]
    rcases hu k k' with e1 | e1 <;> rw [e1]
    · exact .inl rfl
    · by_cases hkk : k = k'
      · subst hkk; simp
      · have : ¬ enc k' = enc k := fun hc => hkk (H.inj _ _ hc).symm
        simp only [decide_eq_false hkk, if_neg this]
        exact ih
theorem findAsking_fk (H : KeyOk P TK enc) (k : κ) (w : World) : ∀ (es : List MapEntry) (i : Nat), (∀ e ∈ es, ∃ k', e.key = enc k') → (Instr.findAsking TK (enc k) es i).run P w = .ok (fk (enc k) es i) w
  | [], i, _ => by simp [Instr.findAsking, fk]
  | e :: es, i, h => by
    obtain ⟨k', hk⟩ := h e (by simp)
    have ih := findAsking_fk H k w es (i + 1) (fun e he => h e (by simp [he]))
    unfold Instr.findAsking fk
    rw [hk]
    simp only [Sem.run_bind, H.eq k k' w, Result.andThen_ok]
    by_cases hkk : k = k'
    · subst hkk; simp
    · have : ¬ enc k' = enc k := fun hc => hkk (H.inj _ _ hc).symm
      simp only [decide_eq_false hkk, if_neg this, Bool.false_eq_true, if_false]
      exact ih
theorem run_findKey (H : KeyOk P TK enc) (k : κ) (w : World) {es : List MapEntry} (h : ∀ e ∈ es, ∃ k', e.key = enc k') : (Instr.findKey TK (enc k) es).run P w = .ok (fk (enc k) es 0) w := by
  obtain ⟨ud, hu, hs⟩ := H.und
  unfold Instr.findKey
  simp only [underlying, Sem.run_bind, run_program, Result.andThen_ok, hu, Sem.run_pure]
  rcases findNow_fk H hs k es 0 h with e | e <;> rw [e]
  · exact findAsking_fk H k w es 0 h
  · simp
/-- what a map holds -/
structure MI (enc : κ → Value) (es : List MapEntry) (clock : Nat) (f : κ → Option Value) : Prop where
  has : ∀ e ∈ es, ∃ k, e.key = enc k ∧ f k = some e.val
  all : ∀ k v, f k = some v → ∃ e ∈ es, e.key = enc k
  one : es.Pairwise (fun x y => x.key ≠ y.key)
  low : ∀ e ∈ es, e.born < clock
  brn : es.Pairwise (fun x y => x.born ≠ y.born)
theorem fk_of (v : Value) : ∀ (es : List MapEntry) (i : Nat), ((∀ e ∈ es, e.key ≠ v) ∧ fk v es i = none) ∨ ∃ j e, es[j]? = some e ∧ e.key = v ∧ fk v es i = some (i + j, e.val)
  | [], i => .inl ⟨by simp, rfl⟩
  | e :: es, i => by
    unfold fk
    by_cases h : e.key = v
    · exact .inr ⟨0, e, rfl, h, by simp [h]⟩
    · rw [if_neg h]
      rcases fk_of v es (i + 1) with ⟨h1, h2⟩ | ⟨j, e', h1, h2, h3⟩
      · exact .inl ⟨fun x hx => by rcases List.mem_cons.1 hx with rfl | hx; exact h; exact h1 x hx, h2⟩
      · exact .inr ⟨j + 1, e', h1, h2, by rw [h3]; congr 2; omega⟩
theorem MI.find (inj : ∀ a b, enc a = enc b → a = b) {es : List MapEntry} {clock : Nat} {f : κ → Option Value} (h : MI enc es clock f) (k : κ) : (f k = none ∧ (∀ e ∈ es, e.key ≠ enc k) ∧ fk (enc k) es 0 = none) ∨ ∃ j e, es[j]? = some e ∧ e.key = enc k ∧ f k = some e.val ∧ fk (enc k) es 0 = some (j, e.val) := by
  rcases fk_of (enc k) es 0 with ⟨h1, h2⟩ | ⟨j, e, h1, h2, h3⟩
  · refine .inl ⟨?_, h1, h2⟩
    cases hf : f k with
    | none => rfl
    | some v => obtain ⟨e, he, hk⟩ := h.all k v hf; exact absurd hk (h1 e he)
  · obtain ⟨k', e1, e2⟩ := h.has e (List.mem_of_getElem? h1)
    rw [h2] at e1
    obtain rfl := inj _ _ e1
    exact .inr ⟨j, e, h1, h2, e2, by rw [h3]; simp⟩
def updK (f : κ → Option Value) (k : κ) (v : Value) : κ → Option Value := fun k' => if k' = k then some v else f k'
theorem updK_same (f : κ → Option Value) (k : κ) (v w : Value) : updK (updK f k v) k w = updK f k w := by
  funext k'; unfold updK; split <;> rfl
theorem MI.push (inj : ∀ a b, enc a = enc b → a = b) {es : List MapEntry} {clock : Nat} {f : κ → Option Value} (h : MI enc es clock f) {k : κ} (hn : ∀ e ∈ es, e.key ≠ enc k) (v : Value) : MI enc (es ++ [{ key := enc k, val := v, born := clock }]) (clock + 1) (updK f k v) := by
  constructor
  · intro e he
    rcases List.mem_append.1 he with h1 | h1
    · obtain ⟨k', g1, g2⟩ := h.has e h1
      refine ⟨k', g1, ?_⟩
      have hne : k' ≠ k := fun e' => hn e h1 (by rw [g1, e'])
      unfold updK; rw [if_neg hne]; exact g2
    · simp at h1; subst h1; exact ⟨k, rfl, by simp [updK]⟩
  · intro k' u hu
    unfold updK at hu
    split at hu
    · rename_i e; subst e; exact ⟨{ key := enc k', val := v, born := clock }, by simp, rfl⟩
    · obtain ⟨e, he, hke⟩ := h.all k' u hu; exact ⟨e, List.mem_append_left _ he, hke⟩
  · refine List.pairwise_append.2 ⟨h.one, by simp, fun e he e' he' => ?_⟩
    simp at he'; subst he'; exact hn e he
  · intro e he
    rcases List.mem_append.1 he with he | he
    · have := h.low e he; omega
    · simp at he; subst he; simp
  · refine List.pairwise_append.2 ⟨h.brn, by simp, fun e he e' he' => ?_⟩
    simp at he'; subst he'; have := h.low e he; simp; omega
theorem pairwise_set {R : MapEntry → MapEntry → Prop} {es : List MapEntry} {j : Nat} {e e' : MapEntry} (h1 : ∀ x, R x e → R x e') (h2 : ∀ x, R e x → R e' x) (hj : es[j]? = some e) (h : es.Pairwise R) : (es.set j e').Pairwise R := by
  rw [List.pairwise_iff_getElem] at h ⊢
  intro a b ha hb hab
  obtain ⟨hjl, hje⟩ := List.getElem?_eq_some_iff.1 hj
  have ha' : a < es.length := by simpa using ha
  have hb' : b < es.length := by simpa using hb
  have := h a b ha' hb' hab
  rw [List.getElem_set, List.getElem_set]
  split
  · rename_i e1; subst e1; rw [hje] at this
    rw [if_neg (by omega)]; exact h2 _ this
  · split
    · rename_i e1; subst e1; rw [hje] at this; exact h1 _ this
    · exact this
theorem MI.put (inj : ∀ a b, enc a = enc b → a = b) {es : List MapEntry} {clock : Nat} {f : κ → Option Value} (h : MI enc es clock f) {k : κ} {j : Nat} {e : MapEntry} (hj : es[j]? = some e) (hk : e.key = enc k) (v : Value) : MI enc (es.set j { e with val := v }) clock (updK f k v) := by
  obtain ⟨hjl, hje⟩ := List.getElem?_eq_some_iff.1 hj
  constructor
  · intro x hx
    obtain ⟨m, hm⟩ := List.getElem?_of_mem hx
    rw [List.getElem?_set] at hm
    split at hm
    · rename_i e1; subst e1; simp only [hjl, if_true, Option.some.injEq] at hm; subst hm
      exact ⟨k, hk, by simp [updK]⟩
    · rename_i hne
      obtain ⟨k', g1, g2⟩ := h.has x (List.mem_of_getElem? hm)
      refine ⟨k', g1, ?_⟩
      unfold updK; rw [if_neg]; exact g2
      rintro rfl
      obtain ⟨hml, hme⟩ := List.getElem?_eq_some_iff.1 hm
      have h1 := List.pairwise_iff_getElem.1 h.one
      rcases Nat.lt_or_gt_of_ne hne with hlt | hgt
      · exact h1 j m hjl hml hlt (by rw [hje, hme, hk, g1])
      · exact h1 m j hml hjl hgt (by rw [hje, hme, hk, g1])
  · intro k' u hu
    have hself : (es.set j { e with val := v })[j]? = some { e with val := v } := by simp [hjl]
    unfold updK at hu
    split at hu
    · rename_i e1; subst e1; exact ⟨_, List.mem_of_getElem? hself, hk⟩
    · obtain ⟨x, hx, hkx⟩ := h.all k' u hu
      obtain ⟨m, hm⟩ := List.getElem?_of_mem hx
      by_cases e1 : j = m
      · subst e1; rw [hj] at hm; cases hm; exact ⟨_, List.mem_of_getElem? hself, hkx⟩
      · exact ⟨x, List.mem_of_getElem? (by rw [List.getElem?_set_ne e1]; exact hm), hkx⟩
  · exact pairwise_set (R := fun x y => x.key ≠ y.key) (e := e) (fun _ h => h) (fun _ h => h) hj h.one
  · intro x hx
    rcases List.mem_or_eq_of_mem_set hx with hx | rfl
    · exact h.low x hx
    · exact h.low e (List.mem_of_getElem? hj)
  · exact pairwise_set (R := fun x y => x.born ≠ y.born) (e := e) (fun _ h => h) (fun _ h => h) hj h.brn
/-- a map: what it tells of each -/
def mpK (enc : κ → Value) (b : Nat) (f : κ → Option Value) : HProp := fun h => ∃ es clock, h = put emp b (.map ⟨es⟩ clock) ∧ MI enc es clock f
/-- and an entry of it that is marked -/
def mpE (enc : κ → Value) (b : Nat) (f : κ → Option Value) (k : κ) (st : Nat) : HProp := fun h => ∃ es clock, h = put emp b (.map ⟨es⟩ clock) ∧ MI enc es clock f ∧ ∃ e ∈ es, e.key = enc k ∧ e.born = st
theorem mpK_new (b : Nat) : ∀ h, mp b [] 0 h → mpK enc b (fun _ => none) h := fun _ hh => ⟨[], 0, hh, ⟨by simp, by simp, .nil, by simp, .nil⟩⟩
end
section
variable {P : Program} {hR : Heap} {n : Fr} {cf : Op → Cls} {ops : Array Oper} {l : List Oper} {K : Env → List HProp → Prop} {ρ : Env} {Γ : List HProp} {o : Oper} {d : Nat}
variable {κ : Type} [DecidableEq κ] {TK : TypeId} {enc : κ → Value}
theorem Run.makeMapK (enc : κ → Value) {T : TypeId} (hop : o.op = .makeMap T none) (hd : o.dst = some d) (hs : preC .A n cf ops ρ o d = true)
    (H : ∀ b, Run P hR n cf ops l K ((d, .map (some b)) :: ρ) (Γ ++ [mpK enc b fun _ => none])) : Run P hR n cf ops (o :: l) K ρ Γ :=
  Run.makeMap hop hd hs fun b => (H b).via (ent.app (ent.refl _) (ent.cons (mpK_new b) (ent.refl _)))
theorem run_getObj {b : Nat} {es : Array MapEntry} {clock : Nat} {w : World} (h : hp w b = some (.map es clock)) : (getObj b).run P w = .ok (.map es clock) w := by
  unfold hp at h; simp [getObj, Sem.run, h]
theorem run_setObj {b : Nat} {es : Array MapEntry} {clock : Nat} {ob' : Obj} {w : World} (h : hp w b = some (.map es clock)) : (Go.setObj b ob').run P w = .ok () (World.setObj w b ob') := by
  unfold hp at h; simp [Go.setObj, Sem.run, h, World.setObj]
/-- an entry is asked for; the piece is read of what is owned -/
theorem Run.lookupK (hK : KeyOk P TK enc) (i : Nat) {T TV : TypeId} {x ix : Operand} {b : Nat} {f : κ → Option Value} {k : κ} {z : Value} (hop : o.op = .lookup T x ix false) (hx : ρ.val x = some (.map (some b)))
    (hi : ρ.val ix = some (enc k)) (hT : P.underlying T = some (.map TK TV)) (hz : zr P TV = some z) (_hd : o.dst = some d) (hs : preC .R n cf ops ρ o d = true)
    (hk : Γ[i]? = some (mpK enc b f)) (H : Run P hR n cf ops l K ((d, (f k).getD z) :: ρ) Γ) : Run P hR n cf ops (o :: l) K ρ Γ := by
  intro a h ho ht hl
  obtain ⟨h1, h2, h3, h4⟩ := preC_spec hs
  unfold opsRun
  rw [gd_wanted ho h4, if_pos rfl, h3]
  obtain ⟨g1, g2, ⟨es, clock, rfl, hm⟩, hd, e, _⟩ := sat_get ht hk
  have ho' : Ok n ((d, (f k).getD z) :: ρ) (a.put o.dst ((f k).getD z)) := by rw [h1]; exact ho.put h2 _
  refine ⟨_, ⟨b, .map ⟨es⟩ clock, by simp [rblk, hop, ho.eval hx], .inr (by rw [e]; exact un_left_some put_emp_self), fun w hw => ?_⟩, H _ h ho' ht hl⟩
  have hf := run_findKey hK k w (es := es) fun e he => let ⟨k', g, _⟩ := hm.has e he; ⟨k', g⟩
  rcases hm.find hK.inj k with ⟨h1, h2, h3⟩ | ⟨j, e, h1, h2, h3, h4⟩
  · rw [h3] at hf
    simp [execOp, hop, ho.eval hx, ho.eval hi, Instr.lookup, underlying, hT, run_getObj hw, hK.chk, hf, zr_spec hz, h1]
  · rw [h4] at hf
    simp [execOp, hop, ho.eval hx, ho.eval hi, Instr.lookup, underlying, hT, run_getObj hw, hK.chk, hf, h3]
theorem Run.mapPutK (hK : KeyOk P TK enc) (i : Nat) {T TV : TypeId} {x ix y : Operand} {b : Nat} {f : κ → Option Value} {k : κ} {v : Value} (hop' : o.op = .mapUpdate T x ix y ∨ o.op = .insert T x ix y) (hx : ρ.val x = some (.map (some b)))
    (hi : ρ.val ix = some (enc k)) (hy : ρ.val y = some v) (hT : P.underlying T = some (.map TK TV)) (hs : preN .E cf ops ρ o = true)
    (hk : Γ[i]? = some (mpK enc b f)) (H : Run P hR n cf ops l K ρ (Γ.set i (mpK enc b (updK f k v)))) : Run P hR n cf ops (o :: l) K ρ Γ :=
  Run.write_of i hs hk (fun a ho h1 hA => by
    obtain ⟨es, clock, rfl, hm⟩ := hA
    have hf := fun w => run_findKey hK k w (es := es) fun e he => let ⟨k', g, _⟩ := hm.has e he; ⟨k', g⟩
    rcases hm.find hK.inj k with ⟨h1, h2, h3⟩ | ⟨j, e, h1, h2, h3, h4⟩
    · refine ⟨b, _, .map ⟨es ++ [{ key := enc k, val := v, born := clock }]⟩ (clock + 1), rfl, ⟨_, _, rfl, hm.push hK.inj h2 v⟩, fun w hw => ?_⟩
      rw [h3] at hf
      rcases hop' with hop | hop <;> simp [execOp, hop, ho.eval hx, ho.eval hi, ho.eval hy, Instr.mapUpdate, underlying, hT, run_getObj hw, hK.chk, hf, run_setObj hw]
    · refine ⟨b, _, .map ⟨es.set j { e with val := v }⟩ clock, rfl, ⟨_, _, rfl, hm.put hK.inj h1 h2 v⟩, fun w hw => ?_⟩
      rw [h4] at hf
      have hkeep : (Instr.keyThatStays e.key (enc k)).run P w = .ok (enc k) w := by rw [h2]; simp [Instr.keyThatStays, hK.bits]
      have hjl := (List.getElem?_eq_some_iff.1 h1).1
      have hset : es.modify j (fun e => { e with key := enc k, val := v }) = es.set j { e with val := v } := by
        apply List.ext_getElem?
        intro m
        rw [List.getElem?_modify]
        by_cases hmj : j = m
        · subst hmj; have hje := (List.getElem?_eq_some_iff.1 h1).2; simp [hjl, hje, ← h2]
        · simp [hmj, List.getElem?_set_ne hmj]
      rcases hop' with hop | hop <;> simp [execOp, hop, ho.eval hx, ho.eval hi, ho.eval hy, Instr.mapUpdate, underlying, hT, run_getObj hw, hK.chk, hf, h1, hkeep, hset, run_setObj hw]) H
theorem Run.mapUpdateK (hK : KeyOk P TK enc) (i : Nat) {T TV : TypeId} {x ix y : Operand} {b : Nat} {f : κ → Option Value} {k : κ} {v : Value} (hop : o.op = .mapUpdate T x ix y) (hx : ρ.val x = some (.map (some b)))
    (hi : ρ.val ix = some (enc k)) (hy : ρ.val y = some v) (hT : P.underlying T = some (.map TK TV)) (hs : preN .E cf ops ρ o = true)
    (hk : Γ[i]? = some (mpK enc b f)) (H : Run P hR n cf ops l K ρ (Γ.set i (mpK enc b (updK f k v)))) : Run P hR n cf ops (o :: l) K ρ Γ := Run.mapPutK hK i (.inl hop) hx hi hy hT hs hk H
/-- something is written into the block of a piece, and something told -/
theorem Run.writeD_of (k : Nat) {A : HProp} (_hd : o.dst = some d) (hs : preC .E n cf ops ρ o d = true) (hk : Γ[k]? = some A)
    (hrun : ∀ a, Ok n ρ a → ∀ h1, A h1 → ∃ b ob ob' v, ∃ A' : HProp, h1 = put emp b ob ∧ A' (put emp b ob') ∧ (∀ w, hp w b = some ob → (execOp a.eval o).run P w = .ok (.value v) (World.setObj w b ob')) ∧ Run P hR n cf ops l K ((d, v) :: ρ) (Γ.set k A')) :
    Run P hR n cf ops (o :: l) K ρ Γ := by
  intro a h ho ht hl
  obtain ⟨h1, h2, h3, h4⟩ := preC_spec hs
  unfold opsRun
  rw [gd_wanted ho h4, if_pos rfl, h3]
  intro w f
  obtain ⟨g1, g2, gA, hd, e, hset⟩ := sat_get ht hk
  obtain ⟨b, ob, ob', v, A', rfl, hA', hr, H⟩ := hrun a ho g1 gA
  have hb : hp w b = some ob := f.own b ob (by rw [e]; exact un_left_some put_emp_self)
  unfold Oper.wp
  rw [hr w hb]
  have hst := step_write (ob' := ob') (by rw [← e]; exact f.own) hd e
  have hd' : Disj (put emp b ob') g2 := fun c => by
    by_cases hc : c = b
    · subst hc; exact .inr ((hd c).resolve_left (by simp [put]))
    · exact .inl (by simp [put, hc, emp])
  refine ⟨_, hst, ?_⟩
  rw [h1]
  exact H _ _ (ho.put h2 v) (hset A' _ hA' hd') ⟨_, f.step hst⟩
/-- an entry is found, or made, and marked -/
theorem Run.mapEntryK (hK : KeyOk P TK enc) (i : Nat) {T TV : TypeId} {x ix : Operand} {b : Nat} {f : κ → Option Value} {k : κ} {z : Value} (hop : o.op = .mapEntry T x ix) (hx : ρ.val x = some (.map (some b)))
    (hi : ρ.val ix = some (enc k)) (hT : P.underlying T = some (.map TK TV)) (hz : zr P TV = some z) (_hd : o.dst = some d) (hs : preC .E n cf ops ρ o d = true)
    (hk : Γ[i]? = some (mpK enc b f)) (H : ∀ st : Nat, Run P hR n cf ops l K ((d, .tuple #[(f k).getD z, .int .i64 (st : Int)]) :: ρ) (Γ.set i (mpE enc b (updK f k ((f k).getD z)) k st))) : Run P hR n cf ops (o :: l) K ρ Γ :=
  Run.writeD_of i _hd hs hk (fun a ho h1 hA => by
    obtain ⟨es, clock, rfl, hm⟩ := hA
    have hf := fun w => run_findKey hK k w (es := es) fun e he => let ⟨k', g, _⟩ := hm.has e he; ⟨k', g⟩
    rcases hm.find hK.inj k with ⟨h1, h2, h3⟩ | ⟨j, e, h1, h2, h3, h4⟩
    · refine ⟨b, _, .map ⟨es ++ [{ key := enc k, val := z, born := clock }]⟩ (clock + 1), .tuple #[z, .int .i64 (clock : Int)], mpE enc b (updK f k z) k clock, rfl, ⟨_, _, rfl, hm.push hK.inj h2 z, { key := enc k, val := z, born := clock }, by simp, rfl, rfl⟩, fun w hw => ?_, ?_⟩
      · rw [h3] at hf
        simp [execOp, hop, ho.eval hx, ho.eval hi, Instr.mapEntry, underlying, hT, run_getObj hw, hK.chk, hf, run_setObj hw, zr_spec hz, goInt]
        try rfl
      · have := H clock
        rw [h1] at this; exact this
    · have hjl := (List.getElem?_eq_some_iff.1 h1).1
      have hm2 := hm.put hK.inj h1 h2 e.val
      have hid : es.set j { e with val := e.val } = es := by
        apply List.ext_getElem?; intro m
        rw [List.getElem?_set]
        split
        · rename_i e1; subst e1; first | exact h1.symm | (rw [if_pos hjl]; exact h1.symm)
        · rfl
      rw [hid] at hm2
      refine ⟨b, _, .map ⟨es⟩ clock, .tuple #[e.val, .int .i64 (e.born : Int)], mpE enc b (updK f k e.val) k e.born, rfl, ⟨_, _, rfl, hm2, e, List.mem_of_getElem? h1, h2, rfl⟩, fun w hw => ?_, ?_⟩
      · rw [h4] at hf
        have hkeep : (Instr.keyThatStays e.key (enc k)).run P w = .ok (enc k) w := by rw [h2]; simp [Instr.keyThatStays, hK.bits]
        have hset : es.modify j (fun e => { e with key := enc k }) = es := by
          apply List.ext_getElem?
          intro m
          rw [List.getElem?_modify]
          by_cases hmj : j = m
          · subst hmj; simp [h1, ← h2]
          · simp [hmj]
        simp [execOp, hop, ho.eval hx, ho.eval hi, Instr.mapEntry, underlying, hT, run_getObj hw, hK.chk, hf, h1, hkeep, hset, run_setObj hw, goInt]
        try rfl
      · have := H e.born
        rw [h3] at this; exact this)
theorem Run.entryStoreK (hinj : ∀ a b, enc a = enc b → a = b) (i : Nat) {T : TypeId} {x s y : Operand} {b : Nat} {f : κ → Option Value} {k : κ} {st : Nat} {v : Value} (hop : o.op = .entryStore T x s y) (hx : ρ.val x = some (.map (some b)))
    (hi : ρ.val s = some (.int .i64 (st : Int))) (hy : ρ.val y = some v) (hs : preN .E cf ops ρ o = true)
    (hk : Γ[i]? = some (mpE enc b f k st)) (H : Run P hR n cf ops l K ρ (Γ.set i (mpK enc b (updK f k v)))) : Run P hR n cf ops (o :: l) K ρ Γ :=
  Run.write_of i hs hk (fun a ho h1 hA => by
    obtain ⟨es, clock, rfl, hm, e, he, hke, hst⟩ := hA
    obtain ⟨j, hj⟩ := List.getElem?_of_mem he
    obtain ⟨hjl, hje⟩ := List.getElem?_eq_some_iff.1 hj
    refine ⟨b, _, .map ⟨es.set j { e with val := v }⟩ clock, rfl, ⟨_, _, rfl, hm.put hinj hj hke v⟩, fun w hw => ?_⟩
    have hfi : es.findIdx? (fun e => (e.born : Int) == (st : Int)) = some j := by
      rw [List.findIdx?_eq_some_iff_getElem]
      refine ⟨hjl, by rw [hje, hst]; simp, fun m hm' => ?_⟩
      have := List.pairwise_iff_getElem.1 hm.brn m j (by omega) hjl hm'
      rw [hje, hst] at this
      simp; omega
    have hset : es.modify j (fun e => { e with val := v }) = es.set j { e with val := v } := by
      apply List.ext_getElem?
      intro m
      rw [List.getElem?_modify]
      by_cases hmj : j = m
      · subst hmj; simp [hjl, hj, hje]
      · simp [hmj, List.getElem?_set_ne hmj]
    simp [execOp, hop, ho.eval hx, ho.eval hi, ho.eval hy, Instr.entryStore, run_getObj hw, hfi, hset, run_setObj hw, asInt, asIntOf]) H
/-! ### Interfaces -/
def ifc (P : Program) (T : TypeId) : Option Bool := match P.underlying T with | some (.interface _) => some true | some _ => some false | none => none
theorem Run.mkIface {T : TypeId} {x : Operand} {v : Value} (hop : o.op = .makeInterface T x) (hx : ρ.val x = some v) (hT : ifc P T = some false) (_hd : o.dst = some d) (hs : pre n cf ops ρ o d = true)
    (H : Run P hR n cf ops l K ((d, .iface T v) :: ρ) Γ) : Run P hR n cf ops (o :: l) K ρ Γ :=
  Run.val hs (fun A h ho ht w => by
    unfold ifc at hT
    split at hT <;> first | (cases hT; done) | skip
    rename_i ud hu hne
    have : (Instr.makeInterface T v).run P w = .ok (.iface T v) w := by
      unfold Instr.makeInterface
      simp only [underlying, Sem.run_bind, run_program, Result.andThen_ok, hne, Sem.run_pure]
      try (cases ud <;> first | rfl | exact absurd rfl (hu _))
    simp [execOp, hop, ho.eval hx, this]) H
theorem Run.typeAssert {T U : TypeId} {x : Operand} {v : Value} (hop : o.op = .typeAssert x U T false) (hx : ρ.val x = some (.iface T v)) (hT : ifc P T = some false) (_hd : o.dst = some d) (hs : pre n cf ops ρ o d = true)
    (H : Run P hR n cf ops l K ((d, v) :: ρ) Γ) : Run P hR n cf ops (o :: l) K ρ Γ :=
  Run.val hs (fun A h ho ht w => by
    unfold ifc at hT
    split at hT <;> first | (cases hT; done) | skip
    rename_i ud hu hne
    have : (Instr.typeAssert (.iface T v) U T false).run P w = .ok v w := by
      unfold Instr.typeAssert
      simp only [underlying, Sem.run_bind, run_program, Result.andThen_ok, hne, Sem.run_pure]
      try (cases ud <;> first | (simp; done) | exact absurd rfl (hu _))
    simp [execOp, hop, ho.eval hx, this]) H
/-- the row of a method in the table of a pointer's type: the function, whether it takes the pointer, what the pointer is to -/
def mrow (P : Program) (T : TypeId) (name : String) : Option (FuncId × Bool × TypeId) := match P.info? T, P.underlying T with
  | some i, some (.pointer e) => match i.methods.find? (·.name == name) with
    | some m => if m.path.toList.isEmpty then m.func.map (fun q => (q.1, q.2, e)) else none
    | none => none
  | _, _ => none
theorem run_wrapNil (T : TypeId) (p : Addr) (s : String) (w : World) : (Builtin.ssaWrapNilChk_ #[T] T #[.pointer (some p), strVal "", strVal s]).run P w = .ok (.pointer (some p)) w := rfl
theorem run_method {T : TypeId} {name : String} {f : FuncId} {pr : Bool} {e : TypeId} (h : mrow P T name = some (f, pr, e)) (m : Nat) (p : Addr) (w : World) {v : Value} (hv : pr = false → (loadVar e p).run P w = .ok v w) :
    (method (m + 1) T (.pointer (some p)) name).run P w = .ok (f, if pr then .pointer (some p) else v) w := by
  unfold mrow at h
  split at h
  · rename_i i e' hi hu
    split at h
    · rename_i mm hm
      split at h
      · rename_i hp
        have hp' : mm.path.toList = [] := by simpa using hp
        have hp2 : mm.path = #[] := by apply Array.ext'; simpa using hp'
        cases hf : mm.func with
        | none => simp [hf] at h
        | some q =>
          simp only [hf, Option.map_some, Option.some.injEq, Prod.mk.injEq] at h
          obtain ⟨rfl, rfl, rfl⟩ := h
          unfold method
          cases hq : q.2 with
          | true => simp [typeInfo, hi, hm, hf, hp', follow, receiverAt, underlying, hu, Place.get, hq]
          | false => simp [typeInfo, hi, hm, hf, hp', hp2, follow, receiverAt, underlying, hu, Place.get, hq, run_wrapNil, asAddr, hv hq]
      · cases h
    · cases h
  · cases h
theorem Run.callM_of {Δ Θ : List HProp} {R : Value → List HProp → Prop} {f : FuncId} {c : Call} {x : Operand} {name : String} {T : TypeId} {v0 rv : Value} {vs : List Value} (hop : o.op = .call c) (hc : c.callee = .invoke x name)
    (hx : ρ.val x = some (.iface T v0)) (hargs : collectV (c.args.toList.map ρ.val) = some vs) (hf : calleeOk P f = true) (hm : ∀ h, sat Γ h → ∀ w, Sub h (hp w) → (method (P.types.size + Made.depth) T v0 name).run P w = .ok (f, rv) w)
    (_hd : o.dst = some d) (hs : preC .E n cf ops ρ o d = true) (he : ent Γ (Δ ++ Θ)) (hT : Tri P hR f (#[rv] ++ vs.toArray) Δ R) (H : ∀ v Γ', R v Γ' → Run P hR n cf ops l K ((d, v) :: ρ) (Γ' ++ Θ)) : Run P hR n cf ops (o :: l) K ρ Γ := by
  intro a h ho ht hl
  obtain ⟨h1, h2, h3, h4⟩ := preC_spec hs
  unfold opsRun
  rw [gd_wanted ho h4, if_pos rfl, h3]
  intro w fi
  have hargs' : c.args.map a.eval = vs.toArray := by
    apply Array.ext'; simpa using evals ho c.args.toList vs (collectV_spec hargs)
  have hmw := hm h ht w fi.own
  have hrun : (execOp a.eval o).run P w = .ok (.enter f (#[rv] ++ vs.toArray)) w := by
    simp [execOp, hop, resolve, hc, ho.eval hx, invoke, hargs', callMethod, hmw, run_callFunc hf]
  unfold Oper.wp
  rw [hrun]
  refine Calls.mono ((hT.frame Θ) h w (he h ht) fi) ?_
  rintro e w' ⟨v, h', Γ', rfl, s, t, Γ1, rfl, r⟩
  refine ⟨h', s, H v Γ1 r _ h' ?_ t ⟨_, fi.step s⟩⟩
  rw [h1]; exact ho.put h2 v
theorem depth_succ (P : Program) : ∃ m, P.types.size + Made.depth = m + 1 := ⟨P.types.size + 99, by unfold Made.depth; omega⟩
/-- a method that takes the pointer -/
theorem Run.callMp (is : List Nat) {Δ Θ : List HProp} {R : Value → List HProp → Prop} {f : FuncId} {c : Call} {x : Operand} {name : String} {T e : TypeId} {p : Addr} {args : Array Value} {vs : List Value} (hf : calleeOk P f = true) (hm : mrow P T name = some (f, true, e))
    (hT : Tri P hR f args Δ R) (H : ∀ v Γ', R v Γ' → Run P hR n cf ops l K ((d, v) :: ρ) (Γ' ++ Θ)) (hop : o.op = .call c := by exact rfl) (hc : c.callee = .invoke x name := by exact rfl)
    (hx : ρ.val x = some (.iface T (.pointer (some p))) := by exact rfl) (hargs : collectV (c.args.toList.map ρ.val) = some vs := by exact rfl) (_hd : o.dst = some d := by exact rfl) (hs : preC .E n cf ops ρ o d = true := by exact rfl)
    (ha : args = #[.pointer (some p)] ++ vs.toArray := by exact rfl) (he : Pk Γ is Δ := by repeat first | exact Pk.nil | apply Pk.cons; exact rfl) (h3 : ndN is = true := by exact rfl) (hr : Rs is 0 Γ Θ := by repeat first | exact Rs.nil | apply Rs.skip; exact rfl | apply Rs.keep; exact rfl) : Run P hR n cf ops (o :: l) K ρ Γ :=
  Run.callM_of (rv := .pointer (some p)) hop hc hx hargs hf (fun h _ w _ => by
    obtain ⟨m, e⟩ := depth_succ P
    rw [e]; simpa using run_method (v := .nilIface) hm m p w (by simp)) _hd hs (pr_ent he h3 hr) (ha ▸ hT) H
/-- a method that takes what the pointer is to: a cell of the k-th piece -/
theorem Run.callMv (k : Nat) (is : List Nat) {Δ Θ : List HProp} {R : Value → List HProp → Prop} {f : FuncId} {c : Call} {x : Operand} {name : String} {T e U : TypeId} {b off s : Nat} {cs : List Value} {v0 : Value} {args : Array Value} {vs : List Value} (hf : calleeOk P f = true) (hm : mrow P T name = some (f, false, e)) (hag : ag P e = some (false, s))
    (hT : Tri P hR f args Δ R) (H : ∀ v Γ', R v Γ' → Run P hR n cf ops l K ((d, v) :: ρ) (Γ' ++ Θ)) (hop : o.op = .call c := by exact rfl) (hc : c.callee = .invoke x name := by exact rfl)
    (hx : ρ.val x = some (.iface T (.pointer (some ⟨b, off, none⟩))) := by exact rfl) (hk : Γ[k]? = some (blk b cs U) := by exact rfl) (hv : cs[off]? = some v0 := by exact rfl) (hargs : collectV (c.args.toList.map ρ.val) = some vs := by exact rfl) (_hd : o.dst = some d := by exact rfl) (hs : preC .E n cf ops ρ o d = true := by exact rfl)
    (ha : args = #[v0] ++ vs.toArray := by exact rfl) (he : Pk Γ is Δ := by repeat first | exact Pk.nil | apply Pk.cons; exact rfl) (h3 : ndN is = true := by exact rfl) (hr : Rs is 0 Γ Θ := by repeat first | exact Rs.nil | apply Rs.skip; exact rfl | apply Rs.keep; exact rfl) : Run P hR n cf ops (o :: l) K ρ Γ :=
  Run.callM_of (rv := v0) hop hc hx hargs hf (fun h ht w hw => by
    obtain ⟨m, e⟩ := depth_succ P
    obtain ⟨h1, h2, g1, hd, rfl, _⟩ := sat_get ht hk
    unfold blk at g1
    subst g1
    have hb : hp w b = some (.cells ⟨cs⟩ U (0, 0)) := hw b _ (un_left_some put_emp_self)
    rw [e]; simpa using run_method (v := v0) hm m ⟨b, off, none⟩ w (fun _ => loadVar_cell hag rfl (by simpa using hv) w hb)) _hd hs (pr_ent he h3 hr) (ha ▸ hT) H
end
end Go.Sep
end
section
/- Strings and their bytes. Over any program. -/
namespace Go.Sep
set_option linter.unusedVariables false
set_option linter.unusedSimpArgs false
abbrev rdB : Rd Int := (Enc.int .u8).rd
def bts (s : ByteArray) : List Int := s.data.toList.map fun b => (b.toNat : Int)
def strOf (xs : List Int) : ByteArray := xs.foldl (fun r n => r.push (UInt8.ofNat n.toNat)) ByteArray.empty
theorem bts_len (s : ByteArray) : (bts s).length = s.size := by
  show (s.data.toList.map _).length = s.data.size
  rw [List.length_map, Array.length_toList]
theorem u8_map (xs : List Int) : xs.flatMap (Enc.int .u8).cells = xs.map (Value.int .u8) := by
  induction xs with
  | nil => rfl
  | cons x xs ih => rw [List.flatMap_cons, ih]; rfl
/-- something that is only read, and owned -/
def roP {A : Type} (F : Rd A) (v : Value) (xs : List A) : HProp := fun h => SlR F h v xs
theorem roP_lend {A : Type} {F : Rd A} {v : Value} {xs : List A} {g : Heap} (h : sat [roP F v xs] g) (hR : Heap) (hd : Disj hR g) : SlR F (un hR g) v xs := by
  obtain ⟨h1, h2, g1, g2, hd', e⟩ := h
  exact SlR.mono (fun b o hb => by
    have : g b = some o := by rw [e]; exact un_left_some hb
    exact (sub_un_right hd) b o this) g1
section
variable {P : Program} {hR : Heap} {n : Fr} {cf : Op → Cls} {ops : Array Oper} {l : List Oper} {K : Env → List HProp → Prop} {ρ : Env} {Γ : List HProp} {o : Oper} {d : Nat}
theorem Run.toBytes {S T e : TypeId} {x : Operand} {s : ByteArray} (hop : o.op = .convert S T x) (hx : ρ.val x = some (.string s)) (hS : P.underlying S = some .string) (hT : P.underlying T = some (.slice e)) (he : P.underlying e = some (.int .u8))
    (_hd : o.dst = some d) (hs : preC .E n cf ops ρ o d = true)
    (H : ∀ b c : Nat, Run P hR n cf ops l K ((d, .slice (some ⟨b, 0, none⟩) s.size c) :: ρ) (Γ ++ [roP rdB (.slice (some ⟨b, 0, none⟩) s.size c) (bts s)])) : Run P hR n cf ops (o :: l) K ρ Γ := by
  intro a h ho ht hl
  obtain ⟨h1, h2, h3, h4⟩ := preC_spec hs
  unfold opsRun
  rw [gd_wanted ho h4, if_pos rfl, h3]
  intro w f
  have hr := run_bytes_of_string w S T e s hS hT he
  unfold Oper.wp
  have hrun : (execOp a.eval o).run P w = .ok (.value (.slice (some ⟨w.heap.size, 0, none⟩) s.size (grownCap w s.size 0 e))) (World.push { w with drawn := w.drawn + 1 } (.cells (bytesRow s (grownCap w s.size 0 e)) e ((bytesRow s (grownCap w s.size 0 e)).size, (bytesRow s (grownCap w s.size 0 e)).size + 1))) := by
    rw [← push_eq]
    simp only [execOp, hop, ho.eval hx, Sem.run_bind, hr, Result.andThen_ok, Sem.run_pure]
  rw [hrun]
  obtain ⟨hst, hnone⟩ := Step.push (ob := .cells (bytesRow s (grownCap w s.size 0 e)) e ((bytesRow s (grownCap w s.size 0 e)).size, (bytesRow s (grownCap w s.size 0 e)).size + 1)) (w.drawn + 1) f
  refine ⟨_, hst, ?_⟩
  rw [h1]
  refine H w.heap.size (grownCap w s.size 0 e) _ _ (ho.put h2 _) (sat_snoc ht hnone ?_) ⟨_, f.step hst⟩
  refine ⟨some ⟨w.heap.size, 0, none⟩, grownCap w s.size 0 e, by rw [bts_len], by rw [bts_len]; unfold grownCap; exact Nat.le_add_right _ _, fun hne => ⟨_, rfl, fun i x hi => ⟨_, rfl, fun j v hj => ?_⟩⟩⟩
  have hj0 : j = 0 := by
    rcases Nat.eq_zero_or_pos j with e | e
    · exact e
    · simp [Enc.int, Nat.ne_of_gt e] at hj
  subst hj0
  simp only [Enc.int, List.getElem?_cons_zero, Option.some.injEq] at hj
  subst hj
  have hil := (List.getElem?_eq_some_iff.1 hi).1
  rw [bts_len] at hil
  refine ⟨bytesRow s (grownCap w s.size 0 e), e, ((bytesRow s (grownCap w s.size 0 e)).size, (bytesRow s (grownCap w s.size 0 e)).size + 1), ?_, add_spot 0 (add_spot _ rfl), ?_⟩
  · rw [add_lit, add_lit]; exact put_emp_self
  · rw [add_lit, add_lit]
    simp only [Enc.rd, Enc.int, Nat.zero_add, Nat.mul_one, Nat.add_zero]
    unfold bytesRow
    have hsz : i < s.data.size := hil
    rw [Array.getElem?_append_left (by simpa using hsz)]
    simp only [bts, List.getElem?_map] at hi
    simp only [Array.getElem?_map]
    rw [← Array.getElem?_toList]
    cases hx2 : s.data.toList[i]? with
    | none => rw [hx2] at hi; cases hi
    | some b => rw [hx2] at hi; simp only [Option.map_some, Option.some.injEq] at hi; subst hi; rfl
theorem Run.toStr {S T e : TypeId} {x : Operand} {a : Option Addr} {m c : Nat} {xs : List Int} (hop : o.op = .convert S T x) (hx : ρ.val x = some (.slice a m c)) (hS : P.underlying S = some (.slice e)) (hT : P.underlying T = some .string) (he : P.underlying e = some (.int .u8))
    (_hd : o.dst = some d) (hs : preC .E n cf ops ρ o d = true) (hsrc : SlR rdB hR (.slice a m c) xs)
    (H : Run P hR n cf ops l K ((d, .string (strOf xs)) :: ρ) Γ) : Run P hR n cf ops (o :: l) K ρ Γ := by
  intro A h ho ht hl
  obtain ⟨h1, h2, h3, h4⟩ := preC_spec hs
  unfold opsRun
  rw [gd_wanted ho h4, if_pos rfl, h3]
  intro w f
  have hY := hsrc.mono f.ro
  have hrun : (execOp A.eval o).run P w = .ok (.value (.string (strOf xs))) w := by
    have hc : (convert S T (.slice a m c)).run P w = (Conv.bytesToString (.slice a m c)).run P w := run_convert_bytes_string w S T e a m c hS he hT
    have hb : (Conv.bytesToString (.slice a m c)).run P w = .ok (.string (strOf xs)) w := by
      obtain ⟨a', c', e1, _, hsome⟩ := hY
      simp only [Value.slice.injEq] at e1
      obtain ⟨rfl, rfl, rfl⟩ := e1
      cases xs with
      | nil => cases a <;> simp [Conv.bytesToString, loadCells, loadCellsFrom, strOf]
      | cons y ys =>
        obtain ⟨ad, rfl, hrow⟩ := hsome (by simp)
        refine run_bytesToString w ad _ c (y :: ys) ?_
        have hx := cells_of_SlR (E := Enc.int .u8) (hsrc.mono f.ro) (by simp)
        have := run_loadCells_list (P := P) w ad ((y :: ys).flatMap (Enc.int .u8).cells) hx
        rw [u8_map] at this
        simpa using this
    simp only [execOp, hop, ho.eval hx, Sem.run_bind, hc, hb, Result.andThen_ok, Sem.run_pure]
  unfold Oper.wp
  rw [hrun]
  refine ⟨h, .refl f.own, ?_⟩
  rw [h1]
  exact H _ _ (ho.put h2 _) ht hl
theorem Run.idxStr {T : TypeId} {x ix : Operand} {s : ByteArray} {i : Int} {k : IntKind} {b : UInt8} (hop : o.op = .index T x ix) (hx : ρ.val x = some (.string s)) (hi : ρ.val ix = some (.int k i)) (hT : P.underlying T = some .string)
    (_hd : o.dst = some d) (hs : pre n cf ops ρ o d = true) (h0 : 0 ≤ i) (hb : s[i.toNat]? = some b) (H : Run P hR n cf ops l K ((d, .int .u8 (b.toNat : Int)) :: ρ) Γ) : Run P hR n cf ops (o :: l) K ρ Γ :=
  Run.val hs (fun A h ho ht w => by
    simp [execOp, hop, ho.eval hx, ho.eval hi, Instr.index, asIntOf, underlying, hT, h0, hb]) H
theorem Run.eqStr {T T' : TypeId} {x y : Operand} {a b : ByteArray} (hop : o.op = .binOp .eql T x y T') (hx : ρ.val x = some (.string a)) (hy : ρ.val y = some (.string b))
    (_hd : o.dst = some d) (hs : pre n cf ops ρ o d = true) (H : Run P hR n cf ops l K ((d, .bool (decide (a = b))) :: ρ) Γ) : Run P hR n cf ops (o :: l) K ρ Γ :=
  Run.val hs (fun A h ho ht w => by
    have : (a.toList == b.toList) = decide (a = b) := by
      by_cases e : a = b
      · subst e; simp
      · have h : a.toList ≠ b.toList := fun h => e (by rw [ByteArray.toList_eq, ByteArray.toList_eq] at h; exact ByteArray.ext (Array.toList_inj.1 h))
        simp [e, h]
    simp [execOp, hop, ho.eval hx, ho.eval hy, eqGuard, binOp, Op.stringOp, this]) H
end
end Go.Sep
end
section
/- Pieces that hide what they hold. Over any program. -/
namespace Go.Sep
set_option linter.unusedVariables false
def exP {α : Type} (g : α → Prop) (Θ : α → List HProp) : HProp := fun h => ∃ x, g x ∧ sat (Θ x) h
theorem erase_perm {A : Type} {xs : List A} {k : Nat} {a : A} (h : xs[k]? = some a) : (a :: xs.eraseIdx k).Perm xs := by
  induction xs generalizing k with
  | nil => simp at h
  | cons x xs ih => cases k with
    | zero => simp at h; subst h; exact List.Perm.refl _
    | succ k => simp only [List.getElem?_cons_succ] at h; exact (List.Perm.swap x a _).trans ((ih h).cons x)
theorem exP_at {α : Type} {g : α → Prop} {Θ : α → List HProp} {Γ : List HProp} (k : Nat) (hk : Γ[k]? = some (exP g Θ)) : ∀ h, sat Γ h → ∃ x : Subtype g, sat (Θ x.1 ++ Γ.eraseIdx k) h := fun h hs => by
  obtain ⟨h1, h2, ⟨x, hx, g1⟩, g2, hd, e⟩ := (ent.perm (erase_perm hk).symm) h hs
  exact ⟨⟨x, hx⟩, sat_append.2 ⟨h1, h2, g1, g2, hd, e⟩⟩
theorem exP_shut {α : Type} {g : α → Prop} {Θ : α → List HProp} (x : α) (hx : g x) (Γ : List HProp) : ent (Θ x ++ Γ) (exP g Θ :: Γ) := fun h hs => by
  obtain ⟨h1, h2, g1, g2, hd, e⟩ := sat_append.1 hs
  exact ⟨h1, h2, ⟨x, hx, g1⟩, g2, hd, e⟩
section
variable {P : Program} {hR : Heap} {n : Fr} {cf : Op → Cls} {ops : Array Oper} {l : List Oper} {K : Env → List HProp → Prop} {ρ : Env} {Γ : List HProp} {Q : Exit → Env → List HProp → Prop}
variable {α : Type} {g : α → Prop} {Θ : α → List HProp}
theorem Tri.openX (k : Nat) {f : FuncId} {args : Array Value} {R : Value → List HProp → Prop} (H : ∀ x, g x → Tri P hR f args (Θ x ++ Γ.eraseIdx k) R) (hk : Γ[k]? = some (exP g Θ) := by exact rfl) : Tri P hR f args Γ R :=
  Tri.opens (exP_at k hk) fun x => H x.1 x.2
theorem WP.openX (k : Nat) {c : Code} (H : ∀ x, g x → WP P hR n c Q ρ (Θ x ++ Γ.eraseIdx k)) (hk : Γ[k]? = some (exP g Θ) := by exact rfl) : WP P hR n c Q ρ Γ :=
  WP.opens (exP_at k hk) fun x => H x.1 x.2
theorem Run.openX (k : Nat) (H : ∀ x, g x → Run P hR n cf ops l K ρ (Θ x ++ Γ.eraseIdx k)) (hk : Γ[k]? = some (exP g Θ) := by exact rfl) : Run P hR n cf ops l K ρ Γ :=
  Run.opens (exP_at k hk) fun x => H x.1 x.2
end
end Go.Sep
end
section
/- A region that draws its order, with two operations that may not change places: walked both ways. An entry that is marked is asked for. Over any program. -/
namespace Go.Sep
set_option linter.unusedVariables false
set_option linter.unusedSectionVars false
def chkLX (cl : Nat → Cls) (ops : Array Oper) (m : Array Nat) (x0 y0 : Nat) : List Nat → Bool
  | [] => true
  | x :: l => predsB ops x (x :: l) && l.all (fun y => (m.getD y 0).testBit x || (swapC (cl x) (cl y) && apartB ops y x) || (x == x0 && y == y0)) && chkLX cl ops m x0 y0 l
def prB : Cls → Bool
  | .P | .R => true
  | _ => false
def freeX (cl : Nat → Cls) (m : Array Nat) (x0 y0 : Nat) (l : List Nat) : Bool := l.all fun i => i == x0 || i == y0 || (m.getD i 0).testBit x0 || (m.getD i 0).testBit y0 || prB (cl i)
def chkX (cl : Nat → Cls) (ops : Array Oper) (x0 y0 : Nat) (l : List Nat) : Bool := permB ops.size l && Region.noSelect ops && chkLX cl ops (masks ops) x0 y0 l
section
variable {P : Program} {hR : Heap} {ops : Array Oper} {cl : Nat → Cls}
theorem predsB_erase {x i : Nat} {l : List Nat} (h1 : predsB ops x (x :: l) = true) : predsB ops x (x :: l.erase i) = true := by
  unfold predsB at h1 ⊢
  split
  · rename_i o ho
    simp only [ho] at h1
    rw [Array.all_eq_true_iff_forall_mem] at h1 ⊢
    intro e he
    have h2 := h1 e he
    simp only [Bool.or_eq_true, Bool.and_eq_true, Bool.not_eq_true', decide_eq_true_eq] at h2 ⊢
    refine h2.imp id fun h3 => ⟨h3.1, ?_⟩
    have h4 := h3.2
    simp only [List.contains_eq_mem, decide_eq_false_iff_not, List.mem_cons, not_or] at h4 ⊢
    exact ⟨h4.1, fun hm => h4.2 (List.mem_of_mem_erase hm)⟩
  · rename_i ho; simp only [ho] at h1; cases h1
theorem chkLX_erase {m : Array Nat} {x0 y0 i : Nat} : ∀ {l : List Nat}, chkLX cl ops m x0 y0 l = true → chkLX cl ops m x0 y0 (l.erase i) = true
  | [], _ => rfl
  | x :: l, h => by
    simp only [chkLX, Bool.and_eq_true] at h
    rw [List.erase_cons]
    split
    · exact h.2
    · simp only [chkLX, Bool.and_eq_true]
      refine ⟨⟨predsB_erase h.1.1, ?_⟩, chkLX_erase h.2⟩
      rw [List.all_eq_true] at *
      exact fun y hy => h.1.2 y (List.mem_of_mem_erase hy)
theorem chkLX_gone {m : Array Nat} {x0 y0 : Nat} : ∀ {l : List Nat}, x0 ∉ l → chkLX cl ops m x0 y0 l = true → chkL cl ops m l = true
  | [], _, _ => rfl
  | x :: l, hn, h => by
    simp only [chkLX, Bool.and_eq_true] at h
    simp only [chkL, Bool.and_eq_true]
    refine ⟨⟨h.1.1, ?_⟩, chkLX_gone (fun hm => hn (by simp [hm])) h.2⟩
    rw [List.all_eq_true]
    intro y hy
    have h1 := List.all_eq_true.1 h.1.2 y hy
    have hx : (x == x0) = false := by
      cases hb : x == x0 with
      | false => rfl
      | true => exact absurd (by simp at hb; simp [hb]) hn
    simpa [hx] using h1
theorem bubbleX {K : Act → Heap → Prop} {m : Array Nat} {x0 y0 i : Nat} (hiy : i ≠ y0) (hsel : Region.noSelect ops = true) (hm : ∀ x, (m.getD i 0).testBit x = true → Anc ops x i) :
    ∀ {l : List Nat}, (∀ x ∈ l, ¬ Anc ops x i) → i ∈ l → chkLX cl ops m x0 y0 l = true → ∀ {a : Act} {h : Heap} (_ : Live hR h)
      (_ : ARun P hR cl ops l a h K), ARun P hR cl ops (i :: l.erase i) a h K
  | [], _, hi, _, _, _, _, _ => by cases hi
  | x :: l, hA, hi, hc, a, h, hl, H => by
    by_cases hx : x = i
    · subst hx; rw [List.erase_cons_head]; exact H
    · have hil : i ∈ l := by rcases List.mem_cons.1 hi with e | e; exact absurd e.symm hx; exact e
      rw [List.erase_cons_tail (by simpa using hx)]
      simp only [chkLX, Bool.and_eq_true] at hc
      have h1 := List.all_eq_true.1 hc.1.2 i hil
      have hne : (i == y0) = false := by simpa using hiy
      simp only [hne, Bool.and_false, Bool.or_false, Bool.or_eq_true, Bool.and_eq_true] at h1
      have h2 := h1.resolve_left fun hb => hA x (by simp) (hm x hb)
      have hap := h2.2
      unfold apartB at hap
      split at hap
      · rename_i oi ox hoi hox
        have H1 : AStep P hR cl ops x a h fun a' h' => AStep P hR cl ops i a' h' fun a'' h'' => ARun P hR cl ops (l.erase i) a'' h'' K :=
          AStep.mono hl (fun a' h' hl' H' => bubbleX hiy hsel hm (fun y hy => hA y (by simp [hy])) hil hc.2 hl' H') H
        exact AStep.swap hoi hox hap (fun cs b => Region.noSelect_spec hsel i oi cs b hoi) (fun cs b => Region.noSelect_spec hsel x ox cs b hox) h2.1 hl H1
      · cases hap
theorem AStep.both {i : Nat} {a : Act} {h : Heap} {K K' : Act → Heap → Prop} (hl : Live hR h) (hc : prB (cl i) = true) (H : AStep P hR cl ops i a h K) (H' : AStep P hR cl ops i a h K') : AStep P hR cl ops i a h fun a' h' => K a' h' ∧ K' a' h' := by
  obtain ⟨w, f⟩ := hl
  unfold AStep at *
  split
  · rename_i ho; simp only [ho] at H H'; exact ⟨H, H'⟩
  · rename_i o ho
    simp only [ho] at H H'
    split
    · rename_i hw
      simp only [hw, if_true] at H H'
      cases hcl : cl i with
      | P =>
        simp only [hcl] at H H'
        obtain ⟨v, h1, h2⟩ := H
        obtain ⟨v', h1', h2'⟩ := H'
        have e := (h1 w f.ro).symm.trans (h1' w f.ro)
        simp only [Result.ok.injEq, Next.value.injEq, and_true] at e
        subst e
        exact ⟨v, h1, h2, h2'⟩
      | R =>
        simp only [hcl] at H H'
        obtain ⟨v, ⟨b, ob, q0, q1, q2⟩, h2⟩ := H
        obtain ⟨v', ⟨b', ob', q0', q1', q2'⟩, h2'⟩ := H'
        have g : ∀ {b ob}, (hR b = some ob ∨ h b = some ob) → hp w b = some ob := fun hx => by rcases hx with x | x; exact f.ro _ _ x; exact f.own _ _ x
        have e := (q2 w (g q1)).symm.trans (q2' w (g q1'))
        simp only [Result.ok.injEq, Next.value.injEq, and_true] at e
        subst e
        exact ⟨v, ⟨b, ob, q0, q1, q2⟩, h2, h2'⟩
      | A => rw [hcl] at hc; cases hc
      | E => rw [hcl] at hc; cases hc
    · rename_i hw; simp only [hw] at H H'; exact ⟨H, H'⟩
theorem wpAny_of_runX {Q : Exit → Act → World → Prop} {K : Act → Heap → Prop} {w0 : World} {h0 : Heap} {x0 y0 : Nat} (hxy : x0 ≠ y0) (hsel : Region.noSelect ops = true)
    (hQ : ∀ a h w, Step w0 h0 w h → K a h → Q .normal a w) : ∀ (fuel : Nat) (l l' : List Nat) (listed : Array Bool) (a : Act) (h : Heap) (w : World),
      (∀ i, i ∈ l ↔ i < ops.size ∧ listed.getD i true = false) → l.Nodup → l'.Perm l → x0 ∈ l → y0 ∈ l → listed.size = ops.size → Closed ops listed → chkLX cl ops (masks ops) x0 y0 l = true → chkLX cl ops (masks ops) y0 x0 l' = true → freeX cl (masks ops) x0 y0 l = true → l.length ≤ fuel →
      Fits hR h w → Step w0 h0 w h → ARun P hR cl ops l a h K → ARun P hR cl ops l' a h K → wpAny P .any ops Q fuel listed a w := by
  intro fuel
  induction fuel with
  | zero =>
    intro l l' listed a h w hmem hnd hpm hx0 hy0 hsz hcl hchk hchk' hfr hlen f s H H'
    have : l = [] := List.length_eq_zero_iff.1 (by omega)
    subst this; cases hx0
  | succ fuel ih =>
    intro l l' listed a h w hmem hnd hpm hx0 hy0 hsz hcl hchk hchk' hfr hlen f s H H'
    refine ⟨fun hr => ?_, fun i hi => ?_⟩
    · cases l with
      | nil => cases hx0
      | cons x l =>
        exfalso
        have hx := (hmem x).1 (by simp)
        simp only [chkLX, Bool.and_eq_true] at hchk
        have h1 := hchk.1.1
        unfold predsB at h1
        have ho : ops[x]? = some ops[x] := Array.getElem?_eq_getElem hx.1
        simp only [ho] at h1
        have : x ∈ Region.ready .any ops listed := by
          rw [mem_ready]
          refine ⟨hx.2, _, ho, fun e he hb => ?_⟩
          have h2 := Array.all_eq_true_iff_forall_mem.1 h1 e he
          simp only [hb, Bool.not_true, Bool.false_or, Bool.and_eq_true, decide_eq_true_eq, Bool.not_eq_true', List.contains_eq_mem, decide_eq_false_iff_not] at h2
          cases hg : listed.getD e.on false with
          | true => rfl
          | false => exact absurd ((hmem e.on).2 ⟨h2.1, by
              rw [Array.getD_eq_getD_getElem?, Array.getElem?_eq_getElem (by omega)] at hg ⊢; exact hg⟩) h2.2
        rw [hr] at this; cases this
    · have hi' := mem_ready.1 hi
      obtain ⟨hun, o, ho, hpre⟩ := hi'
      have hil : i ∈ l := (hmem i).2 ⟨(Array.getElem?_eq_some_iff.1 ho).1, hun⟩
      have hil' : i ∈ l' := hpm.symm.subset hil
      have hdir : ∀ k, Edged ops k i → listed.getD k false = true := fun k ⟨o', ho', e, he, hb, hk⟩ => by
        rw [ho] at ho'; cases ho'; rw [← hk]; exact hpre e he hb
      have hA : ∀ x ∈ l, ¬ Anc ops x i := fun x hx ha => by
        have h1 := hcl.anc ha hdir
        have h2 := ((hmem x).1 hx).2
        have h3 := ((hmem x).1 hx).1
        rw [Array.getD_eq_getD_getElem?, Array.getElem?_eq_getElem (by omega)] at h1 h2
        simp only [Option.getD_some] at h1 h2
        rw [h1] at h2; cases h2
      have hA' : ∀ x ∈ l', ¬ Anc ops x i := fun x hx => hA x (hpm.subset hx)
      have hlen' : (l.erase i).length = l.length - 1 := List.length_erase_of_mem hil
      have hpos : 0 < l.length := List.length_pos_of_mem hil
      have hmem' : ∀ j, j ∈ l.erase i ↔ j < ops.size ∧ (listed.setIfInBounds i true).getD j true = false := fun j => by
        rw [hnd.mem_erase_iff, hmem]
        by_cases hji : i = j
        · subst hji; simp [hsz] <;> (intros; omega)
        · rw [getD_set_ne true hji]; constructor
          · exact fun h => h.2
          · exact fun h => ⟨Ne.symm hji, h⟩
      have hcl' : Closed ops (listed.setIfInBounds i true) := fun j k hj he => by
        by_cases hji : i = j
        · subst hji; exact getD_set_true (hdir k he)
        · rw [getD_set_ne false hji] at hj; exact getD_set_true (hcl j k hj he)
      have hpm' : (l'.erase i).Perm (l.erase i) := hpm.erase i
      by_cases hix : i = x0
      · -- the first one of the two goes first
        have H1 := bubbleX (by rw [hix]; exact hxy) hsel (fun x hx => masks_spec hx) hA hil hchk ⟨w, f⟩ H
        refine AStep.wpOp f (fun a' h' w' s' k => ?_) H1
        refine wpAny_of_run hsel hQ fuel (l.erase i) _ a' h' w' hmem' (hnd.erase i) (by simp [hsz]) hcl' (chkLX_gone (by rw [hix]; exact hnd.not_mem_erase) (chkLX_erase hchk)) (by omega) (f.step s') (s.trans s') k
      · by_cases hiy : i = y0
        · have hnd' : l'.Nodup := hpm.nodup_iff.2 hnd
          have H1 := bubbleX (by rw [hiy]; exact Ne.symm hxy) hsel (fun x hx => masks_spec hx) hA' hil' hchk' ⟨w, f⟩ H'
          refine AStep.wpOp f (fun a' h' w' s' k => ?_) H1
          refine wpAny_of_run hsel hQ fuel (l'.erase i) _ a' h' w' (fun j => by rw [hpm'.mem_iff]; exact hmem' j) (hnd'.erase i) (by simp [hsz]) hcl' (chkLX_gone (by rw [hiy]; exact hnd'.not_mem_erase) (chkLX_erase hchk')) (by rw [hpm'.length_eq]; omega) (f.step s') (s.trans s') k
        · have H1 := bubbleX hiy hsel (fun x hx => masks_spec hx) hA hil hchk ⟨w, f⟩ H
          have H1' := bubbleX hix hsel (fun x hx => masks_spec hx) hA' hil' hchk' ⟨w, f⟩ H'
          have hpr : prB (cl i) = true := by
            have h1 := List.all_eq_true.1 hfr i hil
            have e1 : (i == x0) = false := by simpa using hix
            have e2 : (i == y0) = false := by simpa using hiy
            have e3 : ((masks ops).getD i 0).testBit x0 = false := by
              cases hb : ((masks ops).getD i 0).testBit x0 with
              | false => rfl
              | true => exact absurd (masks_spec hb) (hA x0 hx0)
            have e4 : ((masks ops).getD i 0).testBit y0 = false := by
              cases hb : ((masks ops).getD i 0).testBit y0 with
              | false => rfl
              | true => exact absurd (masks_spec hb) (hA y0 hy0)
            simp only [e1, e2, e3, e4, Bool.false_or] at h1
            exact h1
          have H2 : AStep P hR cl ops i a h fun a' h' => ARun P hR cl ops (l.erase i) a' h' K ∧ ARun P hR cl ops (l'.erase i) a' h' K := AStep.both ⟨w, f⟩ hpr H1 H1'
          refine AStep.wpOp f (fun a' h' w' s' k => ?_) H2
          exact ih (l.erase i) (l'.erase i) _ a' h' w' hmem' (hnd.erase i) hpm' ((List.mem_erase_of_ne (Ne.symm hix)).2 hx0) ((List.mem_erase_of_ne (Ne.symm hiy)).2 hy0) (by simp [hsz]) hcl' (chkLX_erase hchk) (chkLX_erase hchk') (List.all_eq_true.2 fun y hy => List.all_eq_true.1 hfr y (List.mem_of_mem_erase hy)) (by omega) (f.step s') (s.trans s') k.1 k.2
theorem wp_region_drawnX {Q : Exit → Act → World → Prop} {K : Act → Heap → Prop} {id : Nat} {a : Act} {h : Heap} {w : World} (l l' : List Nat) (x0 y0 : Nat) (hm : P.follows .mixedOrders = true)
    (hchk : chkX cl ops x0 y0 l = true) (hchk' : chkX cl ops y0 x0 l' = true) (hfr : (freeX cl (masks ops) x0 y0 l && !(x0 == y0) && l.contains x0 && l.contains y0) = true) (hQ : ∀ a h' w', Step w h w' h' → K a h' → Q .normal a w') (f : Fits hR h w) (H : ARun P hR cl ops l a h K) (H' : ARun P hR cl ops l' a h K) {ro : Option Nat} {m : Nat} (hn : ndB ro ops = true) : (Code.region id ops true).wpIn (FR ro) m P Q a w := by
  simp only [chkX, Bool.and_eq_true] at hchk hchk'
  obtain ⟨⟨hp, hs⟩, hc⟩ := hchk
  obtain ⟨⟨hp', _⟩, hc'⟩ := hchk'
  obtain ⟨h1, h2, h3⟩ := permB_spec hp
  obtain ⟨h1', h2', h3'⟩ := permB_spec hp'
  simp only [Bool.and_eq_true, Bool.not_eq_true', List.contains_eq_mem, decide_eq_true_eq, beq_eq_false_iff_ne] at hfr
  obtain ⟨⟨⟨g1, g2⟩, g3⟩, g4⟩ := hfr
  have hpm : l'.Perm l := (List.perm_ext_iff_of_nodup h2' h2).2 fun i => by rw [h1, h1']
  have hst : Step w h { w with drawn := w.drawn + 1 } h := ⟨f.own, Nat.le_refl _, fun _ _ _ => rfl, fun _ hb => .inl hb, ⟨rfl, rfl, rfl⟩⟩
  refine wpIn_drawn_of hm hn (wpAny_of_runX (Q := fun e a w => e = .normal ∧ Q .normal a w) g2 hs (fun a h w s k => ⟨rfl, hQ a h w s k⟩) _ l l' _ a h _ (fun i => ?_) h2 hpm g3 g4 (by simp) (fun i j hi => ?_) hc hc' g1 (Nat.le_of_eq h3) (f.step hst) hst H H')
  · rw [h1]
    constructor
    · exact fun hi => ⟨hi, by simp [hi]⟩
    · exact fun h => h.1
  · rw [Array.getD_eq_getD_getElem?] at hi
    by_cases hlt : i < ops.size
    · simp [hlt] at hi
    · simp [hlt] at hi
end
section
variable {P : Program} {hR : Heap} {n : Fr} {Q : Exit → Env → List HProp → Prop} {ρ : Env} {Γ : List HProp}
theorem WP.drawnX {id : Nat} {ops : Array Oper} (cf : Op → Cls) {la lb : List Oper} (l l' : List Nat) (x0 y0 : Nat) (hm : P.follows .mixedOrders = true) (hl : collectO (l.map (ops[·]?)) = some la) (hl' : collectO (l'.map (ops[·]?)) = some lb)
    (hk : (chkX (clOf cf ops) ops x0 y0 l && chkX (clOf cf ops) ops y0 x0 l' && (freeX (clOf cf ops) (masks ops) x0 y0 l && !(x0 == y0) && l.contains x0 && l.contains y0)) = true)
    (H : Run P hR n cf ops la (Q .normal) ρ Γ) (H' : Run P hR n cf ops lb (Q .normal) ρ Γ) (hn : ndB n.ro ops = true := by rfl) : WP P hR n (.region id ops true) Q ρ Γ := by
  intro a h w ho hs hf
  simp only [Bool.and_eq_true] at hk
  refine wp_region_drawnX l l' x0 y0 hm hk.1.1 hk.1.2 (by simp only [Bool.and_eq_true]; exact hk.2) (fun a h' w' s k => ?_) hf (arun_of_ops _ la (collectO_spec hl) a h (H a h ho hs ⟨w, hf⟩)) (arun_of_ops _ lb (collectO_spec hl') a h (H' a h ho hs ⟨w, hf⟩)) hn
  obtain ⟨ρ', Γ', o, t, q⟩ := k
  exact ⟨h', ρ', Γ', s, o, t, q⟩
end
section
variable {P : Program} {hR : Heap} {n : Fr} {cf : Op → Cls} {ops : Array Oper} {l : List Oper} {K : Env → List HProp → Prop} {ρ : Env} {Γ : List HProp} {o : Oper} {d : Nat}
variable {κ : Type} [DecidableEq κ] {TK : TypeId} {enc : κ → Value}
/-- an entry is asked for while one is marked -/
theorem Run.lookupE (hK : KeyOk P TK enc) (i : Nat) {T TV : TypeId} {x ix : Operand} {b : Nat} {f : κ → Option Value} {k k2 : κ} {st : Nat} {z : Value} (hop : o.op = .lookup T x ix false) (hx : ρ.val x = some (.map (some b)))
    (hi : ρ.val ix = some (enc k)) (hT : P.underlying T = some (.map TK TV)) (hz : zr P TV = some z) (_hd : o.dst = some d) (hs : preC .R n cf ops ρ o d = true)
    (hk : Γ[i]? = some (mpE enc b f k2 st)) (H : Run P hR n cf ops l K ((d, (f k).getD z) :: ρ) Γ) : Run P hR n cf ops (o :: l) K ρ Γ := by
  intro a h ho ht hl
  obtain ⟨h1, h2, h3, h4⟩ := preC_spec hs
  unfold opsRun
  rw [gd_wanted ho h4, if_pos rfl, h3]
  obtain ⟨g1, g2, ⟨es, clock, rfl, hm, _⟩, hd, e, _⟩ := sat_get ht hk
  have ho' : Ok n ((d, (f k).getD z) :: ρ) (a.put o.dst ((f k).getD z)) := by rw [h1]; exact ho.put h2 _
  refine ⟨_, ⟨b, .map ⟨es⟩ clock, by simp [rblk, hop, ho.eval hx], .inr (by rw [e]; exact un_left_some put_emp_self), fun w hw => ?_⟩, H _ h ho' ht hl⟩
  have hf := run_findKey hK k w (es := es) fun e he => let ⟨k', g, _⟩ := hm.has e he; ⟨k', g⟩
  rcases hm.find hK.inj k with ⟨h1, h2, h3⟩ | ⟨j, e, h1, h2, h3, h4⟩
  · rw [h3] at hf
    simp [execOp, hop, ho.eval hx, ho.eval hi, Instr.lookup, underlying, hT, run_getObj hw, hK.chk, hf, zr_spec hz, h1]
  · rw [h4] at hf
    simp [execOp, hop, ho.eval hx, ho.eval hi, Instr.lookup, underlying, hT, run_getObj hw, hK.chk, hf, h3]
/-- a part of an element -/
theorem Run.loadOsub {A : Type} {TE : TypeId} {E : Enc A} {v : Value} {xs : List A} (k i off : Nat) {T : TypeId} {x : Operand} {p : Addr} {y : A} {m : Nat} {vs : List Value} (hop : o.op = .load T x) (hx : ρ.val x = some (.pointer (some p))) (hT' : ag P T = some (true, m))
    (_hd : o.dst = some d) (hs : preC .R n cf ops ρ o d = true) (hk : Γ[k]? = some (slA TE E v xs)) (hp' : p = (elemAddr v (i * E.sz)).add off) (hi : xs[i]? = some y) (hv : takeO m ((E.cells y).drop off) = some vs)
    (H : Run P hR n cf ops l K ((d, .agg ⟨vs⟩) :: ρ) Γ) : Run P hR n cf ops (o :: l) K ρ Γ :=
  Run.load_of hop hx hs (fun h ht => by
    obtain ⟨hvl, hvs⟩ := takeO_spec hv
    have hT : ag P T = some (true, vs.length) := by rw [hvl]; exact hT'
    obtain ⟨h1, h2, g1, hd, rfl, _⟩ := sat_get ht hk
    obtain ⟨b, o', c, pr, po, hv, h3, rfl, h4, h5⟩ := slA_block g1 hi
    rw [h4, add_lit] at hp'
    subst hp'
    exact ⟨_, .inr (un_left_some put_emp_self), fun w hw => loadVar_row hT w fun j u hj => cell?_of (by rw [add_block]; exact hw) (add_spot _ rfl) (by
      rw [add_off]
      have h6 := hvs j u hj
      rw [List.getElem?_drop] at h6
      have h7 := h5 (off + j) u h6
      rw [Nat.add_assoc]
      simpa using h7)⟩) H
end
end Go.Sep
end
section
/- Parts of rows that are read; one element taken out of a slice in its place. Over any program. -/
namespace Go.Sep
set_option linter.unusedVariables false
theorem rowH.part {h : Heap} {p : Addr} {cs vs : List Value} (off m : Nat) (H : rowH h p cs) (hv : takeO m (cs.drop off) = some vs := by exact rfl) : rowH h (p.add off) vs := fun j v hj => by
  obtain ⟨_, hvs⟩ := takeO_spec hv
  have h6 := hvs j v hj
  rw [List.getElem?_drop] at h6
  rw [add_add]
  exact H (off + j) v h6
theorem lent_row {hR : Heap} {b : Nat} {cs vs : List Value} {T : TypeId} {Θ : List HProp} {g : Heap} (k off m : Nat) (hs : sat Θ g) (hd : Disj hR g) (hk : Θ[k]? = some (blk b cs T) := by exact rfl) (hv : takeO m (cs.drop off) = some vs := by exact rfl) : rowH (un hR g) ⟨b, off, none⟩ vs := fun j v hj => by
  obtain ⟨_, hvs⟩ := takeO_spec hv
  have h6 := hvs j v hj
  rw [List.getElem?_drop] at h6
  have := lent_blk (hR := hR) k (off + j) hk h6 hs hd
  rw [add_lit]; exact this
section
variable {P : Program} {hR : Heap} {n : Fr} {cf : Op → Cls} {ops : Array Oper} {l : List Oper} {K : Env → List HProp → Prop} {ρ : Env} {Γ : List HProp} {o : Oper} {d : Nat}
variable {A : Type} {TE : TypeId} {E : Enc A} {xs : List A}
end
end Go.Sep
end
section
/- A result that lies in a variable; an array at hand. Over any program. -/
namespace Go.Sep
set_option linter.unusedVariables false
section
variable {P : Program} {hR : Heap} {n : Fr} {ρ : Env} {Γ : List HProp}
theorem retC {fn : Func} {R : Value → List HProp → Prop} (t k : Nat) {T U : TypeId} {b m : Nat} {cs : List Value} (hT : ag P T = some (true, m)) (hres : fn.results = ⟨[ResultVar.cell t T]⟩) (hp' : ρ.get t = some (.pointer (some ⟨b, 0, none⟩))) (hk : Γ[k]? = some (blk b cs U)) (hm : cs.length = m)
    (H : R (.agg ⟨cs⟩) Γ) : retQ P hR n fn R .ret ρ Γ := by
  refine ⟨.inl rfl, .agg ⟨cs⟩, fun a h w ho hs hf => ?_, H⟩
  obtain ⟨h1, h2, g1, hd, rfl, _⟩ := sat_get hs hk
  unfold blk at g1
  subst g1
  have hb : hp w b = some (.cells ⟨cs⟩ U (0, 0)) := hf.own b _ (un_left_some put_emp_self)
  have hT' : ag P T = some (true, cs.length) := by rw [hm]; exact hT
  have hl := loadVar_row (p := ⟨b, 0, none⟩) hT' w fun j u hj => cell?_of (by rw [add_block]; exact hb) (add_spot _ rfl) (by rw [add_off]; simpa using hj)
  have ht := ho.get t _ hp'
  unfold results
  rw [hres]
  simp [Array.getD_eq_getD_getElem?, ht, asAddr, hl]
theorem retCT {fn : Func} {R : Value → List HProp → Prop} (t k t2 : Nat) {T U : TypeId} {b m : Nat} {cs : List Value} {v2 : Value} (hT : ag P T = some (true, m)) (hres : fn.results = ⟨[ResultVar.cell t T, ResultVar.tmp t2]⟩) (hp' : ρ.get t = some (.pointer (some ⟨b, 0, none⟩))) (hp2 : ρ.get t2 = some v2) (hk : Γ[k]? = some (blk b cs U)) (hm : cs.length = m)
    (H : R (.tuple #[.agg ⟨cs⟩, v2]) Γ) : retQ P hR n fn R .ret ρ Γ := by
  refine ⟨.inl rfl, .tuple #[.agg ⟨cs⟩, v2], fun a h w ho hs hf => ?_, H⟩
  obtain ⟨h1, h2, g1, hd, rfl, _⟩ := sat_get hs hk
  unfold blk at g1
  subst g1
  have hb : hp w b = some (.cells ⟨cs⟩ U (0, 0)) := hf.own b _ (un_left_some put_emp_self)
  have hT' : ag P T = some (true, cs.length) := by rw [hm]; exact hT
  have hl := loadVar_row (p := ⟨b, 0, none⟩) hT' w fun j u hj => cell?_of (by rw [add_block]; exact hb) (add_spot _ rfl) (by rw [add_off]; simpa using hj)
  have ht := ho.get t _ hp'
  have ht2 := ho.get t2 _ hp2
  unfold results
  rw [hres]
  simp [Array.getD_eq_getD_getElem?, ht, ht2, asAddr, hl]
end
section
variable {P : Program} {hR : Heap} {n : Fr} {cf : Op → Cls} {ops : Array Oper} {l : List Oper} {K : Env → List HProp → Prop} {ρ : Env} {Γ : List HProp} {o : Oper} {d : Nat}
/-- an element of an array's value: of one cell -/
theorem Run.idxVal {T : TypeId} {x ix : Operand} {cs : List Value} {i : Int} {k : IntKind} {len : Nat} {v : Value} {e : TypeId} (hop : o.op = .index T x ix) (hx : ρ.val x = some (.agg ⟨cs⟩)) (hi : ρ.val ix = some (.int k i)) (hT : P.underlying T = some (.array len e)) (he : ag P e = some (false, 1))
    (_hd : o.dst = some d) (hs : pre n cf ops ρ o d = true) (h0 : 0 ≤ i) (h1 : i < len) (hv : cs[i.toNat]? = some v) (H : Run P hR n cf ops l K ((d, v) :: ρ) Γ) : Run P hR n cf ops (o :: l) K ρ Γ :=
  Run.val hs (fun A h ho ht w => by
    have h2 := ag_spec he w
    simp [execOp, hop, ho.eval hx, ho.eval hi, Instr.index, asIntOf, underlying, hT, h0, h1, h2.1, h2.2, part, hv]) H
end
end Go.Sep
end
