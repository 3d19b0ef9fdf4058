/- Slots and pieces chosen by their numbers; loops that tell what changes. Over any program. -/
import Derived.Test.YtjjfehdlmdhhmaaDoorGL6
section
/- Slots and pieces chosen by their numbers; loops that tell what changes. Over any program. -/
namespace Go.Sep
set_option linter.unusedVariables false
inductive Tr (ρ : Env) : List Nat → Env → Prop
  | nil : Tr ρ [] []
  | cons {t : Nat} {ts : List Nat} {v : Value} {e : Env} (h : ρ.get t = some v) (r : Tr ρ ts e) : Tr ρ (t :: ts) ((t, v) :: e)
theorem Tr.covers {ρ : Env} {ts : List Nat} {e : Env} (h : Tr ρ ts e) : Go.Sep.covers ρ e := by
  induction h with
  | nil => trivial
  | cons h _ ih => exact ⟨h, ih⟩
/-- the pieces of these numbers -/
inductive Pk (Γ : List HProp) : List Nat → List HProp → Prop
  | nil : Pk Γ [] []
  | cons {i : Nat} {is : List Nat} {A : HProp} {Δ : List HProp} (h : Γ[i]? = some A) (r : Pk Γ is Δ) : Pk Γ (i :: is) (A :: Δ)
def ndN : List Nat → Bool
  | [] => true
  | i :: is => !(is.any fun j => Nat.beq i j) && ndN is
theorem Pk.set {Γ : List HProp} {is : List Nat} {Δ : List HProp} {i : Nat} {T : HProp} (h : Pk Γ is Δ) (hi : is.any (fun j => Nat.beq i j) = false) : Pk (Γ.set i T) is Δ := by
  induction h with
  | nil => exact .nil
  | cons h _ ih =>
    simp only [List.any_cons, Bool.or_eq_false_iff] at hi
    refine .cons ?_ (ih hi.2)
    rw [List.getElem?_set_ne (Nat.ne_of_beq_eq_false hi.1)]; exact h
theorem ent.out {Γ : List HProp} {i : Nat} {A : HProp} (h : Γ[i]? = some A) : Go.Sep.ent Γ (A :: Γ.set i fun _ => True) := by
  have h1 := ent.perm (front_perm i Γ)
  unfold front at h1
  rw [h] at h1
  refine h1.trans (ent.cons (fun _ h => h) ?_)
  have hlt := (List.getElem?_eq_some_iff.1 h).1
  have h2 : ((fun _ => True) :: Γ.eraseIdx i : List HProp).Perm (Γ.set i fun _ => True) := by
    have h3 := front_perm i (Γ.set i fun _ => True)
    unfold front at h3
    rw [List.getElem?_set_self hlt, List.eraseIdx_set_eq] at h3
    exact h3.symm
  have h4 : Go.Sep.ent (Γ.eraseIdx i) ((fun _ => True) :: Γ.eraseIdx i) := fun h hs => ⟨emp, h, trivial, hs, fun _ => .inl rfl, (emp_un h fun _ => rfl).symm⟩
  exact h4.trans (ent.perm h2)
theorem Pk.ent' {Γ : List HProp} {is : List Nat} {Δ : List HProp} (h : Pk Γ is Δ) (hn : ndN is = true) : Go.Sep.ent Γ Δ := by
  induction is generalizing Γ Δ with
  | nil => cases h; exact ent.none _
  | cons i is ih =>
    cases h with
    | cons h r =>
      simp only [ndN, Bool.and_eq_true, Bool.not_eq_true'] at hn
      exact (ent.out h).trans (ent.cons (fun _ h => h) (ih (r.set hn.1) hn.2))
/-- the pieces of other numbers -/
inductive Rs (is : List Nat) : Nat → List HProp → List HProp → Prop
  | nil {k : Nat} : Rs is k [] []
  | skip {k : Nat} {A : HProp} {Γ Ξ : List HProp} (h : (is.any fun j => Nat.beq j k) = true) (r : Rs is (k + 1) Γ Ξ) : Rs is k (A :: Γ) Ξ
  | keep {k : Nat} {A : HProp} {Γ Ξ : List HProp} (h : (is.any fun j => Nat.beq j k) = false) (r : Rs is (k + 1) Γ Ξ) : Rs is k (A :: Γ) (A :: Ξ)
theorem Pk.shift {Γ : List HProp} {js : List Nat} {Δ : List HProp} {A : HProp} (h : Pk Γ js Δ) : Pk (A :: Γ) (js.map (· + 1)) Δ := by
  induction h with
  | nil => exact .nil
  | cons h _ ih => exact .cons (by simpa using h) ih
theorem Rs.at {is : List Nat} {k : Nat} {Γ Ξ : List HProp} (h : Rs is k Γ Ξ) : ∃ js : List Nat, Pk Γ js Ξ ∧ ndN js = true ∧ ∀ j ∈ js, (is.any fun i => Nat.beq i (k + j)) = false := by
  induction h with
  | nil => exact ⟨[], .nil, rfl, fun j h => by cases h⟩
  | skip h _ ih =>
    obtain ⟨js, h1, h2, h3⟩ := ih
    refine ⟨js.map (· + 1), ?_, ?_, fun j hj => ?_⟩
    · exact Pk.shift h1
    · clear h1 h3
      induction js with
      | nil => rfl
      | cons j js ih =>
        simp only [ndN, Bool.and_eq_true, Bool.not_eq_true', List.map_cons] at h2 ⊢
        refine ⟨?_, ih h2.2⟩
        rw [List.any_map]
        rw [List.any_eq_false] at h2 ⊢
        intro x hx
        have := h2.1 x hx
        simpa [Nat.beq_eq] using this
    · obtain ⟨j', hj', rfl⟩ := List.mem_map.1 hj
      have := h3 j' hj'
      rwa [show ∀ k : Nat, k + 1 + j' = k + (j' + 1) by omega] at this
  | keep h _ ih =>
    obtain ⟨js, h1, h2, h3⟩ := ih
    rename_i k A Γ Ξ _
    refine ⟨0 :: js.map (· + 1), .cons rfl (Pk.shift h1), ?_, fun j hj => ?_⟩
    · simp only [ndN, Bool.and_eq_true, Bool.not_eq_true']
      refine ⟨by rw [List.any_map, List.any_eq_false]; intro x _; simp, ?_⟩
      clear h1 h3
      induction js with
      | nil => rfl
      | cons j js ih =>
        simp only [ndN, Bool.and_eq_true, Bool.not_eq_true', List.map_cons] at h2 ⊢
        refine ⟨?_, ih h2.2⟩
        rw [List.any_map]
        rw [List.any_eq_false] at h2 ⊢
        intro x hx
        have := h2.1 x hx
        simpa [Nat.beq_eq] using this
    · rcases List.mem_cons.1 hj with rfl | hj
      · exact h
      · obtain ⟨j', hj', rfl⟩ := List.mem_map.1 hj
        have := h3 j' hj'
        rwa [show ∀ k : Nat, k + 1 + j' = k + (j' + 1) by omega] at this
theorem Pk.app {Γ : List HProp} {is js : List Nat} {Δ Ξ : List HProp} (h : Pk Γ is Δ) (h2 : Pk Γ js Ξ) : Pk Γ (is ++ js) (Δ ++ Ξ) := by
  induction h with
  | nil => exact h2
  | cons h _ ih => exact .cons h ih
theorem ndN_app : ∀ {is js : List Nat}, ndN is = true → ndN js = true → (∀ j ∈ js, (is.any fun i => Nat.beq i j) = false) → ndN (is ++ js) = true
  | [], _, _, h, _ => h
  | i :: is, js, h1, h2, h3 => by
    simp only [ndN, Bool.and_eq_true, Bool.not_eq_true', List.cons_append] at h1 ⊢
    refine ⟨?_, ndN_app h1.2 h2 fun j hj => ?_⟩
    · rw [List.any_append, h1.1, Bool.false_or, List.any_eq_false]
      intro j hj
      have := h3 j hj
      simp only [List.any_cons, Bool.or_eq_false_iff] at this
      rw [this.1]; simp
    · have := h3 j hj
      simp only [List.any_cons, Bool.or_eq_false_iff] at this
      exact this.2
theorem pr_ent {Γ : List HProp} {is : List Nat} {Δ Ξ : List HProp} (h : Pk Γ is Δ) (hn : ndN is = true) (hr : Rs is 0 Γ Ξ) : Go.Sep.ent Γ (Δ ++ Ξ) := by
  obtain ⟨js, h1, h2, h3⟩ := hr.at
  exact (h.app h1).ent' (ndN_app hn h2 fun j hj => by have := h3 j hj; simpa using this)
inductive Kc (ρ' : Env) (ks : List Nat) : Env → Prop
  | nil : Kc ρ' ks []
  | skip {t : Nat} {v : Value} {e : Env} (h : ks.contains t = true) (r : Kc ρ' ks e) : Kc ρ' ks ((t, v) :: e)
  | keep {t : Nat} {v : Value} {e : Env} (h : ρ'.get t = some v) (r : Kc ρ' ks e) : Kc ρ' ks ((t, v) :: e)
theorem hasS_of {t : Nat} : ∀ {car : Env}, (car.map Prod.fst).contains t = true → hasS t car = true
  | [], h => by simp at h
  | (u, v) :: r, h => by
    simp only [List.map_cons, List.contains_cons, Bool.or_eq_true, beq_iff_eq] at h
    simp only [hasS, Bool.or_eq_true]
    rcases h with h | h
    · subst h; exact .inl (by simp)
    · exact .inr (hasS_of h)
theorem Kc.get {ρ' : Env} {car ρ : Env} (h : Kc ρ' (car.map Prod.fst) ρ) {t : Nat} (hn : hasS t car = false) {v : Value} (hv : ρ.get t = some v) : ρ'.get t = some v := by
  induction h with
  | nil => cases hv
  | skip h _ ih =>
    simp only [Env.get] at hv
    rename_i u w e _
    cases e' : Nat.beq t u with
    | true => have := Nat.eq_of_beq_eq_true e'; subst this; rw [hasS_of h] at hn; cases hn
    | false => rw [e'] at hv; exact ih hv
  | keep h _ ih =>
    simp only [Env.get] at hv
    rename_i u w e _
    cases e' : Nat.beq t u with
    | true => rw [e'] at hv; have := Nat.eq_of_beq_eq_true e'; subst this; cases hv; exact h
    | false => rw [e'] at hv; exact ih hv
/-- what is carried is as told, the rest as it was -/
structure Ko (ρ' car ρ : Env) : Prop where
  hc : covers ρ' car
  hk : Kc ρ' (car.map Prod.fst) ρ
theorem Ko.sup {ρ' car ρ : Env} (h : Ko ρ' car ρ) : Go.Sep.sup ρ' (car ++ ρ) := by
  intro t v hv
  rw [get_app] at hv
  by_cases hs : hasS t car = true
  · rw [if_pos hs] at hv; exact covers_get h.hc t v hv
  · rw [if_neg hs] at hv; exact h.hk.get (by simpa using hs) hv
theorem Ko.go {ρ' car ρ : Env} (hc : covers ρ' car := by repeat first | exact trivial | refine ⟨rfl, ?_⟩) (hk : Kc ρ' (car.map Prod.fst) ρ := by repeat first | exact Kc.nil | refine Kc.skip rfl ?_ | refine Kc.keep rfl ?_) : Ko ρ' car ρ := ⟨hc, hk⟩
def chgs : List (Nat × HProp) → List HProp → List HProp
  | [], Γ => Γ
  | (i, A) :: l, Γ => chgs l (Γ.set i A)
theorem ent.gc {Γ Δ : List HProp} (h : ent Γ Δ := by (try simp only [chgs, List.set_cons_zero, List.set_cons_succ, List.cons_append, List.nil_append]); repeat first | exact ent.none _ | refine ent.at 0 rfl ?_ | refine ent.at 1 rfl ?_ | refine ent.at 2 rfl ?_ | refine ent.at 3 rfl ?_ | refine ent.at 4 rfl ?_ | refine ent.at 5 rfl ?_ | refine ent.at 6 rfl ?_ | refine ent.at 7 rfl ?_ | refine ent.at 8 rfl ?_ | refine ent.at 9 rfl ?_ | refine ent.at 10 rfl ?_ | refine ent.at 11 rfl ?_ | refine ent.at 12 rfl ?_ | refine ent.at 13 rfl ?_ | refine ent.at 14 rfl ?_ | refine ent.at 15 rfl ?_ | refine ent.at 16 rfl ?_ | refine ent.at 17 rfl ?_ | refine ent.at 18 rfl ?_ | refine ent.at 19 rfl ?_ | refine ent.at 20 rfl ?_ | refine ent.at 21 rfl ?_ | refine ent.at 22 rfl ?_ | refine ent.at 23 rfl ?_) : ent Γ Δ := h
section
variable {P : Program} {hR : Heap} {n : Fr} {Q : Exit → Env → List HProp → Prop} {ρ : Env} {Γ : List HProp}
/-- only these slots and these pieces are kept -/
theorem WP.trim {c : Code} (ts is : List Nat) {ρ' : Env} {Γ' : List HProp} (H : WP P hR n c Q ρ' Γ') (h1 : Tr ρ ts ρ' := by repeat first | exact Tr.nil | apply Tr.cons; exact rfl)
    (h2 : Pk Γ is Γ' := by repeat first | exact Pk.nil | apply Pk.cons; exact rfl) (h3 : ndN is = true := by exact rfl) : WP P hR n c Q ρ Γ :=
  H.weaken h1.covers (h2.ent' h3)
theorem WP.loopC {α : Type} {c : Code} (good : α → Prop) (car : α → Env) (chg : α → List (Nat × HProp)) (μ : α → Nat) (x0 : α) (hg : good x0)
    (round : ∀ x, good x → WP P hR n c (thn (fun ρ' Γ' => ∃ x', good x' ∧ μ x' < μ x ∧ Ko ρ' (car x') ρ ∧ ent Γ' (chgs (chg x') Γ)) Q) (car x ++ ρ) (chgs (chg x) Γ))
    (hc : Ko ρ (car x0) ρ := by exact Ko.go) (he : ent Γ (chgs (chg x0) Γ) := by exact ent.gc) : WP P hR n (.loop c) Q ρ Γ :=
  WP.loopS good (fun x => car x ++ ρ) (fun x => chgs (chg x) Γ) μ x0 hg hc.sup he fun x g => (round x g).mono fun e ρ' Γ' h => by
    cases e with
    | normal => obtain ⟨x', g', m, k, en⟩ := h; exact ⟨x', g', m, k.sup, en⟩
    | _ => exact h
theorem WP.meetC {α : Type} {x y : Code} (good : α → Prop) (car : α → Env) (chg : α → List (Nat × HProp)) (H1 : WP P hR n x (thn (fun ρ' Γ' => ∃ z, good z ∧ Ko ρ' (car z) ρ ∧ ent Γ' (chgs (chg z) Γ)) Q) ρ Γ)
    (H2 : ∀ z, good z → WP P hR n y Q (car z ++ ρ) (chgs (chg z) Γ)) : WP P hR n (.seq x y) Q ρ Γ :=
  WP.seq (H1.mono fun e ρ' Γ' h => by
    cases e with
    | normal => obtain ⟨z, g, h1, h2⟩ := h; exact (H2 z g).sup h1.sup h2
    | _ => exact h)
end
section
variable {P : Program} {hR : Heap} {n : Fr} {cf : Op → Cls} {ops : Array Oper} {l : List Oper} {K : Env → List HProp → Prop} {ρ : Env} {Γ : List HProp} {o : Oper} {d : Nat}
/-- a call that is handed the pieces of these numbers -/
theorem Run.callP (is : List Nat) {Δ Θ : List HProp} {R : Value → List HProp → Prop} {f : FuncId} {c : Call} {x : Operand} {first captured args : Array Value} {vs : List Value} (hf : calleeOk P f = true) (hT : Tri P hR f args Δ R)
    (H : ∀ v Γ', R v Γ' → Run P hR n cf ops l K ((d, v) :: ρ) (Γ' ++ Θ)) (hop : o.op = .call c := by exact rfl) (hc : c.callee = .value x := by exact rfl)
    (hx : ρ.val x = some (.func (.func f) first captured) := by exact rfl) (hargs : collectV (c.args.toList.map ρ.val) = some vs := by exact rfl) (_hd : o.dst = some d := by exact rfl) (hs : preC .E n cf ops ρ o d = true := by exact rfl)
    (ha : args = first ++ vs.toArray ++ captured := by exact rfl) (he : Pk Γ is Δ := by repeat first | exact Pk.nil | apply Pk.cons; exact rfl) (h3 : ndN is = true := by exact rfl) (hr : Rs is 0 Γ Θ := by repeat first | exact Rs.nil | apply Rs.skip; exact rfl | apply Rs.keep; exact rfl) : Run P hR n cf ops (o :: l) K ρ Γ :=
  Run.call hop hc hx hargs hf _hd hs (pr_ent he h3 hr) (ha ▸ hT) H
/-- the same, and lent the pieces of others -/
theorem Run.callL (is js : List Nat) {Δ Θ Ξ : List HProp} {R : Value → List HProp → Prop} {f : FuncId} {c : Call} {x : Operand} {first captured args : Array Value} {vs : List Value} (hf : calleeOk P f = true)
    (hT : ∀ g, sat Θ g → Disj hR g → Tri P (un hR g) f args Δ R)
    (H : ∀ v Γ', R v Γ' → Run P hR n cf ops l K ((d, v) :: ρ) ((Γ' ++ Θ) ++ Ξ)) (hop : o.op = .call c := by exact rfl) (hc : c.callee = .value x := by exact rfl)
    (hx : ρ.val x = some (.func (.func f) first captured) := by exact rfl) (hargs : collectV (c.args.toList.map ρ.val) = some vs := by exact rfl) (_hd : o.dst = some d := by exact rfl) (hs : preC .E n cf ops ρ o d = true := by exact rfl)
    (ha : args = first ++ vs.toArray ++ captured := by exact rfl) (he1 : Pk Γ is Δ := by repeat first | exact Pk.nil | apply Pk.cons; exact rfl) (he2 : Pk Γ js Θ := by repeat first | exact Pk.nil | apply Pk.cons; exact rfl) (h3 : ndN (is ++ js) = true := by exact rfl) (hr : Rs (is ++ js) 0 Γ Ξ := by repeat first | exact Rs.nil | apply Rs.skip; exact rfl | apply Rs.keep; exact rfl) : Run P hR n cf ops (o :: l) K ρ Γ :=
  Run.callLend hop hc hx hargs hf _hd hs (pr_ent (he1.app he2) h3 hr) (fun g h1 h2 => ha ▸ hT g h1 h2) H
end
end Go.Sep
end
section
/- Short names of the steps. Over any program. -/
namespace Go.Sep
set_option linter.unusedVariables false
section
variable {P : Program} {hR : Heap} {n : Fr} {cf : Op → Cls} {ops : Array Oper} {l : List Oper} {K : Env → List HProp → Prop} {ρ : Env} {Γ : List HProp} {o : Oper} {d : Nat}
theorem Zm {x : Operand} {v : Value} (H : Run P hR n cf ops l K ((d, v) :: ρ) Γ) (hx : mvOp o.op = some x := by exact rfl) (hv : ρ.val x = some v := by exact rfl) (_hd : o.dst = some d := by exact rfl) (hs : pre n cf ops ρ o d = true := by exact rfl) :
    Run P hR n cf ops (o :: l) K ρ Γ := Run.mv hx hv _hd hs H
theorem Zn {x : Operand} {p : Addr} (H : Run P hR n cf ops l K ((d, .pointer (some p)) :: ρ) Γ) (hop : o.op = .nilCheck x := by exact rfl) (hx : ρ.val x = some (.pointer (some p)) := by exact rfl) (_hd : o.dst = some d := by exact rfl) (hs : pre n cf ops ρ o d = true := by exact rfl) :
    Run P hR n cf ops (o :: l) K ρ Γ := Run.nilCheck hop hx _hd hs H
theorem Zf {S : TypeId} {f : Nat} {x : Operand} {p : Addr} {off : Nat} (hf : fldOff P S f = some off) (H : Run P hR n cf ops l K ((d, .pointer (some (p.add off))) :: ρ) Γ) (hop : o.op = .fieldAddr S x f := by exact rfl) (hx : ρ.val x = some (.pointer (some p)) := by exact rfl)
    (_hd : o.dst = some d := by exact rfl) (hs : pre n cf ops ρ o d = true := by exact rfl) : Run P hR n cf ops (o :: l) K ρ Γ := Run.fieldAddr hop hx hf _hd hs H
theorem Zi {op : BinOp} {T T' : TypeId} {x y : Operand} {k : IntKind} {a b : Int} {v : Value} (H : Run P hR n cf ops l K ((d, v) :: ρ) Γ) (hop : o.op = .binOp op T x y T' := by exact rfl) (hx : ρ.val x = some (.int k a) := by exact rfl) (hy : ρ.val y = some (.int k b) := by exact rfl)
    (hv : intOpR op k a b = some v := by exact rfl) (_hd : o.dst = some d := by exact rfl) (hs : pre n cf ops ρ o d = true := by exact rfl) : Run P hR n cf ops (o :: l) K ρ Γ := Run.int2 hop hx hy hv _hd hs H
theorem Za {T T' : TypeId} {x y : Operand} {a b : Int} (H : Run P hR n cf ops l K ((d, .int .i64 (a + b)) :: ρ) Γ) (hop : o.op = .binOp .add T x y T' := by exact rfl) (hx : ρ.val x = some (.int .i64 a) := by exact rfl) (hy : ρ.val y = some (.int .i64 b) := by exact rfl)
    (_hd : o.dst = some d := by exact rfl) (hs : pre n cf ops ρ o d = true := by exact rfl) (h1 : -9223372036854775808 ≤ a + b := by first | omega | (simp <;> omega)) (h2 : a + b ≤ 9223372036854775807 := by first | omega | (simp <;> omega)) : Run P hR n cf ops (o :: l) K ρ Γ := Run.add64 hop hx hy _hd hs h1 h2 H
theorem Zs {T T' : TypeId} {x y : Operand} {a b : Int} (H : Run P hR n cf ops l K ((d, .int .i64 (a - b)) :: ρ) Γ) (hop : o.op = .binOp .sub T x y T' := by exact rfl) (hx : ρ.val x = some (.int .i64 a) := by exact rfl) (hy : ρ.val y = some (.int .i64 b) := by exact rfl)
    (_hd : o.dst = some d := by exact rfl) (hs : pre n cf ops ρ o d = true := by exact rfl) (h1 : -9223372036854775808 ≤ a - b := by first | omega | (simp <;> omega)) (h2 : a - b ≤ 9223372036854775807 := by first | omega | (simp <;> omega)) : Run P hR n cf ops (o :: l) K ρ Γ := Run.sub64 hop hx hy _hd hs h1 h2 H
theorem Zu {T T' : TypeId} {x y : Operand} {a b : Int} (H : Run P hR n cf ops l K ((d, .int .i64 (a * b)) :: ρ) Γ) (hop : o.op = .binOp .mul T x y T' := by exact rfl) (hx : ρ.val x = some (.int .i64 a) := by exact rfl) (hy : ρ.val y = some (.int .i64 b) := by exact rfl)
    (_hd : o.dst = some d := by exact rfl) (hs : pre n cf ops ρ o d = true := by exact rfl) (h1 : -9223372036854775808 ≤ a * b := by first | omega | (simp <;> omega)) (h2 : a * b ≤ 9223372036854775807 := by first | omega | (simp <;> omega)) : Run P hR n cf ops (o :: l) K ρ Γ := Run.mul64 hop hx hy _hd hs h1 h2 H
theorem Zl (k : Nat) {T U : TypeId} {x : Operand} {p : Addr} {v : Value} {s b off : Nat} {cs : List Value} (hT : ag P T = some (false, s)) (H : Run P hR n cf ops l K ((d, v) :: ρ) Γ) (hop : o.op = .load T x := by exact rfl) (hx : ρ.val x = some (.pointer (some p)) := by exact rfl)
    (_hd : o.dst = some d := by exact rfl) (hs : preC .R n cf ops ρ o d = true := by exact rfl) (hk : Γ[k]? = some (blk b cs U) := by exact rfl) (hp' : p = ⟨b, off, none⟩ := by exact rfl) (hv : cs[off]? = some v := by exact rfl) : Run P hR n cf ops (o :: l) K ρ Γ := Run.loadB k hop hx hT _hd hs hk hp' hv H
theorem Zr {T : TypeId} {x : Operand} {p : Addr} {v : Value} {s : Nat} (hT : ag P T = some (false, s)) (hv : cellH hR p v) (H : Run P hR n cf ops l K ((d, v) :: ρ) Γ) (hop : o.op = .load T x := by exact rfl) (hx : ρ.val x = some (.pointer (some p)) := by exact rfl)
    (_hd : o.dst = some d := by exact rfl) (hs : preC .R n cf ops ρ o d = true := by exact rfl) : Run P hR n cf ops (o :: l) K ρ Γ := Run.loadR hop hx hT _hd hs hv H
theorem Zh {v : Value} {B : Type} {F : Rd B} {ys : List B} {T : TypeId} {x : Operand} {ty' : TypeId × Nat × Nat} (hT : slT P T = some ty') (hr : SlR F hR v ys) (H : Run P hR n cf ops l K ((d, .int .i64 (ys.length : Int)) :: ρ) Γ) (hop : o.op = .call { callee := .builtin .len, args := #[x], argTypes := #[T] } := by exact rfl)
    (hx : ρ.val x = some v := by exact rfl) (_hd : o.dst = some d := by exact rfl) (hs : pre n cf ops ρ o d = true := by exact rfl) : Run P hR n cf ops (o :: l) K ρ Γ := Run.lenR hop hx hT _hd hs hr H
theorem Zx {v : Value} {B : Type} {F : Rd B} {ys : List B} {T EE : TypeId} {x ix : Operand} {kd : IntKind} {i : Int} {sz by' : Nat} (hT : slT P T = some (EE, sz, by')) (hr : SlR F hR v ys) (H : Run P hR n cf ops l K ((d, .pointer (some (elemAddr v (i.toNat * F.sz)))) :: ρ) Γ) (hop : o.op = .indexAddr T x ix := by exact rfl)
    (hx : ρ.val x = some v := by exact rfl) (hi : ρ.val ix = some (.int kd i) := by exact rfl) (_hd : o.dst = some d := by exact rfl) (hs : pre n cf ops ρ o d = true := by exact rfl) (hsz : F.sz = sz := by exact rfl) (h0 : 0 ≤ i := by omega) (h1 : i < ys.length := by omega) : Run P hR n cf ops (o :: l) K ρ Γ :=
  Run.idxR hop hx hi hT _hd hs hr hsz h0 h1 H
theorem Zv (H : Run P hR n cf ops l K (ρ.ext o.dst undef) Γ) (hg : gd ops ρ o = some false := by exact rfl) (hd : dstOk n o.dst = true := by exact rfl) : Run P hR n cf ops (o :: l) K ρ Γ := Run.not hg hd H
theorem Zq {c x y : Operand} {t : Bool} {v : Value} (H : Run P hR n cf ops l K ((d, v) :: ρ) Γ) (hop : o.op = .pick c x y := by exact rfl) (hc : ρ.val c = some (.bool t) := by exact rfl) (hv : (bif t then ρ.val x else ρ.val y) = some v := by exact rfl)
    (_hd : o.dst = some d := by exact rfl) (hs : pre n cf ops ρ o d = true := by exact rfl) : Run P hR n cf ops (o :: l) K ρ Γ := Run.pick hop hc hv _hd hs H
end
section
variable {P : Program} {hR : Heap} {n : Fr} {Q : Exit → Env → List HProp → Prop} {ρ : Env} {Γ : List HProp} {nx : Env → List HProp → Prop} {id id' : Nat}
theorem Ze {cf : Op → Cls} {ops : Array Oper} (H : nx ρ Γ) : Run P hR n cf ops [] (thn nx Q .normal) ρ Γ := Run.nil H
theorem Zp {y : Code} {ops : Array Oper} {l : List Oper} (H : Run P hR n cf0 ops l (thn (fun ρ Γ => WP P hR n y Q ρ Γ) Q .normal) ρ Γ) (hl : ops = ⟨l⟩ := by exact rfl) (hn : ndB n.ro ops = true := by rfl) : WP P hR n (.seq (.region id ops false) y) Q ρ Γ :=
  WP.seq (WP.plain cf0 hl H hn)
theorem Zc {ops : Array Oper} {l : List Oper} (H : Run P hR n cf0 ops l (Q .normal) ρ Γ) (hl : ops = ⟨l⟩ := by exact rfl) (hn : ndB n.ro ops = true := by rfl) : WP P hR n (.region id ops false) Q ρ Γ := WP.plain cf0 hl H hn
theorem Zb (H : nx ρ Γ) : WP P hR n .skip (thn nx Q) ρ Γ := WP.skip H
theorem Zj {n1 n2 : Env → List HProp → Prop} (H : Q .normal ρ Γ) : WP P hR n (.exit id) (thn n1 (thn n2 (blk' id Q))) ρ Γ := WP.exit (thn_exit (thn_exit (blk_hit H)))
theorem Zno {x y : Code} {c : Operand} (H : WP P hR n y Q ρ Γ) (hv : ρ.val c = some (.bool false) := by exact rfl) : WP P hR n (.cond c x y) Q ρ Γ := WP.cond hv (fun h => by cases h) fun _ => H
theorem Zyes {x y : Code} {c : Operand} (H : WP P hR n x Q ρ Γ) (hv : ρ.val c = some (.bool true) := by exact rfl) : WP P hR n (.cond c x y) Q ρ Γ := WP.cond hv (fun _ => H) fun h => by cases h
end
end Go.Sep
end
