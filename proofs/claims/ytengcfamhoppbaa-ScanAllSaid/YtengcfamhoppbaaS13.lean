/- Structs of integers held against each other; slices that are cut and stay; what is known of pieces; lending. Over any program. -/
import Derived.Test.YtengcfamhoppbaaS12
import Derived.Laws.StructEq
namespace Go.Sep

def eqInts : List Value → List Value → Option Bool
  | [], [] => some true
  | .int .i64 a :: xs, .int .i64 b :: ys => match eqInts xs ys with | some r => some (decide (a = b) && r) | none => none
  | _, _ => none

def chkF (P : Program) : List Field → Nat → Bool
  | [], _ => true
  | f :: fs, i => decide (f.name ≠ "_") && Nat.beq f.offset i && (match P.underlying f.type with | some (.int _) => true | _ => false) && chkF P fs (i + 1)
def intS (P : Program) (T : TypeId) : Bool :=
  match P.underlying T with
  | some (.struct fs) => !P.stoodInHeld T && !P.eqGuardType P.depth T && chkF P fs.toList 0
  | _ => false

theorem run_eqFields {P : Program} (d : Nat) (w : World) : ∀ (fs : List Field) (i : Nat) (xs ys us vs : List Value) (b : Bool), chkF P fs i = true → us.length = fs.length → eqInts us vs = some b → xs.drop i = us → ys.drop i = vs →
    (Op.eqFields (d + 1) ⟨xs⟩ ⟨ys⟩ fs).run P w = .ok b w
  | [], i, xs, ys, us, vs, b, _, hl, he, _, _ => by
    have : us = [] := List.length_eq_zero_iff.1 (by simpa using hl)
    subst this
    cases vs with
    | nil => simp only [eqInts, Option.some.injEq] at he; subst he; rfl
    | cons v vs => simp [eqInts] at he
  | f :: fs, i, xs, ys, us, vs, b, hc, hl, he, hx, hy => by
    simp only [chkF, Bool.and_eq_true, decide_eq_true_eq] at hc
    obtain ⟨⟨⟨h1, h2⟩, h3⟩, h4⟩ := hc
    have h2' := Nat.eq_of_beq_eq_true h2
    cases us with
    | nil => simp at hl
    | cons u us =>
      cases vs with
      | nil => cases u <;> first | (simp [eqInts] at he; done) | (rename_i k a; cases k <;> simp [eqInts] at he)
      | cons v vs =>
        have hu : ∃ a c, u = .int .i64 a ∧ v = .int .i64 c := by
          cases u <;> try (simp [eqInts] at he; done)
          rename_i k a; cases k <;> try (simp [eqInts] at he; done)
          cases v <;> try (simp [eqInts] at he; done)
          rename_i k c; cases k <;> try (simp [eqInts] at he; done)
          exact ⟨a, c, rfl, rfl⟩
        obtain ⟨a, c, rfl, rfl⟩ := hu
        simp only [eqInts] at he
        split at he
        · rename_i r hr
          cases he
          have hx0 : xs[i]? = some (.int .i64 a) := by have := congrArg List.head? hx; rw [List.head?_drop] at this; simpa using this
          have hy0 : ys[i]? = some (.int .i64 c) := by have := congrArg List.head? hy; rw [List.head?_drop] at this; simpa using this
          have hx1 : xs.drop (i + 1) = us := by have := congrArg List.tail hx; rw [List.tail_drop] at this; simpa using this
          have hy1 : ys.drop (i + 1) = vs := by have := congrArg List.tail hy; rw [List.tail_drop] at this; simpa using this
          have ih := run_eqFields d w fs (i + 1) xs ys us vs r h4 (by simpa using hl) hr hx1 hy1
          split at h3
          · rename_i k hk
            have hag : (isAgg f.type).run P w = .ok false w := by simp [isAgg, underlying, hk]
            have hp : ∀ (zs : List Value) (z : Value), zs[i]? = some z → (part f.type ⟨zs⟩ f.offset).run P w = .ok z w := fun zs z hz => by
              simp [part, hag, h2', hz]
            have he := run_equalIn_int (P := P) w d f.type .i64 k a c hk
            simp only [Op.eqFields]
            rw [if_pos h1]
            simp only [Sem.run_bind, hp xs _ hx0, hp ys _ hy0, he, Result.andThen_ok, Sem.run_ite]
            by_cases hac : a = c
            · subst hac; simp [ih]
            · simp [hac]
          · cases h3
        · cases he

section
variable {P : Program} {hR : Heap} {n : Nat} {cf : Op → Cls} {ops : Array Oper} {l : List Oper} {K : Env → List HProp → Prop} {ρ : Env} {Γ : List HProp} {o : Oper} {d : Nat}


def nfields (P : Program) (T : TypeId) : Nat := match P.underlying T with | some (.struct fs) => fs.size | _ => 0

theorem run_eqS {T : TypeId} (h : intS P T = true) {xs ys : List Value} {b : Bool} (hx : xs.length = nfields P T) (he : eqInts xs ys = some b) (x y : Operand) (op : BinOp) (w : World) :
    (eqGuard op T x y (.agg ⟨xs⟩) (.agg ⟨ys⟩)).run P w = .ok () w ∧ (Op.equalIn 10000 T (.agg ⟨xs⟩) (.agg ⟨ys⟩)).run P w = .ok b w := by
  unfold intS at h
  unfold nfields at hx
  split at h
  · rename_i fs hu
    rw [hu] at hx
    simp only [Bool.and_eq_true, Bool.not_eq_true'] at h
    have hf : P.fieldsOf T = fs := by simp [Program.fieldsOf, hu]
    refine ⟨run_eqGuard_agg w op T x y _ _ h.1.2, ?_⟩
    rw [run_equalIn_struct w 9999 T _ _ (by rw [hf]; exact hu) h.1.1, hf]
    exact run_eqFields 9998 w fs.toList 0 xs ys xs ys b h.2 (by simpa using hx) he (by simp) (by simp)
  · cases h

theorem Run.eqS {T T' : TypeId} {x y : Operand} {xs ys : List Value} {b : Bool} {m : Nat} (hop : o.op = .binOp .eql T x y T') (hx : ρ.val x = some (.agg ⟨xs⟩)) (hy : ρ.val y = some (.agg ⟨ys⟩)) (hT : intS P T = true) (hm : nfields P T = m)
    (he : eqInts xs ys = some b) (_hd : o.dst = some d) (hs : pre n cf ops ρ o d = true) (hl : Nat.beq xs.length m = true) (H : Run P hR n cf ops l K ((d, .bool b) :: ρ) Γ) : Run P hR n cf ops (o :: l) K ρ Γ :=
  Run.val hs (fun A h ho ht w => by
    have h2 := run_eqS hT (by rw [Nat.eq_of_beq_eq_true hl, hm]) he x y .eql w
    simp only [execOp, hop, ho.eval hx, ho.eval hy, Sem.run_bind, h2.1, Result.andThen_ok, run_eql_struct, h2.2, Sem.run_pure]) H
theorem Run.neS {T T' : TypeId} {x y : Operand} {xs ys : List Value} {b : Bool} {m : Nat} (hop : o.op = .binOp .neq T x y T') (hx : ρ.val x = some (.agg ⟨xs⟩)) (hy : ρ.val y = some (.agg ⟨ys⟩)) (hT : intS P T = true) (hm : nfields P T = m)
    (he : eqInts xs ys = some b) (_hd : o.dst = some d) (hs : pre n cf ops ρ o d = true) (hl : Nat.beq xs.length m = true) (H : Run P hR n cf ops l K ((d, .bool (!b)) :: ρ) Γ) : Run P hR n cf ops (o :: l) K ρ Γ :=
  Run.val hs (fun A h ho ht w => by
    have h2 := run_eqS hT (by rw [Nat.eq_of_beq_eq_true hl, hm]) he x y .neq w
    simp only [execOp, hop, ho.eval hx, ho.eval hy, Sem.run_bind, h2.1, Result.andThen_ok, run_neq_struct, h2.2, Sem.run_pure]) H

/-- x[lo:hi]: the value alone; the memory stays as it is known -/
theorem Run.sliceV {T EE : TypeId} {x : Operand} {lo hi : Option Operand} {sz by' : Nat} {il ih : Int} {sv : SV} (hop : o.op = .slice T x lo hi none) (hx : ρ.val x = some sv.val) (hT : slT P T = some (EE, sz, by'))
    (hl : optN lo ρ 0 = some il) (hh : optN hi ρ sv.n = some ih) (_hd : o.dst = some d) (hs : pre n cf ops ρ o d = true) (h0 : 0 ≤ il) (h1 : il ≤ ih) (h2 : ih ≤ sv.c)
    (H : Run P hR n cf ops l K ((d, (sv.cut sz il.toNat ih.toNat).val) :: ρ) Γ) : Run P hR n cf ops (o :: l) K ρ Γ :=
  Run.val hs (fun a h ho ht w => by
    have := run_cut (P := P) (a := sv.a) (m := sv.n) (c := sv.c) hT ho hl hh h0 h1 h2 w
    have hv : a.eval x = .slice sv.a sv.n sv.c := ho.eval hx
    simp only [execOp, hop, hv, Sem.run_bind, Option.map_none, this, Result.andThen_ok, Sem.run_pure]; rfl) H

theorem SV.cut_back {v : SV} {sz n m : Nat} (hm : v.n = m) : (v.cut sz 0 n).cut sz 0 m = v := by
  obtain ⟨a, n', c⟩ := v
  simp only at hm; subst hm
  have : a.map (fun x => x.add 0) = a := by cases a <;> simp [Addr.add]
  simp [SV.cut, this]

/-- what is known of a slice that is owned -/
theorem slA_know {A : Type} {T : TypeId} {E : Enc A} {sv : SV} {xs : List A} (k : Nat) (hk : Γ[k]? = some (slA T E sv.val xs)) : ∀ h, sat Γ h → sv.n = xs.length ∧ xs.length ≤ sv.c := fun h hs => by
  obtain ⟨_, _, g, _⟩ := sat_get hs hk
  obtain ⟨a, c, he, hc, _⟩ := slA_shape g
  simp only [SV.val, Value.slice.injEq] at he
  exact ⟨he.2.1, by rw [he.2.2]; exact hc⟩

theorem Run.know {p : Prop} (hp : ∀ h, sat Γ h → p) (H : p → Run P hR n cf ops l K ρ Γ) : Run P hR n cf ops l K ρ Γ := fun a h ho hs hl => H (hp h hs) a h ho hs hl
theorem WP.know {c : Code} {Q : Exit → Env → List HProp → Prop} {p : Prop} (hp : ∀ h, sat Γ h → p) (H : p → WP P hR n c Q ρ Γ) : WP P hR n c Q ρ Γ := fun a h w ho hs hf => H (hp h hs) a h w ho hs hf

/-- an owned slice, lent -/
theorem lent_at {A : Type} {T : TypeId} {E : Enc A} {v : Value} {xs : List A} {Θ : List HProp} {g : Heap} (k : Nat) (hk : Θ[k]? = some (slA T E v xs)) (hs : sat Θ g) (hd : Disj hR g) : SlR E.rd (un hR g) v xs := by
  obtain ⟨h1, h2, g1, hd', e, _⟩ := sat_get hs hk
  subst e
  exact slA_lend g1 ((sub_un_left h1 h2).trans (sub_un_right hd))
end
end Go.Sep
