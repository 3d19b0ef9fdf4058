/- Ways out of code, ends of bodies, small words for walking. Over any program. -/
import Derived.Test.YtengcfamhoppbaaS9
namespace Go.Sep
section
variable {P : Program} {hR : Heap} {n : Nat} {cf : Op → Cls} {ops : Array Oper} {l : List Oper} {K : Env → List HProp → Prop} {ρ : Env} {Γ : List HProp} {o : Oper} {d : Nat}
variable {nx : Env → List HProp → Prop} {Q : Exit → Env → List HProp → Prop} {id id' : Nat}

theorem thn_next (H : nx ρ Γ) : thn nx Q .normal ρ Γ := H
theorem thn_exit (H : Q (.exit id) ρ Γ) : thn nx Q (.exit id) ρ Γ := H
theorem thn_ret (H : Q .ret ρ Γ) : thn nx Q .ret ρ Γ := H
theorem blk_norm (H : Q .normal ρ Γ) : blk' id Q .normal ρ Γ := H
theorem blk_hit (H : Q .normal ρ Γ) : blk' id Q (.exit id) ρ Γ := by simp only [blk', if_true]; exact H
theorem blk_miss (h : (id' == id) = false) (H : Q (.exit id') ρ Γ) : blk' id Q (.exit id') ρ Γ := by
  simp only [blk']; rw [if_neg (by simpa using h)]; exact H
theorem blk_ret (H : Q .ret ρ Γ) : blk' id Q .ret ρ Γ := H

theorem Run.next (H : nx ρ Γ) : Run P hR n cf ops [] (thn nx Q .normal) ρ Γ := Run.nil H

def tupV : List Value → Value
  | [v] => v
  | vs => .tuple ⟨vs⟩

theorem retA {fn : Func} {R : Value → List HProp → Prop} (ts : List Nat) (vs : List Value) (hres : fn.results = ⟨ts.map ResultVar.tmp⟩) (hv' : collectV (ts.map ρ.get) = some vs) (H : R (tupV vs) Γ) (e : Exit) (he : e = .ret ∨ e = .normal) : retQ P hR n fn R e ρ Γ := by
  have hv := collectV_spec hv'
  refine ⟨he, tupV vs, fun a h w ho _ _ => ?_, H⟩
  have hmap : ∀ (F : ResultVar → Sem Value) (_ : ∀ t, F (.tmp t) = pure (a.tmps.getD t undef)) (ts : List Nat) (vs : List Value), ts.map ρ.get = vs.map some →
      ((ts.map ResultVar.tmp).mapM F).run P w = .ok vs w := fun F hF ts => by
    induction ts with
    | nil => intro vs h; cases vs <;> simp at h ⊢
    | cons t ts ih =>
      intro vs h
      cases vs with
      | nil => simp at h
      | cons v vs =>
        simp only [List.map_cons, List.cons.injEq] at h
        have h1 := ho.get t v h.1
        have h2 := ih vs h.2
        simp only [List.map_cons, List.mapM_cons, hF, Sem.run_bind, Sem.run_pure, Result.andThen_ok, h2, Array.getD_eq_getD_getElem?, h1, Option.getD_some]
  unfold results
  rw [hres]
  rw [List.mapM_toArray]
  simp only [Sem.run_bind, Sem.run_map]
  rw [hmap _ (fun _ => rfl) ts vs hv]
  simp only [Result.andThen_ok, Sem.run_pure]
  congr 1
  match vs with
  | [] => rfl
  | [v] => rfl
  | v :: u :: vs => simp [tupV]
theorem retT {fn : Func} {R : Value → List HProp → Prop} (ts : List Nat) (vs : List Value) (hres : fn.results = ⟨ts.map ResultVar.tmp⟩) (hv' : collectV (ts.map ρ.get) = some vs) (H : R (tupV vs) Γ) : retQ P hR n fn R .ret ρ Γ :=
  retA ts vs hres hv' H .ret (.inl rfl)
theorem retN {fn : Func} {R : Value → List HProp → Prop} (ts : List Nat) (vs : List Value) (hres : fn.results = ⟨ts.map ResultVar.tmp⟩) (hv' : collectV (ts.map ρ.get) = some vs) (H : R (tupV vs) Γ) : retQ P hR n fn R .normal ρ Γ :=
  retA ts vs hres hv' H .normal (.inr rfl)
end
end Go.Sep
