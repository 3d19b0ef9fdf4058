/- A scope that is run through straight. Over any program. -/
import Derived.Test.YtengcfamhoppbaaS17
import Derived.Scope
namespace Go.Sep
section
variable {P : Program} {hR : Heap} {n : Nat} {Q : Exit → Env → List HProp → Prop} {ρ : Env} {Γ : List HProp}
def noG (Q : Exit → Env → List HProp → Prop) : Exit → Env → List HProp → Prop
  | .goto _, _, _ => False
  | e, ρ, Γ => Q e ρ Γ
theorem WP.scope {c : Code} (H : WP P hR n c (noG Q) ρ Γ) : WP P hR n (.scope c) Q ρ Γ := fun a h w ho hs hf => by
  refine wp_scope_straight (wp_mono (H a h w ho hs hf) ?_)
  rintro e a1 w1 ⟨h1, ρ1, Γ1, s, o1, t1, q⟩
  cases e with
  | goto l => exact q.elim
  | _ => exact ⟨h1, ρ1, Γ1, s, o1, t1, q⟩
theorem scp_norm (H : Q .normal ρ Γ) : noG Q .normal ρ Γ := H
theorem scp_ret (H : Q .ret ρ Γ) : noG Q .ret ρ Γ := H
theorem scp_exit {id : Nat} (H : Q (.exit id) ρ Γ) : noG Q (.exit id) ρ Γ := H
end
end Go.Sep
