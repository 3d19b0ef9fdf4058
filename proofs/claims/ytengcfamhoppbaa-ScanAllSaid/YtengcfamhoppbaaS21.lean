/- What is frozen is read at any time: its reading stands in no order. Over any program. -/
import Derived.Test.YtengcfamhoppbaaS20
namespace Go.Sep
def cfF : Op → Cls
  | .load .. => .P
  | o => cf0 o
section
variable {P : Program} {hR : Heap} {n : Nat} {cf : Op → Cls} {ops : Array Oper} {l : List Oper} {K : Env → List HProp → Prop} {ρ : Env} {Γ : List HProp} {o : Oper} {d : Nat}

theorem Run.loadF_of {T : TypeId} {x : Operand} {p : Addr} {v : Value} (hop : o.op = .load T x) (hx : ρ.val x = some (.pointer (some p))) (hs : preC .P n cf ops ρ o d = true)
    (hv : ∃ ob, hR p.block = some ob ∧ ∀ w, hp w p.block = some ob → (loadVar T p).run P w = .ok v w) (H : Run P hR n cf ops l K ((d, v) :: ρ) Γ) : Run P hR n cf ops (o :: l) K ρ Γ := by
  intro a h ho ht hl
  obtain ⟨h1, h2, h3, h4⟩ := preC_spec hs
  unfold opsRun
  rw [gd_wanted ho h4, if_pos rfl, h3]
  obtain ⟨ob, hob, hrun⟩ := hv
  have ho' : Ok n ((d, v) :: ρ) (a.put o.dst v) := by rw [h1]; exact ho.put h2 v
  refine ⟨v, fun w hw => ?_, H _ h ho' ht hl⟩
  simp only [execOp, hop, ho.eval hx, Instr.loadAt, Instr.sureAddr, Sem.run_bind, Sem.run_pure, Result.andThen_ok, hrun w (hw _ _ hob)]

theorem Run.loadF {T : TypeId} {x : Operand} {p : Addr} {v : Value} {s : Nat} (hop : o.op = .load T x) (hx : ρ.val x = some (.pointer (some p))) (hT : ag P T = some (false, s))
    (_hd : o.dst = some d) (hs : preC .P n cf ops ρ o d = true) (hv : cellH hR p v) (H : Run P hR n cf ops l K ((d, v) :: ρ) Γ) : Run P hR n cf ops (o :: l) K ρ Γ :=
  Run.loadF_of hop hx hs (by
    obtain ⟨c, U, fz, h1, h2, h3⟩ := hv
    exact ⟨_, h1, fun w hw => loadVar_cell hT h2 h3 w hw⟩) H

theorem Run.loadFagg {T : TypeId} {x : Operand} {p : Addr} {cs : List Value} {m : Nat} (hop : o.op = .load T x) (hx : ρ.val x = some (.pointer (some p))) (hT' : ag P T = some (true, m + 1))
    (_hd : o.dst = some d) (hs : preC .P n cf ops ρ o d = true) (hv : rowH hR p cs) (hm : cs.length = m + 1) (H : Run P hR n cf ops l K ((d, .agg ⟨cs⟩) :: ρ) Γ) : Run P hR n cf ops (o :: l) K ρ Γ :=
  Run.loadF_of hop hx hs (by
    have hT : ag P T = some (true, cs.length) := by rw [hm]; exact hT'
    obtain ⟨c, U, fz, h1, h2, h3⟩ := rowH_block hv (by intro e; rw [e] at hm; simp at hm)
    exact ⟨_, h1, fun w hw => loadVar_row hT w fun j v hj => cell?_of (by rw [add_block]; exact hw) (add_spot _ h2) (by rw [add_off]; exact h3 j v hj)⟩) H
end
end Go.Sep
