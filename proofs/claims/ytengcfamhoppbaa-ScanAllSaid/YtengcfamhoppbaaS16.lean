/- Two truth values compared. Over any program. -/
import Derived.Test.YtengcfamhoppbaaS15
import Derived.Laws.StructEq
namespace Go.Sep
section
variable {P : Program} {hR : Heap} {n : Nat} {cf : Op → Cls} {ops : Array Oper} {l : List Oper} {K : Env → List HProp → Prop} {ρ : Env} {Γ : List HProp} {o : Oper} {d : Nat}
theorem Run.eqB {T T' : TypeId} {x y : Operand} {a b : Bool} (hop : o.op = .binOp .eql T x y T') (hx : ρ.val x = some (.bool a)) (hy : ρ.val y = some (.bool b)) (hT : P.underlying T = some .bool)
    (_hd : o.dst = some d) (hs : pre n cf ops ρ o d = true) (H : Run P hR n cf ops l K ((d, .bool (a == b)) :: ρ) Γ) : Run P hR n cf ops (o :: l) K ρ Γ :=
  Run.val hs (fun A h ho ht w => by
    have e := run_equalIn_bool' (P := P) w 9999 T a b hT
    have g : (Op.equal T (.bool a) (.bool b)).run P w = .ok (a == b) w := e
    simp [execOp, hop, ho.eval hx, ho.eval hy, eqGuard, binOp, g]) H
end
end Go.Sep
