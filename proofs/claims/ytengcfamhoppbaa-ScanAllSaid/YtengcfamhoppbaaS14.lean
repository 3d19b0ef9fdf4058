/- Arrays of integers behind a pointer. Over any program. -/
import Derived.Test.YtengcfamhoppbaaS13
namespace Go.Sep
section
variable {P : Program} {hR : Heap} {n : Nat} {cf : Op → Cls} {ops : Array Oper} {l : List Oper} {K : Env → List HProp → Prop} {ρ : Env} {Γ : List HProp} {o : Oper} {d : Nat}

/-- of an array's type: its length, its element's cells -/
def arT (P : Program) (T : TypeId) : Option (Nat × Nat) :=
  match P.underlying T with
  | some (.array len e) => (P.info? e).map fun i => (len, i.size)
  | _ => none

theorem Run.idxArr {T : TypeId} {x ix : Operand} {k : IntKind} {i : Int} {p : Addr} {len sz : Nat} (hop : o.op = .indexAddr T x ix) (hx : ρ.val x = some (.pointer (some p)))
    (hi : ρ.val ix = some (.int k i)) (hT : arT P T = some (len, sz)) (_hd : o.dst = some d) (hs : pre n cf ops ρ o d = true) (h0 : 0 ≤ i) (h1 : i < len)
    (H : Run P hR n cf ops l K ((d, .pointer (some (p.add (i.toNat * sz)))) :: ρ) Γ) : Run P hR n cf ops (o :: l) K ρ Γ :=
  Run.val hs (fun A h ho ht w => by
    unfold arT at hT
    split at hT
    · rename_i len' e hu
      cases hinf : P.info? e with
      | none => simp [hinf] at hT
      | some inf =>
        simp [hinf] at hT
        obtain ⟨rfl, hsz⟩ := hT
        simp [execOp, hop, ho.eval hx, ho.eval hi, Instr.indexAt, underlying, hu, asIntOf, h0, h1, sizeOf, typeInfo, hinf, hsz, Instr.sureAddr]
    · cases hT) H

def ints (h : List Int) : List Value := h.map (Value.int .i64)
theorem ints_set (h : List Int) (i : Nat) (v : Int) (_hi : i < h.length) : setManyL (ints h) (0 + i * 1) [.int .i64 v] = ints (h.set i v) := by
  simp [setManyL, ints, List.map_set]

theorem Run.loadArr (k : Nat) {T U : TypeId} {x : Operand} {p : Addr} {s b i : Nat} {h : List Int} {v : Int} (hop : o.op = .load T x) (hx : ρ.val x = some (.pointer (some p))) (hT : ag P T = some (false, s))
    (_hd : o.dst = some d) (hs : preC .R n cf ops ρ o d = true) (hk : Γ[k]? = some (blk b (ints h) U)) (hp' : p = (⟨b, 0, none⟩ : Addr).add (i * 1)) (hv : h[i]? = some v) (H : Run P hR n cf ops l K ((d, .int .i64 v) :: ρ) Γ) :
    Run P hR n cf ops (o :: l) K ρ Γ :=
  Run.loadB k hop hx hT _hd hs hk (by rw [hp', add_lit]) (by simp [ints, hv]) H

theorem Run.storeArr (k : Nat) {T U : TypeId} {x y : Operand} {p : Addr} {v : Int} {b i : Nat} {h : List Int} {g : Bool} (hop : o.op = .store T x y) (hx : ρ.val x = some (.pointer (some p)))
    (hy : ρ.val y = some (.int .i64 v)) (hT : ag P T = some (g, 1)) (hs : preN .E cf ops ρ o = true) (hk : Γ[k]? = some (blk b (ints h) U)) (hp' : p = (⟨b, 0, none⟩ : Addr).add (i * 1)) (hi : i < h.length)
    (H : Run P hR n cf ops l K ρ (Γ.set k (blk b (ints (h.set i v)) U))) : Run P hR n cf ops (o :: l) K ρ Γ := by
  refine Run.storeB k hop hx hy rfl hT rfl hs hk (by rw [hp', add_lit]) (Nat.ble_eq_true_of_le (by simp [ints]; omega)) ?_
  rw [ints_set h i v hi]; exact H
end
end Go.Sep
