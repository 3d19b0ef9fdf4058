/- Arrays that are built. Over any program. -/
import Derived.Test.YtfaokbjpinlcaaaGA4
import Derived.Test.YtfaokbjpinlcaaaGA2
section
/- Arrays that are built. Over any program. -/
namespace Go.Sep
set_option linter.unusedVariables false
def fillA (size : Nat) (cs : List Value) : List (Nat × Value) → Option (List Value)
  | [] => some cs
  | (i, v) :: r => bif Nat.beq v.cells.size size && Nat.ble (i * size + size) cs.length then fillA size (setManyL cs (i * size) v.cells.toList) r else none
theorem fillA_spec (size : Nat) : ∀ (parts : List (Nat × Value)) (cs rs : List Value), fillA size cs parts = some rs → Instr.fill (fun i => some (i * size, size)) ⟨cs⟩ parts = some ⟨rs⟩
  | [], cs, rs, h => by simp only [fillA, Option.some.injEq] at h; subst h; rfl
  | (i, v) :: r, cs, rs, h => by
    simp only [fillA] at h
    cases hb : (Nat.beq v.cells.size size && Nat.ble (i * size + size) cs.length) with
    | false => rw [hb] at h; cases h
    | true =>
      rw [hb] at h
      simp only [cond_true] at h
      simp only [Bool.and_eq_true] at hb
      have e1 := Nat.eq_of_beq_eq_true hb.1
      have e2 := Nat.le_of_ble_eq_true hb.2
      simp only [Instr.fill]
      rw [if_neg (by simp [e1]; omega)]
      have hfold : v.cells.zipIdx.foldl (fun cs (x : Value × Nat) => match x with | (c, j) => cs.setIfInBounds (i * size + j) c) (⟨cs⟩ : Array Value) = ⟨setManyL cs (i * size) v.cells.toList⟩ := by
        have := fill_fold (i * size) v.cells.toList 0 ⟨cs⟩
        rw [Nat.add_zero, setMany_list] at this
        rw [← Array.foldl_toList, Array.toList_zipIdx]
        exact this
      rw [hfold]
      exact fillA_spec size r _ rs h
/-- of an array's type: its zero's cells, and the size of a member -/
def baT (P : Program) (T : TypeId) : Option (List Value × Nat) :=
  match P.underlying T, P.info? T with
  | some (.array _ e), some i => match i.zero, P.info? e with
    | some z, some j => some (z.cells.toList, j.size)
    | _, _ => none
  | _, _ => none
section
variable {P : Program} {hR : Heap} {n : Fr} {cf : Op → Cls} {ops : Array Oper} {l : List Oper} {K : Env → List HProp → Prop} {ρ : Env} {Γ : List HProp} {o : Oper} {d : Nat}
theorem run_buildA {T : TypeId} {zs : List Value} {size : Nat} {parts : List (Nat × Value)} {rs : List Value} (h : baT P T = some (zs, size)) (hf : fillA size zs parts = some rs) (ps : Array (Nat × Value)) (hps : ps.toList = parts) (w : World) :
    (Instr.build T ps).run P w = .ok (.agg ⟨rs⟩) w := by
  unfold baT at h
  split at h
  · rename_i len e i hu hi
    split at h
    · rename_i z j hz hj
      cases h
      have hfill := fillA_spec _ parts z.cells.toList rs hf
      have hz' : (zeroValue T).run P w = .ok z w := zr_spec (by unfold zr; rw [hi]; simpa using hz) w
      have hs : (sizeOf e).run P w = .ok j.size w := by simp [sizeOf, typeInfo, hj]
      have hfill' : Instr.fill (fun i => some (i * j.size, j.size)) z.cells parts = some ⟨rs⟩ := hfill
      simp only [Instr.build, Sem.run_bind, hz', Result.andThen_ok, underlying, run_program, hu, Sem.run_pure, hs, hps, hfill']
    · cases h
  · cases h
theorem Run.buildA {T : TypeId} {parts : Array (Nat × Operand)} {zs : List Value} {size : Nat} {us : List (Nat × Value)} {rs : List Value} (hop : o.op = .build T parts) (hb : baT P T = some (zs, size))
    (hp : collectN (parts.toList.map fun p => (p.1, ρ.val p.2)) = some us) (hf : fillA size zs us = some rs) (_hd : o.dst = some d) (hs : pre n cf ops ρ o d = true)
    (H : Run P hR n cf ops l K ((d, .agg ⟨rs⟩) :: ρ) Γ) : Run P hR n cf ops (o :: l) K ρ Γ :=
  Run.val hs (fun a h ho ht w => by
    have hps : (parts.map fun (i, x) => (i, a.eval x)).toList = us := by
      rw [Array.toList_map]
      have hparts := collectN_spec hp
      generalize parts.toList = ps at hparts
      clear hf hp
      induction ps generalizing us with
      | nil => cases us <;> simp at hparts ⊢
      | cons p ps ih =>
        cases us with
        | nil => simp at hparts
        | cons q qs =>
          simp only [List.map_cons, List.cons.injEq, Prod.mk.injEq] at hparts ⊢
          exact ⟨Prod.ext hparts.1.1 (ho.eval hparts.1.2), ih hparts.2⟩
    simp only [execOp, hop, Sem.run_bind, run_buildA hb hf _ hps w, Result.andThen_ok, Sem.run_pure]) H
end
section
variable {P : Program} {hR : Heap} {n : Fr} {Q : Exit → Env → List HProp → Prop} {ρ : Env} {Γ : List HProp}
/-- as meetC, what is owned told in full -/
theorem WP.meetM {α : Type} {x y : Code} (good : α → Prop) (car : α → Env) (mem : α → List HProp) (H1 : WP P hR n x (thn (fun ρ' Γ' => ∃ z, good z ∧ Ko ρ' (car z) ρ ∧ ent Γ' (mem z)) Q) ρ Γ)
    (H2 : ∀ z, good z → WP P hR n y Q (car z ++ ρ) (mem z)) : WP P hR n (.seq x y) Q ρ Γ :=
  WP.seq (H1.mono fun e ρ' Γ' h => by
    cases e with
    | normal => obtain ⟨z, g, h1, h2⟩ := h; exact (H2 z g).sup h1.sup h2
    | _ => exact h)
end
/-- what is frozen is read at any time, its bytes' string too -/
def cfG : Op → Cls
  | .load .. => .P
  | .convert .. => .P
  | o => cf0 o
section
variable {P : Program} {hR : Heap} {n : Fr} {cf : Op → Cls} {ops : Array Oper} {l : List Oper} {K : Env → List HProp → Prop} {ρ : Env} {Γ : List HProp} {o : Oper} {d : Nat}
theorem Run.toStrF {S T e : TypeId} {x : Operand} {a : Option Addr} {m c : Nat} {xs : List Int} (hop : o.op = .convert S T x) (hx : ρ.val x = some (.slice a m c)) (hS : P.underlying S = some (.slice e)) (hT : P.underlying T = some .string) (he : P.underlying e = some (.int .u8))
    (_hd : o.dst = some d) (hs : preC .P n cf ops ρ o d = true) (hsrc : SlR rdB hR (.slice a m c) xs)
    (H : Run P hR n cf ops l K ((d, .string (strOf xs)) :: ρ) Γ) : Run P hR n cf ops (o :: l) K ρ Γ := by
  intro A h ho ht hl
  obtain ⟨h1, h2, h3, h4⟩ := preC_spec hs
  unfold opsRun
  rw [gd_wanted ho h4, if_pos rfl, h3]
  have ho' : Ok n ((d, .string (strOf xs)) :: ρ) (A.put o.dst (.string (strOf xs))) := by rw [h1]; exact ho.put h2 _
  refine ⟨.string (strOf xs), fun w hw => ?_, H _ h ho' ht hl⟩
  have hY : SlR rdB (hp w) (.slice a m c) xs := hsrc.mono hw
  have hc : (convert S T (.slice a m c)).run P w = (Conv.bytesToString (.slice a m c)).run P w := run_convert_bytes_string w S T e a m c hS he hT
  have hb : (Conv.bytesToString (.slice a m c)).run P w = .ok (.string (strOf xs)) w := by
    have hY2 := hY
    obtain ⟨a', c', e1, _, hsome⟩ := hY
    simp only [Value.slice.injEq] at e1
    obtain ⟨rfl, rfl, rfl⟩ := e1
    cases xs with
    | nil => cases a <;> simp [Conv.bytesToString, loadCells, loadCellsFrom, strOf]
    | cons y ys =>
      obtain ⟨ad, rfl, hrow⟩ := hsome (by simp)
      refine run_bytesToString w ad _ c (y :: ys) ?_
      have hx := cells_of_SlR (E := Enc.int .u8) hY2 (by simp)
      have := run_loadCells_list (P := P) w ad ((y :: ys).flatMap (Enc.int .u8).cells) hx
      rw [u8_map] at this
      simpa using this
  simp only [execOp, hop, ho.eval hx, Sem.run_bind, hc, hb, Result.andThen_ok, Sem.run_pure]
end
section
variable {P : Program} {hR : Heap} {n : Fr} {ρ : Env} {Γ : List HProp}
end
end Go.Sep
end
section
/- Structs of whole numbers and strings, held against themselves. Over any program. -/
namespace Go.Sep
set_option linter.unusedVariables false
section
variable {P : Program} {hR : Heap} {n : Fr} {cf : Op → Cls} {ops : Array Oper} {l : List Oper} {K : Env → List HProp → Prop} {ρ : Env} {Γ : List HProp} {o : Oper} {d : Nat}
end
end Go.Sep
end
section
/- an entry asked for, and whether it is there. Over any program. -/
namespace Go.Sep
set_option linter.unusedVariables false
section
variable {P : Program} {hR : Heap} {n : Fr} {cf : Op → Cls} {ops : Array Oper} {l : List Oper} {K : Env → List HProp → Prop} {ρ : Env} {Γ : List HProp} {o : Oper} {d : Nat}
variable {κ : Type} [DecidableEq κ] {TK : TypeId} {enc : κ → Value}
theorem Run.lookupCK (hK : KeyOk P TK enc) (i : Nat) {T TV : TypeId} {x ix : Operand} {b : Nat} {f : κ → Option Value} {k : κ} {z : Value} (hop : o.op = .lookup T x ix true) (hx : ρ.val x = some (.map (some b)))
    (hi : ρ.val ix = some (enc k)) (hT : P.underlying T = some (.map TK TV)) (hz : zr P TV = some z) (_hd : o.dst = some d) (hs : preC .R n cf ops ρ o d = true)
    (hk : Γ[i]? = some (mpK enc b f)) (H : Run P hR n cf ops l K ((d, .tuple #[(f k).getD z, .bool (f k).isSome]) :: ρ) Γ) : Run P hR n cf ops (o :: l) K ρ Γ := by
  intro a h ho ht hl
  obtain ⟨h1, h2, h3, h4⟩ := preC_spec hs
  unfold opsRun
  rw [gd_wanted ho h4, if_pos rfl, h3]
  obtain ⟨g1, g2, ⟨es, clock, rfl, hm⟩, hd, e, _⟩ := sat_get ht hk
  have ho' : Ok n ((d, .tuple #[(f k).getD z, .bool (f k).isSome]) :: ρ) (a.put o.dst (.tuple #[(f k).getD z, .bool (f k).isSome])) := by rw [h1]; exact ho.put h2 _
  refine ⟨_, ⟨b, .map ⟨es⟩ clock, by simp [rblk, hop, ho.eval hx], .inr (by rw [e]; exact un_left_some put_emp_self), fun w hw => ?_⟩, H _ h ho' ht hl⟩
  have hf := run_findKey hK k w (es := es) fun e he => let ⟨k', g, _⟩ := hm.has e he; ⟨k', g⟩
  rcases hm.find hK.inj k with ⟨h1, h2, h3⟩ | ⟨j, e, h1, h2, h3, h4⟩
  · rw [h3] at hf
    simp [execOp, hop, ho.eval hx, ho.eval hi, Instr.lookup, underlying, hT, run_getObj hw, hK.chk, hf, zr_spec hz, h1]
  · rw [h4] at hf
    simp [execOp, hop, ho.eval hx, ho.eval hi, Instr.lookup, underlying, hT, run_getObj hw, hK.chk, hf, h3]
end
end Go.Sep
end
