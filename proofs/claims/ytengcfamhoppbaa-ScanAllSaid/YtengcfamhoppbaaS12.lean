/- Structs that are built; fields of struct values. Over any program. -/
import Derived.Test.YtengcfamhoppbaaS11
namespace Go.Sep

def collectN : List (Nat × Option Value) → Option (List (Nat × Value))
  | [] => some []
  | (i, some v) :: r => match collectN r with | some vs => some ((i, v) :: vs) | none => none
  | (_, none) :: _ => none
theorem collectN_spec : ∀ {xs : List (Nat × Option Value)} {vs : List (Nat × Value)}, collectN xs = some vs → xs = vs.map fun p => (p.1, some p.2)
  | [], _, h => by simp only [collectN, Option.some.injEq] at h; subst h; rfl
  | (i, some v) :: r, vs, h => by
    simp only [collectN] at h
    split at h
    · rename_i us hu; cases h; simp [← collectN_spec hu]
    · cases h
  | (_, none) :: _, _, h => by simp [collectN] at h

def fillL (places : List (Nat × Nat)) (cs : List Value) : List (Nat × Value) → Option (List Value)
  | [] => some cs
  | (i, v) :: r => match places[i]? with
    | some (off, size) => bif Nat.beq v.cells.size size && Nat.ble (off + size) cs.length then fillL places (setManyL cs off v.cells.toList) r else none
    | none => none

theorem fillL_spec (places : List (Nat × Nat)) : ∀ (parts : List (Nat × Value)) (cs rs : List Value), fillL places cs parts = some rs → Instr.fill (fun i => places[i]?) ⟨cs⟩ parts = some ⟨rs⟩
  | [], cs, rs, h => by simp only [fillL, Option.some.injEq] at h; subst h; rfl
  | (i, v) :: r, cs, rs, h => by
    simp only [fillL] at h
    split at h
    · rename_i off size hp
      cases hb : (Nat.beq v.cells.size size && Nat.ble (off + size) cs.length) with
      | false => rw [hb] at h; cases h
      | true =>
        rw [hb] at h
        simp only [cond_true] at h
        simp only [Bool.and_eq_true] at hb
        have e1 := Nat.eq_of_beq_eq_true hb.1
        have e2 := Nat.le_of_ble_eq_true hb.2
        simp only [Instr.fill, hp]
        rw [if_neg (by simp [e1]; omega)]
        have hfold : v.cells.zipIdx.foldl (fun cs (x : Value × Nat) => match x with | (c, j) => cs.setIfInBounds (off + j) c) (⟨cs⟩ : Array Value) = ⟨setManyL cs off v.cells.toList⟩ := by
          have := fill_fold off v.cells.toList 0 ⟨cs⟩
          rw [Nat.add_zero, setMany_list] at this
          rw [← Array.foldl_toList, Array.toList_zipIdx]
          exact this
        rw [hfold]
        exact fillL_spec places r _ rs h
    · cases h

/-- of a struct's type: its zero's cells, and where each field lies -/
def bdT (P : Program) (T : TypeId) : Option (List Value × List (Nat × Nat)) :=
  match P.underlying T, P.info? T with
  | some (.struct fs), some i => match i.zero, collectPl (fs.toList.map fun f => (P.info? f.type).map fun j => (f.offset, j.size)) with
    | some z, some pl => some (z.cells.toList, pl)
    | _, _ => none
  | _, _ => none
  where collectPl : List (Option (Nat × Nat)) → Option (List (Nat × Nat))
  | [] => some []
  | some v :: r => match collectPl r with | some vs => some (v :: vs) | none => none
  | none :: _ => none

theorem collectPl_spec : ∀ {xs : List (Option (Nat × Nat))} {vs : List (Nat × Nat)}, bdT.collectPl xs = some vs → xs = vs.map some
  | [], _, h => by simp only [bdT.collectPl, Option.some.injEq] at h; subst h; rfl
  | some v :: r, vs, h => by
    simp only [bdT.collectPl] at h
    split at h
    · rename_i us hu; cases h; simp [← collectPl_spec hu]
    · cases h
  | none :: _, _, h => by simp [bdT.collectPl] at h

section
variable {P : Program} {hR : Heap} {n : Nat} {cf : Op → Cls} {ops : Array Oper} {l : List Oper} {K : Env → List HProp → Prop} {ρ : Env} {Γ : List HProp} {o : Oper} {d : Nat}

theorem run_build {T : TypeId} {zs : List Value} {pl : List (Nat × Nat)} {parts : List (Nat × Value)} {rs : List Value} (h : bdT P T = some (zs, pl)) (hf : fillL pl zs parts = some rs) (ps : Array (Nat × Value)) (hps : ps.toList = parts) (w : World) :
    (Instr.build T ps).run P w = .ok (.agg ⟨rs⟩) w := by
  unfold bdT at h
  split at h
  · rename_i fs i hu hi
    split at h
    · rename_i z pl' hz hpl
      cases h
      have h1 := collectPl_spec hpl
      have hplaces : (fs.mapM fun f => (do pure (f.offset, ← sizeOf f.type) : Sem (Nat × Nat))).run P w = .ok ⟨pl⟩ w := by
        rw [Array.mapM_eq_mapM_toList]
        simp only [Sem.run_map]
        have : ∀ (l : List Field) (pl : List (Nat × Nat)), l.map (fun f => (P.info? f.type).map fun j => (f.offset, j.size)) = pl.map some → (l.mapM fun f => (do pure (f.offset, ← sizeOf f.type) : Sem (Nat × Nat))).run P w = .ok pl w := fun l => by
          induction l with
          | nil => intro pl h; cases pl <;> simp at h ⊢
          | cons f l ih =>
            intro pl h
            cases pl with
            | nil => simp at h
            | cons p pl =>
              simp only [List.map_cons, List.cons.injEq] at h
              cases hi : P.info? f.type with
              | none => rw [hi] at h; simp at h
              | some j =>
                rw [hi] at h
                simp only [Option.map_some, Option.some.injEq] at h
                have hs : (sizeOf f.type).run P w = .ok j.size w := by simp [sizeOf, typeInfo, hi]
                simp only [List.mapM_cons, Sem.run_bind, hs, Result.andThen_ok, Sem.run_pure, ih pl h.2, h.1]
        rw [this _ _ h1]; rfl
      have hfill := fillL_spec pl parts z.cells.toList rs hf
      have hz' : (zeroValue T).run P w = .ok z w := zr_spec (by unfold zr; rw [hi]; simpa using hz) w
      simp only [Instr.build, Sem.run_bind, hz', Result.andThen_ok, underlying, run_program, hu, Sem.run_pure, hplaces, hps]
      have : Instr.fill (fun x : Nat => (⟨pl⟩ : Array (Nat × Nat))[x]?) z.cells parts = some ⟨rs⟩ := by
        have e : (fun x : Nat => (⟨pl⟩ : Array (Nat × Nat))[x]?) = fun i : Nat => pl[i]? := by funext i; simp
        rw [e]; exact hfill
      rw [this]; rfl
    · cases h
  · cases h

theorem Run.build {T : TypeId} {parts : Array (Nat × Operand)} {zs : List Value} {pl : List (Nat × Nat)} {us : List (Nat × Value)} {rs : List Value} (hop : o.op = .build T parts) (hb : bdT P T = some (zs, pl))
    (hp : collectN (parts.toList.map fun p => (p.1, ρ.val p.2)) = some us) (hf : fillL pl zs us = some rs) (_hd : o.dst = some d) (hs : pre n cf ops ρ o d = true)
    (H : Run P hR n cf ops l K ((d, .agg ⟨rs⟩) :: ρ) Γ) : Run P hR n cf ops (o :: l) K ρ Γ :=
  Run.val hs (fun a h ho ht w => by
    have hps : (parts.map fun (i, x) => (i, a.eval x)).toList = us := by
      rw [Array.toList_map]
      have hparts := collectN_spec hp
      generalize parts.toList = ps at hparts
      clear hf hp
      induction ps generalizing us with
      | nil => cases us <;> simp at hparts ⊢
      | cons p ps ih =>
        cases us with
        | nil => simp at hparts
        | cons q qs =>
          simp only [List.map_cons, List.cons.injEq, Prod.mk.injEq] at hparts ⊢
          exact ⟨Prod.ext hparts.1.1 (ho.eval hparts.1.2), ih hparts.2⟩
    simp only [execOp, hop, Sem.run_bind, run_build hb hf _ hps w, Result.andThen_ok, Sem.run_pure]) H

theorem Run.max2 {x y : Operand} {ats : Array TypeId} {k : IntKind} {a b : Int} (hop : o.op = .call { callee := .builtin .max, args := #[x, y], argTypes := ats }) (hx : ρ.val x = some (.int k a)) (hy : ρ.val y = some (.int k b))
    (_hd : o.dst = some d) (hs : pre n cf ops ρ o d = true) (H : Run P hR n cf ops l K ((d, .int k (max a b)) :: ρ) Γ) : Run P hR n cf ops (o :: l) K ρ Γ :=
  Run.val hs (fun A h ho ht w => by
    have : (if b > a then b else a) = max a b := by omega
    simp [execOp, hop, resolve, invoke, builtin, Builtin.max_, Builtin.max2, ho.eval hx, ho.eval hy, this]) H
theorem Run.min2 {x y : Operand} {ats : Array TypeId} {k : IntKind} {a b : Int} (hop : o.op = .call { callee := .builtin .min, args := #[x, y], argTypes := ats }) (hx : ρ.val x = some (.int k a)) (hy : ρ.val y = some (.int k b))
    (_hd : o.dst = some d) (hs : pre n cf ops ρ o d = true) (H : Run P hR n cf ops l K ((d, .int k (min a b)) :: ρ) Γ) : Run P hR n cf ops (o :: l) K ρ Γ :=
  Run.val hs (fun A h ho ht w => by
    have : (if b < a then b else a) = min a b := by omega
    simp [execOp, hop, resolve, invoke, builtin, Builtin.min_, Builtin.min2, ho.eval hx, ho.eval hy, this]) H
end
end Go.Sep
