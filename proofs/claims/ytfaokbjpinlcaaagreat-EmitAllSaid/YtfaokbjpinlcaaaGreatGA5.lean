/- Arrays that are built. Over any program. -/
import Derived.Test.YtfaokbjpinlcaaaGreatGA4
import Derived.Test.YtfaokbjpinlcaaaGreatGA2
import Derived.Test.YtfaokbjpinlcaaaGreatGA3
section
/- Arrays that are built. Over any program. -/
namespace Go.Sep
set_option linter.unusedVariables false
def fillA (size : Nat) (cs : List Value) : List (Nat × Value) → Option (List Value)
  | [] => some cs
  | (i, v) :: r => bif Nat.beq v.cells.size size && Nat.ble (i * size + size) cs.length then fillA size (setManyL cs (i * size) v.cells.toList) r else none
theorem fillA_spec (size : Nat) : ∀ (parts : List (Nat × Value)) (cs rs : List Value), fillA size cs parts = some rs → Instr.fill (fun i => some (i * size, size)) ⟨cs⟩ parts = some ⟨rs⟩
  | [], cs, rs, h => by simp only [fillA, Option.some.injEq] at h; subst h; rfl
  | (i, v) :: r, cs, rs, h => by
    simp only [fillA] at h
    cases hb : (Nat.beq v.cells.size size && Nat.ble (i * size + size) cs.length) with
    | false => rw [hb] at h; cases h
    | true =>
      rw [hb] at h
      simp only [cond_true] at h
      simp only [Bool.and_eq_true] at hb
      have e1 := Nat.eq_of_beq_eq_true hb.1
      have e2 := Nat.le_of_ble_eq_true hb.2
      simp only [Instr.fill]
      rw [if_neg (by simp [e1]; omega)]
      have hfold : v.cells.zipIdx.foldl (fun cs (x : Value × Nat) => match x with | (c, j) => cs.setIfInBounds (i * size + j) c) (⟨cs⟩ : Array Value) = ⟨setManyL cs (i * size) v.cells.toList⟩ := by
        have := fill_fold (i * size) v.cells.toList 0 ⟨cs⟩
        rw [Nat.add_zero, setMany_list] at this
        rw [← Array.foldl_toList, Array.toList_zipIdx]
        exact this
      rw [hfold]
      exact fillA_spec size r _ rs h
/-- of an array's type: its zero's cells, and the size of a member -/
def baT (P : Program) (T : TypeId) : Option (List Value × Nat) :=
  match P.underlying T, P.info? T with
  | some (.array _ e), some i => match i.zero, P.info? e with
    | some z, some j => some (z.cells.toList, j.size)
    | _, _ => none
  | _, _ => none
section
variable {P : Program} {hR : Heap} {n : Fr} {cf : Op → Cls} {ops : Array Oper} {l : List Oper} {K : Env → List HProp → Prop} {ρ : Env} {Γ : List HProp} {o : Oper} {d : Nat}
theorem run_buildA {T : TypeId} {zs : List Value} {size : Nat} {parts : List (Nat × Value)} {rs : List Value} (h : baT P T = some (zs, size)) (hf : fillA size zs parts = some rs) (ps : Array (Nat × Value)) (hps : ps.toList = parts) (w : World) :
    (Instr.build T ps).run P w = .ok (.agg ⟨rs⟩) w := by
  unfold baT at h
  split at h
  · rename_i len e i hu hi
    split at h
    · rename_i z j hz hj
      cases h
      have hfill := fillA_spec _ parts z.cells.toList rs hf
      have hz' : (zeroValue T).run P w = .ok z w := zr_spec (by unfold zr; rw [hi]; simpa using hz) w
      have hs : (sizeOf e).run P w = .ok j.size w := by simp [sizeOf, typeInfo, hj]
      have hfill' : Instr.fill (fun i => some (i * j.size, j.size)) z.cells parts = some ⟨rs⟩ := hfill
      simp only [Instr.build, Sem.run_bind, hz', Result.andThen_ok, underlying, run_program, hu, Sem.run_pure, hs, hps, hfill']
    · cases h
  · cases h
theorem Run.buildA {T : TypeId} {parts : Array (Nat × Operand)} {zs : List Value} {size : Nat} {us : List (Nat × Value)} {rs : List Value} (hop : o.op = .build T parts) (hb : baT P T = some (zs, size))
    (hp : collectN (parts.toList.map fun p => (p.1, ρ.val p.2)) = some us) (hf : fillA size zs us = some rs) (_hd : o.dst = some d) (hs : pre n cf ops ρ o d = true)
    (H : Run P hR n cf ops l K ((d, .agg ⟨rs⟩) :: ρ) Γ) : Run P hR n cf ops (o :: l) K ρ Γ :=
  Run.val hs (fun a h ho ht w => by
    have hps : (parts.map fun (i, x) => (i, a.eval x)).toList = us := by
      rw [Array.toList_map]
      have hparts := collectN_spec hp
      generalize parts.toList = ps at hparts
      clear hf hp
      induction ps generalizing us with
      | nil => cases us <;> simp at hparts ⊢
      | cons p ps ih =>
        cases us with
        | nil => simp at hparts
        | cons q qs =>
          simp only [List.map_cons, List.cons.injEq, Prod.mk.injEq] at hparts ⊢
          exact ⟨Prod.ext hparts.1.1 (ho.eval hparts.1.2), ih hparts.2⟩
    simp only [execOp, hop, Sem.run_bind, run_buildA hb hf _ hps w, Result.andThen_ok, Sem.run_pure]) H
end
section
variable {P : Program} {hR : Heap} {n : Fr} {Q : Exit → Env → List HProp → Prop} {ρ : Env} {Γ : List HProp}
/-- as meetC, what is owned told in full -/
theorem WP.meetM {α : Type} {x y : Code} (good : α → Prop) (car : α → Env) (mem : α → List HProp) (H1 : WP P hR n x (thn (fun ρ' Γ' => ∃ z, good z ∧ Ko ρ' (car z) ρ ∧ ent Γ' (mem z)) Q) ρ Γ)
    (H2 : ∀ z, good z → WP P hR n y Q (car z ++ ρ) (mem z)) : WP P hR n (.seq x y) Q ρ Γ :=
  WP.seq (H1.mono fun e ρ' Γ' h => by
    cases e with
    | normal => obtain ⟨z, g, h1, h2⟩ := h; exact (H2 z g).sup h1.sup h2
    | _ => exact h)
end
/-- what is frozen is read at any time, its bytes' string too -/
def cfG : Op → Cls
  | .load .. => .P
  | .convert .. => .P
  | o => cf0 o
section
variable {P : Program} {hR : Heap} {n : Fr} {cf : Op → Cls} {ops : Array Oper} {l : List Oper} {K : Env → List HProp → Prop} {ρ : Env} {Γ : List HProp} {o : Oper} {d : Nat}
theorem Run.toStrF {S T e : TypeId} {x : Operand} {a : Option Addr} {m c : Nat} {xs : List Int} (hop : o.op = .convert S T x) (hx : ρ.val x = some (.slice a m c)) (hS : P.underlying S = some (.slice e)) (hT : P.underlying T = some .string) (he : P.underlying e = some (.int .u8))
    (_hd : o.dst = some d) (hs : preC .P n cf ops ρ o d = true) (hsrc : SlR rdB hR (.slice a m c) xs)
    (H : Run P hR n cf ops l K ((d, .string (strOf xs)) :: ρ) Γ) : Run P hR n cf ops (o :: l) K ρ Γ := by
  intro A h ho ht hl
  obtain ⟨h1, h2, h3, h4⟩ := preC_spec hs
  unfold opsRun
  rw [gd_wanted ho h4, if_pos rfl, h3]
  have ho' : Ok n ((d, .string (strOf xs)) :: ρ) (A.put o.dst (.string (strOf xs))) := by rw [h1]; exact ho.put h2 _
  refine ⟨.string (strOf xs), fun w hw => ?_, H _ h ho' ht hl⟩
  have hY : SlR rdB (hp w) (.slice a m c) xs := hsrc.mono hw
  have hc : (convert S T (.slice a m c)).run P w = (Conv.bytesToString (.slice a m c)).run P w := run_convert_bytes_string w S T e a m c hS he hT
  have hb : (Conv.bytesToString (.slice a m c)).run P w = .ok (.string (strOf xs)) w := by
    have hY2 := hY
    obtain ⟨a', c', e1, _, hsome⟩ := hY
    simp only [Value.slice.injEq] at e1
    obtain ⟨rfl, rfl, rfl⟩ := e1
    cases xs with
    | nil => cases a <;> simp [Conv.bytesToString, loadCells, loadCellsFrom, strOf]
    | cons y ys =>
      obtain ⟨ad, rfl, hrow⟩ := hsome (by simp)
      refine run_bytesToString w ad _ c (y :: ys) ?_
      have hx := cells_of_SlR (E := Enc.int .u8) hY2 (by simp)
      have := run_loadCells_list (P := P) w ad ((y :: ys).flatMap (Enc.int .u8).cells) hx
      rw [u8_map] at this
      simpa using this
  simp only [execOp, hop, ho.eval hx, Sem.run_bind, hc, hb, Result.andThen_ok, Sem.run_pure]
end
/-- strings of what is only read, at any time -/
def cfS : Op → Cls
  | .convert .. => .P
  | o => cf0 o
section
variable {P : Program} {hR : Heap} {n : Fr} {ρ : Env} {Γ : List HProp}
theorem retCTT {fn : Func} {R : Value → List HProp → Prop} (t k t2 t3 : Nat) {T U : TypeId} {b m : Nat} {cs : List Value} {v2 v3 : Value} (hT : ag P T = some (true, m)) (hres : fn.results = ⟨[ResultVar.cell t T, ResultVar.tmp t2, ResultVar.tmp t3]⟩) (hp' : ρ.get t = some (.pointer (some ⟨b, 0, none⟩))) (hp2 : ρ.get t2 = some v2) (hp3 : ρ.get t3 = some v3) (hk : Γ[k]? = some (blk b cs U)) (hm : cs.length = m)
    (H : R (.tuple #[.agg ⟨cs⟩, v2, v3]) Γ) : retQ P hR n fn R .ret ρ Γ := by
  refine ⟨.inl rfl, .tuple #[.agg ⟨cs⟩, v2, v3], fun a h w ho hs hf => ?_, H⟩
  obtain ⟨h1, h2, g1, hd, rfl, _⟩ := sat_get hs hk
  unfold blk at g1
  subst g1
  have hb : hp w b = some (.cells ⟨cs⟩ U (0, 0)) := hf.own b _ (un_left_some put_emp_self)
  have hT' : ag P T = some (true, cs.length) := by rw [hm]; exact hT
  have hl := loadVar_row (p := ⟨b, 0, none⟩) hT' w fun j u hj => cell?_of (by rw [add_block]; exact hb) (add_spot _ rfl) (by rw [add_off]; simpa using hj)
  have ht := ho.get t _ hp'
  have ht2 := ho.get t2 _ hp2
  have ht3 := ho.get t3 _ hp3
  unfold results
  rw [hres]
  simp [Array.getD_eq_getD_getElem?, ht, ht2, ht3, asAddr, hl]
end
end Go.Sep
end
section
/- Structs of whole numbers and strings, held against themselves. Over any program. -/
namespace Go.Sep
set_option linter.unusedVariables false
def kindsF (P : Program) : List Field → Nat → Option (List Bool)
  | [], _ => some []
  | f :: fs, i => if decide (f.name ≠ "_") && Nat.beq f.offset i then
      match P.underlying f.type, kindsF P fs (i + 1) with
      | some (.int _), some r => some (true :: r)
      | some .string, some r => some (false :: r)
      | _, _ => none
    else none
def mixS (P : Program) (T : TypeId) : Option (List Bool) :=
  match P.underlying T with
  | some (.struct fs) => if !P.stoodInHeld T && !P.eqGuardType P.depth T then kindsF P fs.toList 0 else none
  | _ => none
def fitV : List Bool → List Value → Bool
  | [], [] => true
  | true :: ks, .int .i64 _ :: vs => fitV ks vs
  | false :: ks, .string _ :: vs => fitV ks vs
  | _, _ => false
theorem run_reflF {P : Program} (d : Nat) (w : World) : ∀ (fs : List Field) (i : Nat) (ks : List Bool) (xs us : List Value), kindsF P fs i = some ks → fitV ks us = true → xs.drop i = us →
    (Op.eqFields (d + 1) ⟨xs⟩ ⟨xs⟩ fs).run P w = .ok true w
  | [], i, ks, xs, us, _, _, _ => rfl
  | f :: fs, i, ks, xs, us, hk, hf, hx => by
    unfold kindsF at hk
    split at hk
    · rename_i hc
      rw [Bool.and_eq_true] at hc
      obtain ⟨h1, h2⟩ := hc
      have h1 := of_decide_eq_true h1
      have h2' := Nat.eq_of_beq_eq_true h2
      split at hk
      · rename_i k r hu hr
        cases hk
        cases us with
        | nil => simp [fitV] at hf
        | cons u us =>
          obtain ⟨a, rfl⟩ : ∃ a, u = .int .i64 a := by
            cases u <;> try (simp [fitV] at hf; done)
            rename_i k a; cases k <;> first | exact ⟨a, rfl⟩ | (simp [fitV] at hf)
          have hx0 : xs[i]? = some (.int .i64 a) := by have := congrArg List.head? hx; rw [List.head?_drop] at this; simpa using this
          have hx1 : xs.drop (i + 1) = us := by have := congrArg List.tail hx; rw [List.tail_drop] at this; simpa using this
          have ih := run_reflF d w fs (i + 1) r xs us hr (by simpa [fitV] using hf) hx1
          have hag : (isAgg f.type).run P w = .ok false w := by simp [isAgg, underlying, hu]
          have hp : (part f.type ⟨xs⟩ f.offset).run P w = .ok (.int .i64 a) w := by simp [part, hag, h2', hx0]
          have he := run_equalIn_int (P := P) w d f.type .i64 k a a hu
          simp only [Op.eqFields]
          rw [if_pos h1]
          simp only [Sem.run_bind, hp, he, Result.andThen_ok, Sem.run_ite]
          simp [ih]
      · rename_i r hu hr
        cases hk
        cases us with
        | nil => simp [fitV] at hf
        | cons u us =>
          obtain ⟨a, rfl⟩ : ∃ a, u = .string a := by
            cases u <;> first | exact ⟨_, rfl⟩ | (simp [fitV] at hf)
          have hx0 : xs[i]? = some (.string a) := by have := congrArg List.head? hx; rw [List.head?_drop] at this; simpa using this
          have hx1 : xs.drop (i + 1) = us := by have := congrArg List.tail hx; rw [List.tail_drop] at this; simpa using this
          have ih := run_reflF d w fs (i + 1) r xs us hr (by simpa [fitV] using hf) hx1
          have hag : (isAgg f.type).run P w = .ok false w := by simp [isAgg, underlying, hu]
          have hp : (part f.type ⟨xs⟩ f.offset).run P w = .ok (.string a) w := by simp [part, hag, h2', hx0]
          have he := run_equalIn_string (P := P) w d f.type a a hu
          simp only [Op.eqFields]
          rw [if_pos h1]
          simp only [Sem.run_bind, hp, he, Result.andThen_ok, Sem.run_ite]
          simp [ih]
      · cases hk
    · cases hk
section
variable {P : Program} {hR : Heap} {n : Fr} {cf : Op → Cls} {ops : Array Oper} {l : List Oper} {K : Env → List HProp → Prop} {ρ : Env} {Γ : List HProp} {o : Oper} {d : Nat}
theorem run_reflS {T : TypeId} {ks : List Bool} (h : mixS P T = some ks) {xs : List Value} (hf : fitV ks xs = true) (x y : Operand) (op : BinOp) (w : World) :
    (eqGuard op T x y (.agg ⟨xs⟩) (.agg ⟨xs⟩)).run P w = .ok () w ∧ (Op.equalIn 10000 T (.agg ⟨xs⟩) (.agg ⟨xs⟩)).run P w = .ok true w := by
  unfold mixS at h
  split at h
  · rename_i fs hu
    split at h
    · rename_i hc
      simp only [Bool.and_eq_true, Bool.not_eq_true'] at hc
      have hfo : P.fieldsOf T = fs := by simp [Program.fieldsOf, hu]
      refine ⟨run_eqGuard_agg w op T x y _ _ hc.2, ?_⟩
      rw [run_equalIn_struct w 9999 T _ _ (by rw [hfo]; exact hu) hc.1, hfo]
      exact run_reflF 9998 w fs.toList 0 ks xs xs h hf (by simp)
    · cases h
  · cases h
/-- a struct held against itself -/
theorem Run.neRefl {T T' : TypeId} {x y : Operand} {xs : List Value} {ks : List Bool} (hop : o.op = .binOp .neq T x y T') (hx : ρ.val x = some (.agg ⟨xs⟩)) (hy : ρ.val y = some (.agg ⟨xs⟩)) (hT : mixS P T = some ks)
    (hf : fitV ks xs = true) (_hd : o.dst = some d) (hs : pre n cf ops ρ o d = true) (H : Run P hR n cf ops l K ((d, .bool false) :: ρ) Γ) : Run P hR n cf ops (o :: l) K ρ Γ :=
  Run.val hs (fun A h ho ht w => by
    have h2 := run_reflS hT hf x y .neq w
    simp only [execOp, hop, ho.eval hx, ho.eval hy, Sem.run_bind, h2.1, Result.andThen_ok, run_neq_struct, h2.2, Sem.run_pure, Bool.not_true]) H
end
end Go.Sep
end
section
/- append that keeps what was there before, as one piece. Over any program. -/
namespace Go.Sep
set_option linter.unusedVariables false
section
variable {A : Type}
/-- a slice, and what it grew to -/
def stP (T : TypeId) (E : Enc A) (v w : SV) (xs ys : List A) : HProp := fun h => (w.a = v.a ∧ w.c = v.c ∧ v.n = xs.length ∧ slA T E w.val (xs ++ ys) h) ∨ sat [slA T E v.val xs, slA T E w.val (xs ++ ys)] h
theorem slA_prefix {T : TypeId} {E : Enc A} {v w : SV} {xs ys : List A} {h : Heap} (ha : w.a = v.a) (hc : w.c = v.c) (hn : v.n = xs.length) (H : slA T E w.val (xs ++ ys) h) : slA T E v.val xs h := by
  have h1 := slA_cut H (lo := 0) (hi := xs.length) (Nat.zero_le _) (by simp)
  rw [List.take_left', List.drop_zero] at h1
  · have e : cutV w.val E.sz 0 xs.length = v.val := by
      rw [cutV_val]
      obtain ⟨a, n, c⟩ := v
      obtain ⟨a', n', c'⟩ := w
      simp only at ha hc hn
      subst ha hc hn
      have : a'.map (fun x => x.add 0) = a' := by cases a' <;> simp [Addr.add]
      simp [SV.cut, this]
    rw [e] at h1; exact h1
  · rfl
theorem slA_n {T : TypeId} {E : Enc A} {v : SV} {xs : List A} {h : Heap} (H : slA T E v.val xs h) : v.n = xs.length := by
  obtain ⟨a, c, e, _⟩ := slA_shape H
  simp only [SV.val, Value.slice.injEq] at e
  exact e.2.1
theorem stP_start {T : TypeId} {E : Enc A} {v : SV} {xs : List A} {h : Heap} (H : slA T E v.val xs h) : stP T E v v xs [] h := .inl ⟨rfl, rfl, slA_n H, by rw [List.append_nil]; exact H⟩
theorem stP_reads {T : TypeId} {E : Enc A} {v w : SV} {xs ys : List A} {h H : Heap} (hs : stP T E v w xs ys h) (hS : Sub h H) : SlR E.rd H v.val xs ∧ SlR E.rd H w.val (xs ++ ys) := by
  rcases hs with ⟨ha, hc, hn, hs⟩ | ⟨h1, h2, g1, ⟨h3, h4, g3, _, hd2, e2⟩, hd, e⟩
  · exact ⟨slA_lend (slA_prefix ha hc hn hs) hS, slA_lend hs hS⟩
  · subst e2; subst e
    have s1 : Sub h1 H := (sub_un_left _ _).trans hS
    have s2 : Sub h3 H := ((sub_un_left _ _).trans (sub_un_right hd)).trans hS
    exact ⟨slA_lend g1 s1, slA_lend g3 s2⟩
end
section
variable {P : Program} {hR : Heap} {n : Fr} {cf : Op → Cls} {ops : Array Oper} {l : List Oper} {K : Env → List HProp → Prop} {ρ : Env} {Γ : List HProp} {o : Oper} {d : Nat}
variable {A : Type} {TE : TypeId} {E : Enc A} {v w : SV} {xs ys zs : List A}
theorem Run.appendSt (k : Nat) {T : TypeId} {x y : Operand} {v2 : Value} {by' : Nat} {z : Value} (hop : o.op = .call { callee := .builtin .append, args := #[x, y], argTypes := #[T, T] })
    (hx : ρ.val x = some w.val) (hy : ρ.val y = some v2) (_hd : o.dst = some d) (hs : preC .E n cf ops ρ o d = true)
    (hk : Γ[k]? = some (stP TE E v w xs ys)) (hT : slT P T = some (TE, E.sz, by')) (hz : zr P TE = some z) (hzs : z.cells.size = E.sz) (hsrc : ∀ h w, sat Γ h → Fits hR h w → SlR E.rd (hp w) v2 zs)
    (hb : (xs.length + ys.length + zs.length) * by' ≤ 140737488355328) (h63 : xs.length + ys.length + zs.length ≤ 9223372036854775807)
    (H : ∀ sv : SV, Run P hR n cf ops l K ((d, sv.val) :: ρ) (Γ.set k (stP TE E v sv xs (ys ++ zs)))) : Run P hR n cf ops (o :: l) K ρ Γ := by
  obtain ⟨rest, p1, p2⟩ := perm1 hk
  have hkl := (List.getElem?_eq_some_iff.1 hk).1
  have e1 : ∀ (B C : HProp) (Θ : List HProp), (∀ h, sat (B :: Θ) h → C h) → ent (Γ.set k B ++ Θ) (Γ.set k C) := fun B C Θ h => by
    have q1 : (Γ.set k B ++ Θ).Perm ((B :: Θ) ++ rest) := ((p2 B).append_right Θ).trans ((List.perm_append_comm (l₁ := rest) (l₂ := Θ)).cons B)
    refine (ent.perm q1).trans (ent.trans ?_ (ent.perm (p2 C).symm))
    intro h' hs'
    obtain ⟨h1, h2, g1, g2, hd, e⟩ := sat_append.1 hs'
    exact ⟨h1, h2, h _ g1, g2, hd, e⟩
  have e1' : ∀ (B C : HProp), (∀ h, B h → C h) → ent (Γ.set k B) (Γ.set k C) := fun B C h => (ent.perm (p2 B)).trans ((ent.cons h (ent.refl _)).trans (ent.perm (p2 C).symm))
  have eself : Γ.set k (stP TE E v w xs ys) = Γ := by
    apply List.ext_getElem?; intro i
    by_cases hi : k = i
    · subst hi; rw [List.getElem?_set_self hkl, hk]
    · rw [List.getElem?_set_ne hi]
  have hl : (xs ++ ys).length + zs.length = xs.length + ys.length + zs.length := by rw [List.length_append]
  refine Run.opens (α := {b : Bool // b = true → w.a = v.a ∧ w.c = v.c ∧ v.n = xs.length}) (Γ' := fun b => Γ.set k (slA TE E w.val (xs ++ ys)) ++ (if b.1 then [] else [slA TE E v.val xs])) (fun h hs => ?_) (fun b => ?_)
  · obtain ⟨h1, h2, g1, g2, hd, e⟩ := sat_perm p1 hs
    rcases g1 with ⟨ha, hc, hn, g1⟩ | g1
    · refine ⟨⟨true, fun _ => ⟨ha, hc, hn⟩⟩, ?_⟩
      show sat (Γ.set k (slA TE E w.val (xs ++ ys)) ++ []) h
      rw [List.append_nil]
      exact sat_perm (p2 _).symm ⟨h1, h2, g1, g2, hd, e⟩
    · refine ⟨⟨false, fun h => by cases h⟩, ?_⟩
      show sat (Γ.set k (slA TE E w.val (xs ++ ys)) ++ [slA TE E v.val xs]) h
      have g3 : sat ([slA TE E v.val xs, slA TE E w.val (xs ++ ys)] ++ rest) h := sat_append.2 ⟨h1, h2, g1, g2, hd, e⟩
      refine sat_perm ?_ g3
      refine List.Perm.trans ?_ ((p2 (slA TE E w.val (xs ++ ys))).append_right [slA TE E v.val xs]).symm
      exact (List.Perm.swap _ _ _).trans ((List.perm_append_comm (l₁ := [slA TE E v.val xs]) (l₂ := rest)).cons _)
  · obtain ⟨b, hbf⟩ := b
    cases b with
    | true =>
      obtain ⟨ha, hc, hn⟩ := hbf rfl
      simp only [if_true, List.append_nil]
      refine Run.append2 k hop hx hy _hd hs (by rw [List.getElem?_set_self hkl]) hT hz hzs (fun h w' hs' hf => hsrc h w' ?_ hf) (by rw [hl]; exact hb) (by rw [hl]; exact h63) (fun sv hn' ha' hc' => ?_) (fun sv hn' => ?_)
      · have := e1' _ (stP TE E v w xs ys) (fun h hh => .inl ⟨ha, hc, hn, hh⟩) h hs'
        rw [eself] at this; exact this
      · refine Run.via ?_ (H sv)
        rw [List.set_set, List.append_assoc]
        exact e1' _ _ fun h hh => .inl ⟨ha'.trans ha, hc'.trans hc, hn, hh⟩
      · refine Run.via ?_ (H sv)
        rw [List.append_assoc]
        exact e1 _ _ _ fun h hh => .inr ⟨_, _, slA_prefix ha hc hn hh.choose_spec.choose_spec.1, hh.choose_spec.choose_spec.2.1, hh.choose_spec.choose_spec.2.2⟩
    | false =>
      simp only [Bool.false_eq_true, if_false]
      refine Run.append2 k hop hx hy _hd hs (by rw [List.getElem?_append_left (by simpa using hkl), List.getElem?_set_self hkl]) hT hz hzs (fun h w' hs' hf => hsrc h w' ?_ hf) (by rw [hl]; exact hb) (by rw [hl]; exact h63) (fun sv hn' ha' hc' => ?_) (fun sv hn' => ?_)
      · have := e1 _ (stP TE E v w xs ys) [slA TE E v.val xs] (fun h hh => .inr (sat_perm (List.Perm.swap _ _ _) hh)) h hs'
        rw [eself] at this; exact this
      · refine Run.via ?_ (H sv)
        rw [List.set_append_left _ _ (by simpa using hkl), List.set_set, List.append_assoc]
        exact e1 _ _ _ fun h hh => .inr (sat_perm (List.Perm.swap _ _ _) hh)
      · refine Run.via ?_ (H sv)
        rw [List.append_assoc, List.append_assoc]
        exact e1 _ _ _ fun h hh => .inr (by obtain ⟨a1, a2, b1, b2, b3, b4⟩ := hh; subst b4; rw [un_comm b3]; exact sat_mono b2 b3.symm)
end
end Go.Sep
end
