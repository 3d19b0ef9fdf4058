/- Rules of the operations that read and write memory, and of calls. Over any program. -/
import Derived.Test.YtengcfamhoppbaaS5
namespace Go.Sep

/-! ### Pieces of memory -/
def blk (b : Nat) (cs : List Value) (T : TypeId) : HProp := fun h => h = put emp b (.cells ⟨cs⟩ T (0, 0))
def mp (b : Nat) (es : List MapEntry) (clock : Nat) : HProp := fun h => h = put emp b (.map ⟨es⟩ clock)

theorem sat_get : ∀ {Γ : List HProp} {k : Nat} {A : HProp} {h : Heap}, sat Γ h → Γ[k]? = some A →
    ∃ h1 h2, A h1 ∧ Disj h1 h2 ∧ h = un h1 h2 ∧ ∀ (A' : HProp) h1', A' h1' → Disj h1' h2 → sat (Γ.set k A') (un h1' h2)
  | [], _, _, _, _, hk => by simp at hk
  | B :: Γ, 0, A, _, ⟨h1, h2, g1, g2, hd, e⟩, hk => by
    simp at hk; subst hk e
    exact ⟨h1, h2, g1, hd, rfl, fun A' h1' ha hd' => ⟨h1', h2, ha, g2, hd', rfl⟩⟩
  | B :: Γ, k + 1, A, _, ⟨h1, h2, g1, g2, hd, e⟩, hk => by
    subst e
    obtain ⟨h3, h4, g3, hd', e, hset⟩ := sat_get g2 (by simpa using hk)
    subst e
    obtain ⟨d1, d2⟩ := disj_un.1 hd
    refine ⟨h3, un h1 h4, g3, disj_un.2 ⟨d1.symm, hd'⟩, ?_, fun A' h3' ha hd3 => ?_⟩
    · rw [← un_assoc, ← un_assoc, un_comm d1]
    · obtain ⟨e1, e2⟩ := disj_un.1 hd3
      refine ⟨h1, un h3' h4, g1, hset A' h3' ha e2, disj_un.2 ⟨e1.symm, d2⟩, ?_⟩
      rw [← un_assoc, ← un_assoc, un_comm e1]

theorem sat_snoc {Γ : List HProp} {A : HProp} {h : Heap} {b : Nat} {ob : Obj} (hs : sat Γ h) (hb : h b = none) (hA : A (put emp b ob)) : sat (Γ ++ [A]) (put h b ob) := by
  refine sat_append.2 ⟨h, put emp b ob, hs, ⟨put emp b ob, emp, hA, trivial, fun _ => .inr rfl, (un_emp _ fun _ => rfl).symm⟩, fun c => ?_, ?_⟩
  · by_cases hc : c = b
    · subst hc; exact .inl hb
    · exact .inr (by simp [put, hc, emp])
  · funext c; unfold un put
    by_cases hc : c = b
    · subst hc; simp [hb]
    · simp [hc, emp]

theorem put_emp_self {b : Nat} {o : Obj} : put emp b o b = some o := by simp [put]
theorem un_left_some {h g : Heap} {b : Nat} {o : Obj} (hb : h b = some o) : un h g b = some o := by simp [un, hb]

/-- a cell of a heap -/
def cellH (h : Heap) (p : Addr) (v : Value) : Prop := ∃ c T fz, h p.block = some (.cells c T fz) ∧ p.spot = none ∧ c[p.off]? = some v
def rowH (h : Heap) (p : Addr) (cs : List Value) : Prop := ∀ j v, cs[j]? = some v → cellH h (p.add j) v

theorem cellH.mono {h g : Heap} {p : Addr} {v : Value} (hs : Sub h g) (H : cellH h p v) : cellH g p v :=
  let ⟨c, T, fz, h1, h2, h3⟩ := H; ⟨c, T, fz, hs _ _ h1, h2, h3⟩
theorem rowH.mono {h g : Heap} {p : Addr} {cs : List Value} (hs : Sub h g) (H : rowH h p cs) : rowH g p cs := fun j v hj => (H j v hj).mono hs

theorem cell?_of {w : World} {p : Addr} {c : Array Value} {T : TypeId} {fz : Nat × Nat} {v : Value} (h : hp w p.block = some (.cells c T fz)) (hs : p.spot = none) (hv : c[p.off]? = some v) : w.cell? p = some v := by
  unfold hp at h
  simp [World.cell?, h, hs, hv]

theorem add_block (p : Addr) (k : Nat) : (p.add k).block = p.block := by unfold Addr.add; split <;> rfl
theorem add_off (p : Addr) (k : Nat) : (p.add k).off = p.off + k := by unfold Addr.add; split <;> simp_all
theorem add_spot {p : Addr} (k : Nat) (h : p.spot = none) : (p.add k).spot = none := by unfold Addr.add; split <;> simp_all
theorem add_add (p : Addr) (j k : Nat) : (p.add j).add k = p.add (j + k) := by
  unfold Addr.add
  by_cases hj : j = 0
  · subst hj; simp
  · by_cases hk : k = 0
    · subst hk; simp [hj]
    · simp [hj, hk, Nat.add_assoc]
theorem add_lit (b o k : Nat) : (⟨b, o, none⟩ : Addr).add k = ⟨b, o + k, none⟩ := by
  unfold Addr.add; split
  · rename_i h; simp [h]
  · rfl

/-- is a type an aggregate? -/
def ag (P : Program) (T : TypeId) : Option (Bool × Nat) :=
  match P.underlying T, P.info? T with
  | some (.struct _), some i | some (.array _ _), some i => some (true, i.size)
  | some _, some i => some (false, i.size)
  | _, _ => none

theorem ag_spec {P : Program} {T : TypeId} {b : Bool} {s : Nat} (h : ag P T = some (b, s)) (w : World) : (isAgg T).run P w = .ok b w ∧ (sizeOf T).run P w = .ok s w := by
  unfold ag at h
  split at h <;> first | (cases h; done) | skip
  all_goals
    cases h
    rename_i h1 h2
    simp only [isAgg, sizeOf, underlying, typeInfo, Sem.run_bind, run_program, Result.andThen_ok, h1, h2, Sem.run_pure, and_self]

section
variable {P : Program} {hR : Heap} {n : Nat} {cf : Op → Cls} {ops : Array Oper} {l : List Oper} {K : Env → List HProp → Prop} {ρ : Env} {Γ : List HProp} {o : Oper} {d : Nat}

theorem preC_spec {c : Cls} (h : preC c n cf ops ρ o d = true) : o.dst = some d ∧ d < n ∧ cf o.op = c ∧ gd ops ρ o = some true := by
  simp only [preC, Bool.and_eq_true, beq_iff_eq, decide_eq_true_eq] at h
  exact ⟨h.1.1.1, h.1.1.2, h.1.2, h.2⟩

theorem Run.load_of {T : TypeId} {x : Operand} {p : Addr} {v : Value} (hop : o.op = .load T x) (hx : ρ.val x = some (.pointer (some p)))
    (hs : preC .R n cf ops ρ o d = true)
    (hv : ∀ h, sat Γ h → ∃ ob, (hR p.block = some ob ∨ h p.block = some ob) ∧ ∀ w, hp w p.block = some ob → (loadVar T p).run P w = .ok v w)
    (H : Run P hR n cf ops l K ((d, v) :: ρ) Γ) : Run P hR n cf ops (o :: l) K ρ Γ := by
  intro a h ho ht hl
  obtain ⟨h1, h2, h3, h4⟩ := preC_spec hs
  unfold opsRun
  rw [gd_wanted ho h4, if_pos rfl]
  obtain ⟨ob, hob, hrun⟩ := hv h ht
  have ho' : Ok n ((d, v) :: ρ) (a.put o.dst v) := by rw [h1]; exact ho.put h2 v
  rw [h3]
  refine ⟨v, ⟨p.block, ob, by simp [rblk, hop, ho.eval hx], hob, fun w hw => ?_⟩, H _ h ho' ht hl⟩
  simp only [execOp, hop, ho.eval hx, Instr.loadAt, Instr.sureAddr, Sem.run_bind, Sem.run_pure, Result.andThen_ok, hrun w hw]

theorem loadVar_cell {T : TypeId} {p : Addr} {v : Value} {c : Array Value} {U : TypeId} {fz : Nat × Nat} {s : Nat} (hT : ag P T = some (false, s)) (hsp : p.spot = none) (hv : c[p.off]? = some v)
    (w : World) (hw : hp w p.block = some (.cells c U fz)) : (loadVar T p).run P w = .ok v w := by
  simp [loadVar, (ag_spec hT w).1, cell?_of hw hsp hv]

theorem loadVar_row {T : TypeId} {p : Addr} {cs : List Value} (hT : ag P T = some (true, cs.length))
    (w : World) (hw : ∀ j v, cs[j]? = some v → w.cell? (p.add j) = some v) : (loadVar T p).run P w = .ok (.agg ⟨cs⟩) w := by
  have := run_loadCells_list (P := P) w p cs hw
  simp [loadVar, (ag_spec hT w).1, (ag_spec hT w).2, this]

/-- a cell that is read only -/
theorem Run.loadR {T : TypeId} {x : Operand} {p : Addr} {v : Value} {s : Nat} (hop : o.op = .load T x) (hx : ρ.val x = some (.pointer (some p))) (hT : ag P T = some (false, s))
    (_hd : o.dst = some d) (hs : preC .R n cf ops ρ o d = true) (hv : cellH hR p v) (H : Run P hR n cf ops l K ((d, v) :: ρ) Γ) : Run P hR n cf ops (o :: l) K ρ Γ :=
  Run.load_of hop hx hs (fun h _ => by
    obtain ⟨c, U, fz, h1, h2, h3⟩ := hv
    exact ⟨_, .inl h1, fun w hw => loadVar_cell hT h2 h3 w hw⟩) H

theorem rowH_block {h : Heap} {p : Addr} {cs : List Value} (H : rowH h p cs) (hne : cs ≠ []) : ∃ c T fz, h p.block = some (.cells c T fz) ∧ p.spot = none ∧ ∀ j v, cs[j]? = some v → c[p.off + j]? = some v := by
  cases cs with
  | nil => exact absurd rfl hne
  | cons x xs =>
    obtain ⟨c, T, fz, h1, h2, h3⟩ := H 0 x rfl
    have e0 : p.add 0 = p := by simp [Addr.add]
    rw [e0] at h1 h2 h3
    refine ⟨c, T, fz, h1, h2, fun j v hj => ?_⟩
    obtain ⟨c', T', fz', g1, g2, g3⟩ := H j v hj
    rw [add_block, h1] at g1
    cases g1
    rw [add_off] at g3
    exact g3

theorem Run.loadRagg {T : TypeId} {x : Operand} {p : Addr} {cs : List Value} {m : Nat} (hop : o.op = .load T x) (hx : ρ.val x = some (.pointer (some p))) (hT' : ag P T = some (true, m + 1))
    (_hd : o.dst = some d) (hs : preC .R n cf ops ρ o d = true) (hv : rowH hR p cs) (hm : cs.length = m + 1) (H : Run P hR n cf ops l K ((d, .agg ⟨cs⟩) :: ρ) Γ) : Run P hR n cf ops (o :: l) K ρ Γ :=
  Run.load_of hop hx hs (fun h _ => by
    have hT : ag P T = some (true, cs.length) := by rw [hm]; exact hT'
    obtain ⟨c, U, fz, h1, h2, h3⟩ := rowH_block hv (by intro e; rw [e] at hm; simp at hm)
    exact ⟨_, .inl h1, fun w hw => loadVar_row hT w fun j v hj => cell?_of (by rw [add_block]; exact hw) (add_spot _ h2) (by rw [add_off]; exact h3 j v hj)⟩) H

/-- a cell of a block that is owned -/
theorem Run.loadB (k : Nat) {T U : TypeId} {x : Operand} {p : Addr} {v : Value} {s b off : Nat} {cs : List Value} (hop : o.op = .load T x) (hx : ρ.val x = some (.pointer (some p))) (hT : ag P T = some (false, s))
    (_hd : o.dst = some d) (hs : preC .R n cf ops ρ o d = true) (hk : Γ[k]? = some (blk b cs U)) (hp' : p = ⟨b, off, none⟩) (hv : cs[off]? = some v) (H : Run P hR n cf ops l K ((d, v) :: ρ) Γ) : Run P hR n cf ops (o :: l) K ρ Γ :=
  Run.load_of hop hx hs (fun h ht => by
    obtain ⟨h1, h2, g1, hd, rfl, _⟩ := sat_get ht hk
    subst hp' g1
    exact ⟨_, .inr (un_left_some put_emp_self), fun w hw => loadVar_cell hT rfl (by simpa using hv) w hw⟩) H

def takeO : Nat → List Value → Option (List Value)
  | 0, _ => some []
  | n + 1, v :: l => match takeO n l with | some r => some (v :: r) | none => none
  | _ + 1, [] => none
theorem takeO_spec : ∀ {m : Nat} {cs vs : List Value}, takeO m cs = some vs → vs.length = m ∧ ∀ (j : Nat) (v : Value), vs[j]? = some v → cs[j]? = some v
  | 0, _, vs, h => by simp only [takeO, Option.some.injEq] at h; subst h; simp
  | n + 1, c :: l, vs, h => by
    simp only [takeO] at h
    split at h
    · rename_i r hr
      cases h
      obtain ⟨h1, h2⟩ := takeO_spec hr
      refine ⟨by simp [h1], fun j v hj => ?_⟩
      cases j with
      | zero => exact hj
      | succ j => exact h2 j v (by simpa using hj)
    · cases h
  | _ + 1, [], _, h => by simp [takeO] at h

theorem Run.loadBagg (k : Nat) {T U : TypeId} {x : Operand} {p : Addr} {b off m : Nat} {cs vs : List Value} (hop : o.op = .load T x) (hx : ρ.val x = some (.pointer (some p))) (hT' : ag P T = some (true, m))
    (_hd : o.dst = some d) (hs : preC .R n cf ops ρ o d = true) (hk : Γ[k]? = some (blk b cs U)) (hp' : p = ⟨b, off, none⟩) (hvs : takeO m (cs.drop off) = some vs) (H : Run P hR n cf ops l K ((d, .agg ⟨vs⟩) :: ρ) Γ) :
    Run P hR n cf ops (o :: l) K ρ Γ :=
  Run.load_of hop hx hs (fun h ht => by
    obtain ⟨hl1, hl2⟩ := takeO_spec hvs
    have hT : ag P T = some (true, vs.length) := by rw [hl1]; exact hT'
    have hv : ∀ j v, vs[j]? = some v → cs[off + j]? = some v := fun j v hj => by have := hl2 j v hj; rwa [List.getElem?_drop] at this
    obtain ⟨h1, h2, g1, hd, rfl, _⟩ := sat_get ht hk
    subst hp' g1
    refine ⟨_, .inr (un_left_some put_emp_self), fun w hw => loadVar_row hT w fun j v hj => cell?_of (by rw [add_block]; exact hw) (add_spot _ rfl) (by rw [add_off]; simpa using hv j v hj)⟩) H

/-! ### New memory -/
theorem Run.alloc_of {ob : Obj} {val : Nat → Value} {A : Nat → HProp} (hs : preC .A n cf ops ρ o d = true)
    (hrun : ∀ a, Ok n ρ a → ∀ w, (execOp a.eval o).run P w = .ok (.value (val w.heap.size)) (World.push w ob)) (hA : ∀ b, A b (put emp b ob))
    (H : ∀ b, Run P hR n cf ops l K ((d, val b) :: ρ) (Γ ++ [A b])) : Run P hR n cf ops (o :: l) K ρ Γ := by
  intro a h ho ht hl
  obtain ⟨h1, h2, h3, h4⟩ := preC_spec hs
  unfold opsRun
  rw [gd_wanted ho h4, if_pos rfl, h3]
  refine ⟨ob, val, hrun a ho, fun b hb hb' => ?_⟩
  have ho' : Ok n ((d, val b) :: ρ) (a.put o.dst (val b)) := by rw [h1]; exact ho.put h2 _
  exact H b _ _ ho' (sat_snoc ht hb' (hA b)) (hl.put _ hb hb')

theorem Run.box {E : TypeId} {x : Operand} {v : Value} {cs : List Value} (hop : o.op = .box E x) (hx : ρ.val x = some v) (hc : v.cells = ⟨cs⟩) (_hd : o.dst = some d) (hs : preC .A n cf ops ρ o d = true)
    (H : ∀ b, Run P hR n cf ops l K ((d, .pointer (some ⟨b, 0, none⟩)) :: ρ) (Γ ++ [blk b cs E])) : Run P hR n cf ops (o :: l) K ρ Γ :=
  Run.alloc_of (ob := .cells ⟨cs⟩ E (0, 0)) (val := fun b => .pointer (some ⟨b, 0, none⟩)) (A := fun b => blk b cs E) hs (fun a ho w => by
    simp [execOp, hop, ho.eval hx, Instr.box, newVar, newRow, hc, World.push]) (fun b => rfl) H

def zr (P : Program) (T : TypeId) : Option Value := (P.info? T).bind (·.zero)
theorem zr_spec {T : TypeId} {z : Value} (h : zr P T = some z) (w : World) : (zeroValue T).run P w = .ok z w := by
  unfold zr at h
  cases hi : P.info? T with
  | none => simp [hi] at h
  | some i => simp [hi] at h; simp [zeroValue, typeInfo, hi, h]

theorem Run.alloc {E : TypeId} {z : Value} {cs : List Value} (hop : o.op = .alloc E) (hz : zr P E = some z) (hc : z.cells = ⟨cs⟩) (_hd : o.dst = some d) (hs : preC .A n cf ops ρ o d = true)
    (H : ∀ b, Run P hR n cf ops l K ((d, .pointer (some ⟨b, 0, none⟩)) :: ρ) (Γ ++ [blk b cs E])) : Run P hR n cf ops (o :: l) K ρ Γ :=
  Run.alloc_of (ob := .cells ⟨cs⟩ E (0, 0)) (val := fun b => .pointer (some ⟨b, 0, none⟩)) (A := fun b => blk b cs E) hs (fun a ho w => by
    simp [execOp, hop, Instr.alloc, newVar, newRow, hc, World.push, zr_spec hz]) (fun b => rfl) H

theorem Run.makeMap {T : TypeId} (hop : o.op = .makeMap T none) (_hd : o.dst = some d) (hs : preC .A n cf ops ρ o d = true)
    (H : ∀ b, Run P hR n cf ops l K ((d, .map (some b)) :: ρ) (Γ ++ [mp b [] 0])) : Run P hR n cf ops (o :: l) K ρ Γ :=
  Run.alloc_of (ob := .map #[] 0) (val := fun b => .map (some b)) (A := fun b => mp b [] 0) hs (fun a ho w => by
    simp [execOp, hop, Instr.makeMap, newObj, World.push, Sem.run, pure]) (fun b => rfl) H

/-! ### Writing -/
def oneCells (vs : List Value) : Bool := vs.all Value.oneCell'
def setMany (c : Array Value) (off : Nat) : List Value → Array Value
  | [] => c
  | v :: vs => setMany (c.setIfInBounds off v) (off + 1) vs
def setManyL (c : List Value) (off : Nat) : List Value → List Value
  | [] => c
  | v :: vs => setManyL (c.set off v) (off + 1) vs
theorem setMany_list (c : List Value) : ∀ (vs : List Value) (off : Nat), setMany ⟨c⟩ off vs = ⟨setManyL c off vs⟩ := by
  intro vs
  induction vs generalizing c with
  | nil => intro off; rfl
  | cons v vs ih => intro off; simp only [setMany, setManyL, List.setIfInBounds_toArray]; exact ih _ _

def World.setObj (w : World) (b : Nat) (ob : Obj) : World := { w with heap := w.heap.setIfInBounds b ob }

theorem run_storeCells {b off : Nat} {T : TypeId} : ∀ (vs : List Value) (c : Array Value) (i : Nat) (w : World), hp w b = some (.cells c T (0, 0)) → oneCells vs = true → off + i + vs.length ≤ c.size →
    (storeCells ⟨b, off, none⟩ vs i).run P w = .ok () (World.setObj w b (.cells (setMany c (off + i) vs) T (0, 0)))
  | [], c, i, w, hw, _, _ => by
    unfold hp at hw
    have : World.setObj w b (.cells (setMany c (off + i) []) T (0, 0)) = w := by
      unfold World.setObj setMany
      congr 1
      apply Array.ext_getElem?
      intro j
      by_cases e : b = j
      · subst e; rw [hw, Array.getElem?_setIfInBounds_self_of_lt (Array.getElem?_eq_some_iff.1 hw).1]
      · rw [Array.getElem?_setIfInBounds_ne e]
    rw [this]; rfl
  | v :: vs, c, i, w, hw, h1, hlen => by
    have h1' : v.oneCell' = true ∧ oneCells vs = true := by simpa [oneCells] using h1
    have hw' := hw
    unfold hp at hw'
    have hlt := (Array.getElem?_eq_some_iff.1 hw').1
    simp only [List.length_cons] at hlen
    have hc : w.cell? ⟨b, off + i, none⟩ = some (c[off + i]'(by omega)) := cell?_of hw rfl (Array.getElem?_eq_getElem (show off + i < c.size by omega))
    have hfz : w.frozen? ⟨b, off + i, none⟩ = false := by simp [World.frozen?, hw']
    have hset : w.setCell ⟨b, off + i, none⟩ v = World.setObj w b (.cells (c.setIfInBounds (off + i) v) T (0, 0)) := by
      unfold World.setCell World.setObj
      congr 1
      apply Array.ext_getElem?
      intro j
      by_cases e : b = j
      · subst e; rw [Array.getElem?_modify, Array.getElem?_setIfInBounds_self_of_lt hlt, hw']; simp
      · rw [Array.getElem?_setIfInBounds_ne e, Array.getElem?_modify]; simp [e]
    have hw2 : hp (World.setObj w b (.cells (c.setIfInBounds (off + i) v) T (0, 0))) b = some (.cells (c.setIfInBounds (off + i) v) T (0, 0)) := by
      simp [hp, World.setObj, hlt]
    have ih := run_storeCells (off := off) vs (c.setIfInBounds (off + i) v) (i + 1) _ hw2 h1'.2 (by rw [Array.size_setIfInBounds]; omega)
    unfold storeCells
    simp only [Sem.run_bind]
    rw [add_lit, run_store _ _ _ _ _ h1'.1, hc]
    simp only [hfz, Bool.false_eq_true, if_false, Result.andThen_ok]
    rw [hset, ih]
    congr 1
    simp [World.setObj, setMany, Nat.add_assoc]

theorem step_write {w : World} {h g : Heap} {b : Nat} {ob ob' : Obj} (hs : Sub (un (put emp b ob) g) (hp w)) (hd : Disj (put emp b ob) g) (hh : h = un (put emp b ob) g) :
    Step w h (World.setObj w b ob') (un (put emp b ob') g) := by
  subst hh
  have hb : hp w b = some ob := hs b ob (un_left_some put_emp_self)
  have hlt := hp_lt hb
  refine ⟨fun c x hc => ?_, by simp [World.setObj], fun c hc hn => ?_, fun c hc => ?_, ⟨rfl, rfl, rfl⟩⟩
  · by_cases e : c = b
    · subst e
      rw [un_left_some put_emp_self] at hc; cases hc
      simp [hp, World.setObj, hlt]
    · have : g c = some x := by simpa [un, put, e, emp] using hc
      have hx := hs c x (by simp [un, put, e, emp, this])
      unfold hp World.setObj at *
      rw [Array.getElem?_setIfInBounds_ne (Ne.symm e)]; exact hx
  · have e : c ≠ b := fun e => by subst e; simp [un, put] at hn
    unfold hp World.setObj
    rw [Array.getElem?_setIfInBounds_ne (Ne.symm e)]
  · left
    by_cases e : c = b
    · subst e; simp [un, put]
    · simpa [un, put, e, emp] using hc

theorem preN_spec {c : Cls} (h : preN c cf ops ρ o = true) : o.dst = none ∧ cf o.op = c ∧ gd ops ρ o = some true := by
  simp only [preN, Bool.and_eq_true, beq_iff_eq, decide_eq_true_eq] at h
  exact ⟨h.1.1, h.1.2, h.2⟩

/-- something is written into the block of the k-th piece -/
theorem Run.write_of (k : Nat) {A : HProp} {A' : HProp} (hs : preN .E cf ops ρ o = true) (hk : Γ[k]? = some A)
    (hrun : ∀ a, Ok n ρ a → ∀ h1, A h1 → ∃ b ob ob', h1 = put emp b ob ∧ A' (put emp b ob') ∧ ∀ w, hp w b = some ob → (execOp a.eval o).run P w = .ok .skip (World.setObj w b ob'))
    (H : Run P hR n cf ops l K ρ (Γ.set k A')) : Run P hR n cf ops (o :: l) K ρ Γ := by
  intro a h ho ht hl
  obtain ⟨h1, h3, h4⟩ := preN_spec hs
  unfold opsRun
  rw [gd_wanted ho h4, if_pos rfl, h3]
  intro w f
  obtain ⟨g1, g2, gA, hd, e, hset⟩ := sat_get ht hk
  obtain ⟨b, ob, ob', rfl, hA', hr⟩ := hrun a ho g1 gA
  have hb : hp w b = some ob := f.own b ob (by rw [e]; exact un_left_some put_emp_self)
  unfold Oper.wp
  rw [hr w hb]
  have hst := step_write (ob' := ob') (by rw [← e]; exact f.own) hd e
  have hd' : Disj (put emp b ob') g2 := fun c => by
    by_cases hc : c = b
    · subst hc; exact .inr ((hd c).resolve_left (by simp [put]))
    · exact .inl (by simp [put, hc, emp])
  refine ⟨_, hst, ?_⟩
  rw [h1]
  exact H a _ ho (hset A' _ hA' hd') ⟨_, f.step hst⟩

theorem Run.storeB (k : Nat) {T U : TypeId} {x y : Operand} {p : Addr} {v : Value} {b off : Nat} {cs vs : List Value} {g : Bool} (hop : o.op = .store T x y) (hx : ρ.val x = some (.pointer (some p)))
    (hy : ρ.val y = some v) (hc : v.cells = ⟨vs⟩) (hT : ag P T = some (g, vs.length)) (h1 : oneCells vs = true)
    (hs : preN .E cf ops ρ o = true) (hk : Γ[k]? = some (blk b cs U)) (hp' : p = ⟨b, off, none⟩) (hlen' : Nat.ble (off + vs.length) cs.length = true)
    (H : Run P hR n cf ops l K ρ (Γ.set k (blk b (setManyL cs off vs) U))) : Run P hR n cf ops (o :: l) K ρ Γ :=
  Run.write_of k hs hk (fun a ho h1' hA => by
    have hlen := Nat.le_of_ble_eq_true hlen'
    refine ⟨b, .cells ⟨cs⟩ U (0, 0), .cells ⟨setManyL cs off vs⟩ U (0, 0), hA, rfl, fun w hw => ?_⟩
    subst hp'
    have hr := run_storeCells (P := P) (off := off) vs ⟨cs⟩ 0 w hw h1 (by simpa using hlen)
    rw [Nat.add_zero, setMany_list] at hr
    simp [execOp, hop, ho.eval hx, ho.eval hy, Instr.storeAt, Instr.sureAddr, storeVar, hc, (ag_spec hT w).2, hr]) H

/-! ### Calls -/
def calleeOk (P : Program) (f : FuncId) : Bool := match P.funcs[f]? with
  | some fn => fn.name != "runtime.NumGoroutine" && fn.body.isSome
  | none => false

theorem run_callFunc {f : FuncId} (h : calleeOk P f = true) (args : Array Value) (w : World) : (callFunc f args).run P w = .ok (.enter f args) w := by
  unfold calleeOk at h
  split at h
  · rename_i fn hf
    simp only [Bool.and_eq_true, bne_iff_ne, ne_eq] at h
    have hb : fn.body.isNone = false := by cases hx : fn.body <;> simp [hx] at h ⊢
    simp only [callFunc, Sem.run_bind, run_program, Result.andThen_ok, hf]
    rw [if_neg (by simpa using h.1)]
    simp only [hb, Bool.false_eq_true, if_false, Sem.run_pure]
  · cases h

/-- a call: what the callee takes of the memory is 'Δ', the rest stays -/
theorem Run.call {Δ Θ : List HProp} {R : Value → List HProp → Prop} {f : FuncId} {c : Call} {x : Operand} {first captured : Array Value} {vs : List Value} (hop : o.op = .call c) (hc : c.callee = .value x)
    (hx : ρ.val x = some (.func (.func f) first captured)) (hargs : collectV (c.args.toList.map ρ.val) = some vs) (hf : calleeOk P f = true) (_hd : o.dst = some d) (hs : preC .E n cf ops ρ o d = true)
    (he : ent Γ (Δ ++ Θ)) (hT : Tri P hR f (first ++ vs.toArray ++ captured) Δ R) (H : ∀ v Γ', R v Γ' → Run P hR n cf ops l K ((d, v) :: ρ) (Γ' ++ Θ)) : Run P hR n cf ops (o :: l) K ρ Γ := by
  intro a h ho ht hl
  obtain ⟨h1, h2, h3, h4⟩ := preC_spec hs
  unfold opsRun
  rw [gd_wanted ho h4, if_pos rfl, h3]
  intro w fi
  have hargs' : c.args.map a.eval = vs.toArray := by
    apply Array.ext'; simpa using evals ho c.args.toList vs (collectV_spec hargs)
  have hrun : (execOp a.eval o).run P w = .ok (.enter f (first ++ vs.toArray ++ captured)) w := by
    simp [execOp, hop, resolve, hc, ho.eval hx, Deferred.ofValue, invoke, hargs', run_callFunc hf]
  unfold Oper.wp
  rw [hrun]
  refine Calls.mono ((hT.frame Θ) h w (he h ht) fi) ?_
  rintro e w' ⟨v, h', Γ', rfl, s, t, Γ1, rfl, r⟩
  refine ⟨h', s, H v Γ1 r _ h' ?_ t ⟨_, fi.step s⟩⟩
  rw [h1]; exact ho.put h2 v

/-- the same, where 'Θ' is lent for reading too -/
theorem Run.callLend {Δ Θ Ξ : List HProp} {R : Value → List HProp → Prop} {f : FuncId} {c : Call} {x : Operand} {first captured : Array Value} {vs : List Value} (hop : o.op = .call c) (hc : c.callee = .value x)
    (hx : ρ.val x = some (.func (.func f) first captured)) (hargs : collectV (c.args.toList.map ρ.val) = some vs) (hf : calleeOk P f = true) (_hd : o.dst = some d) (hs : preC .E n cf ops ρ o d = true)
    (he : ent Γ ((Δ ++ Θ) ++ Ξ)) (hT : ∀ g, sat Θ g → Disj hR g → Tri P (un hR g) f (first ++ vs.toArray ++ captured) Δ R)
    (H : ∀ v Γ', R v Γ' → Run P hR n cf ops l K ((d, v) :: ρ) ((Γ' ++ Θ) ++ Ξ)) : Run P hR n cf ops (o :: l) K ρ Γ :=
  Run.call hop hc hx hargs hf _hd hs he (Tri.lend Θ hT) (fun v Γ' ⟨Γ1, e, r⟩ => by subst e; exact H v Γ1 r)
end
end Go.Sep
