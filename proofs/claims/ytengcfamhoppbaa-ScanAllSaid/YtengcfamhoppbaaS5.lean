/- Rules of the operations that reckon. Over any program. -/
import Derived.Test.YtengcfamhoppbaaS4
import Derived.Laws.Sem
import Derived.Laws.Cells
import Derived.Laws.Slices
namespace Go.Sep

def cf0 : Op → Cls
  | .move _ | .assign _ | .pick .. | .build .. | .fieldAddr .. | .field .. | .binOp .. | .unOp .. | .makeFunc .. | .extract .. | .indexAddr .. | .index .. | .slice .. | .nilCheck _
  | .makeInterface .. => .P
  | .call { callee := .builtin .len, .. } | .call { callee := .builtin .cap, .. } | .call { callee := .builtin .max, .. } | .call { callee := .builtin .min, .. } => .P
  | .load .. | .lookup .. => .R
  | .alloc _ | .box .. | .buildSlice .. | .makeMap .. | .makeSlice .. => .A
  | _ => .E

def gd (ops : Array Oper) (ρ : Env) (o : Oper) : Option Bool :=
  match o.guard with
  | none => some true
  | some (j, want) => match ((ops[j]?).bind (·.dst)).bind ρ.get with
    | some (.bool b) => some (b == want)
    | some (.tuple _) => some false
    | _ => none

theorem gd_wanted {n : Nat} {ops : Array Oper} {ρ : Env} {o : Oper} {a : Act} {b : Bool} (ho : Ok n ρ a) (h : gd ops ρ o = some b) : Region.wanted o (yielded ops a.tmps) = b := by
  unfold gd at h
  unfold Region.wanted
  cases hg : o.guard with
  | none => simp only [hg] at h; cases h; rfl
  | some jw =>
    obtain ⟨j, want⟩ := jw
    simp only [hg] at h ⊢
    unfold yielded
    cases hd : (ops[j]?).bind (·.dst) with
    | none => simp [hd] at h
    | some t =>
      simp only [hd, Option.bind_some] at h ⊢
      cases hv : ρ.get t with
      | none => simp [hv] at h
      | some v =>
        simp only [hv] at h
        rw [ho.get t v hv]
        cases v <;> simp at h
        · rename_i b'
          simp only
          rw [← h]
          cases b' <;> cases want <;> rfl
        · simp only
          rw [h]
          cases want <;> rfl

def peB : Cls → Bool
  | .P | .E => true
  | _ => false
/-- what an operation that reckons asks of the place where it stands -/
def pre (n : Nat) (cf : Op → Cls) (ops : Array Oper) (ρ : Env) (o : Oper) (d : Nat) : Bool :=
  (o.dst == some d) && decide (d < n) && peB (cf o.op) && (gd ops ρ o == some true)
/-- the same, of any class -/
def preC (c : Cls) (n : Nat) (cf : Op → Cls) (ops : Array Oper) (ρ : Env) (o : Oper) (d : Nat) : Bool :=
  (o.dst == some d) && decide (d < n) && decide (cf o.op = c) && (gd ops ρ o == some true)
/-- the same, of an operation that gives nothing -/
def preN (c : Cls) (cf : Op → Cls) (ops : Array Oper) (ρ : Env) (o : Oper) : Bool :=
  (o.dst == none) && decide (cf o.op = c) && (gd ops ρ o == some true)

section
variable {P : Program} {hR : Heap} {n : Nat} {cf : Op → Cls} {ops : Array Oper} {l : List Oper} {K : Env → List HProp → Prop} {ρ : Env} {Γ : List HProp} {o : Oper} {d : Nat}

theorem Run.nil (H : K ρ Γ) : Run P hR n cf ops [] K ρ Γ := fun _ _ ho hs _ => ⟨ρ, Γ, ho, hs, H⟩

theorem Run.weaken {ρ' : Env} {Γ' : List HProp} (hc : covers ρ ρ') (he : ent Γ Γ') (H : Run P hR n cf ops l K ρ' Γ') : Run P hR n cf ops l K ρ Γ :=
  fun a h ho hs hl => H a h (ho.weaken hc) (he h hs) hl

theorem Run.via {Γ' : List HProp} (he : ent Γ Γ') (H : Run P hR n cf ops l K ρ Γ') : Run P hR n cf ops l K ρ Γ :=
  fun a h ho hs hl => H a h ho (he h hs) hl

theorem Run.tt {p : Prop} [Decidable p] (h : p) (H : Run P hR n cf ops l K ((d, .bool true) :: ρ) Γ) : Run P hR n cf ops l K ((d, .bool (decide p)) :: ρ) Γ := by
  rw [decide_eq_true h]; exact H
theorem Run.ff {p : Prop} [Decidable p] (h : ¬ p) (H : Run P hR n cf ops l K ((d, .bool false) :: ρ) Γ) : Run P hR n cf ops l K ((d, .bool (decide p)) :: ρ) Γ := by
  rw [decide_eq_false h]; exact H
theorem Run.eqv {v v' : Value} (h : v = v') (H : Run P hR n cf ops l K ((d, v') :: ρ) Γ) : Run P hR n cf ops l K ((d, v) :: ρ) Γ := by
  rw [h]; exact H

theorem Run.opens {α : Type} {Γ' : α → List HProp} (he : ∀ h, sat Γ h → ∃ x, sat (Γ' x) h) (H : ∀ x, Run P hR n cf ops l K ρ (Γ' x)) : Run P hR n cf ops l K ρ Γ :=
  fun a h ho hs hl => let ⟨x, hx⟩ := he h hs; H x a h ho hx hl

theorem Run.not (hg : gd ops ρ o = some false) (hd : dstOk n o.dst = true) (H : Run P hR n cf ops l K (ρ.ext o.dst undef) Γ) : Run P hR n cf ops (o :: l) K ρ Γ := by
  intro a h ho hs hl
  unfold opsRun
  rw [gd_wanted ho hg]
  exact H _ h (ho.ext hd undef) hs hl

theorem Run.val {v : Value} (hs : pre n cf ops ρ o d = true) (hv : ∀ a h, Ok n ρ a → sat Γ h → ∀ w, (execOp a.eval o).run P w = .ok (.value v) w) (H : Run P hR n cf ops l K ((d, v) :: ρ) Γ) :
    Run P hR n cf ops (o :: l) K ρ Γ := by
  intro a h ho ht hl
  simp only [pre, Bool.and_eq_true, beq_iff_eq, decide_eq_true_eq] at hs
  obtain ⟨⟨⟨h1, h2⟩, h3⟩, h4⟩ := hs
  unfold opsRun
  rw [gd_wanted ho h4, if_pos rfl]
  have ho' : Ok n ((d, v) :: ρ) (a.put o.dst v) := by rw [h1]; exact ho.put h2 v
  have hv' := hv a h ho ht
  generalize cf o.op = c at h3 ⊢
  cases c with
  | P => exact ⟨v, fun w _ => hv' w, H _ h ho' ht hl⟩
  | E =>
    intro w f
    unfold Oper.wp
    rw [hv' w]
    exact ⟨h, .refl f.own, H _ h ho' ht hl⟩
  | R => cases h3
  | A => cases h3

def mvOp : Op → Option Operand
  | .move x | .assign x => some x
  | _ => none
theorem Run.mv {x : Operand} {v : Value} (hx : mvOp o.op = some x) (hv : ρ.val x = some v) (_hd : o.dst = some d) (hs : pre n cf ops ρ o d = true) (H : Run P hR n cf ops l K ((d, v) :: ρ) Γ) :
    Run P hR n cf ops (o :: l) K ρ Γ :=
  Run.val hs (fun a h ho ht w => by
    have he := ho.eval hv
    unfold mvOp at hx
    split at hx <;> rename_i hop <;> first | (cases hx; done) | skip
    all_goals
      cases hx
      simp only [execOp, hop, he]; rfl) H

theorem Run.pick {c x y : Operand} {t : Bool} {v : Value} (hop : o.op = .pick c x y) (hc : ρ.val c = some (.bool t)) (hv : (bif t then ρ.val x else ρ.val y) = some v)
    (_hd : o.dst = some d) (hs : pre n cf ops ρ o d = true) (H : Run P hR n cf ops l K ((d, v) :: ρ) Γ) : Run P hR n cf ops (o :: l) K ρ Γ :=
  Run.val hs (fun a h ho ht w => by
    have he := ho.eval hc
    simp only [execOp, hop, he]
    cases t with
    | true => have := ho.eval (x := x) hv; simp only [this]; rfl
    | false => have := ho.eval (x := y) hv; simp only [this]; rfl) H

def intOpR (op : BinOp) (k : IntKind) (a b : Int) : Option Value :=
  match op with
  | .add => some (.int k (k.wrap (a + b)))
  | .sub => some (.int k (k.wrap (a - b)))
  | .mul => some (.int k (k.wrap (a * b)))
  | .quo => if b = 0 then none else some (.int k (k.wrap (a.tdiv b)))
  | .rem => if b = 0 then none else some (.int k (a.tmod b))
  | .and => some (.int k (k.wrap (BitVec.ofInt k.bits a &&& BitVec.ofInt k.bits b).toNat))
  | .or => some (.int k (k.wrap (BitVec.ofInt k.bits a ||| BitVec.ofInt k.bits b).toNat))
  | .xor => some (.int k (k.wrap (BitVec.ofInt k.bits a ^^^ BitVec.ofInt k.bits b).toNat))
  | .andNot => some (.int k (k.wrap (BitVec.ofInt k.bits a &&& ~~~ BitVec.ofInt k.bits b).toNat))
  | .eql => some (.bool (decide (a = b)))
  | .neq => some (.bool (decide (a ≠ b)))
  | .lss => some (.bool (decide (a < b)))
  | .leq => some (.bool (decide (a ≤ b)))
  | .gtr => some (.bool (decide (a > b)))
  | .geq => some (.bool (decide (a ≥ b)))
  | _ => none

theorem run_intOp {op : BinOp} {T : TypeId} {x y : Operand} {k : IntKind} {a b : Int} {v : Value} (h : intOpR op k a b = some v) (w : World) :
    (eqGuard op T x y (.int k a) (.int k b)).run P w = .ok () w ∧ (binOp op T (.int k a) (.int k b)).run P w = .ok v w := by
  cases op <;> simp only [intOpR] at h <;> try (cases h; done)
  case quo => split at h; cases h; cases h; rename_i hb; simp [eqGuard, binOp, Op.intDiv, hb]
  case rem => split at h; cases h; cases h; rename_i hb; simp [eqGuard, binOp, Op.intDiv, hb]
  case neq => cases h; simp [eqGuard, binOp, Op.intCmp, bne]; by_cases hb : a = b <;> simp [hb]
  case eql => cases h; simp [eqGuard, binOp, Op.intCmp]; by_cases hb : a = b <;> simp [hb]
  all_goals
    cases h
    simp [eqGuard, binOp, Op.intArith, Op.intCmp, Op.intBits]

/-- two integers -/
theorem Run.int2 {op : BinOp} {T T' : TypeId} {x y : Operand} {k : IntKind} {a b : Int} {v : Value} (hop : o.op = .binOp op T x y T') (hx : ρ.val x = some (.int k a)) (hy : ρ.val y = some (.int k b))
    (hv : intOpR op k a b = some v) (_hd : o.dst = some d) (hs : pre n cf ops ρ o d = true) (H : Run P hR n cf ops l K ((d, v) :: ρ) Γ) : Run P hR n cf ops (o :: l) K ρ Γ :=
  Run.val hs (fun A h ho ht w => by
    have h2 := run_intOp (P := P) (T := T) (x := x) (y := y) hv w
    simp only [execOp, hop, ho.eval hx, ho.eval hy, Sem.run_bind, h2.1, h2.2, Result.andThen_ok, Sem.run_pure]) H

theorem wrapI {x : Int} (h1 : -9223372036854775808 ≤ x) (h2 : x ≤ 9223372036854775807) : IntKind.i64.wrap x = x := by
  simp only [IntKind.wrap, IntKind.bits, IntKind.signed, Bool.true_and, ge_iff_le]
  split <;> rename_i h <;> simp at h <;> omega

theorem Run.add64 {T T' : TypeId} {x y : Operand} {a b : Int} (hop : o.op = .binOp .add T x y T') (hx : ρ.val x = some (.int .i64 a)) (hy : ρ.val y = some (.int .i64 b))
    (_hd : o.dst = some d) (hs : pre n cf ops ρ o d = true) (h1 : -9223372036854775808 ≤ a + b) (h2 : a + b ≤ 9223372036854775807) (H : Run P hR n cf ops l K ((d, .int .i64 (a + b)) :: ρ) Γ) : Run P hR n cf ops (o :: l) K ρ Γ :=
  Run.int2 hop hx hy (by simp only [intOpR, wrapI h1 h2]) _hd hs H
theorem Run.sub64 {T T' : TypeId} {x y : Operand} {a b : Int} (hop : o.op = .binOp .sub T x y T') (hx : ρ.val x = some (.int .i64 a)) (hy : ρ.val y = some (.int .i64 b))
    (_hd : o.dst = some d) (hs : pre n cf ops ρ o d = true) (h1 : -9223372036854775808 ≤ a - b) (h2 : a - b ≤ 9223372036854775807) (H : Run P hR n cf ops l K ((d, .int .i64 (a - b)) :: ρ) Γ) : Run P hR n cf ops (o :: l) K ρ Γ :=
  Run.int2 hop hx hy (by simp only [intOpR, wrapI h1 h2]) _hd hs H
theorem Run.mul64 {T T' : TypeId} {x y : Operand} {a b : Int} (hop : o.op = .binOp .mul T x y T') (hx : ρ.val x = some (.int .i64 a)) (hy : ρ.val y = some (.int .i64 b))
    (_hd : o.dst = some d) (hs : pre n cf ops ρ o d = true) (h1 : -9223372036854775808 ≤ a * b) (h2 : a * b ≤ 9223372036854775807) (H : Run P hR n cf ops l K ((d, .int .i64 (a * b)) :: ρ) Γ) : Run P hR n cf ops (o :: l) K ρ Γ :=
  Run.int2 hop hx hy (by simp only [intOpR, wrapI h1 h2]) _hd hs H

theorem Run.bnot {T : TypeId} {x : Operand} {p : Prop} [Decidable p] (hop : o.op = .unOp .not T x) (hx : ρ.val x = some (.bool (decide p)))
    (_hd : o.dst = some d) (hs : pre n cf ops ρ o d = true) (H : Run P hR n cf ops l K ((d, .bool (decide (¬ p))) :: ρ) Γ) : Run P hR n cf ops (o :: l) K ρ Γ :=
  Run.val hs (fun A h ho ht w => by simp [execOp, hop, ho.eval hx, Op.unary]) H
theorem Run.bnotB {T : TypeId} {x : Operand} {b : Bool} (hop : o.op = .unOp .not T x) (hx : ρ.val x = some (.bool b))
    (_hd : o.dst = some d) (hs : pre n cf ops ρ o d = true) (H : Run P hR n cf ops l K ((d, .bool (!b)) :: ρ) Γ) : Run P hR n cf ops (o :: l) K ρ Γ :=
  Run.val hs (fun A h ho ht w => by simp [execOp, hop, ho.eval hx, Op.unary]) H
theorem Run.neg {T : TypeId} {x : Operand} {k : IntKind} {a : Int} (hop : o.op = .unOp .neg T x) (hx : ρ.val x = some (.int k a))
    (_hd : o.dst = some d) (hs : pre n cf ops ρ o d = true) (H : Run P hR n cf ops l K ((d, .int k (k.wrap (0 - a))) :: ρ) Γ) : Run P hR n cf ops (o :: l) K ρ Γ :=
  Run.val hs (fun A h ho ht w => by simp [execOp, hop, ho.eval hx, Op.unary, Op.intArith]) H

/-- a pointer that is none -/
theorem Run.nilCheck {x : Operand} {p : Addr} (hop : o.op = .nilCheck x) (hx : ρ.val x = some (.pointer (some p))) (_hd : o.dst = some d) (hs : pre n cf ops ρ o d = true)
    (H : Run P hR n cf ops l K ((d, .pointer (some p)) :: ρ) Γ) : Run P hR n cf ops (o :: l) K ρ Γ :=
  Run.val hs (fun A h ho ht w => by simp only [execOp, hop, ho.eval hx]; rfl) H

def fldOff (P : Program) (S : TypeId) (f : Nat) : Option Nat :=
  match P.underlying S with
  | some (.struct fs) => match fs[f]? with
    | some fd => match P.info? fd.type with
      | some i => if i.size = 0 then none else some fd.offset
      | none => none
    | none => none
  | _ => none

theorem Run.fieldAddr {S : TypeId} {f : Nat} {x : Operand} {p : Addr} {off : Nat} (hop : o.op = .fieldAddr S x f) (hx : ρ.val x = some (.pointer (some p))) (hf : fldOff P S f = some off)
    (_hd : o.dst = some d) (hs : pre n cf ops ρ o d = true) (H : Run P hR n cf ops l K ((d, .pointer (some (p.add off))) :: ρ) Γ) : Run P hR n cf ops (o :: l) K ρ Γ :=
  Run.val hs (fun A h ho ht w => by
    unfold fldOff at hf
    split at hf
    · rename_i fs hu
      split at hf
      · rename_i fd hfd
        split at hf
        · rename_i i hi
          split at hf
          · cases hf
          · rename_i h0
            cases hf
            simp [execOp, hop, ho.eval hx, Instr.fieldAt, underlying, hu, hfd, Instr.sureAddr, fieldPlace, sizeOf, typeInfo, hi, h0]
        · cases hf
      · cases hf
    · cases hf) H

def elemAddr (v : Value) (k : Nat) : Addr :=
  match v with
  | .slice (some ad) _ _ => ad.add k
  | _ => default

/-- of a slice's type: the element's type, its cells, its bytes -/
def slT (P : Program) (T : TypeId) : Option (TypeId × Nat × Nat) :=
  match P.underlying T with
  | some (.slice e) => (P.info? e).map fun i => (e, i.size, i.bytes)
  | _ => none

theorem slT_spec {T E : TypeId} {sz by' : Nat} (h : slT P T = some (E, sz, by')) : P.underlying T = some (.slice E) ∧ ∃ i, P.info? E = some i ∧ i.size = sz ∧ i.bytes = by' := by
  unfold slT at h
  split at h
  · rename_i e hu
    cases hi : P.info? e with
    | none => simp [hi] at h
    | some i => simp [hi] at h; obtain ⟨rfl, h1, h2⟩ := h; exact ⟨hu, i, hi, h1, h2⟩
  · cases h

/-- an element's address -/
theorem Run.indexAddr {T E : TypeId} {x ix : Operand} {k : IntKind} {i : Int} {ad : Addr} {m c sz by' : Nat} (hop : o.op = .indexAddr T x ix) (hx : ρ.val x = some (.slice (some ad) m c))
    (hi : ρ.val ix = some (.int k i)) (hT : slT P T = some (E, sz, by')) (_hd : o.dst = some d) (hs : pre n cf ops ρ o d = true) (h0 : 0 ≤ i) (h1 : i < m)
    (H : Run P hR n cf ops l K ((d, .pointer (some (ad.add (i.toNat * sz)))) :: ρ) Γ) : Run P hR n cf ops (o :: l) K ρ Γ :=
  Run.val hs (fun A h ho ht w => by
    obtain ⟨hu, inf, hinf, hsz, _⟩ := slT_spec hT
    simp [execOp, hop, ho.eval hx, ho.eval hi, Instr.indexAt, underlying, hu, asIntOf, h0, h1, sizeOf, typeInfo, hinf, hsz]) H

theorem Run.extract {t : Operand} {ix : Nat} {vs : Array Value} {v : Value} (hop : o.op = .extract t ix) (hx : ρ.val t = some (.tuple vs)) (hv : vs[ix]? = some v) (_hd : o.dst = some d) (hs : pre n cf ops ρ o d = true)
    (H : Run P hR n cf ops l K ((d, v) :: ρ) Γ) : Run P hR n cf ops (o :: l) K ρ Γ :=
  Run.val hs (fun A h ho ht w => by simp [execOp, hop, ho.eval hx, Instr.extract, hv]) H

theorem Run.makeFunc {fn : Fn} {first captured : Array Operand} {fs cs : List Value} (hop : o.op = .makeFunc fn first captured) (hf : collectV (first.toList.map ρ.val) = some fs) (hc : collectV (captured.toList.map ρ.val) = some cs)
    (_hd : o.dst = some d) (hs : pre n cf ops ρ o d = true) (H : Run P hR n cf ops l K ((d, .func fn ⟨fs⟩ ⟨cs⟩) :: ρ) Γ) : Run P hR n cf ops (o :: l) K ρ Γ :=
  Run.val hs (fun A h ho ht w => by
    have key : ∀ (xs : Array Operand) (vs : List Value), xs.toList.map ρ.val = vs.map some → xs.map A.eval = ⟨vs⟩ := fun xs vs he => by
      apply Array.ext'
      simp only [Array.toList_map]
      generalize xs.toList = ys at he
      induction ys generalizing vs with
      | nil => cases vs <;> simp at he ⊢
      | cons y ys ih =>
        cases vs with
        | nil => simp at he
        | cons v vs => simp only [List.map_cons, List.cons.injEq] at he ⊢; exact ⟨ho.eval he.1, ih vs he.2⟩
    simp [execOp, hop, Instr.makeFunc, key _ _ (collectV_spec hf), key _ _ (collectV_spec hc)]) H

theorem evals {A : Act} (ho : Ok n ρ A) : ∀ (xs : List Operand) (vs : List Value), xs.map ρ.val = vs.map some → xs.map A.eval = vs
  | [], [], _ => rfl
  | x :: xs, v :: vs, he => by
    simp only [List.map_cons, List.cons.injEq] at he ⊢
    exact ⟨ho.eval he.1, evals ho xs vs he.2⟩
  | [], _ :: _, he => by simp at he
  | _ :: _, [], he => by simp at he

/-- the length of a slice -/
theorem Run.len {T : TypeId} {x : Operand} {A : Option Addr} {m c : Nat} {ty' : TypeId × Nat × Nat} (hop : o.op = .call { callee := .builtin .len, args := #[x], argTypes := #[T] }) (hx : ρ.val x = some (.slice A m c))
    (hT : slT P T = some ty') (_hd : o.dst = some d) (hs : pre n cf ops ρ o d = true) (H : Run P hR n cf ops l K ((d, .int .i64 (m : Int)) :: ρ) Γ) : Run P hR n cf ops (o :: l) K ρ Γ :=
  Run.val hs (fun a h ho ht w => by
    obtain ⟨E, sz, by'⟩ := ty'
    obtain ⟨hu, _⟩ := slT_spec hT
    simp [execOp, hop, resolve, invoke, builtin, Builtin.len_, underlying, hu, ho.eval hx, goInt]) H
end
end Go.Sep
