/- Rules of the operations that reckon. Over any program. -/
import Derived.Test.YtfaokbjpinlcaaaGA0
import Derived.Laws.Sem
import Derived.Laws.Cells
import Derived.Laws.Slices
import Derived.Laws.Append
section
/- Rules of the operations that reckon. Over any program. -/
namespace Go.Sep
def cf0 : Op → Cls
  | .move _ | .assign _ | .pick .. | .build .. | .fieldAddr .. | .field .. | .binOp .. | .unOp .. | .makeFunc .. | .extract .. | .indexAddr .. | .index .. | .slice .. | .nilCheck _
  | .makeInterface .. | .typeAssert .. => .P
  | .call { callee := .builtin .len, .. } | .call { callee := .builtin .cap, .. } | .call { callee := .builtin .max, .. } | .call { callee := .builtin .min, .. } => .P
  | .load .. | .lookup .. => .R
  | .alloc _ | .box .. | .buildSlice .. | .makeMap .. | .makeSlice .. => .A
  | _ => .E
def gd (ops : Array Oper) (ρ : Env) (o : Oper) : Option Bool :=
  match o.guard with
  | none => some true
  | some (j, want) => match ((ops[j]?).bind (·.dst)).bind ρ.get with
    | some (.bool b) => some (b == want)
    | some (.tuple _) => some false
    | _ => none
theorem gd_wanted {n : Fr} {ops : Array Oper} {ρ : Env} {o : Oper} {a : Act} {b : Bool} (ho : Ok n ρ a) (h : gd ops ρ o = some b) : Region.wanted o (yielded ops a.tmps) = b := by
  unfold gd at h
  unfold Region.wanted
  cases hg : o.guard with
  | none => simp only [hg] at h; cases h; rfl
  | some jw =>
    obtain ⟨j, want⟩ := jw
    simp only [hg] at h ⊢
    unfold yielded
    cases hd : (ops[j]?).bind (·.dst) with
    | none => simp [hd] at h
    | some t =>
      simp only [hd, Option.bind_some] at h ⊢
      cases hv : ρ.get t with
      | none => simp [hv] at h
      | some v =>
        simp only [hv] at h
        rw [ho.get t v hv]
        cases v <;> simp at h
        · rename_i b'
          simp only
          rw [← h]
          cases b' <;> cases want <;> rfl
        · simp only
          rw [h]
          cases want <;> rfl
def peB : Cls → Bool
  | .P | .E => true
  | _ => false
/-- what an operation that reckons asks of the place where it stands -/
def pre (n : Fr) (cf : Op → Cls) (ops : Array Oper) (ρ : Env) (o : Oper) (d : Nat) : Bool :=
  (o.dst == some d) && decide (d < n.k) && peB (cf o.op) && (gd ops ρ o == some true)
/-- the same, of any class -/
def preC (c : Cls) (n : Fr) (cf : Op → Cls) (ops : Array Oper) (ρ : Env) (o : Oper) (d : Nat) : Bool :=
  (o.dst == some d) && decide (d < n.k) && decide (cf o.op = c) && (gd ops ρ o == some true)
/-- the same, of an operation that gives nothing -/
def preN (c : Cls) (cf : Op → Cls) (ops : Array Oper) (ρ : Env) (o : Oper) : Bool :=
  (o.dst == none) && decide (cf o.op = c) && (gd ops ρ o == some true)
section
variable {P : Program} {hR : Heap} {n : Fr} {cf : Op → Cls} {ops : Array Oper} {l : List Oper} {K : Env → List HProp → Prop} {ρ : Env} {Γ : List HProp} {o : Oper} {d : Nat}
theorem Run.nil (H : K ρ Γ) : Run P hR n cf ops [] K ρ Γ := fun _ _ ho hs _ => ⟨ρ, Γ, ho, hs, H⟩
theorem Run.weaken {ρ' : Env} {Γ' : List HProp} (hc : covers ρ ρ') (he : ent Γ Γ') (H : Run P hR n cf ops l K ρ' Γ') : Run P hR n cf ops l K ρ Γ :=
  fun a h ho hs hl => H a h (ho.weaken hc) (he h hs) hl
theorem Run.via {Γ' : List HProp} (he : ent Γ Γ') (H : Run P hR n cf ops l K ρ Γ') : Run P hR n cf ops l K ρ Γ :=
  fun a h ho hs hl => H a h ho (he h hs) hl
theorem Run.tt {p : Prop} [Decidable p] (h : p) (H : Run P hR n cf ops l K ((d, .bool true) :: ρ) Γ) : Run P hR n cf ops l K ((d, .bool (decide p)) :: ρ) Γ := by
  rw [decide_eq_true h]; exact H
theorem Run.ff {p : Prop} [Decidable p] (h : ¬ p) (H : Run P hR n cf ops l K ((d, .bool false) :: ρ) Γ) : Run P hR n cf ops l K ((d, .bool (decide p)) :: ρ) Γ := by
  rw [decide_eq_false h]; exact H
theorem Run.eqv {v v' : Value} (h : v = v') (H : Run P hR n cf ops l K ((d, v') :: ρ) Γ) : Run P hR n cf ops l K ((d, v) :: ρ) Γ := by
  rw [h]; exact H
theorem Run.opens {α : Type} {Γ' : α → List HProp} (he : ∀ h, sat Γ h → ∃ x, sat (Γ' x) h) (H : ∀ x, Run P hR n cf ops l K ρ (Γ' x)) : Run P hR n cf ops l K ρ Γ :=
  fun a h ho hs hl => let ⟨x, hx⟩ := he h hs; H x a h ho hx hl
theorem Run.not (hg : gd ops ρ o = some false) (hd : dstOk n o.dst = true) (H : Run P hR n cf ops l K (ρ.ext o.dst undef) Γ) : Run P hR n cf ops (o :: l) K ρ Γ := by
  intro a h ho hs hl
  unfold opsRun
  rw [gd_wanted ho hg]
  exact H _ h (ho.ext hd undef) hs hl
theorem Run.val {v : Value} (hs : pre n cf ops ρ o d = true) (hv : ∀ a h, Ok n ρ a → sat Γ h → ∀ w, (execOp a.eval o).run P w = .ok (.value v) w) (H : Run P hR n cf ops l K ((d, v) :: ρ) Γ) :
    Run P hR n cf ops (o :: l) K ρ Γ := by
  intro a h ho ht hl
  simp only [pre, Bool.and_eq_true, beq_iff_eq, decide_eq_true_eq] at hs
  obtain ⟨⟨⟨h1, h2⟩, h3⟩, h4⟩ := hs
  unfold opsRun
  rw [gd_wanted ho h4, if_pos rfl]
  have ho' : Ok n ((d, v) :: ρ) (a.put o.dst v) := by rw [h1]; exact ho.put h2 v
  have hv' := hv a h ho ht
  generalize cf o.op = c at h3 ⊢
  cases c with
  | P => exact ⟨v, fun w _ => hv' w, H _ h ho' ht hl⟩
  | E =>
    intro w f
    unfold Oper.wp
    rw [hv' w]
    exact ⟨h, .refl f.own, H _ h ho' ht hl⟩
  | R => cases h3
  | A => cases h3
def mvOp : Op → Option Operand
  | .move x | .assign x => some x
  | _ => none
theorem Run.mv {x : Operand} {v : Value} (hx : mvOp o.op = some x) (hv : ρ.val x = some v) (_hd : o.dst = some d) (hs : pre n cf ops ρ o d = true) (H : Run P hR n cf ops l K ((d, v) :: ρ) Γ) :
    Run P hR n cf ops (o :: l) K ρ Γ :=
  Run.val hs (fun a h ho ht w => by
    have he := ho.eval hv
    unfold mvOp at hx
    split at hx <;> rename_i hop <;> first | (cases hx; done) | skip
    all_goals
      cases hx
      simp only [execOp, hop, he]; rfl) H
theorem Run.pick {c x y : Operand} {t : Bool} {v : Value} (hop : o.op = .pick c x y) (hc : ρ.val c = some (.bool t)) (hv : (bif t then ρ.val x else ρ.val y) = some v)
    (_hd : o.dst = some d) (hs : pre n cf ops ρ o d = true) (H : Run P hR n cf ops l K ((d, v) :: ρ) Γ) : Run P hR n cf ops (o :: l) K ρ Γ :=
  Run.val hs (fun a h ho ht w => by
    have he := ho.eval hc
    simp only [execOp, hop, he]
    cases t with
    | true => have := ho.eval (x := x) hv; simp only [this]; rfl
    | false => have := ho.eval (x := y) hv; simp only [this]; rfl) H
def intOpR (op : BinOp) (k : IntKind) (a b : Int) : Option Value :=
  match op with
  | .add => some (.int k (k.wrap (a + b)))
  | .sub => some (.int k (k.wrap (a - b)))
  | .mul => some (.int k (k.wrap (a * b)))
  | .quo => if b = 0 then none else some (.int k (k.wrap (a.tdiv b)))
  | .rem => if b = 0 then none else some (.int k (a.tmod b))
  | .and => some (.int k (k.wrap (BitVec.ofInt k.bits a &&& BitVec.ofInt k.bits b).toNat))
  | .or => some (.int k (k.wrap (BitVec.ofInt k.bits a ||| BitVec.ofInt k.bits b).toNat))
  | .xor => some (.int k (k.wrap (BitVec.ofInt k.bits a ^^^ BitVec.ofInt k.bits b).toNat))
  | .andNot => some (.int k (k.wrap (BitVec.ofInt k.bits a &&& ~~~ BitVec.ofInt k.bits b).toNat))
  | .eql => some (.bool (decide (a = b)))
  | .neq => some (.bool (decide (a ≠ b)))
  | .lss => some (.bool (decide (a < b)))
  | .leq => some (.bool (decide (a ≤ b)))
  | .gtr => some (.bool (decide (a > b)))
  | .geq => some (.bool (decide (a ≥ b)))
  | _ => none
theorem run_intOp {op : BinOp} {T : TypeId} {x y : Operand} {k : IntKind} {a b : Int} {v : Value} (h : intOpR op k a b = some v) (w : World) :
    (eqGuard op T x y (.int k a) (.int k b)).run P w = .ok () w ∧ (binOp op T (.int k a) (.int k b)).run P w = .ok v w := by
  cases op <;> simp only [intOpR] at h <;> try (cases h; done)
  case quo => split at h; cases h; cases h; rename_i hb; simp [eqGuard, binOp, Op.intDiv, hb]
  case rem => split at h; cases h; cases h; rename_i hb; simp [eqGuard, binOp, Op.intDiv, hb]
  case neq => cases h; simp [eqGuard, binOp, Op.intCmp, bne]; by_cases hb : a = b <;> simp [hb]
  case eql => cases h; simp [eqGuard, binOp, Op.intCmp]; by_cases hb : a = b <;> simp [hb]
  all_goals
    cases h
    simp [eqGuard, binOp, Op.intArith, Op.intCmp, Op.intBits]
/-- two integers -/
theorem Run.int2 {op : BinOp} {T T' : TypeId} {x y : Operand} {k : IntKind} {a b : Int} {v : Value} (hop : o.op = .binOp op T x y T') (hx : ρ.val x = some (.int k a)) (hy : ρ.val y = some (.int k b))
    (hv : intOpR op k a b = some v) (_hd : o.dst = some d) (hs : pre n cf ops ρ o d = true) (H : Run P hR n cf ops l K ((d, v) :: ρ) Γ) : Run P hR n cf ops (o :: l) K ρ Γ :=
  Run.val hs (fun A h ho ht w => by
    have h2 := run_intOp (P := P) (T := T) (x := x) (y := y) hv w
    simp only [execOp, hop, ho.eval hx, ho.eval hy, Sem.run_bind, h2.1, h2.2, Result.andThen_ok, Sem.run_pure]) H
theorem wrapI {x : Int} (h1 : -9223372036854775808 ≤ x) (h2 : x ≤ 9223372036854775807) : IntKind.i64.wrap x = x := by
  simp only [IntKind.wrap, IntKind.bits, IntKind.signed, Bool.true_and, ge_iff_le]
  split <;> rename_i h <;> simp at h <;> omega
theorem Run.add64 {T T' : TypeId} {x y : Operand} {a b : Int} (hop : o.op = .binOp .add T x y T') (hx : ρ.val x = some (.int .i64 a)) (hy : ρ.val y = some (.int .i64 b))
    (_hd : o.dst = some d) (hs : pre n cf ops ρ o d = true) (h1 : -9223372036854775808 ≤ a + b) (h2 : a + b ≤ 9223372036854775807) (H : Run P hR n cf ops l K ((d, .int .i64 (a + b)) :: ρ) Γ) : Run P hR n cf ops (o :: l) K ρ Γ :=
  Run.int2 hop hx hy (by simp only [intOpR, wrapI h1 h2]) _hd hs H
theorem Run.sub64 {T T' : TypeId} {x y : Operand} {a b : Int} (hop : o.op = .binOp .sub T x y T') (hx : ρ.val x = some (.int .i64 a)) (hy : ρ.val y = some (.int .i64 b))
    (_hd : o.dst = some d) (hs : pre n cf ops ρ o d = true) (h1 : -9223372036854775808 ≤ a - b) (h2 : a - b ≤ 9223372036854775807) (H : Run P hR n cf ops l K ((d, .int .i64 (a - b)) :: ρ) Γ) : Run P hR n cf ops (o :: l) K ρ Γ :=
  Run.int2 hop hx hy (by simp only [intOpR, wrapI h1 h2]) _hd hs H
theorem Run.mul64 {T T' : TypeId} {x y : Operand} {a b : Int} (hop : o.op = .binOp .mul T x y T') (hx : ρ.val x = some (.int .i64 a)) (hy : ρ.val y = some (.int .i64 b))
    (_hd : o.dst = some d) (hs : pre n cf ops ρ o d = true) (h1 : -9223372036854775808 ≤ a * b) (h2 : a * b ≤ 9223372036854775807) (H : Run P hR n cf ops l K ((d, .int .i64 (a * b)) :: ρ) Γ) : Run P hR n cf ops (o :: l) K ρ Γ :=
  Run.int2 hop hx hy (by simp only [intOpR, wrapI h1 h2]) _hd hs H
theorem Run.bnot {T : TypeId} {x : Operand} {p : Prop} [Decidable p] (hop : o.op = .unOp .not T x) (hx : ρ.val x = some (.bool (decide p)))
    (_hd : o.dst = some d) (hs : pre n cf ops ρ o d = true) (H : Run P hR n cf ops l K ((d, .bool (decide (¬ p))) :: ρ) Γ) : Run P hR n cf ops (o :: l) K ρ Γ :=
  Run.val hs (fun A h ho ht w => by simp [execOp, hop, ho.eval hx, Op.unary]) H
theorem Run.bnotB {T : TypeId} {x : Operand} {b : Bool} (hop : o.op = .unOp .not T x) (hx : ρ.val x = some (.bool b))
    (_hd : o.dst = some d) (hs : pre n cf ops ρ o d = true) (H : Run P hR n cf ops l K ((d, .bool (!b)) :: ρ) Γ) : Run P hR n cf ops (o :: l) K ρ Γ :=
  Run.val hs (fun A h ho ht w => by simp [execOp, hop, ho.eval hx, Op.unary]) H
theorem Run.neg {T : TypeId} {x : Operand} {k : IntKind} {a : Int} (hop : o.op = .unOp .neg T x) (hx : ρ.val x = some (.int k a))
    (_hd : o.dst = some d) (hs : pre n cf ops ρ o d = true) (H : Run P hR n cf ops l K ((d, .int k (k.wrap (0 - a))) :: ρ) Γ) : Run P hR n cf ops (o :: l) K ρ Γ :=
  Run.val hs (fun A h ho ht w => by simp [execOp, hop, ho.eval hx, Op.unary, Op.intArith]) H
/-- a pointer that is none -/
theorem Run.nilCheck {x : Operand} {p : Addr} (hop : o.op = .nilCheck x) (hx : ρ.val x = some (.pointer (some p))) (_hd : o.dst = some d) (hs : pre n cf ops ρ o d = true)
    (H : Run P hR n cf ops l K ((d, .pointer (some p)) :: ρ) Γ) : Run P hR n cf ops (o :: l) K ρ Γ :=
  Run.val hs (fun A h ho ht w => by simp only [execOp, hop, ho.eval hx]; rfl) H
def fldOff (P : Program) (S : TypeId) (f : Nat) : Option Nat :=
  match P.underlying S with
  | some (.struct fs) => match fs[f]? with
    | some fd => match P.info? fd.type with
      | some i => if i.size = 0 then none else some fd.offset
      | none => none
    | none => none
  | _ => none
theorem Run.fieldAddr {S : TypeId} {f : Nat} {x : Operand} {p : Addr} {off : Nat} (hop : o.op = .fieldAddr S x f) (hx : ρ.val x = some (.pointer (some p))) (hf : fldOff P S f = some off)
    (_hd : o.dst = some d) (hs : pre n cf ops ρ o d = true) (H : Run P hR n cf ops l K ((d, .pointer (some (p.add off))) :: ρ) Γ) : Run P hR n cf ops (o :: l) K ρ Γ :=
  Run.val hs (fun A h ho ht w => by
    unfold fldOff at hf
    split at hf
    · rename_i fs hu
      split at hf
      · rename_i fd hfd
        split at hf
        · rename_i i hi
          split at hf
          · cases hf
          · rename_i h0
            cases hf
            simp [execOp, hop, ho.eval hx, Instr.fieldAt, underlying, hu, hfd, Instr.sureAddr, fieldPlace, sizeOf, typeInfo, hi, h0]
        · cases hf
      · cases hf
    · cases hf) H
def elemAddr (v : Value) (k : Nat) : Addr :=
  match v with
  | .slice (some ad) _ _ => ad.add k
  | _ => default
/-- of a slice's type: the element's type, its cells, its bytes -/
def slT (P : Program) (T : TypeId) : Option (TypeId × Nat × Nat) :=
  match P.underlying T with
  | some (.slice e) => (P.info? e).map fun i => (e, i.size, i.bytes)
  | _ => none
theorem slT_spec {T E : TypeId} {sz by' : Nat} (h : slT P T = some (E, sz, by')) : P.underlying T = some (.slice E) ∧ ∃ i, P.info? E = some i ∧ i.size = sz ∧ i.bytes = by' := by
  unfold slT at h
  split at h
  · rename_i e hu
    cases hi : P.info? e with
    | none => simp [hi] at h
    | some i => simp [hi] at h; obtain ⟨rfl, h1, h2⟩ := h; exact ⟨hu, i, hi, h1, h2⟩
  · cases h
/-- an element's address -/
theorem Run.indexAddr {T E : TypeId} {x ix : Operand} {k : IntKind} {i : Int} {ad : Addr} {m c sz by' : Nat} (hop : o.op = .indexAddr T x ix) (hx : ρ.val x = some (.slice (some ad) m c))
    (hi : ρ.val ix = some (.int k i)) (hT : slT P T = some (E, sz, by')) (_hd : o.dst = some d) (hs : pre n cf ops ρ o d = true) (h0 : 0 ≤ i) (h1 : i < m)
    (H : Run P hR n cf ops l K ((d, .pointer (some (ad.add (i.toNat * sz)))) :: ρ) Γ) : Run P hR n cf ops (o :: l) K ρ Γ :=
  Run.val hs (fun A h ho ht w => by
    obtain ⟨hu, inf, hinf, hsz, _⟩ := slT_spec hT
    simp [execOp, hop, ho.eval hx, ho.eval hi, Instr.indexAt, underlying, hu, asIntOf, h0, h1, sizeOf, typeInfo, hinf, hsz]) H
theorem Run.extract {t : Operand} {ix : Nat} {vs : Array Value} {v : Value} (hop : o.op = .extract t ix) (hx : ρ.val t = some (.tuple vs)) (hv : vs[ix]? = some v) (_hd : o.dst = some d) (hs : pre n cf ops ρ o d = true)
    (H : Run P hR n cf ops l K ((d, v) :: ρ) Γ) : Run P hR n cf ops (o :: l) K ρ Γ :=
  Run.val hs (fun A h ho ht w => by simp [execOp, hop, ho.eval hx, Instr.extract, hv]) H
theorem Run.makeFunc {fn : Fn} {first captured : Array Operand} {fs cs : List Value} (hop : o.op = .makeFunc fn first captured) (hf : collectV (first.toList.map ρ.val) = some fs) (hc : collectV (captured.toList.map ρ.val) = some cs)
    (_hd : o.dst = some d) (hs : pre n cf ops ρ o d = true) (H : Run P hR n cf ops l K ((d, .func fn ⟨fs⟩ ⟨cs⟩) :: ρ) Γ) : Run P hR n cf ops (o :: l) K ρ Γ :=
  Run.val hs (fun A h ho ht w => by
    have key : ∀ (xs : Array Operand) (vs : List Value), xs.toList.map ρ.val = vs.map some → xs.map A.eval = ⟨vs⟩ := fun xs vs he => by
      apply Array.ext'
      simp only [Array.toList_map]
      generalize xs.toList = ys at he
      induction ys generalizing vs with
      | nil => cases vs <;> simp at he ⊢
      | cons y ys ih =>
        cases vs with
        | nil => simp at he
        | cons v vs => simp only [List.map_cons, List.cons.injEq] at he ⊢; exact ⟨ho.eval he.1, ih vs he.2⟩
    simp [execOp, hop, Instr.makeFunc, key _ _ (collectV_spec hf), key _ _ (collectV_spec hc)]) H
theorem evals {A : Act} (ho : Ok n ρ A) : ∀ (xs : List Operand) (vs : List Value), xs.map ρ.val = vs.map some → xs.map A.eval = vs
  | [], [], _ => rfl
  | x :: xs, v :: vs, he => by
    simp only [List.map_cons, List.cons.injEq] at he ⊢
    exact ⟨ho.eval he.1, evals ho xs vs he.2⟩
  | [], _ :: _, he => by simp at he
  | _ :: _, [], he => by simp at he
/-- the length of a slice -/
theorem Run.len {T : TypeId} {x : Operand} {A : Option Addr} {m c : Nat} {ty' : TypeId × Nat × Nat} (hop : o.op = .call { callee := .builtin .len, args := #[x], argTypes := #[T] }) (hx : ρ.val x = some (.slice A m c))
    (hT : slT P T = some ty') (_hd : o.dst = some d) (hs : pre n cf ops ρ o d = true) (H : Run P hR n cf ops l K ((d, .int .i64 (m : Int)) :: ρ) Γ) : Run P hR n cf ops (o :: l) K ρ Γ :=
  Run.val hs (fun a h ho ht w => by
    obtain ⟨E, sz, by'⟩ := ty'
    obtain ⟨hu, _⟩ := slT_spec hT
    simp [execOp, hop, resolve, invoke, builtin, Builtin.len_, underlying, hu, ho.eval hx, goInt]) H
end
end Go.Sep
end
section
/- Rules of the operations that read and write memory, and of calls. Over any program. -/
namespace Go.Sep
/-! ### Pieces of memory -/
def blk (b : Nat) (cs : List Value) (T : TypeId) : HProp := fun h => h = put emp b (.cells ⟨cs⟩ T (0, 0))
def mp (b : Nat) (es : List MapEntry) (clock : Nat) : HProp := fun h => h = put emp b (.map ⟨es⟩ clock)
theorem sat_get : ∀ {Γ : List HProp} {k : Nat} {A : HProp} {h : Heap}, sat Γ h → Γ[k]? = some A →
    ∃ h1 h2, A h1 ∧ Disj h1 h2 ∧ h = un h1 h2 ∧ ∀ (A' : HProp) h1', A' h1' → Disj h1' h2 → sat (Γ.set k A') (un h1' h2)
  | [], _, _, _, _, hk => by simp at hk
  | B :: Γ, 0, A, _, ⟨h1, h2, g1, g2, hd, e⟩, hk => by
    simp at hk; subst hk e
    exact ⟨h1, h2, g1, hd, rfl, fun A' h1' ha hd' => ⟨h1', h2, ha, g2, hd', rfl⟩⟩
  | B :: Γ, k + 1, A, _, ⟨h1, h2, g1, g2, hd, e⟩, hk => by
    subst e
    obtain ⟨h3, h4, g3, hd', e, hset⟩ := sat_get g2 (by simpa using hk)
    subst e
    obtain ⟨d1, d2⟩ := disj_un.1 hd
    refine ⟨h3, un h1 h4, g3, disj_un.2 ⟨d1.symm, hd'⟩, ?_, fun A' h3' ha hd3 => ?_⟩
    · rw [← un_assoc, ← un_assoc, un_comm d1]
    · obtain ⟨e1, e2⟩ := disj_un.1 hd3
      refine ⟨h1, un h3' h4, g1, hset A' h3' ha e2, disj_un.2 ⟨e1.symm, d2⟩, ?_⟩
      rw [← un_assoc, ← un_assoc, un_comm e1]
theorem sat_snoc {Γ : List HProp} {A : HProp} {h : Heap} {b : Nat} {ob : Obj} (hs : sat Γ h) (hb : h b = none) (hA : A (put emp b ob)) : sat (Γ ++ [A]) (put h b ob) := by
  refine sat_append.2 ⟨h, put emp b ob, hs, ⟨put emp b ob, emp, hA, trivial, fun _ => .inr rfl, (un_emp _ fun _ => rfl).symm⟩, fun c => ?_, ?_⟩
  · by_cases hc : c = b
    · subst hc; exact .inl hb
    · exact .inr (by simp [put, hc, emp])
  · funext c; unfold un put
    by_cases hc : c = b
    · subst hc; simp [hb]
    · simp [hc, emp]
theorem put_emp_self {b : Nat} {o : Obj} : put emp b o b = some o := by simp [put]
theorem un_left_some {h g : Heap} {b : Nat} {o : Obj} (hb : h b = some o) : un h g b = some o := by simp [un, hb]
/-- a cell of a heap -/
def cellH (h : Heap) (p : Addr) (v : Value) : Prop := ∃ c T fz, h p.block = some (.cells c T fz) ∧ p.spot = none ∧ c[p.off]? = some v
def rowH (h : Heap) (p : Addr) (cs : List Value) : Prop := ∀ j v, cs[j]? = some v → cellH h (p.add j) v
theorem cellH.mono {h g : Heap} {p : Addr} {v : Value} (hs : Sub h g) (H : cellH h p v) : cellH g p v :=
  let ⟨c, T, fz, h1, h2, h3⟩ := H; ⟨c, T, fz, hs _ _ h1, h2, h3⟩
theorem rowH.mono {h g : Heap} {p : Addr} {cs : List Value} (hs : Sub h g) (H : rowH h p cs) : rowH g p cs := fun j v hj => (H j v hj).mono hs
theorem cell?_of {w : World} {p : Addr} {c : Array Value} {T : TypeId} {fz : Nat × Nat} {v : Value} (h : hp w p.block = some (.cells c T fz)) (hs : p.spot = none) (hv : c[p.off]? = some v) : w.cell? p = some v := by
  unfold hp at h
  simp [World.cell?, h, hs, hv]
theorem add_block (p : Addr) (k : Nat) : (p.add k).block = p.block := by unfold Addr.add; split <;> rfl
theorem add_off (p : Addr) (k : Nat) : (p.add k).off = p.off + k := by unfold Addr.add; split <;> simp_all
theorem add_spot {p : Addr} (k : Nat) (h : p.spot = none) : (p.add k).spot = none := by unfold Addr.add; split <;> simp_all
theorem add_add (p : Addr) (j k : Nat) : (p.add j).add k = p.add (j + k) := by
  unfold Addr.add
  by_cases hj : j = 0
  · subst hj; simp
  · by_cases hk : k = 0
    · subst hk; simp [hj]
    · simp [hj, hk, Nat.add_assoc]
theorem add_lit (b o k : Nat) : (⟨b, o, none⟩ : Addr).add k = ⟨b, o + k, none⟩ := by
  unfold Addr.add; split
  · rename_i h; simp [h]
  · rfl
/-- is a type an aggregate? -/
def ag (P : Program) (T : TypeId) : Option (Bool × Nat) :=
  match P.underlying T, P.info? T with
  | some (.struct _), some i | some (.array _ _), some i => some (true, i.size)
  | some _, some i => some (false, i.size)
  | _, _ => none
theorem ag_spec {P : Program} {T : TypeId} {b : Bool} {s : Nat} (h : ag P T = some (b, s)) (w : World) : (isAgg T).run P w = .ok b w ∧ (sizeOf T).run P w = .ok s w := by
  unfold ag at h
  split at h <;> first | (cases h; done) | skip
  all_goals
    cases h
    rename_i h1 h2
    simp only [isAgg, sizeOf, underlying, typeInfo, Sem.run_bind, run_program, Result.andThen_ok, h1, h2, Sem.run_pure, and_self]
section
variable {P : Program} {hR : Heap} {n : Fr} {cf : Op → Cls} {ops : Array Oper} {l : List Oper} {K : Env → List HProp → Prop} {ρ : Env} {Γ : List HProp} {o : Oper} {d : Nat}
theorem preC_spec {c : Cls} (h : preC c n cf ops ρ o d = true) : o.dst = some d ∧ d < n.k ∧ cf o.op = c ∧ gd ops ρ o = some true := by
  simp only [preC, Bool.and_eq_true, beq_iff_eq, decide_eq_true_eq] at h
  exact ⟨h.1.1.1, h.1.1.2, h.1.2, h.2⟩
theorem Run.load_of {T : TypeId} {x : Operand} {p : Addr} {v : Value} (hop : o.op = .load T x) (hx : ρ.val x = some (.pointer (some p)))
    (hs : preC .R n cf ops ρ o d = true)
    (hv : ∀ h, sat Γ h → ∃ ob, (hR p.block = some ob ∨ h p.block = some ob) ∧ ∀ w, hp w p.block = some ob → (loadVar T p).run P w = .ok v w)
    (H : Run P hR n cf ops l K ((d, v) :: ρ) Γ) : Run P hR n cf ops (o :: l) K ρ Γ := by
  intro a h ho ht hl
  obtain ⟨h1, h2, h3, h4⟩ := preC_spec hs
  unfold opsRun
  rw [gd_wanted ho h4, if_pos rfl]
  obtain ⟨ob, hob, hrun⟩ := hv h ht
  have ho' : Ok n ((d, v) :: ρ) (a.put o.dst v) := by rw [h1]; exact ho.put h2 v
  rw [h3]
  refine ⟨v, ⟨p.block, ob, by simp [rblk, hop, ho.eval hx], hob, fun w hw => ?_⟩, H _ h ho' ht hl⟩
  simp only [execOp, hop, ho.eval hx, Instr.loadAt, Instr.sureAddr, Sem.run_bind, Sem.run_pure, Result.andThen_ok, hrun w hw]
theorem loadVar_cell {T : TypeId} {p : Addr} {v : Value} {c : Array Value} {U : TypeId} {fz : Nat × Nat} {s : Nat} (hT : ag P T = some (false, s)) (hsp : p.spot = none) (hv : c[p.off]? = some v)
    (w : World) (hw : hp w p.block = some (.cells c U fz)) : (loadVar T p).run P w = .ok v w := by
  simp [loadVar, (ag_spec hT w).1, cell?_of hw hsp hv]
theorem loadVar_row {T : TypeId} {p : Addr} {cs : List Value} (hT : ag P T = some (true, cs.length))
    (w : World) (hw : ∀ j v, cs[j]? = some v → w.cell? (p.add j) = some v) : (loadVar T p).run P w = .ok (.agg ⟨cs⟩) w := by
  have := run_loadCells_list (P := P) w p cs hw
  simp [loadVar, (ag_spec hT w).1, (ag_spec hT w).2, this]
/-- a cell that is read only -/
theorem Run.loadR {T : TypeId} {x : Operand} {p : Addr} {v : Value} {s : Nat} (hop : o.op = .load T x) (hx : ρ.val x = some (.pointer (some p))) (hT : ag P T = some (false, s))
    (_hd : o.dst = some d) (hs : preC .R n cf ops ρ o d = true) (hv : cellH hR p v) (H : Run P hR n cf ops l K ((d, v) :: ρ) Γ) : Run P hR n cf ops (o :: l) K ρ Γ :=
  Run.load_of hop hx hs (fun h _ => by
    obtain ⟨c, U, fz, h1, h2, h3⟩ := hv
    exact ⟨_, .inl h1, fun w hw => loadVar_cell hT h2 h3 w hw⟩) H
theorem rowH_block {h : Heap} {p : Addr} {cs : List Value} (H : rowH h p cs) (hne : cs ≠ []) : ∃ c T fz, h p.block = some (.cells c T fz) ∧ p.spot = none ∧ ∀ j v, cs[j]? = some v → c[p.off + j]? = some v := by
  cases cs with
  | nil => exact absurd rfl hne
  | cons x xs =>
    obtain ⟨c, T, fz, h1, h2, h3⟩ := H 0 x rfl
    have e0 : p.add 0 = p := by simp [Addr.add]
    rw [e0] at h1 h2 h3
    refine ⟨c, T, fz, h1, h2, fun j v hj => ?_⟩
    obtain ⟨c', T', fz', g1, g2, g3⟩ := H j v hj
    rw [add_block, h1] at g1
    cases g1
    rw [add_off] at g3
    exact g3
theorem Run.loadRagg {T : TypeId} {x : Operand} {p : Addr} {cs : List Value} {m : Nat} (hop : o.op = .load T x) (hx : ρ.val x = some (.pointer (some p))) (hT' : ag P T = some (true, m + 1))
    (_hd : o.dst = some d) (hs : preC .R n cf ops ρ o d = true) (hv : rowH hR p cs) (hm : cs.length = m + 1) (H : Run P hR n cf ops l K ((d, .agg ⟨cs⟩) :: ρ) Γ) : Run P hR n cf ops (o :: l) K ρ Γ :=
  Run.load_of hop hx hs (fun h _ => by
    have hT : ag P T = some (true, cs.length) := by rw [hm]; exact hT'
    obtain ⟨c, U, fz, h1, h2, h3⟩ := rowH_block hv (by intro e; rw [e] at hm; simp at hm)
    exact ⟨_, .inl h1, fun w hw => loadVar_row hT w fun j v hj => cell?_of (by rw [add_block]; exact hw) (add_spot _ h2) (by rw [add_off]; exact h3 j v hj)⟩) H
/-- a cell of a block that is owned -/
theorem Run.loadB (k : Nat) {T U : TypeId} {x : Operand} {p : Addr} {v : Value} {s b off : Nat} {cs : List Value} (hop : o.op = .load T x) (hx : ρ.val x = some (.pointer (some p))) (hT : ag P T = some (false, s))
    (_hd : o.dst = some d) (hs : preC .R n cf ops ρ o d = true) (hk : Γ[k]? = some (blk b cs U)) (hp' : p = ⟨b, off, none⟩) (hv : cs[off]? = some v) (H : Run P hR n cf ops l K ((d, v) :: ρ) Γ) : Run P hR n cf ops (o :: l) K ρ Γ :=
  Run.load_of hop hx hs (fun h ht => by
    obtain ⟨h1, h2, g1, hd, rfl, _⟩ := sat_get ht hk
    subst hp' g1
    exact ⟨_, .inr (un_left_some put_emp_self), fun w hw => loadVar_cell hT rfl (by simpa using hv) w hw⟩) H
def takeO : Nat → List Value → Option (List Value)
  | 0, _ => some []
  | n + 1, v :: l => match takeO n l with | some r => some (v :: r) | none => none
  | _ + 1, [] => none
theorem takeO_spec : ∀ {m : Nat} {cs vs : List Value}, takeO m cs = some vs → vs.length = m ∧ ∀ (j : Nat) (v : Value), vs[j]? = some v → cs[j]? = some v
  | 0, _, vs, h => by simp only [takeO, Option.some.injEq] at h; subst h; simp
  | n + 1, c :: l, vs, h => by
    simp only [takeO] at h
    split at h
    · rename_i r hr
      cases h
      obtain ⟨h1, h2⟩ := takeO_spec hr
      refine ⟨by simp [h1], fun j v hj => ?_⟩
      cases j with
      | zero => exact hj
      | succ j => exact h2 j v (by simpa using hj)
    · cases h
  | _ + 1, [], _, h => by simp [takeO] at h
theorem Run.loadBagg (k : Nat) {T U : TypeId} {x : Operand} {p : Addr} {b off m : Nat} {cs vs : List Value} (hop : o.op = .load T x) (hx : ρ.val x = some (.pointer (some p))) (hT' : ag P T = some (true, m))
    (_hd : o.dst = some d) (hs : preC .R n cf ops ρ o d = true) (hk : Γ[k]? = some (blk b cs U)) (hp' : p = ⟨b, off, none⟩) (hvs : takeO m (cs.drop off) = some vs) (H : Run P hR n cf ops l K ((d, .agg ⟨vs⟩) :: ρ) Γ) :
    Run P hR n cf ops (o :: l) K ρ Γ :=
  Run.load_of hop hx hs (fun h ht => by
    obtain ⟨hl1, hl2⟩ := takeO_spec hvs
    have hT : ag P T = some (true, vs.length) := by rw [hl1]; exact hT'
    have hv : ∀ j v, vs[j]? = some v → cs[off + j]? = some v := fun j v hj => by have := hl2 j v hj; rwa [List.getElem?_drop] at this
    obtain ⟨h1, h2, g1, hd, rfl, _⟩ := sat_get ht hk
    subst hp' g1
    refine ⟨_, .inr (un_left_some put_emp_self), fun w hw => loadVar_row hT w fun j v hj => cell?_of (by rw [add_block]; exact hw) (add_spot _ rfl) (by rw [add_off]; simpa using hv j v hj)⟩) H
/-! ### New memory -/
theorem Run.alloc_of {ob : Obj} {val : Nat → Value} {A : Nat → HProp} (hs : preC .A n cf ops ρ o d = true)
    (hrun : ∀ a, Ok n ρ a → ∀ w, (execOp a.eval o).run P w = .ok (.value (val w.heap.size)) (World.push w ob)) (hA : ∀ b, A b (put emp b ob))
    (H : ∀ b, Run P hR n cf ops l K ((d, val b) :: ρ) (Γ ++ [A b])) : Run P hR n cf ops (o :: l) K ρ Γ := by
  intro a h ho ht hl
  obtain ⟨h1, h2, h3, h4⟩ := preC_spec hs
  unfold opsRun
  rw [gd_wanted ho h4, if_pos rfl, h3]
  refine ⟨ob, val, hrun a ho, fun b hb hb' => ?_⟩
  have ho' : Ok n ((d, val b) :: ρ) (a.put o.dst (val b)) := by rw [h1]; exact ho.put h2 _
  exact H b _ _ ho' (sat_snoc ht hb' (hA b)) (hl.put _ hb hb')
theorem Run.box {E : TypeId} {x : Operand} {v : Value} {cs : List Value} (hop : o.op = .box E x) (hx : ρ.val x = some v) (hc : v.cells = ⟨cs⟩) (_hd : o.dst = some d) (hs : preC .A n cf ops ρ o d = true)
    (H : ∀ b, Run P hR n cf ops l K ((d, .pointer (some ⟨b, 0, none⟩)) :: ρ) (Γ ++ [blk b cs E])) : Run P hR n cf ops (o :: l) K ρ Γ :=
  Run.alloc_of (ob := .cells ⟨cs⟩ E (0, 0)) (val := fun b => .pointer (some ⟨b, 0, none⟩)) (A := fun b => blk b cs E) hs (fun a ho w => by
    simp [execOp, hop, ho.eval hx, Instr.box, newVar, newRow, hc, World.push]) (fun b => rfl) H
def zr (P : Program) (T : TypeId) : Option Value := (P.info? T).bind (·.zero)
theorem zr_spec {T : TypeId} {z : Value} (h : zr P T = some z) (w : World) : (zeroValue T).run P w = .ok z w := by
  unfold zr at h
  cases hi : P.info? T with
  | none => simp [hi] at h
  | some i => simp [hi] at h; simp [zeroValue, typeInfo, hi, h]
theorem Run.alloc {E : TypeId} {z : Value} {cs : List Value} (hop : o.op = .alloc E) (hz : zr P E = some z) (hc : z.cells = ⟨cs⟩) (_hd : o.dst = some d) (hs : preC .A n cf ops ρ o d = true)
    (H : ∀ b, Run P hR n cf ops l K ((d, .pointer (some ⟨b, 0, none⟩)) :: ρ) (Γ ++ [blk b cs E])) : Run P hR n cf ops (o :: l) K ρ Γ :=
  Run.alloc_of (ob := .cells ⟨cs⟩ E (0, 0)) (val := fun b => .pointer (some ⟨b, 0, none⟩)) (A := fun b => blk b cs E) hs (fun a ho w => by
    simp [execOp, hop, Instr.alloc, newVar, newRow, hc, World.push, zr_spec hz]) (fun b => rfl) H
theorem Run.makeMap {T : TypeId} (hop : o.op = .makeMap T none) (_hd : o.dst = some d) (hs : preC .A n cf ops ρ o d = true)
    (H : ∀ b, Run P hR n cf ops l K ((d, .map (some b)) :: ρ) (Γ ++ [mp b [] 0])) : Run P hR n cf ops (o :: l) K ρ Γ :=
  Run.alloc_of (ob := .map #[] 0) (val := fun b => .map (some b)) (A := fun b => mp b [] 0) hs (fun a ho w => by
    simp [execOp, hop, Instr.makeMap, newObj, World.push, Sem.run, pure]) (fun b => rfl) H
/-! ### Writing -/
def oneCells (vs : List Value) : Bool := vs.all Value.oneCell'
def setMany (c : Array Value) (off : Nat) : List Value → Array Value
  | [] => c
  | v :: vs => setMany (c.setIfInBounds off v) (off + 1) vs
def setManyL (c : List Value) (off : Nat) : List Value → List Value
  | [] => c
  | v :: vs => setManyL (c.set off v) (off + 1) vs
theorem setMany_list (c : List Value) : ∀ (vs : List Value) (off : Nat), setMany ⟨c⟩ off vs = ⟨setManyL c off vs⟩ := by
  intro vs
  induction vs generalizing c with
  | nil => intro off; rfl
  | cons v vs ih => intro off; simp only [setMany, setManyL, List.setIfInBounds_toArray]; exact ih _ _
def World.setObj (w : World) (b : Nat) (ob : Obj) : World := { w with heap := w.heap.setIfInBounds b ob }
theorem run_storeCells {b off : Nat} {T : TypeId} : ∀ (vs : List Value) (c : Array Value) (i : Nat) (w : World), hp w b = some (.cells c T (0, 0)) → oneCells vs = true → off + i + vs.length ≤ c.size →
    (storeCells ⟨b, off, none⟩ vs i).run P w = .ok () (World.setObj w b (.cells (setMany c (off + i) vs) T (0, 0)))
  | [], c, i, w, hw, _, _ => by
    unfold hp at hw
    have : World.setObj w b (.cells (setMany c (off + i) []) T (0, 0)) = w := by
      unfold World.setObj setMany
      congr 1
      apply Array.ext_getElem?
      intro j
      by_cases e : b = j
      · subst e; rw [hw, Array.getElem?_setIfInBounds_self_of_lt (Array.getElem?_eq_some_iff.1 hw).1]
      · rw [Array.getElem?_setIfInBounds_ne e]
    rw [this]; rfl
  | v :: vs, c, i, w, hw, h1, hlen => by
    have h1' : v.oneCell' = true ∧ oneCells vs = true := by simpa [oneCells] using h1
    have hw' := hw
    unfold hp at hw'
    have hlt := (Array.getElem?_eq_some_iff.1 hw').1
    simp only [List.length_cons] at hlen
    have hc : w.cell? ⟨b, off + i, none⟩ = some (c[off + i]'(by omega)) := cell?_of hw rfl (Array.getElem?_eq_getElem (show off + i < c.size by omega))
    have hfz : w.frozen? ⟨b, off + i, none⟩ = false := by simp [World.frozen?, hw']
    have hset : w.setCell ⟨b, off + i, none⟩ v = World.setObj w b (.cells (c.setIfInBounds (off + i) v) T (0, 0)) := by
      unfold World.setCell World.setObj
      congr 1
      apply Array.ext_getElem?
      intro j
      by_cases e : b = j
      · subst e; rw [Array.getElem?_modify, Array.getElem?_setIfInBounds_self_of_lt hlt, hw']; simp
      · rw [Array.getElem?_setIfInBounds_ne e, Array.getElem?_modify]; simp [e]
    have hw2 : hp (World.setObj w b (.cells (c.setIfInBounds (off + i) v) T (0, 0))) b = some (.cells (c.setIfInBounds (off + i) v) T (0, 0)) := by
      simp [hp, World.setObj, hlt]
    have ih := run_storeCells (off := off) vs (c.setIfInBounds (off + i) v) (i + 1) _ hw2 h1'.2 (by rw [Array.size_setIfInBounds]; omega)
    unfold storeCells
    simp only [Sem.run_bind]
    rw [add_lit, run_store _ _ _ _ _ h1'.1, hc]
    simp only [hfz, Bool.false_eq_true, if_false, Result.andThen_ok]
    rw [hset, ih]
    congr 1
    simp [World.setObj, setMany, Nat.add_assoc]
theorem step_write {w : World} {h g : Heap} {b : Nat} {ob ob' : Obj} (hs : Sub (un (put emp b ob) g) (hp w)) (hd : Disj (put emp b ob) g) (hh : h = un (put emp b ob) g) :
    Step w h (World.setObj w b ob') (un (put emp b ob') g) := by
  subst hh
  have hb : hp w b = some ob := hs b ob (un_left_some put_emp_self)
  have hlt := hp_lt hb
  refine ⟨fun c x hc => ?_, by simp [World.setObj], fun c hc hn => ?_, fun c hc => ?_, ⟨rfl, rfl, rfl⟩⟩
  · by_cases e : c = b
    · subst e
      rw [un_left_some put_emp_self] at hc; cases hc
      simp [hp, World.setObj, hlt]
    · have : g c = some x := by simpa [un, put, e, emp] using hc
      have hx := hs c x (by simp [un, put, e, emp, this])
      unfold hp World.setObj at *
      rw [Array.getElem?_setIfInBounds_ne (Ne.symm e)]; exact hx
  · have e : c ≠ b := fun e => by subst e; simp [un, put] at hn
    unfold hp World.setObj
    rw [Array.getElem?_setIfInBounds_ne (Ne.symm e)]
  · left
    by_cases e : c = b
    · subst e; simp [un, put]
    · simpa [un, put, e, emp] using hc
theorem preN_spec {c : Cls} (h : preN c cf ops ρ o = true) : o.dst = none ∧ cf o.op = c ∧ gd ops ρ o = some true := by
  simp only [preN, Bool.and_eq_true, beq_iff_eq, decide_eq_true_eq] at h
  exact ⟨h.1.1, h.1.2, h.2⟩
/-- something is written into the block of the k-th piece -/
theorem Run.write_of (k : Nat) {A : HProp} {A' : HProp} (hs : preN .E cf ops ρ o = true) (hk : Γ[k]? = some A)
    (hrun : ∀ a, Ok n ρ a → ∀ h1, A h1 → ∃ b ob ob', h1 = put emp b ob ∧ A' (put emp b ob') ∧ ∀ w, hp w b = some ob → (execOp a.eval o).run P w = .ok .skip (World.setObj w b ob'))
    (H : Run P hR n cf ops l K ρ (Γ.set k A')) : Run P hR n cf ops (o :: l) K ρ Γ := by
  intro a h ho ht hl
  obtain ⟨h1, h3, h4⟩ := preN_spec hs
  unfold opsRun
  rw [gd_wanted ho h4, if_pos rfl, h3]
  intro w f
  obtain ⟨g1, g2, gA, hd, e, hset⟩ := sat_get ht hk
  obtain ⟨b, ob, ob', rfl, hA', hr⟩ := hrun a ho g1 gA
  have hb : hp w b = some ob := f.own b ob (by rw [e]; exact un_left_some put_emp_self)
  unfold Oper.wp
  rw [hr w hb]
  have hst := step_write (ob' := ob') (by rw [← e]; exact f.own) hd e
  have hd' : Disj (put emp b ob') g2 := fun c => by
    by_cases hc : c = b
    · subst hc; exact .inr ((hd c).resolve_left (by simp [put]))
    · exact .inl (by simp [put, hc, emp])
  refine ⟨_, hst, ?_⟩
  rw [h1]
  exact H a _ ho (hset A' _ hA' hd') ⟨_, f.step hst⟩
theorem Run.storeB (k : Nat) {T U : TypeId} {x y : Operand} {p : Addr} {v : Value} {b off : Nat} {cs vs : List Value} {g : Bool} (hop : o.op = .store T x y) (hx : ρ.val x = some (.pointer (some p)))
    (hy : ρ.val y = some v) (hc : v.cells = ⟨vs⟩) (hT : ag P T = some (g, vs.length)) (h1 : oneCells vs = true)
    (hs : preN .E cf ops ρ o = true) (hk : Γ[k]? = some (blk b cs U)) (hp' : p = ⟨b, off, none⟩) (hlen' : Nat.ble (off + vs.length) cs.length = true)
    (H : Run P hR n cf ops l K ρ (Γ.set k (blk b (setManyL cs off vs) U))) : Run P hR n cf ops (o :: l) K ρ Γ :=
  Run.write_of k hs hk (fun a ho h1' hA => by
    have hlen := Nat.le_of_ble_eq_true hlen'
    refine ⟨b, .cells ⟨cs⟩ U (0, 0), .cells ⟨setManyL cs off vs⟩ U (0, 0), hA, rfl, fun w hw => ?_⟩
    subst hp'
    have hr := run_storeCells (P := P) (off := off) vs ⟨cs⟩ 0 w hw h1 (by simpa using hlen)
    rw [Nat.add_zero, setMany_list] at hr
    simp [execOp, hop, ho.eval hx, ho.eval hy, Instr.storeAt, Instr.sureAddr, storeVar, hc, (ag_spec hT w).2, hr]) H
/-! ### Calls -/
def calleeOk (P : Program) (f : FuncId) : Bool := match P.funcs[f]? with
  | some fn => fn.name != "runtime.NumGoroutine" && fn.body.isSome
  | none => false
theorem run_callFunc {f : FuncId} (h : calleeOk P f = true) (args : Array Value) (w : World) : (callFunc f args).run P w = .ok (.enter f args) w := by
  unfold calleeOk at h
  split at h
  · rename_i fn hf
    simp only [Bool.and_eq_true, bne_iff_ne, ne_eq] at h
    have hb : fn.body.isNone = false := by cases hx : fn.body <;> simp [hx] at h ⊢
    simp only [callFunc, Sem.run_bind, run_program, Result.andThen_ok, hf]
    rw [if_neg (by simpa using h.1)]
    simp only [hb, Bool.false_eq_true, if_false, Sem.run_pure]
  · cases h
/-- a call: what the callee takes of the memory is 'Δ', the rest stays -/
theorem Run.call {Δ Θ : List HProp} {R : Value → List HProp → Prop} {f : FuncId} {c : Call} {x : Operand} {first captured : Array Value} {vs : List Value} (hop : o.op = .call c) (hc : c.callee = .value x)
    (hx : ρ.val x = some (.func (.func f) first captured)) (hargs : collectV (c.args.toList.map ρ.val) = some vs) (hf : calleeOk P f = true) (_hd : o.dst = some d) (hs : preC .E n cf ops ρ o d = true)
    (he : ent Γ (Δ ++ Θ)) (hT : Tri P hR f (first ++ vs.toArray ++ captured) Δ R) (H : ∀ v Γ', R v Γ' → Run P hR n cf ops l K ((d, v) :: ρ) (Γ' ++ Θ)) : Run P hR n cf ops (o :: l) K ρ Γ := by
  intro a h ho ht hl
  obtain ⟨h1, h2, h3, h4⟩ := preC_spec hs
  unfold opsRun
  rw [gd_wanted ho h4, if_pos rfl, h3]
  intro w fi
  have hargs' : c.args.map a.eval = vs.toArray := by
    apply Array.ext'; simpa using evals ho c.args.toList vs (collectV_spec hargs)
  have hrun : (execOp a.eval o).run P w = .ok (.enter f (first ++ vs.toArray ++ captured)) w := by
    simp [execOp, hop, resolve, hc, ho.eval hx, Deferred.ofValue, invoke, hargs', run_callFunc hf]
  unfold Oper.wp
  rw [hrun]
  refine Calls.mono ((hT.frame Θ) h w (he h ht) fi) ?_
  rintro e w' ⟨v, h', Γ', rfl, s, t, Γ1, rfl, r⟩
  refine ⟨h', s, H v Γ1 r _ h' ?_ t ⟨_, fi.step s⟩⟩
  rw [h1]; exact ho.put h2 v
/-- the same, where 'Θ' is lent for reading too -/
theorem Run.callLend {Δ Θ Ξ : List HProp} {R : Value → List HProp → Prop} {f : FuncId} {c : Call} {x : Operand} {first captured : Array Value} {vs : List Value} (hop : o.op = .call c) (hc : c.callee = .value x)
    (hx : ρ.val x = some (.func (.func f) first captured)) (hargs : collectV (c.args.toList.map ρ.val) = some vs) (hf : calleeOk P f = true) (_hd : o.dst = some d) (hs : preC .E n cf ops ρ o d = true)
    (he : ent Γ ((Δ ++ Θ) ++ Ξ)) (hT : ∀ g, sat Θ g → Disj hR g → Tri P (un hR g) f (first ++ vs.toArray ++ captured) Δ R)
    (H : ∀ v Γ', R v Γ' → Run P hR n cf ops l K ((d, v) :: ρ) ((Γ' ++ Θ) ++ Ξ)) : Run P hR n cf ops (o :: l) K ρ Γ :=
  Run.call hop hc hx hargs hf _hd hs he (Tri.lend Θ hT) (fun v Γ' ⟨Γ1, e, r⟩ => by subst e; exact H v Γ1 r)
end
end Go.Sep
end
section
/- Slices that are owned, slices that are read: elements, append, make, slicing. Over any program. -/
namespace Go.Sep
/-- how an element lies in cells -/
structure Enc (A : Type) where
  sz : Nat
  cells : A → List Value
  len : ∀ x, (cells x).length = sz
  one : ∀ x, oneCells (cells x) = true
structure SV where
  a : Option Addr
  n : Nat
  c : Nat
def SV.val (v : SV) : Value := .slice v.a v.n v.c
def Enc.int (k : IntKind := .i64) : Enc Int := ⟨1, fun x => [.int k x], fun _ => rfl, fun _ => rfl⟩
def Enc.bool : Enc Bool := ⟨1, fun x => [.bool x], fun _ => rfl, fun _ => rfl⟩
def Enc.slice : Enc SV := ⟨1, fun v => [v.val], fun _ => rfl, fun _ => rfl⟩
def Enc.str : Enc ByteArray := ⟨1, fun s => [.string s], fun _ => rfl, fun _ => rfl⟩
theorem flat_len {A : Type} (E : Enc A) (xs : List A) : (xs.flatMap E.cells).length = xs.length * E.sz := by
  induction xs with
  | nil => simp
  | cons x xs ih => simp [List.flatMap_cons, ih, E.len, Nat.add_mul]; omega
theorem flat_get {A : Type} (E : Enc A) : ∀ (xs : List A) (i j : Nat) (x : A), xs[i]? = some x → j < E.sz → (xs.flatMap E.cells)[i * E.sz + j]? = (E.cells x)[j]?
  | [], _, _, _, h, _ => by simp at h
  | y :: xs, 0, j, x, h, hj => by
    simp at h; subst h
    rw [List.flatMap_cons, List.getElem?_append_left (by rw [E.len]; simpa using hj)]; simp
  | y :: xs, i + 1, j, x, h, hj => by
    rw [List.flatMap_cons, List.getElem?_append_right (by rw [E.len, Nat.add_mul]; omega), E.len]
    have : (i + 1) * E.sz + j - E.sz = i * E.sz + j := by rw [Nat.add_mul]; omega
    rw [this]
    exact flat_get E xs i j x (by simpa using h) hj
theorem setManyL_get : ∀ (vs c : List Value) (o j : Nat), o + vs.length ≤ c.length → (setManyL c o vs)[j]? = if o ≤ j ∧ j < o + vs.length then vs[j - o]? else c[j]?
  | [], c, o, j, _ => by simp [setManyL]; omega
  | v :: vs, c, o, j, h => by
    simp only [List.length_cons] at h
    rw [setManyL, setManyL_get vs _ _ _ (by simp; omega)]
    by_cases h1 : o + 1 ≤ j ∧ j < o + 1 + vs.length
    · rw [if_pos h1, if_pos (by simp; omega)]
      have : j - o = (j - (o + 1)) + 1 := by omega
      rw [this]; simp
    · rw [if_neg h1]
      by_cases h2 : j = o
      · subst h2
        rw [if_pos (by simp), List.getElem?_set_self (by omega)]
        simp
      · rw [if_neg (by simp; omega), List.getElem?_set_ne (by omega)]
theorem flat_set {A : Type} (E : Enc A) (xs : List A) (i : Nat) (x x' : A) (off : Nat) (vs : List Value) (hi : xs[i]? = some x) (hx : setManyL (E.cells x) off vs = E.cells x') (hoff : off + vs.length ≤ E.sz) (pre post : List Value) :
    setManyL (pre ++ xs.flatMap E.cells ++ post) (pre.length + (i * E.sz + off)) vs = pre ++ (xs.set i x').flatMap E.cells ++ post := by
  have hlt : i < xs.length := (List.getElem?_eq_some_iff.1 hi).1
  have hmul : i * E.sz + E.sz ≤ xs.length * E.sz := by
    have := Nat.mul_le_mul_right E.sz (show i + 1 ≤ xs.length from hlt)
    rw [Nat.add_mul] at this; omega
  have hl := flat_len E xs
  have hl' := flat_len E (xs.set i x')
  rw [List.length_set] at hl'
  apply List.ext_getElem?
  intro j
  rw [setManyL_get _ _ _ _ (by simp only [List.length_append]; omega)]
  by_cases hz : E.sz = 0
  · have : vs = [] := List.length_eq_zero_iff.1 (by omega)
    subst this
    rw [if_neg (by simp)]
    have e1 : xs.flatMap E.cells = [] := List.length_eq_zero_iff.1 (by rw [hl, hz]; simp)
    have e2 : (xs.set i x').flatMap E.cells = [] := List.length_eq_zero_iff.1 (by rw [hl', hz]; simp)
    rw [e1, e2]
  have hpos : 0 < E.sz := by omega
  by_cases hj1 : j < pre.length
  · rw [if_neg (by omega), List.append_assoc, List.append_assoc, List.getElem?_append_left hj1, List.getElem?_append_left hj1]
  · by_cases hj2 : j < pre.length + xs.length * E.sz
    · -- inside
      obtain ⟨k, hk⟩ : ∃ k, j = pre.length + k := ⟨j - pre.length, by omega⟩
      subst hk
      have hk2 : k < xs.length * E.sz := by omega
      have hq : k / E.sz < xs.length := Nat.div_lt_of_lt_mul (by rw [Nat.mul_comm]; exact hk2)
      have hr : k % E.sz < E.sz := Nat.mod_lt _ hpos
      have hkd : k = k / E.sz * E.sz + k % E.sz := by rw [Nat.mul_comm]; exact (Nat.div_add_mod k E.sz).symm
      generalize hqe : k / E.sz = q at *
      generalize hre : k % E.sz = r at *
      have hR : (pre ++ (xs.set i x').flatMap E.cells ++ post)[pre.length + k]? = ((xs.set i x').flatMap E.cells)[k]? := by
        rw [List.append_assoc, List.getElem?_append_right (by omega), Nat.add_sub_cancel_left, List.getElem?_append_left (by rw [hl']; exact hk2)]
      have hL : (pre ++ xs.flatMap E.cells ++ post)[pre.length + k]? = (xs.flatMap E.cells)[k]? := by
        rw [List.append_assoc, List.getElem?_append_right (by omega), Nat.add_sub_cancel_left, List.getElem?_append_left (by rw [hl]; exact hk2)]
      rw [hR, hL]
      by_cases hqi : q = i
      · subst hqi
        have h1 : (xs.set q x')[q]? = some x' := by simp [hlt]
        rw [hkd, flat_get E _ _ _ _ h1 hr, flat_get E _ _ _ _ hi hr, ← hx, setManyL_get _ _ _ _ (by rw [E.len]; exact hoff)]
        by_cases hin : off ≤ r ∧ r < off + vs.length
        · rw [if_pos hin, if_pos (by omega)]; congr 1; omega
        · rw [if_neg hin, if_neg (by omega)]
      · have hq' : xs[q]? = some xs[q] := List.getElem?_eq_getElem hq
        have h1 : (xs.set i x')[q]? = some xs[q] := by rw [List.getElem?_set_ne (Ne.symm hqi)]; exact hq'
        rw [hkd, flat_get E _ _ _ _ h1 hr, flat_get E _ _ _ _ hq' hr, if_neg]
        intro hc
        have : q * E.sz + r < i * E.sz + E.sz ∧ i * E.sz ≤ q * E.sz + r := by omega
        rcases Nat.lt_or_gt_of_ne hqi with hlt' | hgt'
        · have := Nat.mul_le_mul_right E.sz (show q + 1 ≤ i from hlt'); rw [Nat.add_mul] at this; omega
        · have := Nat.mul_le_mul_right E.sz (show i + 1 ≤ q from hgt'); rw [Nat.add_mul] at this; omega
    · rw [if_neg (by omega), List.getElem?_append_right (by simp only [List.length_append]; omega), List.getElem?_append_right (by simp only [List.length_append]; omega)]
      simp only [List.length_append]; rw [hl, hl']
/-- an owned slice -/
def slA {A : Type} (T : TypeId) (E : Enc A) (v : Value) (xs : List A) : HProp := fun h =>
  (v = .slice none 0 0 ∧ xs = [] ∧ h = emp) ∨
  ∃ b o c pre post, v = .slice (some ⟨b, o, none⟩) xs.length c ∧ xs.length ≤ c ∧ pre.length = o ∧ (c - xs.length) * E.sz ≤ post.length ∧
    h = put emp b (.cells ⟨pre ++ xs.flatMap E.cells ++ post⟩ T (0, 0))
/-- what is read of memory -/
structure Rd (A : Type) where
  sz : Nat
  rel : Heap → A → List Value → Prop
  len : ∀ {h x cs}, rel h x cs → cs.length = sz
  mono : ∀ {h g x cs}, Sub h g → rel h x cs → rel g x cs
def Enc.rd {A : Type} (E : Enc A) : Rd A := ⟨E.sz, fun _ x cs => cs = E.cells x, fun h => by rw [h, E.len], fun _ h => h⟩
def SlR {A : Type} (E : Rd A) (h : Heap) (v : Value) (xs : List A) : Prop :=
  ∃ a c, v = .slice a xs.length c ∧ xs.length ≤ c ∧ (xs ≠ [] → ∃ ad : Addr, a = some ad ∧ ∀ i x, xs[i]? = some x → ∃ cs, E.rel h x cs ∧ rowH h (ad.add (i * E.sz)) cs)
theorem SlR.mono {A : Type} {E : Rd A} {h g : Heap} {v : Value} {xs : List A} (hs : Sub h g) (H : SlR E h v xs) : SlR E g v xs := by
  obtain ⟨a, c, h1, h2, h3⟩ := H
  refine ⟨a, c, h1, h2, fun hne => ?_⟩
  obtain ⟨ad, e, h4⟩ := h3 hne
  exact ⟨ad, e, fun i x hx => let ⟨cs, g1, g2⟩ := h4 i x hx; ⟨cs, E.mono hs g1, g2.mono hs⟩⟩
def Rd.slice {A : Type} (E : Rd A) : Rd (List A) :=
  ⟨1, fun h xs cs => ∃ v, cs = [v] ∧ SlR E h v xs, fun ⟨_, h, _⟩ => by rw [h]; rfl, fun hs ⟨v, h1, h2⟩ => ⟨v, h1, h2.mono hs⟩⟩
theorem slA_lend {A : Type} {T : TypeId} {E : Enc A} {v : Value} {xs : List A} {g h : Heap} (hg : slA T E v xs g) (hs : Sub g h) : SlR E.rd h v xs := by
  rcases hg with ⟨rfl, rfl, rfl⟩ | ⟨b, o, c, pre, post, rfl, h1, h2, h3, rfl⟩
  · exact ⟨none, 0, rfl, Nat.le_refl _, fun h => absurd rfl h⟩
  · refine ⟨_, c, rfl, h1, fun _ => ⟨_, rfl, fun i x hx => ⟨E.cells x, rfl, fun j u hj => ?_⟩⟩⟩
    have hlt := (List.getElem?_eq_some_iff.1 hx).1
    have hj' : j < E.sz := by have := (List.getElem?_eq_some_iff.1 hj).1; rw [E.len] at this; exact this
    refine ⟨_, T, _, by rw [add_block, add_block]; exact hs _ _ put_emp_self, add_spot _ (add_spot _ rfl), ?_⟩
    rw [add_off, add_off]
    have hmul : i * E.sz + E.sz ≤ xs.length * E.sz := by
      have := Nat.mul_le_mul_right E.sz (show i + 1 ≤ xs.length from hlt)
      rw [Nat.add_mul] at this; omega
    have hl := flat_len E xs
    simp only [List.getElem?_toArray, Enc.rd]
    rw [List.append_assoc, List.getElem?_append_right (by omega)]
    have : o + i * E.sz + j - pre.length = i * E.sz + j := by omega
    rw [this, List.getElem?_append_left (by omega), flat_get E xs i j x hx hj']
    exact hj
theorem slA_shape {A : Type} {T : TypeId} {E : Enc A} {v : Value} {xs : List A} {g : Heap} (hg : slA T E v xs g) : ∃ a c, v = .slice a xs.length c ∧ xs.length ≤ c ∧ (xs ≠ [] → ∃ ad, a = some ad) := by
  rcases hg with ⟨rfl, rfl, rfl⟩ | ⟨b, o, c, pre, post, rfl, h1, _⟩
  · exact ⟨none, 0, rfl, Nat.le_refl _, fun h => absurd rfl h⟩
  · exact ⟨_, c, rfl, h1, fun _ => ⟨_, rfl⟩⟩
theorem slA_nil {A : Type} (T : TypeId) (E : Enc A) (Γ : List HProp) : ent Γ (Γ ++ [slA T E (.slice none 0 0) []]) := fun h hs =>
  sat_append.2 ⟨h, emp, hs, ⟨emp, emp, .inl ⟨rfl, rfl, rfl⟩, trivial, fun _ => .inl rfl, (un_emp _ fun _ => rfl).symm⟩, fun _ => .inr rfl, (un_emp _ fun _ => rfl).symm⟩
section
variable {P : Program} {hR : Heap} {n : Fr} {cf : Op → Cls} {ops : Array Oper} {l : List Oper} {K : Env → List HProp → Prop} {ρ : Env} {Γ : List HProp} {o : Oper} {d : Nat}
variable {A : Type} {TE : TypeId} {E : Enc A} {v : Value} {xs : List A}
theorem Run.lenO (k : Nat) {T : TypeId} {x : Operand} {ty' : TypeId × Nat × Nat} (hop : o.op = .call { callee := .builtin .len, args := #[x], argTypes := #[T] }) (hx : ρ.val x = some v)
    (hT : slT P T = some ty') (_hd : o.dst = some d) (hs : pre n cf ops ρ o d = true) (hk : Γ[k]? = some (slA TE E v xs)) (H : Run P hR n cf ops l K ((d, .int .i64 (xs.length : Int)) :: ρ) Γ) : Run P hR n cf ops (o :: l) K ρ Γ :=
  Run.val hs (fun a h ho ht w => by
    obtain ⟨E', sz, by'⟩ := ty'
    obtain ⟨hu, _⟩ := slT_spec hT
    obtain ⟨h1, _, g1, _⟩ := sat_get ht hk
    obtain ⟨a0, c0, rfl, _⟩ := slA_shape g1
    simp [execOp, hop, resolve, invoke, builtin, Builtin.len_, underlying, hu, ho.eval hx, goInt]) H
theorem Run.lenR {B : Type} {F : Rd B} {ys : List B} {T : TypeId} {x : Operand} {ty' : TypeId × Nat × Nat} (hop : o.op = .call { callee := .builtin .len, args := #[x], argTypes := #[T] }) (hx : ρ.val x = some v)
    (hT : slT P T = some ty') (_hd : o.dst = some d) (hs : pre n cf ops ρ o d = true) (hr : SlR F hR v ys) (H : Run P hR n cf ops l K ((d, .int .i64 (ys.length : Int)) :: ρ) Γ) : Run P hR n cf ops (o :: l) K ρ Γ :=
  Run.val hs (fun a h ho ht w => by
    obtain ⟨E', sz, by'⟩ := ty'
    obtain ⟨hu, _⟩ := slT_spec hT
    obtain ⟨a0, c0, rfl, _⟩ := hr
    simp [execOp, hop, resolve, invoke, builtin, Builtin.len_, underlying, hu, ho.eval hx, goInt]) H
/-- an element's address, of an owned slice -/
theorem Run.idxO (k : Nat) {T EE : TypeId} {x ix : Operand} {kd : IntKind} {i : Int} {sz by' : Nat} (hop : o.op = .indexAddr T x ix) (hx : ρ.val x = some v) (hi : ρ.val ix = some (.int kd i))
    (hT : slT P T = some (EE, sz, by')) (_hd : o.dst = some d) (hs : pre n cf ops ρ o d = true) (hk : Γ[k]? = some (slA TE E v xs)) (hsz : E.sz = sz) (h0 : 0 ≤ i) (h1 : i < xs.length)
    (H : Run P hR n cf ops l K ((d, .pointer (some (elemAddr v (i.toNat * E.sz)))) :: ρ) Γ) : Run P hR n cf ops (o :: l) K ρ Γ :=
  Run.val hs (fun a h ho ht w => by
    subst hsz
    obtain ⟨hu, inf, hinf, hsz, _⟩ := slT_spec hT
    obtain ⟨h1', _, g1, _⟩ := sat_get ht hk
    obtain ⟨a0, c0, rfl, _, g3⟩ := slA_shape g1
    obtain ⟨ad, rfl⟩ := g3 (by intro e; subst e; simp at h1; omega)
    simp [execOp, hop, ho.eval hx, ho.eval hi, Instr.indexAt, underlying, hu, asIntOf, h0, h1, sizeOf, typeInfo, hinf, hsz, elemAddr]) H
/-- an element's address, of a slice that is read -/
theorem Run.idxR {B : Type} {F : Rd B} {ys : List B} {T EE : TypeId} {x ix : Operand} {kd : IntKind} {i : Int} {sz by' : Nat} (hop : o.op = .indexAddr T x ix) (hx : ρ.val x = some v) (hi : ρ.val ix = some (.int kd i))
    (hT : slT P T = some (EE, sz, by')) (_hd : o.dst = some d) (hs : pre n cf ops ρ o d = true) (hr : SlR F hR v ys) (hsz : F.sz = sz) (h0 : 0 ≤ i) (h1 : i < ys.length)
    (H : Run P hR n cf ops l K ((d, .pointer (some (elemAddr v (i.toNat * F.sz)))) :: ρ) Γ) : Run P hR n cf ops (o :: l) K ρ Γ :=
  Run.val hs (fun a h ho ht w => by
    subst hsz
    obtain ⟨hu, inf, hinf, hsz, _⟩ := slT_spec hT
    obtain ⟨a0, c0, rfl, _, g3⟩ := hr
    obtain ⟨ad, rfl, _⟩ := g3 (by intro e; subst e; simp at h1; omega)
    simp [execOp, hop, ho.eval hx, ho.eval hi, Instr.indexAt, underlying, hu, asIntOf, h0, h1, sizeOf, typeInfo, hinf, hsz, elemAddr]) H
theorem SlR.at {B : Type} {F : Rd B} {ys : List B} {h : Heap} (hr : SlR F h v ys) {i : Nat} {y : B} (hi : ys[i]? = some y) : ∃ cs, F.rel h y cs ∧ rowH h (elemAddr v (i * F.sz)) cs := by
  obtain ⟨a0, c0, rfl, _, g3⟩ := hr
  obtain ⟨ad, rfl, g4⟩ := g3 (by intro e; subst e; simp at hi)
  exact g4 i y hi
theorem SlR.cell {B : Type} {E : Enc B} {ys : List B} {h : Heap} (hr : SlR E.rd h v ys) {i : Nat} {y : B} (hi : ys[i]? = some y) {off : Nat} {u : Value} (hu : (E.cells y)[off]? = some u) :
    cellH h ((elemAddr v (i * E.sz)).add off) u := by
  obtain ⟨cs, rfl, h2⟩ := hr.at hi
  exact h2 off u hu
theorem SlR.cell0 {B : Type} {E : Enc B} {ys : List B} {h : Heap} (hr : SlR E.rd h v ys) {i : Nat} {y : B} (hi : ys[i]? = some y) {u : Value} (hu : (E.cells y)[0]? = some u) :
    cellH h (elemAddr v (i * E.sz)) u := hr.cell hi hu
theorem SlR.row {B : Type} {E : Enc B} {ys : List B} {h : Heap} (hr : SlR E.rd h v ys) {i : Nat} {y : B} (hi : ys[i]? = some y) : rowH h (elemAddr v (i * E.sz)) (E.cells y) := by
  obtain ⟨cs, rfl, h2⟩ := hr.at hi
  exact h2
/-- the cells of an element of an owned slice -/
theorem slA_block {g : Heap} (hg : slA TE E v xs g) {i : Nat} {x : A} (hi : xs[i]? = some x) : ∃ b o c pre post, v = .slice (some ⟨b, o, none⟩) xs.length c ∧ pre.length = o ∧
    g = put emp b (.cells ⟨pre ++ xs.flatMap E.cells ++ post⟩ TE (0, 0)) ∧ elemAddr v (i * E.sz) = ⟨b, o + i * E.sz, none⟩ ∧
    (∀ j u, (E.cells x)[j]? = some u → (pre ++ xs.flatMap E.cells ++ post)[o + i * E.sz + j]? = some u) := by
  rcases hg with ⟨rfl, rfl, rfl⟩ | ⟨b, o, c, pre, post, rfl, h1, h2, h3, rfl⟩
  · simp at hi
  · refine ⟨b, o, c, pre, post, rfl, h2, rfl, by simp [elemAddr, add_lit], fun j u hj => ?_⟩
    have hlt := (List.getElem?_eq_some_iff.1 hi).1
    have hj' : j < E.sz := by have := (List.getElem?_eq_some_iff.1 hj).1; rw [E.len] at this; exact this
    have hmul : i * E.sz + E.sz ≤ xs.length * E.sz := by
      have := Nat.mul_le_mul_right E.sz (show i + 1 ≤ xs.length from hlt)
      rw [Nat.add_mul] at this; omega
    have hl := flat_len E xs
    rw [List.append_assoc, List.getElem?_append_right (by omega)]
    have : o + i * E.sz + j - pre.length = i * E.sz + j := by omega
    rw [this, List.getElem?_append_left (by omega), flat_get E xs i j x hi hj']
    exact hj
theorem Run.loadO (k i off : Nat) {T : TypeId} {x : Operand} {p : Addr} {u : Value} {y : A} {s : Nat} (hop : o.op = .load T x) (hx : ρ.val x = some (.pointer (some p))) (hT : ag P T = some (false, s))
    (_hd : o.dst = some d) (hs : preC .R n cf ops ρ o d = true) (hk : Γ[k]? = some (slA TE E v xs)) (hp' : p = (elemAddr v (i * E.sz)).add off) (hi : xs[i]? = some y) (hu : (E.cells y)[off]? = some u)
    (H : Run P hR n cf ops l K ((d, u) :: ρ) Γ) : Run P hR n cf ops (o :: l) K ρ Γ :=
  Run.load_of hop hx hs (fun h ht => by
    obtain ⟨h1, h2, g1, hd, rfl, _⟩ := sat_get ht hk
    obtain ⟨b, o', c, pr, po, hv, h3, rfl, h4, h5⟩ := slA_block g1 hi
    rw [h4, add_lit] at hp'
    subst hp'
    exact ⟨_, .inr (un_left_some put_emp_self), fun w hw => loadVar_cell hT rfl (by simpa using h5 off u hu) w hw⟩) H
theorem Run.loadOagg (k i : Nat) {T : TypeId} {x : Operand} {p : Addr} {y : A} (hop : o.op = .load T x) {m : Nat} (hx : ρ.val x = some (.pointer (some p))) (hT' : ag P T = some (true, m))
    (_hd : o.dst = some d) (hs : preC .R n cf ops ρ o d = true) (hk : Γ[k]? = some (slA TE E v xs)) (hm : E.sz = m) (hp' : p = elemAddr v (i * E.sz)) (hi : xs[i]? = some y)
    (H : Run P hR n cf ops l K ((d, .agg ⟨E.cells y⟩) :: ρ) Γ) : Run P hR n cf ops (o :: l) K ρ Γ :=
  Run.load_of hop hx hs (fun h ht => by
    have hT : ag P T = some (true, E.sz) := by rw [hm]; exact hT'
    obtain ⟨h1, h2, g1, hd, rfl, _⟩ := sat_get ht hk
    obtain ⟨b, o', c, pr, po, hv, h3, rfl, h4, h5⟩ := slA_block g1 hi
    rw [h4] at hp'
    subst hp'
    exact ⟨_, .inr (un_left_some put_emp_self), fun w hw => loadVar_row (by rw [E.len]; exact hT) w fun j u hj => cell?_of (by rw [add_block]; exact hw) (add_spot _ rfl) (by rw [add_off]; simpa using h5 j u hj)⟩) H
theorem Run.storeO (k i off : Nat) {T : TypeId} {x yy : Operand} {p : Addr} {u : Value} {vs : List Value} {y y' : A} {g : Bool} (hop : o.op = .store T x yy) (hx : ρ.val x = some (.pointer (some p)))
    (hy : ρ.val yy = some u) (hc : u.cells = ⟨vs⟩) (hT : ag P T = some (g, vs.length)) (h1 : oneCells vs = true) (hs : preN .E cf ops ρ o = true) (hk : Γ[k]? = some (slA TE E v xs))
    (hp' : p = (elemAddr v (i * E.sz)).add off) (hi : xs[i]? = some y) (hset : setManyL (E.cells y) off vs = E.cells y') (hoff' : Nat.ble (off + vs.length) E.sz = true)
    (H : Run P hR n cf ops l K ρ (Γ.set k (slA TE E v (xs.set i y')))) : Run P hR n cf ops (o :: l) K ρ Γ :=
  Run.write_of k hs hk (fun a ho h1' hA => by
    have hoff := Nat.le_of_ble_eq_true hoff'
    obtain ⟨b, o', c, pr, po, hv, h3, rfl, h4, h5⟩ := slA_block hA hi
    rcases hA with ⟨_, e, _⟩ | ⟨b2, o2, c2, pr2, po2, hv2, q1, q2, q3, q4⟩
    · subst e; simp at hi
    rw [hv] at hv2
    simp only [Value.slice.injEq, Option.some.injEq, Addr.mk.injEq, and_true, true_and] at hv2
    obtain ⟨⟨rfl, rfl⟩, rfl⟩ := hv2
    have q5 := congrFun q4 b
    simp only [put_emp_self, Option.some.injEq, Obj.cells.injEq, and_true, Array.mk.injEq] at q5
    have hlt := (List.getElem?_eq_some_iff.1 hi).1
    have hmul : i * E.sz + E.sz ≤ xs.length * E.sz := by
      have := Nat.mul_le_mul_right E.sz (show i + 1 ≤ xs.length from hlt)
      rw [Nat.add_mul] at this; omega
    have hl := flat_len E xs
    refine ⟨b, _, .cells ⟨pr2 ++ (xs.set i y').flatMap E.cells ++ po2⟩ TE (0, 0), q4, .inr ⟨b, o', c, pr2, po2, by rw [List.length_set]; exact hv, by rw [List.length_set]; exact q1, q2, by rw [List.length_set]; exact q3, rfl⟩, fun w hw => ?_⟩
    rw [h4, add_lit] at hp'
    subst hp'
    have hr := run_storeCells (P := P) (off := o' + i * E.sz + off) vs ⟨pr2 ++ xs.flatMap E.cells ++ po2⟩ 0 w hw h1 (by simp only [List.size_toArray, List.length_append]; omega)
    rw [Nat.add_zero, setMany_list] at hr
    have hfs := flat_set E xs i y y' off vs hi hset hoff pr2 po2
    rw [q2] at hfs
    rw [Nat.add_assoc, hfs] at hr
    simp [execOp, hop, ho.eval hx, ho.eval hy, Instr.storeAt, Instr.sureAddr, storeVar, hc, (ag_spec hT w).2, hr, Nat.add_assoc]) H
end
end Go.Sep
end
section
/- append, slices of literals, make, slicing. Over any program. -/
namespace Go.Sep
section
variable {P : Program} {hR : Heap} {n : Fr} {cf : Op → Cls} {ops : Array Oper} {l : List Oper} {K : Env → List HProp → Prop} {ρ : Env} {Γ : List HProp} {o : Oper} {d : Nat}
variable {A : Type} {TE : TypeId} {E : Enc A} {v : Value} {xs ys : List A}
theorem src_own (m : Nat) {TE2 : TypeId} {v2 : Value} (hm : Γ[m]? = some (slA TE2 E v2 ys)) : ∀ h w, sat Γ h → Fits hR h w → SlR E.rd (hp w) v2 ys := fun _ _ hs hf => by
  obtain ⟨h1, h2, g1, hd, e, _⟩ := sat_get hs hm
  subst e
  exact slA_lend g1 ((sub_un_left h1 h2).trans hf.own)
theorem src_ro {v2 : Value} (hr : SlR E.rd hR v2 ys) : ∀ h w, sat Γ h → Fits hR h w → SlR E.rd (hp w) v2 ys := fun _ _ _ hf => hr.mono hf.ro
theorem cells_of_SlR {w : World} {ad : Addr} {m c : Nat} {ys : List A} (hr : SlR E.rd (hp w) (.slice (some ad) m c) ys) (hne : ys ≠ []) :
    ∀ j u, (ys.flatMap E.cells)[j]? = some u → w.cell? (ad.add j) = some u := by
  obtain ⟨a0, c0, he, _, g3⟩ := hr
  obtain ⟨ad', h1, g4⟩ := g3 hne
  simp only [Value.slice.injEq] at he
  obtain ⟨rfl, _, _⟩ := he
  cases h1
  intro j u hj
  by_cases hz : E.sz = 0
  · have := flat_len E ys
    rw [hz, Nat.mul_zero] at this
    rw [List.length_eq_zero_iff.1 this] at hj
    simp at hj
  have hpos : 0 < E.sz := by omega
  have hjl := (List.getElem?_eq_some_iff.1 hj).1
  rw [flat_len] at hjl
  have hq : j / E.sz < ys.length := Nat.div_lt_of_lt_mul (by rw [Nat.mul_comm]; exact hjl)
  have hr : j % E.sz < E.sz := Nat.mod_lt _ hpos
  have hkd : j / E.sz * E.sz + j % E.sz = j := by rw [Nat.mul_comm]; exact Nat.div_add_mod j E.sz
  obtain ⟨cs, rfl, g5⟩ := g4 (j / E.sz) _ (List.getElem?_eq_getElem hq)
  have h2 := flat_get E ys (j / E.sz) (j % E.sz) _ (List.getElem?_eq_getElem hq) hr
  rw [hkd, hj] at h2
  obtain ⟨cc, T, fz, k1, k2, k3⟩ := g5 _ _ h2.symm
  rw [add_add] at k1 k2 k3
  have : j / E.sz * (Enc.rd E).sz + j % E.sz = j := hkd
  rw [this] at k1 k2 k3
  exact cell?_of k1 k2 k3
theorem Step.push {w : World} {h : Heap} {ob : Obj} (k : Nat) (hf : Fits hR h w) : Step w h (World.push { w with drawn := k } ob) (put h w.heap.size ob) ∧ h w.heap.size = none := by
  have hb : hp w w.heap.size = none := by simp [hp]
  have n2 : h w.heap.size = none := by
    cases hx : h w.heap.size with
    | none => rfl
    | some x => have := hf.own _ _ hx; rw [hb] at this; cases this
  refine ⟨⟨fun c x hx => ?_, by simp [World.push], fun c hc _ => ?_, fun c hc => ?_, ⟨rfl, rfl, rfl⟩⟩, n2⟩
  · unfold put at hx
    split at hx
    · rename_i e; subst e; cases hx; simp [hp, World.push]
    · have := hf.own c x hx
      unfold hp World.push at *
      rw [Array.getElem?_push_lt (hp_lt this)]
      exact (Array.getElem?_eq_getElem (hp_lt this)).symm.trans this
  · unfold hp World.push; rw [Array.getElem?_push_lt hc]; exact (Array.getElem?_eq_getElem hc).symm
  · unfold put at hc
    split at hc
    · rename_i e; exact .inr (by omega)
    · exact .inl hc
theorem push_eq (w : World) (ob : Obj) : World.alloc w.drew ob = World.push { w with drawn := w.drawn + 1 } ob := rfl
theorem flat_append (xs ys : List A) : (xs ++ ys).flatMap E.cells = xs.flatMap E.cells ++ ys.flatMap E.cells := List.flatMap_append
theorem zeroCells_size (z : Array Value) (k : Nat) : (Builtin.zeroCells z k).size = k * z.size := by simp [Builtin.zeroCells]
theorem splice_mid (pre X Y post : List Value) (h : Y.length ≤ post.length) : setManyL (pre ++ X ++ post) (pre.length + X.length) Y = pre ++ (X ++ Y) ++ post.drop Y.length := by
  apply List.ext_getElem?
  intro j
  rw [setManyL_get _ _ _ _ (by simp only [List.length_append]; omega)]
  by_cases h1 : pre.length + X.length ≤ j ∧ j < pre.length + X.length + Y.length
  · rw [if_pos h1]
    have e : pre ++ (X ++ Y) ++ post.drop Y.length = (pre ++ X) ++ (Y ++ post.drop Y.length) := by simp
    rw [e, List.getElem?_append_right (by rw [List.length_append]; omega), List.getElem?_append_left (by rw [List.length_append]; omega), List.length_append]
  · rw [if_neg h1]
    by_cases h2 : j < pre.length + X.length
    · have e : pre ++ (X ++ Y) ++ post.drop Y.length = (pre ++ X) ++ (Y ++ post.drop Y.length) := by simp
      have hl : j < (pre ++ X).length := by rw [List.length_append]; omega
      rw [e, List.getElem?_append_left hl, List.getElem?_append_left hl]
    · rw [List.getElem?_append_right (by rw [List.length_append]; omega), List.getElem?_append_right (by simp only [List.length_append]; omega), List.getElem?_drop]
      simp only [List.length_append]; congr 1; omega
/-- append, onto a slice that is owned, or a part of one -/
theorem Run.append_of (k : Nat) {A0 : HProp} (hA0 : ∀ h, A0 h → slA TE E v xs h) {T : TypeId} {x y : Operand} {v2 : Value} {by' : Nat} {z : Value} (hop : o.op = .call { callee := .builtin .append, args := #[x, y], argTypes := #[T, T] })
    (hx : ρ.val x = some v) (hy : ρ.val y = some v2) (_hd : o.dst = some d) (hs : preC .E n cf ops ρ o d = true)
    (hk : Γ[k]? = some A0) (hT : slT P T = some (TE, E.sz, by')) (hz : zr P TE = some z) (hzs : z.cells.size = E.sz) (hsrc : ∀ h w, sat Γ h → Fits hR h w → SlR E.rd (hp w) v2 ys) (hb : (xs.length + ys.length) * by' ≤ 140737488355328) (h63 : xs.length + ys.length ≤ 9223372036854775807)
    (H : ∀ sv : SV, sv.n = xs.length + ys.length → Run P hR n cf ops l K ((d, sv.val) :: ρ) (Γ.set k (slA TE E sv.val (xs ++ ys)))) : Run P hR n cf ops (o :: l) K ρ Γ := by
  intro a h ho ht hl
  obtain ⟨h1, h2, h3, h4⟩ := preC_spec hs
  obtain ⟨hu, inf, hinf, hisz, hiby⟩ := slT_spec hT
  have hiz : inf.zero = some z := by unfold zr at hz; rw [hinf] at hz; simpa using hz
  unfold opsRun
  rw [gd_wanted ho h4, if_pos rfl, h3]
  intro w f
  obtain ⟨g1, g2, gA0, hd, e, hset⟩ := sat_get ht hk
  have gA := hA0 _ gA0
  have hY := hsrc h w ht f
  -- how it ends
  suffices hres : ∃ (sv : SV) (w' : World) (g1' : Heap), (Builtin.append_ #[T, T] o.type #[v, v2]).run P w = .ok sv.val w' ∧ sv.n = xs.length + ys.length ∧
      slA TE E sv.val (xs ++ ys) g1' ∧ Disj g1' g2 ∧ Step w h w' (un g1' g2) by
    obtain ⟨sv, w', g1', hr, hn, hA', hd', hst⟩ := hres
    unfold Oper.wp
    have hrun : (execOp a.eval o).run P w = .ok (.value sv.val) w' := by
      simp [execOp, hop, resolve, invoke, builtin, ho.eval hx, ho.eval hy, hr]
    rw [hrun]
    refine ⟨_, hst, ?_⟩
    rw [h1]
    exact H sv hn _ _ (ho.put h2 _) (hset _ _ hA' hd') ⟨_, f.step hst⟩
  by_cases hys : ys = []
  · -- nothing is put behind
    subst hys
    obtain ⟨a2, c2, rfl, _⟩ := hY
    obtain ⟨a0, c0, rfl, hc0, _⟩ := slA_shape gA
    refine ⟨⟨a0, xs.length, c0⟩, w, g1, ?_, by simp, by simpa [SV.val] using gA, hd, by rw [← e]; exact .refl f.own⟩
    have hf0 : (Builtin.firstCells inf.size 0 (.slice a2 0 c2)).run P w = .ok #[] w := by
      cases a2 with
      | none => exact run_firstCells_none w _ _ _ _
      | some ad => exact run_firstCells_some w inf.size 0 ad 0 c2 [] (by simp) (by simp)
    cases a0 <;> simp [Builtin.append_, underlying, hu, sizeOf, typeInfo, hinf, Builtin.lenOf, hc0, hf0, SV.val, storeCells]
  have hne := hys
  obtain ⟨a2, c2, rfl, hc2, hsome⟩ := hY
  obtain ⟨ad, rfl, _⟩ := hsome hne
  have hY' : SlR E.rd (hp w) (.slice (some ad) ys.length c2) ys := hsrc h w ht f
  have hcells := cells_of_SlR hY' hne
  have hnews : (ys.flatMap E.cells).length = ys.length * inf.size := by rw [flat_len, hisz]
  have hpos : 0 < ys.length := List.length_pos_iff.2 hne
  have h63' : ((xs.length + ys.length : Nat) : Int) ≤ 9223372036854775807 := by omega
  rcases gA with ⟨rfl, rfl, hg1⟩ | ⟨b, o', c, pre, post, rfl, q1, q2, q3, q4⟩
  · -- onto nil
    have hle1 : ys.length * inf.bytes ≤ 281474976710656 := by rw [hiby]; simp at hb; omega
    have hr := run_append_nil (P := P) w T o.type TE inf z hu hinf hiz ad ys.length c2 _ hnews hcells hpos (by simpa using h63') hle1
    obtain ⟨hst, hnone⟩ := Step.push (ob := .cells ((ys.flatMap E.cells).toArray ++ Builtin.zeroCells z.cells (grownCap w ys.length 0 TE - ys.length)) TE) (w.drawn + 1) f
    refine ⟨⟨some ⟨w.heap.size, 0, none⟩, ys.length, grownCap w ys.length 0 TE⟩, _, put emp w.heap.size (.cells ((ys.flatMap E.cells).toArray ++ Builtin.zeroCells z.cells (grownCap w ys.length 0 TE - ys.length)) TE), hr, by simp, ?_, ?_, ?_⟩
    · refine .inr ⟨w.heap.size, 0, grownCap w ys.length 0 TE, [], (Builtin.zeroCells z.cells (grownCap w ys.length 0 TE - ys.length)).toList, by simp [SV.val], ?_, rfl, ?_, ?_⟩
      · have : ys.length ≤ grownCap w ys.length 0 TE := by unfold grownCap; exact Nat.le_add_right _ _
        simpa using this
      · simp [zeroCells_size, hzs]
      · congr 2; apply Array.ext'; simp
    · intro cc
      by_cases hcc : cc = w.heap.size
      · subst hcc; right; rw [e] at hnone; unfold un at hnone; cases hx : g2 w.heap.size <;> simp [hx] at hnone ⊢
      · left; simp [put, hcc, emp]
    · have : un (put emp w.heap.size (.cells ((ys.flatMap E.cells).toArray ++ Builtin.zeroCells z.cells (grownCap w ys.length 0 TE - ys.length)) TE)) g2 = put h w.heap.size (.cells ((ys.flatMap E.cells).toArray ++ Builtin.zeroCells z.cells (grownCap w ys.length 0 TE - ys.length)) TE) := by
        rw [e, hg1]; funext cc; unfold un put; by_cases hcc : cc = w.heap.size <;> simp [hcc, emp]
      rw [this]; exact hst
  · subst q4
    have hbw : hp w b = some (.cells ⟨pre ++ xs.flatMap E.cells ++ post⟩ TE (0, 0)) := f.own b _ (by rw [e]; exact un_left_some put_emp_self)
    have hlx := flat_len E xs
    have hly := flat_len E ys
    by_cases hroom : xs.length + ys.length ≤ c
    · -- in its place
      have hm1 : ys.length * E.sz ≤ (c - xs.length) * E.sz := Nat.mul_le_mul_right _ (by omega)
      have hsc := run_storeCells (P := P) (off := o' + xs.length * E.sz) (ys.flatMap E.cells) ⟨pre ++ xs.flatMap E.cells ++ post⟩ 0 w hbw (by
        unfold oneCells; rw [List.all_flatMap]; exact List.all_eq_true.2 fun y _ => E.one y) (by simp only [List.size_toArray, List.length_append]; omega)
      rw [Nat.add_zero, setMany_list] at hsc
      have hnew : setManyL (pre ++ xs.flatMap E.cells ++ post) (o' + xs.length * E.sz) (ys.flatMap E.cells) = pre ++ (xs ++ ys).flatMap E.cells ++ post.drop (ys.length * E.sz) := by
        rw [flat_append, ← hlx, ← hly, ← q2]
        exact splice_mid _ _ _ _ (by omega)
      rw [hnew] at hsc
      have hst := step_write (ob' := .cells ⟨pre ++ (xs ++ ys).flatMap E.cells ++ post.drop (ys.length * E.sz)⟩ TE (0, 0)) (by rw [← e]; exact f.own) hd e
      refine ⟨⟨some ⟨b, o', none⟩, xs.length + ys.length, c⟩, _, put emp b (.cells ⟨pre ++ (xs ++ ys).flatMap E.cells ++ post.drop (ys.length * E.sz)⟩ TE (0, 0)), ?_, rfl, ?_, ?_, hst⟩
      · have hf1 := run_firstCells_some (P := P) w inf.size ys.length ad ys.length c2 _ hnews hcells
        rw [hisz] at hf1
        simp [Builtin.append_, underlying, hu, sizeOf, typeInfo, hinf, Builtin.lenOf, hroom, hisz, hf1, add_lit, hsc, SV.val]
      · refine .inr ⟨b, o', c, pre, post.drop (ys.length * E.sz), by simp [SV.val], by simpa using hroom, q2, ?_, rfl⟩
        rw [List.length_append, List.length_drop]
        have : (c - (xs.length + ys.length)) * E.sz = (c - xs.length) * E.sz - ys.length * E.sz := by rw [← Nat.sub_mul]; congr 1; omega
        rw [this]; omega
      · intro cc
        by_cases hcc : cc = b
        · subst hcc; exact .inr ((hd cc).resolve_left (by simp [put]))
        · exact .inl (by simp [put, hcc, emp])
    · -- in a new place
      have hold : ∀ j u, (xs.flatMap E.cells)[j]? = some u → w.cell? ((⟨b, o', none⟩ : Addr).add j) = some u := fun j u hj => by
        have hjl := (List.getElem?_eq_some_iff.1 hj).1
        rw [add_lit]
        refine cell?_of hbw rfl ?_
        simp only [List.getElem?_toArray]
        rw [List.append_assoc, List.getElem?_append_right (by omega), List.getElem?_append_left (by omega)]
        rw [← q2, Nat.add_sub_cancel_left]; exact hj
      have hfit : Builtin.nextslicecap (xs.length + ys.length) c * inf.bytes ≤ 281474976710656 := growslice_fits (by omega) (by rw [hiby]; exact hb)
      have hr := run_append_grow (P := P) w T o.type TE inf z hu hinf hiz ⟨b, o', none⟩ xs.length c (xs.flatMap E.cells) (by rw [hlx, hisz]) hold ad ys.length c2 _ hnews hcells (by omega) h63' hfit
      obtain ⟨hst, hnone⟩ := Step.push (ob := .cells ((xs.flatMap E.cells).toArray ++ (ys.flatMap E.cells).toArray ++ Builtin.zeroCells z.cells (grownCap w (xs.length + ys.length) c TE - (xs.length + ys.length))) TE) (w.drawn + 1) f
      refine ⟨⟨some ⟨w.heap.size, 0, none⟩, xs.length + ys.length, grownCap w (xs.length + ys.length) c TE⟩, _, put emp w.heap.size (.cells ((xs.flatMap E.cells).toArray ++ (ys.flatMap E.cells).toArray ++ Builtin.zeroCells z.cells (grownCap w (xs.length + ys.length) c TE - (xs.length + ys.length))) TE), hr, rfl, ?_, ?_, ?_⟩
      · refine .inr ⟨w.heap.size, 0, grownCap w (xs.length + ys.length) c TE, [], (Builtin.zeroCells z.cells (grownCap w (xs.length + ys.length) c TE - (xs.length + ys.length))).toList, by simp [SV.val], ?_, rfl, ?_, ?_⟩
        · have : xs.length + ys.length ≤ grownCap w (xs.length + ys.length) c TE := by unfold grownCap; exact Nat.le_add_right _ _
          simpa using this
        · simp [zeroCells_size, hzs]
        · congr 2; apply Array.ext'; simp
      · intro cc
        by_cases hcc : cc = w.heap.size
        · subst hcc; right; rw [e] at hnone; unfold un at hnone; cases hx : g2 w.heap.size <;> simp [hx] at hnone ⊢
        · left; simp [put, hcc, emp]
      · have hsub : Step w h (World.push { w with drawn := w.drawn + 1 } (.cells ((xs.flatMap E.cells).toArray ++ (ys.flatMap E.cells).toArray ++ Builtin.zeroCells z.cells (grownCap w (xs.length + ys.length) c TE - (xs.length + ys.length))) TE))
            (un (put emp w.heap.size (.cells ((xs.flatMap E.cells).toArray ++ (ys.flatMap E.cells).toArray ++ Builtin.zeroCells z.cells (grownCap w (xs.length + ys.length) c TE - (xs.length + ys.length))) TE)) g2) := by
          refine ⟨fun cc x hx => hst.sub cc x ?_, hst.size, hst.keep, fun cc hcc => hst.dom cc ?_, hst.same⟩
          · unfold un at hx; unfold put at hx ⊢
            by_cases hcc : cc = w.heap.size
            · simp [hcc] at hx ⊢; exact hx
            · simp [hcc, emp] at hx ⊢
              rw [e]; exact sub_un_right hd cc x hx
          · unfold un at hcc; unfold put at hcc ⊢
            by_cases hc1 : cc = w.heap.size
            · simp [hc1]
            · simp [hc1, emp] at hcc ⊢
              rw [e]; intro h0
              cases hx : g2 cc with
              | none => exact hcc hx
              | some x => rw [sub_un_right hd cc x hx] at h0; cases h0
        exact hsub
/-- append, onto a slice that is owned -/
theorem Run.append (k : Nat) {T : TypeId} {x y : Operand} {v2 : Value} {by' : Nat} {z : Value} (hop : o.op = .call { callee := .builtin .append, args := #[x, y], argTypes := #[T, T] })
    (hx : ρ.val x = some v) (hy : ρ.val y = some v2) (_hd : o.dst = some d) (hs : preC .E n cf ops ρ o d = true)
    (hk : Γ[k]? = some (slA TE E v xs)) (hT : slT P T = some (TE, E.sz, by')) (hz : zr P TE = some z) (hzs : z.cells.size = E.sz) (hsrc : ∀ h w, sat Γ h → Fits hR h w → SlR E.rd (hp w) v2 ys) (hb : (xs.length + ys.length) * by' ≤ 140737488355328) (h63 : xs.length + ys.length ≤ 9223372036854775807)
    (H : ∀ sv : SV, sv.n = xs.length + ys.length → Run P hR n cf ops l K ((d, sv.val) :: ρ) (Γ.set k (slA TE E sv.val (xs ++ ys)))) : Run P hR n cf ops (o :: l) K ρ Γ :=
  Run.append_of k (fun _ h => h) hop hx hy _hd hs hk hT hz hzs hsrc hb h63 H
end
end Go.Sep
end
