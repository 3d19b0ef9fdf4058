/- Slices that are owned, slices that are read: elements, append, make, slicing. Over any program. -/
import Derived.Test.YtengcfamhoppbaaS6
import Derived.Laws.Append
namespace Go.Sep

/-- how an element lies in cells -/
structure Enc (A : Type) where
  sz : Nat
  cells : A → List Value
  len : ∀ x, (cells x).length = sz
  one : ∀ x, oneCells (cells x) = true

structure SV where
  a : Option Addr
  n : Nat
  c : Nat
def SV.val (v : SV) : Value := .slice v.a v.n v.c
def Enc.int (k : IntKind := .i64) : Enc Int := ⟨1, fun x => [.int k x], fun _ => rfl, fun _ => rfl⟩
def Enc.bool : Enc Bool := ⟨1, fun x => [.bool x], fun _ => rfl, fun _ => rfl⟩
def Enc.slice : Enc SV := ⟨1, fun v => [v.val], fun _ => rfl, fun _ => rfl⟩
def Enc.str : Enc ByteArray := ⟨1, fun s => [.string s], fun _ => rfl, fun _ => rfl⟩

theorem flat_len {A : Type} (E : Enc A) (xs : List A) : (xs.flatMap E.cells).length = xs.length * E.sz := by
  induction xs with
  | nil => simp
  | cons x xs ih => simp [List.flatMap_cons, ih, E.len, Nat.add_mul]; omega

theorem flat_get {A : Type} (E : Enc A) : ∀ (xs : List A) (i j : Nat) (x : A), xs[i]? = some x → j < E.sz → (xs.flatMap E.cells)[i * E.sz + j]? = (E.cells x)[j]?
  | [], _, _, _, h, _ => by simp at h
  | y :: xs, 0, j, x, h, hj => by
    simp at h; subst h
    rw [List.flatMap_cons, List.getElem?_append_left (by rw [E.len]; simpa using hj)]; simp
  | y :: xs, i + 1, j, x, h, hj => by
    rw [List.flatMap_cons, List.getElem?_append_right (by rw [E.len, Nat.add_mul]; omega), E.len]
    have : (i + 1) * E.sz + j - E.sz = i * E.sz + j := by rw [Nat.add_mul]; omega
    rw [this]
    exact flat_get E xs i j x (by simpa using h) hj

theorem setManyL_len : ∀ (vs c : List Value) (o : Nat), (setManyL c o vs).length = c.length
  | [], _, _ => rfl
  | v :: vs, c, o => by simp [setManyL, setManyL_len vs]
theorem setManyL_get : ∀ (vs c : List Value) (o j : Nat), o + vs.length ≤ c.length → (setManyL c o vs)[j]? = if o ≤ j ∧ j < o + vs.length then vs[j - o]? else c[j]?
  | [], c, o, j, _ => by simp [setManyL]; omega
  | v :: vs, c, o, j, h => by
    simp only [List.length_cons] at h
    rw [setManyL, setManyL_get vs _ _ _ (by simp; omega)]
    by_cases h1 : o + 1 ≤ j ∧ j < o + 1 + vs.length
    · rw [if_pos h1, if_pos (by simp; omega)]
      have : j - o = (j - (o + 1)) + 1 := by omega
      rw [this]; simp
    · rw [if_neg h1]
      by_cases h2 : j = o
      · subst h2
        rw [if_pos (by simp), List.getElem?_set_self (by omega)]
        simp
      · rw [if_neg (by simp; omega), List.getElem?_set_ne (by omega)]

theorem flat_set {A : Type} (E : Enc A) (xs : List A) (i : Nat) (x x' : A) (off : Nat) (vs : List Value) (hi : xs[i]? = some x) (hx : setManyL (E.cells x) off vs = E.cells x') (hoff : off + vs.length ≤ E.sz) (pre post : List Value) :
    setManyL (pre ++ xs.flatMap E.cells ++ post) (pre.length + (i * E.sz + off)) vs = pre ++ (xs.set i x').flatMap E.cells ++ post := by
  have hlt : i < xs.length := (List.getElem?_eq_some_iff.1 hi).1
  have hmul : i * E.sz + E.sz ≤ xs.length * E.sz := by
    have := Nat.mul_le_mul_right E.sz (show i + 1 ≤ xs.length from hlt)
    rw [Nat.add_mul] at this; omega
  have hl := flat_len E xs
  have hl' := flat_len E (xs.set i x')
  rw [List.length_set] at hl'
  apply List.ext_getElem?
  intro j
  rw [setManyL_get _ _ _ _ (by simp only [List.length_append]; omega)]
  by_cases hz : E.sz = 0
  · have : vs = [] := List.length_eq_zero_iff.1 (by omega)
    subst this
    rw [if_neg (by simp)]
    have e1 : xs.flatMap E.cells = [] := List.length_eq_zero_iff.1 (by rw [hl, hz]; simp)
    have e2 : (xs.set i x').flatMap E.cells = [] := List.length_eq_zero_iff.1 (by rw [hl', hz]; simp)
    rw [e1, e2]
  have hpos : 0 < E.sz := by omega
  by_cases hj1 : j < pre.length
  · rw [if_neg (by omega), List.append_assoc, List.append_assoc, List.getElem?_append_left hj1, List.getElem?_append_left hj1]
  · by_cases hj2 : j < pre.length + xs.length * E.sz
    · -- inside
      obtain ⟨k, hk⟩ : ∃ k, j = pre.length + k := ⟨j - pre.length, by omega⟩
      subst hk
      have hk2 : k < xs.length * E.sz := by omega
      have hq : k / E.sz < xs.length := Nat.div_lt_of_lt_mul (by rw [Nat.mul_comm]; exact hk2)
      have hr : k % E.sz < E.sz := Nat.mod_lt _ hpos
      have hkd : k = k / E.sz * E.sz + k % E.sz := by rw [Nat.mul_comm]; exact (Nat.div_add_mod k E.sz).symm
      generalize hqe : k / E.sz = q at *
      generalize hre : k % E.sz = r at *
      have hR : (pre ++ (xs.set i x').flatMap E.cells ++ post)[pre.length + k]? = ((xs.set i x').flatMap E.cells)[k]? := by
        rw [List.append_assoc, List.getElem?_append_right (by omega), Nat.add_sub_cancel_left, List.getElem?_append_left (by rw [hl']; exact hk2)]
      have hL : (pre ++ xs.flatMap E.cells ++ post)[pre.length + k]? = (xs.flatMap E.cells)[k]? := by
        rw [List.append_assoc, List.getElem?_append_right (by omega), Nat.add_sub_cancel_left, List.getElem?_append_left (by rw [hl]; exact hk2)]
      rw [hR, hL]
      by_cases hqi : q = i
      · subst hqi
        have h1 : (xs.set q x')[q]? = some x' := by simp [hlt]
        rw [hkd, flat_get E _ _ _ _ h1 hr, flat_get E _ _ _ _ hi hr, ← hx, setManyL_get _ _ _ _ (by rw [E.len]; exact hoff)]
        by_cases hin : off ≤ r ∧ r < off + vs.length
        · rw [if_pos hin, if_pos (by omega)]; congr 1; omega
        · rw [if_neg hin, if_neg (by omega)]
      · have hq' : xs[q]? = some xs[q] := List.getElem?_eq_getElem hq
        have h1 : (xs.set i x')[q]? = some xs[q] := by rw [List.getElem?_set_ne (Ne.symm hqi)]; exact hq'
        rw [hkd, flat_get E _ _ _ _ h1 hr, flat_get E _ _ _ _ hq' hr, if_neg]
        intro hc
        have : q * E.sz + r < i * E.sz + E.sz ∧ i * E.sz ≤ q * E.sz + r := by omega
        rcases Nat.lt_or_gt_of_ne hqi with hlt' | hgt'
        · have := Nat.mul_le_mul_right E.sz (show q + 1 ≤ i from hlt'); rw [Nat.add_mul] at this; omega
        · have := Nat.mul_le_mul_right E.sz (show i + 1 ≤ q from hgt'); rw [Nat.add_mul] at this; omega
    · rw [if_neg (by omega), List.getElem?_append_right (by simp only [List.length_append]; omega), List.getElem?_append_right (by simp only [List.length_append]; omega)]
      simp only [List.length_append]; rw [hl, hl']

/-- an owned slice -/
def slA {A : Type} (T : TypeId) (E : Enc A) (v : Value) (xs : List A) : HProp := fun h =>
  (v = .slice none 0 0 ∧ xs = [] ∧ h = emp) ∨
  ∃ b o c pre post, v = .slice (some ⟨b, o, none⟩) xs.length c ∧ xs.length ≤ c ∧ pre.length = o ∧ (c - xs.length) * E.sz ≤ post.length ∧
    h = put emp b (.cells ⟨pre ++ xs.flatMap E.cells ++ post⟩ T (0, 0))

/-- what is read of memory -/
structure Rd (A : Type) where
  sz : Nat
  rel : Heap → A → List Value → Prop
  len : ∀ {h x cs}, rel h x cs → cs.length = sz
  mono : ∀ {h g x cs}, Sub h g → rel h x cs → rel g x cs

def Enc.rd {A : Type} (E : Enc A) : Rd A := ⟨E.sz, fun _ x cs => cs = E.cells x, fun h => by rw [h, E.len], fun _ h => h⟩

def SlR {A : Type} (E : Rd A) (h : Heap) (v : Value) (xs : List A) : Prop :=
  ∃ a c, v = .slice a xs.length c ∧ xs.length ≤ c ∧ (xs ≠ [] → ∃ ad : Addr, a = some ad ∧ ∀ i x, xs[i]? = some x → ∃ cs, E.rel h x cs ∧ rowH h (ad.add (i * E.sz)) cs)

theorem SlR.mono {A : Type} {E : Rd A} {h g : Heap} {v : Value} {xs : List A} (hs : Sub h g) (H : SlR E h v xs) : SlR E g v xs := by
  obtain ⟨a, c, h1, h2, h3⟩ := H
  refine ⟨a, c, h1, h2, fun hne => ?_⟩
  obtain ⟨ad, e, h4⟩ := h3 hne
  exact ⟨ad, e, fun i x hx => let ⟨cs, g1, g2⟩ := h4 i x hx; ⟨cs, E.mono hs g1, g2.mono hs⟩⟩

def Rd.slice {A : Type} (E : Rd A) : Rd (List A) :=
  ⟨1, fun h xs cs => ∃ v, cs = [v] ∧ SlR E h v xs, fun ⟨_, h, _⟩ => by rw [h]; rfl, fun hs ⟨v, h1, h2⟩ => ⟨v, h1, h2.mono hs⟩⟩

theorem slA_lend {A : Type} {T : TypeId} {E : Enc A} {v : Value} {xs : List A} {g h : Heap} (hg : slA T E v xs g) (hs : Sub g h) : SlR E.rd h v xs := by
  rcases hg with ⟨rfl, rfl, rfl⟩ | ⟨b, o, c, pre, post, rfl, h1, h2, h3, rfl⟩
  · exact ⟨none, 0, rfl, Nat.le_refl _, fun h => absurd rfl h⟩
  · refine ⟨_, c, rfl, h1, fun _ => ⟨_, rfl, fun i x hx => ⟨E.cells x, rfl, fun j u hj => ?_⟩⟩⟩
    have hlt := (List.getElem?_eq_some_iff.1 hx).1
    have hj' : j < E.sz := by have := (List.getElem?_eq_some_iff.1 hj).1; rw [E.len] at this; exact this
    refine ⟨_, T, _, by rw [add_block, add_block]; exact hs _ _ put_emp_self, add_spot _ (add_spot _ rfl), ?_⟩
    rw [add_off, add_off]
    have hmul : i * E.sz + E.sz ≤ xs.length * E.sz := by
      have := Nat.mul_le_mul_right E.sz (show i + 1 ≤ xs.length from hlt)
      rw [Nat.add_mul] at this; omega
    have hl := flat_len E xs
    simp only [List.getElem?_toArray, Enc.rd]
    rw [List.append_assoc, List.getElem?_append_right (by omega)]
    have : o + i * E.sz + j - pre.length = i * E.sz + j := by omega
    rw [this, List.getElem?_append_left (by omega), flat_get E xs i j x hx hj']
    exact hj

theorem slA_shape {A : Type} {T : TypeId} {E : Enc A} {v : Value} {xs : List A} {g : Heap} (hg : slA T E v xs g) : ∃ a c, v = .slice a xs.length c ∧ xs.length ≤ c ∧ (xs ≠ [] → ∃ ad, a = some ad) := by
  rcases hg with ⟨rfl, rfl, rfl⟩ | ⟨b, o, c, pre, post, rfl, h1, _⟩
  · exact ⟨none, 0, rfl, Nat.le_refl _, fun h => absurd rfl h⟩
  · exact ⟨_, c, rfl, h1, fun _ => ⟨_, rfl⟩⟩

theorem slA_nil {A : Type} (T : TypeId) (E : Enc A) (Γ : List HProp) : ent Γ (Γ ++ [slA T E (.slice none 0 0) []]) := fun h hs =>
  sat_append.2 ⟨h, emp, hs, ⟨emp, emp, .inl ⟨rfl, rfl, rfl⟩, trivial, fun _ => .inl rfl, (un_emp _ fun _ => rfl).symm⟩, fun _ => .inr rfl, (un_emp _ fun _ => rfl).symm⟩

section
variable {P : Program} {hR : Heap} {n : Nat} {cf : Op → Cls} {ops : Array Oper} {l : List Oper} {K : Env → List HProp → Prop} {ρ : Env} {Γ : List HProp} {o : Oper} {d : Nat}
variable {A : Type} {TE : TypeId} {E : Enc A} {v : Value} {xs : List A}

theorem Run.lenO (k : Nat) {T : TypeId} {x : Operand} {ty' : TypeId × Nat × Nat} (hop : o.op = .call { callee := .builtin .len, args := #[x], argTypes := #[T] }) (hx : ρ.val x = some v)
    (hT : slT P T = some ty') (_hd : o.dst = some d) (hs : pre n cf ops ρ o d = true) (hk : Γ[k]? = some (slA TE E v xs)) (H : Run P hR n cf ops l K ((d, .int .i64 (xs.length : Int)) :: ρ) Γ) : Run P hR n cf ops (o :: l) K ρ Γ :=
  Run.val hs (fun a h ho ht w => by
    obtain ⟨E', sz, by'⟩ := ty'
    obtain ⟨hu, _⟩ := slT_spec hT
    obtain ⟨h1, _, g1, _⟩ := sat_get ht hk
    obtain ⟨a0, c0, rfl, _⟩ := slA_shape g1
    simp [execOp, hop, resolve, invoke, builtin, Builtin.len_, underlying, hu, ho.eval hx, goInt]) H

theorem Run.lenR {B : Type} {F : Rd B} {ys : List B} {T : TypeId} {x : Operand} {ty' : TypeId × Nat × Nat} (hop : o.op = .call { callee := .builtin .len, args := #[x], argTypes := #[T] }) (hx : ρ.val x = some v)
    (hT : slT P T = some ty') (_hd : o.dst = some d) (hs : pre n cf ops ρ o d = true) (hr : SlR F hR v ys) (H : Run P hR n cf ops l K ((d, .int .i64 (ys.length : Int)) :: ρ) Γ) : Run P hR n cf ops (o :: l) K ρ Γ :=
  Run.val hs (fun a h ho ht w => by
    obtain ⟨E', sz, by'⟩ := ty'
    obtain ⟨hu, _⟩ := slT_spec hT
    obtain ⟨a0, c0, rfl, _⟩ := hr
    simp [execOp, hop, resolve, invoke, builtin, Builtin.len_, underlying, hu, ho.eval hx, goInt]) H

/-- an element's address, of an owned slice -/
theorem Run.idxO (k : Nat) {T EE : TypeId} {x ix : Operand} {kd : IntKind} {i : Int} {sz by' : Nat} (hop : o.op = .indexAddr T x ix) (hx : ρ.val x = some v) (hi : ρ.val ix = some (.int kd i))
    (hT : slT P T = some (EE, sz, by')) (_hd : o.dst = some d) (hs : pre n cf ops ρ o d = true) (hk : Γ[k]? = some (slA TE E v xs)) (hsz : E.sz = sz) (h0 : 0 ≤ i) (h1 : i < xs.length)
    (H : Run P hR n cf ops l K ((d, .pointer (some (elemAddr v (i.toNat * E.sz)))) :: ρ) Γ) : Run P hR n cf ops (o :: l) K ρ Γ :=
  Run.val hs (fun a h ho ht w => by
    subst hsz
    obtain ⟨hu, inf, hinf, hsz, _⟩ := slT_spec hT
    obtain ⟨h1', _, g1, _⟩ := sat_get ht hk
    obtain ⟨a0, c0, rfl, _, g3⟩ := slA_shape g1
    obtain ⟨ad, rfl⟩ := g3 (by intro e; subst e; simp at h1; omega)
    simp [execOp, hop, ho.eval hx, ho.eval hi, Instr.indexAt, underlying, hu, asIntOf, h0, h1, sizeOf, typeInfo, hinf, hsz, elemAddr]) H

/-- an element's address, of a slice that is read -/
theorem Run.idxR {B : Type} {F : Rd B} {ys : List B} {T EE : TypeId} {x ix : Operand} {kd : IntKind} {i : Int} {sz by' : Nat} (hop : o.op = .indexAddr T x ix) (hx : ρ.val x = some v) (hi : ρ.val ix = some (.int kd i))
    (hT : slT P T = some (EE, sz, by')) (_hd : o.dst = some d) (hs : pre n cf ops ρ o d = true) (hr : SlR F hR v ys) (hsz : F.sz = sz) (h0 : 0 ≤ i) (h1 : i < ys.length)
    (H : Run P hR n cf ops l K ((d, .pointer (some (elemAddr v (i.toNat * F.sz)))) :: ρ) Γ) : Run P hR n cf ops (o :: l) K ρ Γ :=
  Run.val hs (fun a h ho ht w => by
    subst hsz
    obtain ⟨hu, inf, hinf, hsz, _⟩ := slT_spec hT
    obtain ⟨a0, c0, rfl, _, g3⟩ := hr
    obtain ⟨ad, rfl, _⟩ := g3 (by intro e; subst e; simp at h1; omega)
    simp [execOp, hop, ho.eval hx, ho.eval hi, Instr.indexAt, underlying, hu, asIntOf, h0, h1, sizeOf, typeInfo, hinf, hsz, elemAddr]) H

theorem SlR.at {B : Type} {F : Rd B} {ys : List B} {h : Heap} (hr : SlR F h v ys) {i : Nat} {y : B} (hi : ys[i]? = some y) : ∃ cs, F.rel h y cs ∧ rowH h (elemAddr v (i * F.sz)) cs := by
  obtain ⟨a0, c0, rfl, _, g3⟩ := hr
  obtain ⟨ad, rfl, g4⟩ := g3 (by intro e; subst e; simp at hi)
  exact g4 i y hi

theorem SlR.cell {B : Type} {E : Enc B} {ys : List B} {h : Heap} (hr : SlR E.rd h v ys) {i : Nat} {y : B} (hi : ys[i]? = some y) {off : Nat} {u : Value} (hu : (E.cells y)[off]? = some u) :
    cellH h ((elemAddr v (i * E.sz)).add off) u := by
  obtain ⟨cs, rfl, h2⟩ := hr.at hi
  exact h2 off u hu

theorem SlR.cell0 {B : Type} {E : Enc B} {ys : List B} {h : Heap} (hr : SlR E.rd h v ys) {i : Nat} {y : B} (hi : ys[i]? = some y) {u : Value} (hu : (E.cells y)[0]? = some u) :
    cellH h (elemAddr v (i * E.sz)) u := hr.cell hi hu

theorem SlR.row {B : Type} {E : Enc B} {ys : List B} {h : Heap} (hr : SlR E.rd h v ys) {i : Nat} {y : B} (hi : ys[i]? = some y) : rowH h (elemAddr v (i * E.sz)) (E.cells y) := by
  obtain ⟨cs, rfl, h2⟩ := hr.at hi
  exact h2

/-- the cells of an element of an owned slice -/
theorem slA_block {g : Heap} (hg : slA TE E v xs g) {i : Nat} {x : A} (hi : xs[i]? = some x) : ∃ b o c pre post, v = .slice (some ⟨b, o, none⟩) xs.length c ∧ pre.length = o ∧
    g = put emp b (.cells ⟨pre ++ xs.flatMap E.cells ++ post⟩ TE (0, 0)) ∧ elemAddr v (i * E.sz) = ⟨b, o + i * E.sz, none⟩ ∧
    (∀ j u, (E.cells x)[j]? = some u → (pre ++ xs.flatMap E.cells ++ post)[o + i * E.sz + j]? = some u) := by
  rcases hg with ⟨rfl, rfl, rfl⟩ | ⟨b, o, c, pre, post, rfl, h1, h2, h3, rfl⟩
  · simp at hi
  · refine ⟨b, o, c, pre, post, rfl, h2, rfl, by simp [elemAddr, add_lit], fun j u hj => ?_⟩
    have hlt := (List.getElem?_eq_some_iff.1 hi).1
    have hj' : j < E.sz := by have := (List.getElem?_eq_some_iff.1 hj).1; rw [E.len] at this; exact this
    have hmul : i * E.sz + E.sz ≤ xs.length * E.sz := by
      have := Nat.mul_le_mul_right E.sz (show i + 1 ≤ xs.length from hlt)
      rw [Nat.add_mul] at this; omega
    have hl := flat_len E xs
    rw [List.append_assoc, List.getElem?_append_right (by omega)]
    have : o + i * E.sz + j - pre.length = i * E.sz + j := by omega
    rw [this, List.getElem?_append_left (by omega), flat_get E xs i j x hi hj']
    exact hj

theorem Run.loadO (k i off : Nat) {T : TypeId} {x : Operand} {p : Addr} {u : Value} {y : A} {s : Nat} (hop : o.op = .load T x) (hx : ρ.val x = some (.pointer (some p))) (hT : ag P T = some (false, s))
    (_hd : o.dst = some d) (hs : preC .R n cf ops ρ o d = true) (hk : Γ[k]? = some (slA TE E v xs)) (hp' : p = (elemAddr v (i * E.sz)).add off) (hi : xs[i]? = some y) (hu : (E.cells y)[off]? = some u)
    (H : Run P hR n cf ops l K ((d, u) :: ρ) Γ) : Run P hR n cf ops (o :: l) K ρ Γ :=
  Run.load_of hop hx hs (fun h ht => by
    obtain ⟨h1, h2, g1, hd, rfl, _⟩ := sat_get ht hk
    obtain ⟨b, o', c, pr, po, hv, h3, rfl, h4, h5⟩ := slA_block g1 hi
    rw [h4, add_lit] at hp'
    subst hp'
    exact ⟨_, .inr (un_left_some put_emp_self), fun w hw => loadVar_cell hT rfl (by simpa using h5 off u hu) w hw⟩) H

theorem Run.loadOagg (k i : Nat) {T : TypeId} {x : Operand} {p : Addr} {y : A} (hop : o.op = .load T x) {m : Nat} (hx : ρ.val x = some (.pointer (some p))) (hT' : ag P T = some (true, m))
    (_hd : o.dst = some d) (hs : preC .R n cf ops ρ o d = true) (hk : Γ[k]? = some (slA TE E v xs)) (hm : E.sz = m) (hp' : p = elemAddr v (i * E.sz)) (hi : xs[i]? = some y)
    (H : Run P hR n cf ops l K ((d, .agg ⟨E.cells y⟩) :: ρ) Γ) : Run P hR n cf ops (o :: l) K ρ Γ :=
  Run.load_of hop hx hs (fun h ht => by
    have hT : ag P T = some (true, E.sz) := by rw [hm]; exact hT'
    obtain ⟨h1, h2, g1, hd, rfl, _⟩ := sat_get ht hk
    obtain ⟨b, o', c, pr, po, hv, h3, rfl, h4, h5⟩ := slA_block g1 hi
    rw [h4] at hp'
    subst hp'
    exact ⟨_, .inr (un_left_some put_emp_self), fun w hw => loadVar_row (by rw [E.len]; exact hT) w fun j u hj => cell?_of (by rw [add_block]; exact hw) (add_spot _ rfl) (by rw [add_off]; simpa using h5 j u hj)⟩) H

theorem Run.storeO (k i off : Nat) {T : TypeId} {x yy : Operand} {p : Addr} {u : Value} {vs : List Value} {y y' : A} {g : Bool} (hop : o.op = .store T x yy) (hx : ρ.val x = some (.pointer (some p)))
    (hy : ρ.val yy = some u) (hc : u.cells = ⟨vs⟩) (hT : ag P T = some (g, vs.length)) (h1 : oneCells vs = true) (hs : preN .E cf ops ρ o = true) (hk : Γ[k]? = some (slA TE E v xs))
    (hp' : p = (elemAddr v (i * E.sz)).add off) (hi : xs[i]? = some y) (hset : setManyL (E.cells y) off vs = E.cells y') (hoff' : Nat.ble (off + vs.length) E.sz = true)
    (H : Run P hR n cf ops l K ρ (Γ.set k (slA TE E v (xs.set i y')))) : Run P hR n cf ops (o :: l) K ρ Γ :=
  Run.write_of k hs hk (fun a ho h1' hA => by
    have hoff := Nat.le_of_ble_eq_true hoff'
    obtain ⟨b, o', c, pr, po, hv, h3, rfl, h4, h5⟩ := slA_block hA hi
    rcases hA with ⟨_, e, _⟩ | ⟨b2, o2, c2, pr2, po2, hv2, q1, q2, q3, q4⟩
    · subst e; simp at hi
    rw [hv] at hv2
    simp only [Value.slice.injEq, Option.some.injEq, Addr.mk.injEq, and_true, true_and] at hv2
    obtain ⟨⟨rfl, rfl⟩, rfl⟩ := hv2
    have q5 := congrFun q4 b
    simp only [put_emp_self, Option.some.injEq, Obj.cells.injEq, and_true, Array.mk.injEq] at q5
    have hlt := (List.getElem?_eq_some_iff.1 hi).1
    have hmul : i * E.sz + E.sz ≤ xs.length * E.sz := by
      have := Nat.mul_le_mul_right E.sz (show i + 1 ≤ xs.length from hlt)
      rw [Nat.add_mul] at this; omega
    have hl := flat_len E xs
    refine ⟨b, _, .cells ⟨pr2 ++ (xs.set i y').flatMap E.cells ++ po2⟩ TE (0, 0), q4, .inr ⟨b, o', c, pr2, po2, by rw [List.length_set]; exact hv, by rw [List.length_set]; exact q1, q2, by rw [List.length_set]; exact q3, rfl⟩, fun w hw => ?_⟩
    rw [h4, add_lit] at hp'
    subst hp'
    have hr := run_storeCells (P := P) (off := o' + i * E.sz + off) vs ⟨pr2 ++ xs.flatMap E.cells ++ po2⟩ 0 w hw h1 (by simp only [List.size_toArray, List.length_append]; omega)
    rw [Nat.add_zero, setMany_list] at hr
    have hfs := flat_set E xs i y y' off vs hi hset hoff pr2 po2
    rw [q2] at hfs
    rw [Nat.add_assoc, hfs] at hr
    simp [execOp, hop, ho.eval hx, ho.eval hy, Instr.storeAt, Instr.sureAddr, storeVar, hc, (ag_spec hT w).2, hr, Nat.add_assoc]) H
end
end Go.Sep
