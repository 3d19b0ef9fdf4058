/- What is known of a frame's slots and of the memory that is owned, as lists; the rules of the code over them; calls. Over any program. -/
import Derived.Test.YtengcfamhoppbaaS3
import Derived.KernelRfl
namespace Go.Sep

/-! ### The frame -/
abbrev Env := List (Nat × Value)
def Env.get : Env → Nat → Option Value
  | [], _ => none
  | (t, v) :: r, u => bif Nat.beq u t then some v else Env.get r u

structure Ok (n : Nat) (ρ : Env) (a : Act) : Prop where
  size : a.tmps.size = n
  defers : a.defers = []
  get : ∀ t v, ρ.get t = some v → a.tmps[t]? = some v

def Env.val (ρ : Env) : Operand → Option Value
  | .tmp t => ρ.get t
  | .const v => some v
  | .global g => some (.pointer (some ⟨g, 0, none⟩))
  | .func f => some (.func (.func f) #[] #[])

theorem Ok.eval {n : Nat} {ρ : Env} {a : Act} (h : Ok n ρ a) {x : Operand} {v : Value} (hv : ρ.val x = some v) : a.eval x = v := by
  cases x with
  | tmp t => simp only [Act.eval, Array.getD_eq_getD_getElem?]; rw [h.get t v hv]; rfl
  | const c => simpa [Env.val, Act.eval] using hv
  | global g => simpa [Env.val, Act.eval] using hv
  | func f => simpa [Env.val, Act.eval] using hv

theorem Ok.put {n : Nat} {ρ : Env} {a : Act} (h : Ok n ρ a) {d : Nat} (hd : d < n) (v : Value) : Ok n ((d, v) :: ρ) (a.put (some d) v) := by
  refine ⟨by simpa [Act.put] using h.size, h.defers, fun t u hu => ?_⟩
  simp only [Env.get] at hu
  cases e : Nat.beq t d with
  | true =>
    rw [e] at hu
    have e' : t = d := Nat.eq_of_beq_eq_true e
    subst e'; cases hu
    simp [Act.put, h.size, hd]
  | false =>
    rw [e] at hu
    have e' : d ≠ t := fun x => Nat.ne_of_beq_eq_false e x.symm
    simp only [Act.put]
    rw [Array.getElem?_setIfInBounds_ne e']
    exact h.get t u hu

def Env.ext (ρ : Env) : Option Tmp → Value → Env
  | some d, v => (d, v) :: ρ
  | none, _ => ρ
def dstOk (n : Nat) : Option Tmp → Bool
  | some d => decide (d < n)
  | none => true
theorem Ok.ext {n : Nat} {ρ : Env} {a : Act} (h : Ok n ρ a) {d : Option Tmp} (hd : dstOk n d = true) (v : Value) : Ok n (ρ.ext d v) (a.put d v) := by
  cases d with
  | none => exact h
  | some d => exact h.put (by simpa [dstOk] using hd) v

def covers (ρ : Env) : Env → Prop
  | [] => True
  | (t, v) :: r => ρ.get t = some v ∧ covers ρ r
theorem covers.get {ρ : Env} : ∀ {r : Env}, covers ρ r → ∀ t v, r.get t = some v → ρ.get t = some v
  | [], _, _, _, h => by cases h
  | (t', v') :: r, ⟨h1, h2⟩, t, v, h => by
    simp only [Env.get] at h
    cases e : Nat.beq t t' with
    | true => rw [e] at h; have : t = t' := Nat.eq_of_beq_eq_true e; subst this; cases h; exact h1
    | false => rw [e] at h; exact h2.get t v h
theorem Ok.weaken {n : Nat} {ρ ρ' : Env} {a : Act} (h : Ok n ρ a) (hc : covers ρ ρ') : Ok n ρ' a :=
  ⟨h.size, h.defers, fun t v hv => h.get t v (hc.get t v hv)⟩

def collectV : List (Option Value) → Option (List Value)
  | [] => some []
  | some v :: r => match collectV r with | some vs => some (v :: vs) | none => none
  | none :: _ => none
theorem collectV_spec : ∀ {xs : List (Option Value)} {vs : List Value}, collectV xs = some vs → xs = vs.map some
  | [], _, h => by simp only [collectV, Option.some.injEq] at h; subst h; rfl
  | some v :: r, vs, h => by
    simp only [collectV] at h
    split at h
    · rename_i us hu; cases h; simp [collectV_spec hu]
    · cases h
  | none :: _, _, h => by simp [collectV] at h
def collectP : Nat → List (Nat × Option Value) → Option (List Value)
  | _, [] => some []
  | i, (j, some v) :: r => bif Nat.beq i j then (match collectP (i + 1) r with | some vs => some (v :: vs) | none => none) else none
  | _, (_, none) :: _ => none
def idxd : Nat → List Value → List (Nat × Value)
  | _, [] => []
  | i, u :: us => (i, u) :: idxd (i + 1) us
theorem collectP_spec : ∀ {xs : List (Nat × Option Value)} {i : Nat} {vs : List Value}, collectP i xs = some vs → xs = (idxd i vs).map fun p => (p.1, some p.2)
  | [], _, _, h => by simp only [collectP, Option.some.injEq] at h; subst h; rfl
  | (j, some v) :: r, i, vs, h => by
    simp only [collectP] at h
    cases e : Nat.beq i j with
    | false => rw [e] at h; cases h
    | true =>
      rw [e] at h
      simp only [cond_true] at h
      split at h
      · rename_i us hu
        cases h
        have : i = j := Nat.eq_of_beq_eq_true e
        subst this
        simp [idxd, ← collectP_spec hu]
      · cases h
  | (_, none) :: _, _, _, h => by simp [collectP] at h

/-! ### Owned memory -/
abbrev HProp := Heap → Prop
def sat : List HProp → Heap → Prop
  | [], _ => True
  | A :: Γ, h => ∃ h1 h2, A h1 ∧ sat Γ h2 ∧ Disj h1 h2 ∧ h = un h1 h2

theorem un_emp (h : Heap) {g : Heap} (hg : ∀ b, g b = none) : un h g = h := by funext b; simp [un, hg]
theorem emp_un (h : Heap) {g : Heap} (hg : ∀ b, g b = none) : un g h = h := by funext b; simp [un, hg]
theorem un_comm {h g : Heap} (hd : Disj h g) : un h g = un g h := by
  funext b; unfold un; rcases hd b with e | e <;> simp [e]
theorem un_assoc (h g k : Heap) : un (un h g) k = un h (un g k) := by funext b; simp [un, Option.or_assoc]
theorem Disj.symm {h g : Heap} (hd : Disj h g) : Disj g h := fun b => (hd b).symm
theorem disj_un {h g k : Heap} : Disj h (un g k) ↔ Disj h g ∧ Disj h k := by
  constructor
  · intro hd
    exact ⟨fun b => (hd b).imp id (fun e => by unfold un at e; cases hx : g b <;> simp [hx] at e ⊢), fun b => (hd b).imp id (fun e => by unfold un at e; cases hx : g b <;> simp [hx] at e ⊢; exact e)⟩
  · intro ⟨h1, h2⟩ b
    rcases h1 b with e | e
    · exact .inl e
    · rcases h2 b with e' | e'
      · exact .inl e'
      · exact .inr (by simp [un, e, e'])
theorem un_disj {h g k : Heap} : Disj (un g k) h ↔ Disj g h ∧ Disj k h :=
  ⟨fun hd => let ⟨a, b⟩ := disj_un.1 hd.symm; ⟨a.symm, b.symm⟩, fun ⟨a, b⟩ => (disj_un.2 ⟨a.symm, b.symm⟩).symm⟩
theorem sub_un_left (h g : Heap) : Sub h (un h g) := fun b o hb => by simp [un, hb]
theorem sub_un_right {h g : Heap} (hd : Disj h g) : Sub g (un h g) := by rw [un_comm hd]; exact sub_un_left g h
theorem Sub.trans {h g k : Heap} (a : Sub h g) (b : Sub g k) : Sub h k := fun c o hc => b c o (a c o hc)
theorem Sub.refl (h : Heap) : Sub h h := fun _ _ h => h

theorem sat_mono : ∀ {Γ : List HProp} {h g : Heap}, sat Γ h → Disj h g → sat Γ (un h g)
  | [], _, _, _, _ => trivial
  | A :: Γ, _, g, ⟨h1, h2, g1, g2, hd, e⟩, hg => by
    subst e
    obtain ⟨d1, d2⟩ := un_disj.1 hg
    exact ⟨h1, un h2 g, g1, sat_mono g2 d2, disj_un.2 ⟨hd, d1⟩, un_assoc _ _ _⟩

theorem sat_append {Γ Δ : List HProp} {h : Heap} : sat (Γ ++ Δ) h ↔ ∃ h1 h2, sat Γ h1 ∧ sat Δ h2 ∧ Disj h1 h2 ∧ h = un h1 h2 := by
  induction Γ generalizing h with
  | nil =>
    constructor
    · exact fun hs => ⟨emp, h, trivial, hs, fun _ => .inl rfl, (emp_un h fun _ => rfl).symm⟩
    · rintro ⟨h1, h2, _, g2, hd, rfl⟩
      rw [un_comm hd]; exact sat_mono g2 hd.symm
  | cons A Γ ih =>
    simp only [List.cons_append, sat]
    constructor
    · rintro ⟨h1, h2, g1, g2, hd, rfl⟩
      obtain ⟨h3, h4, g3, g4, hd', rfl⟩ := ih.1 g2
      obtain ⟨d1, d2⟩ := disj_un.1 hd
      exact ⟨un h1 h3, h4, ⟨h1, h3, g1, g3, d1, rfl⟩, g4, un_disj.2 ⟨d2, hd'⟩, (un_assoc _ _ _).symm⟩
    · rintro ⟨h12, h4, ⟨h1, h3, g1, g3, d1, rfl⟩, g4, hd, rfl⟩
      obtain ⟨d2, d3⟩ := un_disj.1 hd
      exact ⟨h1, un h3 h4, g1, ih.2 ⟨h3, h4, g3, g4, d3, rfl⟩, disj_un.2 ⟨d1, d2⟩, un_assoc _ _ _⟩

theorem sat_perm {Γ Δ : List HProp} (hp : Γ.Perm Δ) : ∀ {h : Heap}, sat Γ h → sat Δ h := by
  induction hp with
  | nil => exact fun _ => trivial
  | cons A _ ih => rintro h ⟨h1, h2, g1, g2, hd, rfl⟩; exact ⟨h1, h2, g1, ih g2, hd, rfl⟩
  | swap A B Γ =>
    rintro h ⟨h1, h2, g1, ⟨h3, h4, g3, g4, hd', rfl⟩, hd, rfl⟩
    obtain ⟨d1, d2⟩ := disj_un.1 hd
    refine ⟨h3, un h1 h4, g3, ⟨h1, h4, g1, g4, d2, rfl⟩, disj_un.2 ⟨d1.symm, hd'⟩, ?_⟩
    rw [← un_assoc, ← un_assoc, un_comm d1]
  | trans _ _ ih1 ih2 => exact fun h => ih2 (ih1 h)

def ent (Γ Δ : List HProp) : Prop := ∀ h, sat Γ h → sat Δ h
theorem ent.refl (Γ : List HProp) : ent Γ Γ := fun _ h => h
theorem ent.trans {Γ Δ Θ : List HProp} (a : ent Γ Δ) (b : ent Δ Θ) : ent Γ Θ := fun h g => b h (a h g)
theorem ent.perm {Γ Δ : List HProp} (hp : Γ.Perm Δ) : ent Γ Δ := fun _ => sat_perm hp
theorem ent.cons {A B : HProp} {Γ Δ : List HProp} (h1 : ∀ h, A h → B h) (h2 : ent Γ Δ) : ent (A :: Γ) (B :: Δ) :=
  fun _ ⟨x, y, a, b, c, d⟩ => ⟨x, y, h1 _ a, h2 _ b, c, d⟩
theorem ent.app {Γ Γ' Δ Δ' : List HProp} (h1 : ent Γ Γ') (h2 : ent Δ Δ') : ent (Γ ++ Δ) (Γ' ++ Δ') := fun h hs => by
  obtain ⟨x, y, a, b, c, d⟩ := sat_append.1 hs
  exact sat_append.2 ⟨x, y, h1 _ a, h2 _ b, c, d⟩

theorem ent.drop (A : HProp) (Γ : List HProp) : ent (A :: Γ) Γ := fun _ ⟨_, _, _, g2, hd, e⟩ => by
  subst e; rw [un_comm hd]; exact sat_mono g2 hd.symm

/-- the n-th piece first -/
def front (n : Nat) (Γ : List HProp) : List HProp := (Γ[n]?).toList ++ Γ.eraseIdx n
theorem front_perm (n : Nat) (Γ : List HProp) : Γ.Perm (front n Γ) := by
  unfold front
  by_cases h : n < Γ.length
  · rw [List.getElem?_eq_getElem h]
    simp only [Option.toList_some, List.singleton_append]
    induction Γ generalizing n with
    | nil => simp at h
    | cons A Γ ih =>
      cases n with
      | zero => simp
      | succ n => simp only [List.length_cons, Nat.add_lt_add_iff_right] at h; exact ((ih n h).cons A).trans (.swap _ _ _)
  · rw [List.getElem?_eq_none (by omega), List.eraseIdx_of_length_le (by omega)]; simp

/-- pieces picked out, each by its place among those that are left; and the rest -/
def pickR : List Nat → List HProp → List HProp × List HProp
  | [], Γ => ([], Γ)
  | i :: is, Γ => match Γ[i]? with
    | some A => (A :: (pickR is (Γ.eraseIdx i)).1, (pickR is (Γ.eraseIdx i)).2)
    | none => ([], Γ)
theorem pick_ent : ∀ (is : List Nat) (Γ : List HProp), ent Γ ((pickR is Γ).1 ++ (pickR is Γ).2)
  | [], Γ => ent.refl Γ
  | i :: is, Γ => by
    unfold pickR
    split
    · rename_i A hA
      have h1 := ent.perm (front_perm i Γ)
      unfold front at h1
      rw [hA] at h1
      exact h1.trans (ent.cons (fun _ h => h) (pick_ent is (Γ.eraseIdx i)))
    · exact ent.refl Γ
theorem ent.left (Γ Δ : List HProp) : ent (Γ ++ Δ) Γ := fun h hs => by
  obtain ⟨x, y, a, _, c, d⟩ := sat_append.1 hs
  rw [d]; exact sat_mono a c
theorem pick_only (is : List Nat) (Γ : List HProp) : ent Γ (pickR is Γ).1 := (pick_ent is Γ).trans (ent.left _ _)

/-! ### Code -/
def thn (next : Env → List HProp → Prop) (Q : Exit → Env → List HProp → Prop) : Exit → Env → List HProp → Prop
  | .normal, ρ, Γ => next ρ Γ
  | e, ρ, Γ => Q e ρ Γ
def blk' (id : Nat) (Q : Exit → Env → List HProp → Prop) : Exit → Env → List HProp → Prop
  | .exit id', ρ, Γ => if id' = id then Q .normal ρ Γ else Q (.exit id') ρ Γ
  | e, ρ, Γ => Q e ρ Γ

section
variable (P : Program) (hR : Heap) (n : Nat)

def lift (Q : Exit → Env → List HProp → Prop) (w : World) (h : Heap) (e : Exit) (a' : Act) (w' : World) : Prop :=
  ∃ h' ρ' Γ', Step w h w' h' ∧ Ok n ρ' a' ∧ sat Γ' h' ∧ Q e ρ' Γ'

def WP (c : Code) (Q : Exit → Env → List HProp → Prop) (ρ : Env) (Γ : List HProp) : Prop :=
  ∀ a h w, Ok n ρ a → sat Γ h → Fits hR h w → c.wp P (lift n Q w h) a w

/-- the function's contract -/
def Tri (f : FuncId) (args : Array Value) (Γ : List HProp) (R : Value → List HProp → Prop) : Prop :=
  ∀ h w, sat Γ h → Fits hR h w → Calls P f args w fun e w' => ∃ v h' Γ', e = .returned v ∧ Step w h w' h' ∧ sat Γ' h' ∧ R v Γ'
end

section
variable {P : Program} {hR : Heap} {n : Nat} {Q : Exit → Env → List HProp → Prop} {ρ : Env} {Γ : List HProp}

theorem WP.mono {c : Code} {Q' : Exit → Env → List HProp → Prop} (hq : ∀ e ρ Γ, Q e ρ Γ → Q' e ρ Γ) (H : WP P hR n c Q ρ Γ) : WP P hR n c Q' ρ Γ :=
  fun a h w ho hs hf => wp_mono (H a h w ho hs hf) fun _ _ _ ⟨h', ρ', Γ', s, o, t, q⟩ => ⟨h', ρ', Γ', s, o, t, hq _ _ _ q⟩

theorem WP.weaken {c : Code} {ρ' : Env} {Γ' : List HProp} (hc : covers ρ ρ') (he : ent Γ Γ') (H : WP P hR n c Q ρ' Γ') : WP P hR n c Q ρ Γ :=
  fun a h w ho hs hf => H a h w (ho.weaken hc) (he h hs) hf

theorem WP.via {c : Code} {Γ' : List HProp} (he : ent Γ Γ') (H : WP P hR n c Q ρ Γ') : WP P hR n c Q ρ Γ :=
  fun a h w ho hs hf => H a h w ho (he h hs) hf

/-- what the memory says is opened -/
theorem WP.opens {α : Type} {c : Code} {Γ' : α → List HProp} (he : ∀ h, sat Γ h → ∃ x, sat (Γ' x) h) (H : ∀ x, WP P hR n c Q ρ (Γ' x)) : WP P hR n c Q ρ Γ :=
  fun a h w ho hs hf => let ⟨x, hx⟩ := he h hs; H x a h w ho hx hf

theorem WP.skip (H : Q .normal ρ Γ) : WP P hR n .skip Q ρ Γ := fun _ h _ ho hs hf => wp_skip ⟨h, ρ, Γ, .refl hf.own, ho, hs, H⟩
theorem WP.label {l : Nat} (H : Q .normal ρ Γ) : WP P hR n (.label l) Q ρ Γ := fun _ h _ ho hs hf => wp_label ⟨h, ρ, Γ, .refl hf.own, ho, hs, H⟩
theorem WP.exit {id : Nat} (H : Q (.exit id) ρ Γ) : WP P hR n (.exit id) Q ρ Γ := fun _ h _ ho hs hf => wp_exit ⟨h, ρ, Γ, .refl hf.own, ho, hs, H⟩
theorem WP.ret (H : Q .ret ρ Γ) : WP P hR n .ret Q ρ Γ := fun _ h _ ho hs hf => wp_ret ⟨h, ρ, Γ, .refl hf.own, ho, hs, H⟩

theorem WP.seq {x y : Code} (H : WP P hR n x (thn (fun ρ Γ => WP P hR n y Q ρ Γ) Q) ρ Γ) : WP P hR n (.seq x y) Q ρ Γ := by
  intro a h w ho hs hf
  refine wp_seq (wp_mono (H a h w ho hs hf) ?_)
  rintro e a1 w1 ⟨h1, ρ1, Γ1, s, o1, t1, q⟩
  have other : e ≠ .normal → lift n Q w h e a1 w1 → Exit.then (Code.wp P y (lift n Q w h)) (lift n Q w h) e a1 w1 := fun hne q' => by
    cases e <;> first | exact absurd rfl hne | exact q'
  cases e with
  | normal =>
    refine wp_mono (q a1 h1 w1 o1 t1 (hf.step s)) ?_
    rintro e2 a2 w2 ⟨h2, ρ2, Γ2, s2, o2, t2, q2⟩
    exact ⟨h2, ρ2, Γ2, s.trans s2, o2, t2, q2⟩
  | _ => exact other (by simp) ⟨h1, ρ1, Γ1, s, o1, t1, q⟩

theorem WP.cond {c : Operand} {x y : Code} {t : Bool} (hv : ρ.val c = some (.bool t)) (h1 : t = true → WP P hR n x Q ρ Γ) (h2 : t = false → WP P hR n y Q ρ Γ) :
    WP P hR n (.cond c x y) Q ρ Γ :=
  fun a h w ho hs hf => wp_cond_split (ho.eval hv) (fun e => h1 e a h w ho hs hf) (fun e => h2 e a h w ho hs hf)

theorem WP.ite {c : Operand} {x y : Code} {p : Prop} [Decidable p] (hv : ρ.val c = some (.bool (decide p))) (h1 : p → WP P hR n x Q ρ Γ) (h2 : ¬ p → WP P hR n y Q ρ Γ) :
    WP P hR n (.cond c x y) Q ρ Γ :=
  WP.cond hv (fun e => h1 (by simpa using e)) (fun e => h2 (by simpa using e))

theorem WP.block {id : Nat} {c : Code} (H : WP P hR n c (blk' id Q) ρ Γ) : WP P hR n (.block id c) Q ρ Γ := by
  intro a h w ho hs hf
  refine wp_block (wp_mono (H a h w ho hs hf) ?_)
  rintro e a1 w1 ⟨h1, ρ1, Γ1, s, o1, t1, q⟩
  cases e with
  | exit id' =>
    simp only [blk', Exit.inBlock] at q ⊢
    split
    · rename_i e; rw [if_pos e] at q; exact ⟨h1, ρ1, Γ1, s, o1, t1, q⟩
    · rename_i e; rw [if_neg e] at q; exact ⟨h1, ρ1, Γ1, s, o1, t1, q⟩
  | _ => exact ⟨h1, ρ1, Γ1, s, o1, t1, q⟩

theorem WP.loop {α : Type} {c : Code} (good : α → Prop) (env : α → Env) (mem : α → List HProp) (μ : α → Nat) (x0 : α) (hg : good x0) (hc : covers ρ (env x0)) (he : ent Γ (mem x0))
    (round : ∀ x, good x → WP P hR n c (thn (fun ρ' Γ' => ∃ x', good x' ∧ μ x' < μ x ∧ covers ρ' (env x') ∧ ent Γ' (mem x')) Q) (env x) (mem x)) : WP P hR n (.loop c) Q ρ Γ := by
  intro a h w ho hs hf
  let I : Act → World → Prop := fun a' w' => ∃ x h', good x ∧ Step w h w' h' ∧ Ok n (env x) a' ∧ sat (mem x) h'
  have key : ∀ k x a' w' h', good x → μ x = k → Step w h w' h' → Ok n (env x) a' → sat (mem x) h' → ∀ (b : Frame) (ks : List Item) (cs : List Frame),
      ∃ e a2 w2, lift n Q w h e a2 w2 ∧ Arrives P (lone (b.at a' (.code c :: .inLoop c :: ks)) cs w') b ks cs e a2 w2 := by
    intro k
    induction k using Nat.strongRecOn with
    | _ k ih =>
      intro x a' w' h' g hk s o t b ks cs
      obtain ⟨e, a1, w1, ⟨h1, ρ1, Γ1, s1, o1, t1, q⟩, harr⟩ := round x g a' h' w' o t (hf.step s) b (.inLoop c :: ks) cs
      cases e with
      | normal =>
        obtain ⟨x', g', hlt, hc', he'⟩ := q
        obtain ⟨e2, a2, w2, hq2, harr2⟩ := ih (μ x') (hk ▸ hlt) x' a1 w1 h1 g' rfl (s.trans s1) (o1.weaken hc') (he' h1 t1) b ks cs
        exact ⟨e2, a2, w2, hq2, .of_steps (Steps.trans harr (.one step_inLoop)) harr2⟩
      | exit id => exact ⟨_, a1, w1, ⟨h1, ρ1, Γ1, s.trans s1, o1, t1, q⟩, .pass (x := .inLoop c) rfl (fun _ _ => .inl (by simp)) harr⟩
      | goto l => exact ⟨_, a1, w1, ⟨h1, ρ1, Γ1, s.trans s1, o1, t1, q⟩, .pass (x := .inLoop c) rfl (fun _ _ => .inl (by simp)) harr⟩
      | ret => exact ⟨_, a1, w1, ⟨h1, ρ1, Γ1, s.trans s1, o1, t1, q⟩, .pass (x := .inLoop c) rfl (fun _ _ => .inl (by simp)) harr⟩
      | panic ch => exact ⟨_, a1, w1, ⟨h1, ρ1, Γ1, s.trans s1, o1, t1, q⟩, .pass (x := .inLoop c) rfl (fun _ _ => .inl (by simp)) harr⟩
      | outgrown => exact ⟨_, a1, w1, ⟨h1, ρ1, Γ1, s.trans s1, o1, t1, q⟩, .pass (x := .inLoop c) rfl (fun _ _ => .inl (by simp)) harr⟩
  intro b ks cs
  obtain ⟨e, a', w', hq, harr⟩ := key _ x0 a w h hg rfl (.refl hf.own) (ho.weaken hc) (he h hs) b ks cs
  exact ⟨e, a', w', hq, .of_steps (.one step_loop) harr⟩

/-! ### Regions -/
def opsRun (P : Program) (hR : Heap) (cf : Op → Cls) (ops : Array Oper) : List Oper → Act → Heap → (Act → Heap → Prop) → Prop
  | [], a, h, K => K a h
  | o :: l, a, h, K => if Region.wanted o (yielded ops a.tmps) then AOp P hR (cf o.op) o a h (fun a' h' => opsRun P hR cf ops l a' h' K) else opsRun P hR cf ops l (a.put o.dst undef) h K

def clOf (cf : Op → Cls) (ops : Array Oper) (i : Nat) : Cls := match ops[i]? with | some o => cf o.op | none => .P

theorem arun_of_ops {cf : Op → Cls} {ops : Array Oper} {K : Act → Heap → Prop} : ∀ (is : List Nat) (l : List Oper), is.map (ops[·]?) = l.map some → ∀ a h,
    opsRun P hR cf ops l a h K → ARun P hR (clOf cf ops) ops is a h K
  | [], [], _, _, _, H => H
  | i :: is, o :: l, he, a, h, H => by
    simp only [List.map_cons, List.cons.injEq] at he
    have hi : ops[i]? = some o := he.1
    have ih := arun_of_ops (cf := cf) (K := K) is l he.2
    simp only [ARun, AStep, hi, clOf]
    simp only [opsRun] at H
    split
    · rename_i hw
      simp only [hw, if_true] at H
      generalize cf o.op = c at H
      cases c with
      | P => obtain ⟨v, h1, h2⟩ := H; exact ⟨v, h1, ih _ _ h2⟩
      | R => obtain ⟨v, h1, h2⟩ := H; exact ⟨v, h1, ih _ _ h2⟩
      | A => obtain ⟨ob, val, h1, h2⟩ := H; exact ⟨ob, val, h1, fun b hb hb' => ih _ _ (h2 b hb hb')⟩
      | E => exact fun w f => Oper.wp_mono (fun a' w' ⟨h', s, k⟩ => ⟨h', s, ih _ _ k⟩) (H w f)
    · rename_i hw; simp only [hw] at H; exact ih _ _ H
  | [], _ :: _, he, _, _, _ => by simp at he
  | _ :: _, [], he, _, _, _ => by simp at he

theorem range_map (ops : Array Oper) : (List.range ops.size).map (ops[·]?) = ops.toList.map some := by
  apply List.ext_getElem?
  intro i
  simp only [List.getElem?_map]
  by_cases h : i < ops.size
  · simp [h]
  · simp [h]

/-- the operations of a region, one behind the other -/
def Run (P : Program) (hR : Heap) (n : Nat) (cf : Op → Cls) (ops : Array Oper) (l : List Oper) (K : Env → List HProp → Prop) (ρ : Env) (Γ : List HProp) : Prop :=
  ∀ a h, Ok n ρ a → sat Γ h → Live hR h → opsRun P hR cf ops l a h fun a' h' => ∃ ρ' Γ', Ok n ρ' a' ∧ sat Γ' h' ∧ K ρ' Γ'

theorem WP.plain {id : Nat} {ops : Array Oper} (cf : Op → Cls) {l : List Oper} (hl : ops = ⟨l⟩) (H : Run P hR n cf ops l (Q .normal) ρ Γ) : WP P hR n (.region id ops false) Q ρ Γ := by
  intro a h w ho hs hf
  refine wp_region_plain (cl := clOf cf ops) (fun a h' w' s k => ?_) hf (arun_of_ops _ l (by rw [range_map, hl]) a h (H a h ho hs ⟨w, hf⟩))
  obtain ⟨ρ', Γ', o, t, q⟩ := k
  exact ⟨h', ρ', Γ', s, o, t, q⟩

theorem WP.drawn {id : Nat} {ops : Array Oper} (cf : Op → Cls) {l : List Oper} (is : List Nat) (hm : P.follows .mixedOrders = true) (hl : is.map (ops[·]?) = l.map some)
    (hk : chk (clOf cf ops) ops is = true) (H : Run P hR n cf ops l (Q .normal) ρ Γ) : WP P hR n (.region id ops true) Q ρ Γ := by
  intro a h w ho hs hf
  refine wp_region_drawn is hm hk (fun a h' w' s k => ?_) hf (arun_of_ops _ l hl a h (H a h ho hs ⟨w, hf⟩))
  obtain ⟨ρ', Γ', o, t, q⟩ := k
  exact ⟨h', ρ', Γ', s, o, t, q⟩

theorem WP.drawn0 {id : Nat} {ops : Array Oper} (cf : Op → Cls) {l : List Oper} (hm : P.follows .mixedOrders = true) (hl : ops = ⟨l⟩)
    (hk : chk (clOf cf ops) ops (List.range ops.size) = true) (H : Run P hR n cf ops l (Q .normal) ρ Γ) : WP P hR n (.region id ops true) Q ρ Γ :=
  WP.drawn cf (List.range ops.size) hm (by rw [range_map, hl]) hk H

def collectO : List (Option Oper) → Option (List Oper)
  | [] => some []
  | some v :: r => match collectO r with | some vs => some (v :: vs) | none => none
  | none :: _ => none
theorem collectO_spec : ∀ {xs : List (Option Oper)} {vs : List Oper}, collectO xs = some vs → xs = vs.map some
  | [], _, h => by simp only [collectO, Option.some.injEq] at h; subst h; rfl
  | some v :: r, vs, h => by
    simp only [collectO] at h
    split at h
    · rename_i us hu; cases h; simp [collectO_spec hu]
    · cases h
  | none :: _, _, h => by simp [collectO] at h
theorem WP.drawnP {id : Nat} {ops : Array Oper} (cf : Op → Cls) {l : List Oper} (is : List Nat) (hm : P.follows .mixedOrders = true) (hl : collectO (is.map (ops[·]?)) = some l)
    (hk : chk (clOf cf ops) ops is = true) (H : Run P hR n cf ops l (Q .normal) ρ Γ) : WP P hR n (.region id ops true) Q ρ Γ :=
  WP.drawn cf is hm (collectO_spec hl) hk H

/-! ### Contracts -/
theorem Tri.mono {f : FuncId} {args : Array Value} {R R' : Value → List HProp → Prop} (hr : ∀ v Γ, R v Γ → R' v Γ) (H : Tri P hR f args Γ R) : Tri P hR f args Γ R' :=
  fun h w hs hf => Calls.mono (H h w hs hf) fun _ _ ⟨v, h', Γ', e, s, t, r⟩ => ⟨v, h', Γ', e, s, t, hr _ _ r⟩

theorem Tri.weaken {f : FuncId} {args : Array Value} {R : Value → List HProp → Prop} {Γ' : List HProp} (he : ent Γ Γ') (H : Tri P hR f args Γ' R) : Tri P hR f args Γ R :=
  fun h w hs hf => H h w (he h hs) hf

theorem Tri.opens {α : Type} {f : FuncId} {args : Array Value} {R : Value → List HProp → Prop} {Γ' : α → List HProp} (he : ∀ h, sat Γ h → ∃ x, sat (Γ' x) h) (H : ∀ x, Tri P hR f args (Γ' x) R) : Tri P hR f args Γ R :=
  fun h w hs hf => let ⟨x, hx⟩ := he h hs; H x h w hx hf

theorem Step.frame {w w' : World} {h h' g : Heap} (hg : Sub g (hp w)) (hd : Disj h g) (s : Step w h w' h') : Step w (un h g) w' (un h' g) ∧ Disj h' g := by
  have hd' : Disj h' g := fun b => by
    cases hx : h' b with
    | none => exact .inl rfl
    | some o =>
      refine .inr ?_
      rcases s.dom b (by simp [hx]) with e | e
      · exact (hd b).resolve_left e
      · cases hy : g b with
        | none => rfl
        | some o' => have := hp_lt (hg b o' hy); omega
  refine ⟨⟨fun b o hb => ?_, s.size, fun b hb hn => ?_, fun b hb => ?_, s.same⟩, hd'⟩
  · unfold un at hb
    cases hx : h' b with
    | some o' => simp [hx] at hb; subst hb; exact s.sub b _ hx
    | none =>
      simp [hx] at hb
      rw [s.keep b (hp_lt (hg b o hb)) ((hd b).resolve_right (by simp [hb]))]
      exact hg b o hb
  · refine s.keep b hb ?_
    unfold un at hn
    cases hx : h b <;> simp [hx] at hn ⊢
  · unfold un at hb ⊢
    cases hx : h' b with
    | some o' =>
      rcases s.dom b (by simp [hx]) with e | e
      · left; cases hy : h b <;> simp [hy] at e ⊢
      · exact .inr e
    | none =>
      simp [hx] at hb
      left; cases hy : h b <;> simp [hb]

theorem Fits.left {hR h g : Heap} {w : World} (f : Fits hR (un h g) w) : Fits hR h w := f.sub (sub_un_left h g)
theorem Fits.right {hR h g : Heap} {w : World} (hd : Disj h g) (f : Fits hR (un h g) w) : Fits hR g w := f.sub (sub_un_right hd)

theorem Tri.frame {f : FuncId} {args : Array Value} {R : Value → List HProp → Prop} (Δ : List HProp) (H : Tri P hR f args Γ R) :
    Tri P hR f args (Γ ++ Δ) fun v Γ' => ∃ Γ1, Γ' = Γ1 ++ Δ ∧ R v Γ1 := by
  intro h w hs hf
  obtain ⟨h1, h2, g1, g2, hd, rfl⟩ := sat_append.1 hs
  refine Calls.mono (H h1 w g1 hf.left) ?_
  rintro e w' ⟨v, h', Γ', rfl, s, t, r⟩
  obtain ⟨s', hd'⟩ := s.frame (hf.right hd).own hd
  exact ⟨v, un h' h2, Γ' ++ Δ, rfl, s', sat_append.2 ⟨h', h2, t, g2, hd', rfl⟩, Γ', rfl, r⟩

/-- what is owned is lent for reading -/
theorem Tri.lend {f : FuncId} {args : Array Value} {R : Value → List HProp → Prop} (Δ : List HProp) (H : ∀ g, sat Δ g → Disj hR g → Tri P (un hR g) f args Γ R) :
    Tri P hR f args (Γ ++ Δ) fun v Γ' => ∃ Γ1, Γ' = Γ1 ++ Δ ∧ R v Γ1 := by
  intro h w hs hf
  obtain ⟨h1, h2, g1, g2, hd, rfl⟩ := sat_append.1 hs
  have hRg : Disj hR h2 := (hf.right hd).apart
  have hf' : Fits (un hR h2) h1 w := by
    refine ⟨fun b o hb => ?_, hf.left.own, un_disj.2 ⟨hf.left.apart, hd.symm⟩⟩
    unfold un at hb
    cases hx : hR b with
    | some o' => simp [hx] at hb; subst hb; exact hf.ro b _ hx
    | none => simp [hx] at hb; exact (hf.right hd).own b o hb
  refine Calls.mono (H h2 g2 hRg h1 w g1 hf') ?_
  rintro e w' ⟨v, h', Γ', rfl, s, t, r⟩
  obtain ⟨s', hd'⟩ := s.frame (hf.right hd).own hd
  exact ⟨v, un h' h2, Γ' ++ Δ, rfl, s', sat_append.2 ⟨h', h2, t, g2, hd', rfl⟩, Γ', rfl, r⟩

/-- the body's post -/
def retQ (P : Program) (hR : Heap) (n : Nat) (fn : Func) (R : Value → List HProp → Prop) (e : Exit) (ρ : Env) (Γ : List HProp) : Prop :=
  (e = .ret ∨ e = .normal) ∧ ∃ v, (∀ a h w, Ok n ρ a → sat Γ h → Fits hR h w → (results fn a.tmps).run P w = .ok v w) ∧ R v Γ

def argEnv : Nat → List Value → Env
  | _, [] => []
  | i, v :: l => (i, v) :: argEnv (i + 1) l

theorem argEnv_get : ∀ (l : List Value) (i t : Nat) (v : Value), (argEnv i l).get t = some v → i ≤ t ∧ l[t - i]? = some v
  | [], _, _, _, h => by cases h
  | x :: l, i, t, v, h => by
    simp only [argEnv, Env.get] at h
    cases e : Nat.beq t i with
    | true =>
      rw [e] at h
      have : t = i := Nat.eq_of_beq_eq_true e
      subst this; cases h; simp
    | false =>
      rw [e] at h
      obtain ⟨h1, h2⟩ := argEnv_get l (i + 1) t v h
      refine ⟨by omega, ?_⟩
      have : t - i = (t - (i + 1)) + 1 := by omega
      rw [this]; simpa using h2

theorem Tri.of {f : FuncId} {fn : Func} {c : Code} {args : List Value} {R : Value → List HProp → Prop} (hf : P.funcs[f]? = some fn) (hb : fn.body = some c) (hn : fn.ntmps = n) (hlen : args.length ≤ n)
    (H : WP P hR n c (retQ P hR n fn R) (argEnv 0 args) Γ) : Tri P hR f ⟨args⟩ Γ R := by
  intro h w hs hfi
  refine calls_of_wp hf hb (wp_mono (H _ h w ⟨?_, rfl, ?_⟩ hs hfi) ?_)
  · simp; omega
  · intro t v hv
    obtain ⟨_, h2⟩ := argEnv_get args 0 t v hv
    have h2' : args[t]? = some v := by simpa using h2
    have hlt : t < args.length := (List.getElem?_eq_some_iff.1 h2').1
    rw [Array.getElem?_append_left (by simpa using hlt)]
    simpa using h2'
  · rintro e a w' ⟨h', ρ', Γ', s, o, t, he, v, hv, hr⟩
    have hres := hv a h' w' o t (hfi.step s)
    rcases he with rfl | rfl
    · exact ⟨o.defers, v, hres, v, h', Γ', rfl, s, t, hr⟩
    · exact ⟨o.defers, v, hres, v, h', Γ', rfl, s, t, hr⟩

end
end Go.Sep
