/- A logic of owned memory over the model: heaps as partial maps, one operation's step over them, and: a region that draws its order does what it does in one order that is looked at, where the operations that are in no order do not meet. Over any program. -/
import Derived.Orders
namespace Go.Sep

abbrev Heap := Nat → Option Obj
def hp (w : World) : Heap := fun b => w.heap[b]?
def Sub (h g : Heap) : Prop := ∀ b o, h b = some o → g b = some o
def Disj (h g : Heap) : Prop := ∀ b, h b = none ∨ g b = none
def put (h : Heap) (b : Nat) (o : Obj) : Heap := fun c => if c = b then some o else h c
def emp : Heap := fun _ => none
def un (h g : Heap) : Heap := fun b => (h b).or (g b)

structure Same (w w' : World) : Prop where
  tape : w'.tape = w.tape
  os : w'.os = w.os
  output : w'.output = w.output

theorem Same.refl (w : World) : Same w w := ⟨rfl, rfl, rfl⟩
theorem Same.trans {w w1 w2 : World} (h : Same w w1) (h' : Same w1 w2) : Same w w2 :=
  ⟨h'.tape.trans h.tape, h'.os.trans h.os, h'.output.trans h.output⟩

structure Step (w : World) (h : Heap) (w' : World) (h' : Heap) : Prop where
  sub : Sub h' (hp w')
  size : w.heap.size ≤ w'.heap.size
  keep : ∀ b, b < w.heap.size → h b = none → hp w' b = hp w b
  dom : ∀ b, h' b ≠ none → h b ≠ none ∨ w.heap.size ≤ b
  same : Same w w'

structure Fits (hR h : Heap) (w : World) : Prop where
  ro : Sub hR (hp w)
  own : Sub h (hp w)
  apart : Disj hR h

def Live (hR h : Heap) : Prop := ∃ w, Fits hR h w

theorem hp_lt {w : World} {b : Nat} {o : Obj} (h : hp w b = some o) : b < w.heap.size := (Array.getElem?_eq_some_iff.1 h).1

theorem Step.refl {w : World} {h : Heap} (hs : Sub h (hp w)) : Step w h w h :=
  ⟨hs, Nat.le_refl _, fun _ _ _ => rfl, fun _ hb => .inl hb, .refl _⟩

theorem Step.trans {w w1 w2 : World} {h h1 h2 : Heap} (s : Step w h w1 h1) (s' : Step w1 h1 w2 h2) : Step w h w2 h2 := by
  refine ⟨s'.sub, Nat.le_trans s.size s'.size, fun b hb hn => ?_, fun b hb => ?_, s.same.trans s'.same⟩
  · rw [s'.keep b (Nat.lt_of_lt_of_le hb s.size) ?_, s.keep b hb hn]
    cases h1b : h1 b with
    | none => rfl
    | some o =>
      rcases s.dom b (by simp [h1b]) with h' | h'
      · exact absurd hn h'
      · omega
  · rcases s'.dom b hb with h' | h'
    · exact s.dom b h'
    · exact .inr (Nat.le_trans s.size h')

theorem Fits.step {hR h h' : Heap} {w w' : World} (f : Fits hR h w) (s : Step w h w' h') : Fits hR h' w' := by
  refine ⟨fun b o hb => ?_, s.sub, fun b => ?_⟩
  · have h0 := f.ro b o hb
    rw [s.keep b (hp_lt h0) ((f.apart b).resolve_left (by simp [hb]))]; exact h0
  · cases hb : hR b with
    | none => exact .inl rfl
    | some o =>
      refine .inr ?_
      cases h1 : h' b with
      | none => rfl
      | some o' =>
        rcases s.dom b (by simp [h1]) with h2 | h2
        · exact absurd ((f.apart b).resolve_left (by simp [hb])) h2
        · have := hp_lt (f.ro b o hb); omega

theorem Fits.sub {hR h h1 : Heap} {w : World} (f : Fits hR h w) (hs : Sub h1 h) : Fits hR h1 w :=
  ⟨f.ro, fun b o hb => f.own b o (hs b o hb), fun b => by
    rcases f.apart b with h' | h'
    · exact .inl h'
    · refine .inr ?_
      cases hb : h1 b with
      | none => rfl
      | some o => rw [hs b o hb] at h'; cases h'⟩

theorem sub_put {h : Heap} {b : Nat} (o : Obj) (hn : h b = none) : Sub h (put h b o) := fun c x hc => by
  unfold put
  split
  · rename_i e; subst e; rw [hn] at hc; cases hc
  · exact hc

theorem put_comm {h : Heap} {b c : Nat} (x y : Obj) (hne : b ≠ c) : put (put h b x) c y = put (put h c y) b x := by
  funext d
  unfold put
  by_cases h1 : d = c <;> by_cases h2 : d = b <;> simp [h1, h2] <;> omega

def World.fill (w : World) (b : Nat) (o : Obj) : World :=
  { w with heap := if b < w.heap.size then w.heap.setIfInBounds b o else (w.heap ++ Array.replicate (b - w.heap.size) o).push o }

theorem hp_fill_self (w : World) (b : Nat) (o : Obj) : hp (World.fill w b o) b = some o := by
  unfold hp World.fill
  by_cases h : b < w.heap.size
  · simp [h]
  · simp only [h, if_false]
    rw [Array.getElem?_push]
    simp
    intro hh; omega

theorem hp_fill_ne (w : World) (b c : Nat) (o x : Obj) (hne : c ≠ b) (hc : hp w c = some x) : hp (World.fill w b o) c = some x := by
  have hlt := hp_lt hc
  unfold hp at *
  unfold World.fill
  by_cases h : b < w.heap.size
  · simp only [h, if_true]; rw [Array.getElem?_setIfInBounds_ne (Ne.symm hne)]; exact hc
  · simp only [h, if_false]
    rw [Array.getElem?_push_lt (by simp; omega)]
    simp [hlt]
    exact (Array.getElem?_eq_some_iff.1 hc).2

theorem Live.put {hR h : Heap} (hl : Live hR h) {b : Nat} (o : Obj) (h1 : hR b = none) (h2 : h b = none) : Live hR (put h b o) := by
  obtain ⟨w, f⟩ := hl
  refine ⟨World.fill w b o, fun c x hc => ?_, fun c x hc => ?_, fun c => ?_⟩
  · exact hp_fill_ne w b c o x (fun e => by subst e; rw [h1] at hc; cases hc) (f.ro c x hc)
  · unfold Sep.put at hc
    split at hc
    · rename_i e; subst e; cases hc; exact hp_fill_self _ _ _
    · rename_i e; exact hp_fill_ne w b c o x e (f.own c x hc)
  · unfold Sep.put
    split
    · rename_i e; subst e; exact .inl h1
    · exact f.apart c

theorem Live.fresh {hR h : Heap} (hl : Live hR h) (k : Nat) : ∃ b, k < b ∧ hR b = none ∧ h b = none := by
  obtain ⟨w, f⟩ := hl
  refine ⟨max w.heap.size k + 1, by omega, ?_, ?_⟩
  · cases hb : hR (max w.heap.size k + 1) with
    | none => rfl
    | some o => have := hp_lt (f.ro _ o hb); omega
  · cases hb : h (max w.heap.size k + 1) with
    | none => rfl
    | some o => have := hp_lt (f.own _ o hb); omega

/-! ### One operation -/

inductive Cls where
  | P | R | A | E
  deriving DecidableEq

def World.push (w : World) (o : Obj) : World := { w with heap := w.heap.push o }

/-- the block that an operation reads -/
def rblk (o : Oper) (a : Act) : Option Nat :=
  match o.op with
  | .load _ x => match a.eval x with | .pointer (some ad) => some ad.block | _ => none
  | .lookup _ x _ _ => match a.eval x with | .map (some r) => some r | _ => none
  | _ => none

section
variable (P : Program) (hR : Heap)

def Reads (o : Oper) (a : Act) (h : Heap) (v : Value) : Prop :=
  ∃ b ob, rblk o a = some b ∧ (hR b = some ob ∨ h b = some ob) ∧ ∀ w, hp w b = some ob → (execOp a.eval o).run P w = .ok (.value v) w

def Allocs (o : Oper) (a : Act) (ob : Obj) (val : Nat → Value) : Prop :=
  ∀ w, (execOp a.eval o).run P w = .ok (.value (val w.heap.size)) (World.push w ob)

def Effs (o : Oper) (a : Act) (h : Heap) (K : Act → Heap → Prop) : Prop :=
  ∀ w, Fits hR h w → o.wp P a w (fun a' w' => ∃ h', Step w h w' h' ∧ K a' h') (fun _ _ _ => False)

def AOp (c : Cls) (o : Oper) (a : Act) (h : Heap) (K : Act → Heap → Prop) : Prop :=
  match c with
  | .P => ∃ v, (∀ w, Sub hR (hp w) → (execOp a.eval o).run P w = .ok (.value v) w) ∧ K (a.put o.dst v) h
  | .R => ∃ v, Reads P hR o a h v ∧ K (a.put o.dst v) h
  | .A => ∃ ob val, Allocs P o a ob val ∧ ∀ b, hR b = none → h b = none → K (a.put o.dst (val b)) (put h b ob)
  | .E => Effs P hR o a h K

def AStep (cl : Nat → Cls) (ops : Array Oper) (i : Nat) (a : Act) (h : Heap) (K : Act → Heap → Prop) : Prop :=
  match ops[i]? with
  | none => K a h
  | some o => if Region.wanted o (yielded ops a.tmps) then AOp P hR (cl i) o a h K else K (a.put o.dst undef) h

def ARun (cl : Nat → Cls) (ops : Array Oper) : List Nat → Act → Heap → (Act → Heap → Prop) → Prop
  | [], a, h, K => K a h
  | i :: l, a, h, K => AStep P hR cl ops i a h fun a' h' => ARun cl ops l a' h' K
end

section
variable {P : Program} {hR : Heap}

theorem AOp.mono {c : Cls} {o : Oper} {a : Act} {h : Heap} {K K' : Act → Heap → Prop} (hl : Live hR h) (hk : ∀ a' h', Live hR h' → K a' h' → K' a' h')
    (H : AOp P hR c o a h K) : AOp P hR c o a h K' := by
  cases c with
  | P => obtain ⟨v, h1, h2⟩ := H; exact ⟨v, h1, hk _ _ hl h2⟩
  | R => obtain ⟨v, h1, h2⟩ := H; exact ⟨v, h1, hk _ _ hl h2⟩
  | A => obtain ⟨ob, val, h1, h2⟩ := H; exact ⟨ob, val, h1, fun b hb hb' => hk _ _ (hl.put _ hb hb') (h2 b hb hb')⟩
  | E => exact fun w f => Oper.wp_mono (fun a' w' ⟨h', s, k⟩ => ⟨h', s, hk _ _ ⟨w', f.step s⟩ k⟩) (H w f)

theorem AStep.mono {cl : Nat → Cls} {ops : Array Oper} {i : Nat} {a : Act} {h : Heap} {K K' : Act → Heap → Prop} (hl : Live hR h)
    (hk : ∀ a' h', Live hR h' → K a' h' → K' a' h') (H : AStep P hR cl ops i a h K) : AStep P hR cl ops i a h K' := by
  unfold AStep at *
  split
  · rename_i ho; simp only [ho] at H; exact hk _ _ hl H
  · rename_i o ho
    simp only [ho] at H
    split
    · rename_i hw; simp only [hw, if_true] at H; exact H.mono hl hk
    · rename_i hw; simp only [hw] at H; exact hk _ _ hl H

theorem ARun.mono {cl : Nat → Cls} {ops : Array Oper} {K K' : Act → Heap → Prop} (hk : ∀ a' h', Live hR h' → K a' h' → K' a' h') : ∀ (l : List Nat) {a : Act} {h : Heap}
    (_ : Live hR h) (_ : ARun P hR cl ops l a h K), ARun P hR cl ops l a h K'
  | [], _, _, hl, H => hk _ _ hl H
  | _ :: l, _, _, hl, H => AStep.mono hl (fun _ _ hl' H' => ARun.mono hk l hl' H') H

/-- what an operation that reckons, or reads what stays, gives -/
def YieldsF (P : Program) (hR : Heap) (ops : Array Oper) (o : Oper) (v : Value) (a : Act) : Prop :=
  (Region.wanted o (yielded ops a.tmps) = true ∧ ∀ w, Sub hR (hp w) → (execOp a.eval o).run P w = .ok (.value v) w) ∨ (Region.wanted o (yielded ops a.tmps) = false ∧ v = undef)
theorem YieldsF.of_same {ops : Array Oper} {o : Oper} {v : Value} {a a' : Act} (hy : YieldsF P hR ops o v a) (he : execOp a'.eval o = execOp a.eval o)
    (hw : Region.wanted o (yielded ops a'.tmps) = Region.wanted o (yielded ops a.tmps)) : YieldsF P hR ops o v a' := by
  unfold YieldsF at *
  rw [he, hw]
  exact hy

/-- a step that is one of 'Yields' -/
theorem AStep.of_yields {cl : Nat → Cls} {ops : Array Oper} {i : Nat} {o : Oper} (ho : ops[i]? = some o) {a : Act} {h : Heap} {K : Act → Heap → Prop} {v : Value}
    (hc : Region.wanted o (yielded ops a.tmps) = true → cl i = .P) (hy : YieldsF P hR ops o v a) (hk : K (a.put o.dst v) h) : AStep P hR cl ops i a h K := by
  unfold AStep
  simp only [ho]
  rcases hy with ⟨hw, hv⟩ | ⟨hw, rfl⟩
  · simp only [hw, if_true, hc hw]; exact ⟨v, hv, hk⟩
  · simp only [hw, Bool.false_eq_true, if_false]; exact hk

theorem yields_unique {ops : Array Oper} {o : Oper} {v v' : Value} {a : Act} {h0 : Heap} (hl : Live hR h0) (h : YieldsF P hR ops o v a) (h' : YieldsF P hR ops o v' a) : v = v' := by
  obtain ⟨w0, f0⟩ := hl
  rcases h with ⟨h1, h2⟩ | ⟨h1, h2⟩ <;> rcases h' with ⟨h3, h4⟩ | ⟨h3, h4⟩
  · have := (h2 w0 f0.ro).symm.trans (h4 w0 f0.ro); simpa using this
  · rw [h1] at h3; cases h3
  · rw [h1] at h3; cases h3
  · rw [h2, h4]

theorem allocs_unique {o : Oper} {a : Act} {ob ob' : Obj} {val val' : Nat → Value} (h : Allocs P o a ob val) (h' : Allocs P o a ob' val') : ob = ob' ∧ val = val' := by
  refine ⟨?_, ?_⟩
  · have := (h default).symm.trans (h' default)
    simp [World.push] at this
    simpa using congrArg Array.back? this.2
  · funext n
    let w : World := { (default : World) with heap := Array.replicate n (.number ⟨0, 0, none⟩ false) }
    have hw : w.heap.size = n := by simp [w]
    have := (h w).symm.trans (h' w)
    simp [World.push, hw] at this
    exact this.1

variable {ops : Array Oper} {cl : Nat → Cls}

/-- what an operation reads of the frame -/
theorem rblk_put {o : Oper} {a : Act} {dst : Option Tmp} {v : Value} (h : ∀ d, dst = some d → d ∉ o.looksAt ops) : rblk o (a.put dst v) = rblk o a := by
  have key : ∀ x ∈ o.op.operands, (a.put dst v).eval x = a.eval x := fun x hx => Act.eval_put fun d hd hxd => h d hd (by
    subst hxd
    exact List.mem_append_left _ (List.mem_filterMap.2 ⟨.tmp d, by simpa using hx, rfl⟩))
  unfold rblk
  split
  · rename_i t x hop; rw [key x (by simp [hop, Op.operands])]
  · rename_i t x i c hop; rw [key x (by simp [hop, Op.operands])]
  · rfl

/-- the frame takes a slot that the operation does not look at -/
theorem AOp.put_slot {c : Cls} {oj : Oper} (hsj : ∀ cs b, oj.op ≠ .select cs b) {dst : Option Tmp} {v : Value}
    (h1 : ∀ d, dst = some d → d ∉ oj.looksAt ops) (h2 : ∀ d, dst = some d → oj.dst ≠ some d) {K : Act → Heap → Prop} {a : Act} {h : Heap}
    (H : AOp P hR c oj (a.put dst v) h K) : AOp P hR c oj a h (fun a' h' => K (a'.put dst v) h') := by
  have he := execOp_put oj hsj a dst v h1
  have hc : ∀ u, (a.put dst v).put oj.dst u = (a.put oj.dst u).put dst v := fun u => Act.put_comm a v u h2
  cases c with
  | P => obtain ⟨u, g1, g2⟩ := H; rw [he] at g1; rw [hc] at g2; exact ⟨u, g1, g2⟩
  | R => obtain ⟨u, ⟨b, ob, g0, g1, g3⟩, g2⟩ := H; rw [he] at g3; rw [hc] at g2; rw [rblk_put h1] at g0; exact ⟨u, ⟨b, ob, g0, g1, g3⟩, g2⟩
  | A => obtain ⟨ob, val, g1, g2⟩ := H; unfold Allocs at g1; rw [he] at g1; exact ⟨ob, val, g1, fun b hb hb' => by have := g2 b hb hb'; rw [hc] at this; exact this⟩
  | E =>
    intro w f
    have g := H w f
    unfold Oper.wp at *
    rw [he] at g
    generalize (execOp a.eval oj).run P w = r at *
    cases r with
    | ok n w' =>
      cases n <;> simp only [Oper.upon] at g ⊢
      case value u => rw [hc] at g; exact g
      case skip => rw [hc] at g; exact g
      case defer d => rw [Act.put_defers, Act.put_comm _ v undef h2] at g; exact g
      case enter fn args =>
        refine Calls.mono g ?_
        intro e w'' hx
        cases e with
        | returned u => simp only [hc] at hx; exact hx
        | panicked c => exact hx
        | outgrown => exact hx
      case row row args => exact Rows.mono g (fun u w'' hx => by simp only [hc] at hx; exact hx)
    | halt x w' => cases x <;> simp only [Oper.upon] at g ⊢

theorem AStep.put_slot {j : Nat} {oj : Oper} (hj : ops[j]? = some oj) (hsj : ∀ cs b, oj.op ≠ .select cs b) {dst : Option Tmp} {v : Value}
    (h1 : ∀ d, dst = some d → d ∉ oj.looksAt ops) (h2 : ∀ d, dst = some d → oj.dst ≠ some d) {K : Act → Heap → Prop} {a : Act} {h : Heap}
    (H : AStep P hR cl ops j (a.put dst v) h K) : AStep P hR cl ops j a h (fun a' h' => K (a'.put dst v) h') := by
  unfold AStep at *
  simp only [hj, wanted_put oj a dst v h1] at *
  split
  · rename_i hw
    simp only [hw, if_true] at H
    exact H.put_slot hsj h1 h2
  · rename_i hw; simp only [hw] at H; rw [Act.put_comm a v undef h2] at H; exact H

/-- may the operation y, which stands behind x, be taken ahead of it? -/
def swapC : Cls → Cls → Bool
  | .P, _ | _, .P => true
  | .R, .R | .R, .A | .A, .R | .A, .A | .E, .A => true
  | _, _ => false

/-- what a step of class P (or one that is not wanted) is -/
theorem AStep.yields {i : Nat} {o : Oper} (ho : ops[i]? = some o) {a : Act} {h : Heap} {K : Act → Heap → Prop}
    (hc : Region.wanted o (yielded ops a.tmps) = true → cl i = .P) (H : AStep P hR cl ops i a h K) : ∃ v, YieldsF P hR ops o v a ∧ K (a.put o.dst v) h := by
  unfold AStep at H
  simp only [ho] at H
  by_cases hw : Region.wanted o (yielded ops a.tmps) = true
  · simp only [hw, if_true, hc hw] at H
    obtain ⟨v, h1, h2⟩ := H
    exact ⟨v, .inl ⟨hw, h1⟩, h2⟩
  · simp only [hw] at H
    exact ⟨undef, .inr ⟨by simpa using hw, rfl⟩, H⟩

theorem AStep.of_op {i : Nat} {o : Oper} (ho : ops[i]? = some o) {a : Act} {h : Heap} {K : Act → Heap → Prop} (hw : Region.wanted o (yielded ops a.tmps) = true)
    (H : AOp P hR (cl i) o a h K) : AStep P hR cl ops i a h K := by
  unfold AStep; simp only [ho, hw, if_true]; exact H

theorem AStep.to_op {i : Nat} {o : Oper} (ho : ops[i]? = some o) {a : Act} {h : Heap} {K : Act → Heap → Prop} (hw : Region.wanted o (yielded ops a.tmps) = true)
    (H : AStep P hR cl ops i a h K) : AOp P hR (cl i) o a h K := by
  unfold AStep at H; simp only [ho, hw, if_true] at H; exact H

/-- an outcome of a step at hand -/
theorem AStep.outcome {j : Nat} {oj : Oper} (hj : ops[j]? = some oj) {a : Act} {h : Heap} {K : Act → Heap → Prop} (hl : Live hR h) (H : AStep P hR cl ops j a h K) :
    ∃ a' h', K a' h' ∧ Live hR h' ∧ (∃ u, a' = a.put oj.dst u ∨ ∃ d, a' = ({ a with defers := d :: a.defers } : Act).put oj.dst u) := by
  unfold AStep at H
  simp only [hj] at H
  split at H
  · cases hc : cl j <;> simp only [hc] at H
    · obtain ⟨v, _, h2⟩ := H; exact ⟨_, _, h2, hl, v, .inl rfl⟩
    · obtain ⟨v, _, h2⟩ := H; exact ⟨_, _, h2, hl, v, .inl rfl⟩
    · obtain ⟨ob, val, _, h2⟩ := H
      obtain ⟨b, _, hb, hb'⟩ := hl.fresh 0
      exact ⟨_, _, h2 b hb hb', hl.put _ hb hb', _, .inl rfl⟩
    · obtain ⟨w, f⟩ := hl
      have g := H w f
      unfold Oper.wp at g
      generalize (execOp a.eval oj).run P w = r at g
      cases r with
      | ok n w' =>
        cases n <;> simp only [Oper.upon] at g
        case value u => obtain ⟨h', s, k⟩ := g; exact ⟨_, h', k, ⟨_, f.step s⟩, u, .inl rfl⟩
        case skip => obtain ⟨h', s, k⟩ := g; exact ⟨_, h', k, ⟨_, f.step s⟩, undef, .inl rfl⟩
        case defer d => obtain ⟨h', s, k⟩ := g; exact ⟨_, h', k, ⟨_, f.step s⟩, undef, .inr ⟨d, rfl⟩⟩
        case enter fn args =>
          obtain ⟨e, w2, fr, hx, _⟩ := g []
          cases e with
          | returned u => obtain ⟨h', s, k⟩ := hx; exact ⟨_, h', k, ⟨_, f.step s⟩, u, .inl rfl⟩
          | panicked c => exact hx.elim
          | outgrown => obtain ⟨_, _, hx⟩ := hx; exact hx.elim
        case row row args =>
          obtain ⟨u, w2, ⟨h', s, k⟩, _⟩ := g (default : Frame) []
          exact ⟨_, h', k, ⟨_, f.step s⟩, u, .inl rfl⟩
      | halt x w' => cases x <;> simp only [Oper.upon] at g
  · exact ⟨_, _, H, hl, undef, .inl rfl⟩

end
end Go.Sep
