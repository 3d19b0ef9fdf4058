/- A logic of owned memory over the model: heaps as partial maps, one operation's step over them, and: a region that draws its order does what it does in one order that is looked at, where the operations that are in no order do not meet. Over any program. -/
import Derived.Orders
import Derived.CallsIn
import Derived.KernelRfl
section
/- A logic of owned memory over the model: heaps as partial maps, one operation's step over them, and: a region that draws its order does what it does in one order that is looked at, where the operations that are in no order do not meet. Over any program. -/
namespace Go.Sep
abbrev Heap := Nat → Option Obj
def hp (w : World) : Heap := fun b => w.heap[b]?
def Sub (h g : Heap) : Prop := ∀ b o, h b = some o → g b = some o
def Disj (h g : Heap) : Prop := ∀ b, h b = none ∨ g b = none
def put (h : Heap) (b : Nat) (o : Obj) : Heap := fun c => if c = b then some o else h c
def emp : Heap := fun _ => none
def un (h g : Heap) : Heap := fun b => (h b).or (g b)
structure Same (w w' : World) : Prop where
  tape : w'.tape = w.tape
  os : w'.os = w.os
  output : w'.output = w.output
theorem Same.refl (w : World) : Same w w := ⟨rfl, rfl, rfl⟩
theorem Same.trans {w w1 w2 : World} (h : Same w w1) (h' : Same w1 w2) : Same w w2 :=
  ⟨h'.tape.trans h.tape, h'.os.trans h.os, h'.output.trans h.output⟩
structure Step (w : World) (h : Heap) (w' : World) (h' : Heap) : Prop where
  sub : Sub h' (hp w')
  size : w.heap.size ≤ w'.heap.size
  keep : ∀ b, b < w.heap.size → h b = none → hp w' b = hp w b
  dom : ∀ b, h' b ≠ none → h b ≠ none ∨ w.heap.size ≤ b
  same : Same w w'
structure Fits (hR h : Heap) (w : World) : Prop where
  ro : Sub hR (hp w)
  own : Sub h (hp w)
  apart : Disj hR h
def Live (hR h : Heap) : Prop := ∃ w, Fits hR h w
theorem hp_lt {w : World} {b : Nat} {o : Obj} (h : hp w b = some o) : b < w.heap.size := (Array.getElem?_eq_some_iff.1 h).1
theorem Step.refl {w : World} {h : Heap} (hs : Sub h (hp w)) : Step w h w h :=
  ⟨hs, Nat.le_refl _, fun _ _ _ => rfl, fun _ hb => .inl hb, .refl _⟩
theorem Step.trans {w w1 w2 : World} {h h1 h2 : Heap} (s : Step w h w1 h1) (s' : Step w1 h1 w2 h2) : Step w h w2 h2 := by
  refine ⟨s'.sub, Nat.le_trans s.size s'.size, fun b hb hn => ?_, fun b hb => ?_, s.same.trans s'.same⟩
  · rw [s'.keep b (Nat.lt_of_lt_of_le hb s.size) ?_, s.keep b hb hn]
    cases h1b : h1 b with
    | none => rfl
    | some o =>
      rcases s.dom b (by simp [h1b]) with h' | h'
      · exact absurd hn h'
      · omega
  · rcases s'.dom b hb with h' | h'
    · exact s.dom b h'
    · exact .inr (Nat.le_trans s.size h')
theorem Fits.step {hR h h' : Heap} {w w' : World} (f : Fits hR h w) (s : Step w h w' h') : Fits hR h' w' := by
  refine ⟨fun b o hb => ?_, s.sub, fun b => ?_⟩
  · have h0 := f.ro b o hb
    rw [s.keep b (hp_lt h0) ((f.apart b).resolve_left (by simp [hb]))]; exact h0
  · cases hb : hR b with
    | none => exact .inl rfl
    | some o =>
      refine .inr ?_
      cases h1 : h' b with
      | none => rfl
      | some o' =>
        rcases s.dom b (by simp [h1]) with h2 | h2
        · exact absurd ((f.apart b).resolve_left (by simp [hb])) h2
        · have := hp_lt (f.ro b o hb); omega
theorem Fits.sub {hR h h1 : Heap} {w : World} (f : Fits hR h w) (hs : Sub h1 h) : Fits hR h1 w :=
  ⟨f.ro, fun b o hb => f.own b o (hs b o hb), fun b => by
    rcases f.apart b with h' | h'
    · exact .inl h'
    · refine .inr ?_
      cases hb : h1 b with
      | none => rfl
      | some o => rw [hs b o hb] at h'; cases h'⟩
theorem sub_put {h : Heap} {b : Nat} (o : Obj) (hn : h b = none) : Sub h (put h b o) := fun c x hc => by
  unfold put
  split
  · rename_i e; subst e; rw [hn] at hc; cases hc
  · exact hc
theorem put_comm {h : Heap} {b c : Nat} (x y : Obj) (hne : b ≠ c) : put (put h b x) c y = put (put h c y) b x := by
  funext d
  unfold put
  by_cases h1 : d = c <;> by_cases h2 : d = b <;> simp [h1, h2] <;> omega
def World.fill (w : World) (b : Nat) (o : Obj) : World :=
  { w with heap := if b < w.heap.size then w.heap.setIfInBounds b o else (w.heap ++ Array.replicate (b - w.heap.size) o).push o }
theorem hp_fill_self (w : World) (b : Nat) (o : Obj) : hp (World.fill w b o) b = some o := by
  unfold hp World.fill
  by_cases h : b < w.heap.size
  · simp [h]
  · simp only [h, if_false]
    rw [Array.getElem?_push]
    simp
    intro hh; omega
theorem hp_fill_ne (w : World) (b c : Nat) (o x : Obj) (hne : c ≠ b) (hc : hp w c = some x) : hp (World.fill w b o) c = some x := by
  have hlt := hp_lt hc
  unfold hp at *
  unfold World.fill
  by_cases h : b < w.heap.size
  · simp only [h, if_true]; rw [Array.getElem?_setIfInBounds_ne (Ne.symm hne)]; exact hc
  · simp only [h, if_false]
    rw [Array.getElem?_push_lt (by simp; omega)]
    simp [hlt]
    exact (Array.getElem?_eq_some_iff.1 hc).2
theorem Live.put {hR h : Heap} (hl : Live hR h) {b : Nat} (o : Obj) (h1 : hR b = none) (h2 : h b = none) : Live hR (put h b o) := by
  obtain ⟨w, f⟩ := hl
  refine ⟨World.fill w b o, fun c x hc => ?_, fun c x hc => ?_, fun c => ?_⟩
  · exact hp_fill_ne w b c o x (fun e => by subst e; rw [h1] at hc; cases hc) (f.ro c x hc)
  · unfold Sep.put at hc
    split at hc
    · rename_i e; subst e; cases hc; exact hp_fill_self _ _ _
    · rename_i e; exact hp_fill_ne w b c o x e (f.own c x hc)
  · unfold Sep.put
    split
    · rename_i e; subst e; exact .inl h1
    · exact f.apart c
theorem Live.fresh {hR h : Heap} (hl : Live hR h) (k : Nat) : ∃ b, k < b ∧ hR b = none ∧ h b = none := by
  obtain ⟨w, f⟩ := hl
  refine ⟨max w.heap.size k + 1, by omega, ?_, ?_⟩
  · cases hb : hR (max w.heap.size k + 1) with
    | none => rfl
    | some o => have := hp_lt (f.ro _ o hb); omega
  · cases hb : h (max w.heap.size k + 1) with
    | none => rfl
    | some o => have := hp_lt (f.own _ o hb); omega
/-! ### One operation -/
inductive Cls where
  | P | R | A | E
  deriving DecidableEq
def World.push (w : World) (o : Obj) : World := { w with heap := w.heap.push o }
/-- the block that an operation reads -/
def rblk (o : Oper) (a : Act) : Option Nat :=
  match o.op with
  | .load _ x => match a.eval x with | .pointer (some ad) => some ad.block | _ => none
  | .lookup _ x _ _ => match a.eval x with | .map (some r) => some r | _ => none
  | _ => none
section
variable (P : Program) (hR : Heap)
def Reads (o : Oper) (a : Act) (h : Heap) (v : Value) : Prop :=
  ∃ b ob, rblk o a = some b ∧ (hR b = some ob ∨ h b = some ob) ∧ ∀ w, hp w b = some ob → (execOp a.eval o).run P w = .ok (.value v) w
def Allocs (o : Oper) (a : Act) (ob : Obj) (val : Nat → Value) : Prop :=
  ∀ w, (execOp a.eval o).run P w = .ok (.value (val w.heap.size)) (World.push w ob)
def Effs (o : Oper) (a : Act) (h : Heap) (K : Act → Heap → Prop) : Prop :=
  ∀ w, Fits hR h w → o.wp P a w (fun a' w' => ∃ h', Step w h w' h' ∧ K a' h') (fun _ _ _ => False)
def AOp (c : Cls) (o : Oper) (a : Act) (h : Heap) (K : Act → Heap → Prop) : Prop :=
  match c with
  | .P => ∃ v, (∀ w, Sub hR (hp w) → (execOp a.eval o).run P w = .ok (.value v) w) ∧ K (a.put o.dst v) h
  | .R => ∃ v, Reads P hR o a h v ∧ K (a.put o.dst v) h
  | .A => ∃ ob val, Allocs P o a ob val ∧ ∀ b, hR b = none → h b = none → K (a.put o.dst (val b)) (put h b ob)
  | .E => Effs P hR o a h K
def AStep (cl : Nat → Cls) (ops : Array Oper) (i : Nat) (a : Act) (h : Heap) (K : Act → Heap → Prop) : Prop :=
  match ops[i]? with
  | none => K a h
  | some o => if Region.wanted o (yielded ops a.tmps) then AOp P hR (cl i) o a h K else K (a.put o.dst undef) h
def ARun (cl : Nat → Cls) (ops : Array Oper) : List Nat → Act → Heap → (Act → Heap → Prop) → Prop
  | [], a, h, K => K a h
  | i :: l, a, h, K => AStep P hR cl ops i a h fun a' h' => ARun cl ops l a' h' K
end
section
variable {P : Program} {hR : Heap}
theorem AOp.mono {c : Cls} {o : Oper} {a : Act} {h : Heap} {K K' : Act → Heap → Prop} (hl : Live hR h) (hk : ∀ a' h', Live hR h' → K a' h' → K' a' h')
    (H : AOp P hR c o a h K) : AOp P hR c o a h K' := by
  cases c with
  | P => obtain ⟨v, h1, h2⟩ := H; exact ⟨v, h1, hk _ _ hl h2⟩
  | R => obtain ⟨v, h1, h2⟩ := H; exact ⟨v, h1, hk _ _ hl h2⟩
  | A => obtain ⟨ob, val, h1, h2⟩ := H; exact ⟨ob, val, h1, fun b hb hb' => hk _ _ (hl.put _ hb hb') (h2 b hb hb')⟩
  | E => exact fun w f => Oper.wp_mono (fun a' w' ⟨h', s, k⟩ => ⟨h', s, hk _ _ ⟨w', f.step s⟩ k⟩) (H w f)
theorem AStep.mono {cl : Nat → Cls} {ops : Array Oper} {i : Nat} {a : Act} {h : Heap} {K K' : Act → Heap → Prop} (hl : Live hR h)
    (hk : ∀ a' h', Live hR h' → K a' h' → K' a' h') (H : AStep P hR cl ops i a h K) : AStep P hR cl ops i a h K' := by
  unfold AStep at *
  split
  · rename_i ho; simp only [ho] at H; exact hk _ _ hl H
  · rename_i o ho
    simp only [ho] at H
    split
    · rename_i hw; simp only [hw, if_true] at H; exact H.mono hl hk
    · rename_i hw; simp only [hw] at H; exact hk _ _ hl H
theorem ARun.mono {cl : Nat → Cls} {ops : Array Oper} {K K' : Act → Heap → Prop} (hk : ∀ a' h', Live hR h' → K a' h' → K' a' h') : ∀ (l : List Nat) {a : Act} {h : Heap}
    (_ : Live hR h) (_ : ARun P hR cl ops l a h K), ARun P hR cl ops l a h K'
  | [], _, _, hl, H => hk _ _ hl H
  | _ :: l, _, _, hl, H => AStep.mono hl (fun _ _ hl' H' => ARun.mono hk l hl' H') H
/-- what an operation that reckons, or reads what stays, gives -/
def YieldsF (P : Program) (hR : Heap) (ops : Array Oper) (o : Oper) (v : Value) (a : Act) : Prop :=
  (Region.wanted o (yielded ops a.tmps) = true ∧ ∀ w, Sub hR (hp w) → (execOp a.eval o).run P w = .ok (.value v) w) ∨ (Region.wanted o (yielded ops a.tmps) = false ∧ v = undef)
theorem YieldsF.of_same {ops : Array Oper} {o : Oper} {v : Value} {a a' : Act} (hy : YieldsF P hR ops o v a) (he : execOp a'.eval o = execOp a.eval o)
    (hw : Region.wanted o (yielded ops a'.tmps) = Region.wanted o (yielded ops a.tmps)) : YieldsF P hR ops o v a' := by
  unfold YieldsF at *
  rw [he, hw]
  exact hy
/-- a step that is one of 'Yields' -/
theorem AStep.of_yields {cl : Nat → Cls} {ops : Array Oper} {i : Nat} {o : Oper} (ho : ops[i]? = some o) {a : Act} {h : Heap} {K : Act → Heap → Prop} {v : Value}
    (hc : Region.wanted o (yielded ops a.tmps) = true → cl i = .P) (hy : YieldsF P hR ops o v a) (hk : K (a.put o.dst v) h) : AStep P hR cl ops i a h K := by
  unfold AStep
  simp only [ho]
  rcases hy with ⟨hw, hv⟩ | ⟨hw, rfl⟩
  · simp only [hw, if_true, hc hw]; exact ⟨v, hv, hk⟩
  · simp only [hw, Bool.false_eq_true, if_false]; exact hk
theorem yields_unique {ops : Array Oper} {o : Oper} {v v' : Value} {a : Act} {h0 : Heap} (hl : Live hR h0) (h : YieldsF P hR ops o v a) (h' : YieldsF P hR ops o v' a) : v = v' := by
  obtain ⟨w0, f0⟩ := hl
  rcases h with ⟨h1, h2⟩ | ⟨h1, h2⟩ <;> rcases h' with ⟨h3, h4⟩ | ⟨h3, h4⟩
  · have := (h2 w0 f0.ro).symm.trans (h4 w0 f0.ro); simpa using this
  · rw [h1] at h3; cases h3
  · rw [h1] at h3; cases h3
  · rw [h2, h4]
theorem allocs_unique {o : Oper} {a : Act} {ob ob' : Obj} {val val' : Nat → Value} (h : Allocs P o a ob val) (h' : Allocs P o a ob' val') : ob = ob' ∧ val = val' := by
  refine ⟨?_, ?_⟩
  · have := (h default).symm.trans (h' default)
    simp [World.push] at this
    simpa using congrArg Array.back? this.2
  · funext n
    let w : World := { (default : World) with heap := Array.replicate n (.number ⟨0, 0, none⟩ false) }
    have hw : w.heap.size = n := by simp [w]
    have := (h w).symm.trans (h' w)
    simp [World.push, hw] at this
    exact this.1
variable {ops : Array Oper} {cl : Nat → Cls}
/-- what an operation reads of the frame -/
theorem rblk_put {o : Oper} {a : Act} {dst : Option Tmp} {v : Value} (h : ∀ d, dst = some d → d ∉ o.looksAt ops) : rblk o (a.put dst v) = rblk o a := by
  have key : ∀ x ∈ o.op.operands, (a.put dst v).eval x = a.eval x := fun x hx => Act.eval_put fun d hd hxd => h d hd (by
    subst hxd
    exact List.mem_append_left _ (List.mem_filterMap.2 ⟨.tmp d, by simpa using hx, rfl⟩))
  unfold rblk
  split
  · rename_i t x hop; rw [key x (by simp [hop, Op.operands])]
  · rename_i t x i c hop; rw [key x (by simp [hop, Op.operands])]
  · rfl
/-- the frame takes a slot that the operation does not look at -/
theorem AOp.put_slot {c : Cls} {oj : Oper} (hsj : ∀ cs b, oj.op ≠ .select cs b) {dst : Option Tmp} {v : Value}
    (h1 : ∀ d, dst = some d → d ∉ oj.looksAt ops) (h2 : ∀ d, dst = some d → oj.dst ≠ some d) {K : Act → Heap → Prop} {a : Act} {h : Heap}
    (H : AOp P hR c oj (a.put dst v) h K) : AOp P hR c oj a h (fun a' h' => K (a'.put dst v) h') := by
  have he := execOp_put oj hsj a dst v h1
  have hc : ∀ u, (a.put dst v).put oj.dst u = (a.put oj.dst u).put dst v := fun u => Act.put_comm a v u h2
  cases c with
  | P => obtain ⟨u, g1, g2⟩ := H; rw [he] at g1; rw [hc] at g2; exact ⟨u, g1, g2⟩
  | R => obtain ⟨u, ⟨b, ob, g0, g1, g3⟩, g2⟩ := H; rw [he] at g3; rw [hc] at g2; rw [rblk_put h1] at g0; exact ⟨u, ⟨b, ob, g0, g1, g3⟩, g2⟩
  | A => obtain ⟨ob, val, g1, g2⟩ := H; unfold Allocs at g1; rw [he] at g1; exact ⟨ob, val, g1, fun b hb hb' => by have := g2 b hb hb'; rw [hc] at this; exact this⟩
  | E =>
    intro w f
    have g := H w f
    unfold Oper.wp at *
    rw [he] at g
    generalize (execOp a.eval oj).run P w = r at *
    cases r with
    | ok n w' =>
      cases n <;> simp only [Oper.upon] at g ⊢
      case value u => rw [hc] at g; exact g
      case skip => rw [hc] at g; exact g
      case defer d => rw [Act.put_defers, Act.put_comm _ v undef h2] at g; exact g
      case enter fn args =>
        refine Calls.mono g ?_
        intro e w'' hx
        cases e with
        | returned u => simp only [hc] at hx; exact hx
        | panicked c => exact hx
        | outgrown => exact hx
      case row row args => exact Rows.mono g (fun u w'' hx => by simp only [hc] at hx; exact hx)
    | halt x w' => cases x <;> simp only [Oper.upon] at g ⊢
theorem AStep.put_slot {j : Nat} {oj : Oper} (hj : ops[j]? = some oj) (hsj : ∀ cs b, oj.op ≠ .select cs b) {dst : Option Tmp} {v : Value}
    (h1 : ∀ d, dst = some d → d ∉ oj.looksAt ops) (h2 : ∀ d, dst = some d → oj.dst ≠ some d) {K : Act → Heap → Prop} {a : Act} {h : Heap}
    (H : AStep P hR cl ops j (a.put dst v) h K) : AStep P hR cl ops j a h (fun a' h' => K (a'.put dst v) h') := by
  unfold AStep at *
  simp only [hj, wanted_put oj a dst v h1] at *
  split
  · rename_i hw
    simp only [hw, if_true] at H
    exact H.put_slot hsj h1 h2
  · rename_i hw; simp only [hw] at H; rw [Act.put_comm a v undef h2] at H; exact H
/-- may the operation y, which stands behind x, be taken ahead of it? -/
def swapC : Cls → Cls → Bool
  | .P, _ | _, .P => true
  | .R, .R | .R, .A | .A, .R | .A, .A | .E, .A => true
  | _, _ => false
/-- what a step of class P (or one that is not wanted) is -/
theorem AStep.yields {i : Nat} {o : Oper} (ho : ops[i]? = some o) {a : Act} {h : Heap} {K : Act → Heap → Prop}
    (hc : Region.wanted o (yielded ops a.tmps) = true → cl i = .P) (H : AStep P hR cl ops i a h K) : ∃ v, YieldsF P hR ops o v a ∧ K (a.put o.dst v) h := by
  unfold AStep at H
  simp only [ho] at H
  by_cases hw : Region.wanted o (yielded ops a.tmps) = true
  · simp only [hw, if_true, hc hw] at H
    obtain ⟨v, h1, h2⟩ := H
    exact ⟨v, .inl ⟨hw, h1⟩, h2⟩
  · simp only [hw] at H
    exact ⟨undef, .inr ⟨by simpa using hw, rfl⟩, H⟩
theorem AStep.of_op {i : Nat} {o : Oper} (ho : ops[i]? = some o) {a : Act} {h : Heap} {K : Act → Heap → Prop} (hw : Region.wanted o (yielded ops a.tmps) = true)
    (H : AOp P hR (cl i) o a h K) : AStep P hR cl ops i a h K := by
  unfold AStep; simp only [ho, hw, if_true]; exact H
theorem AStep.to_op {i : Nat} {o : Oper} (ho : ops[i]? = some o) {a : Act} {h : Heap} {K : Act → Heap → Prop} (hw : Region.wanted o (yielded ops a.tmps) = true)
    (H : AStep P hR cl ops i a h K) : AOp P hR (cl i) o a h K := by
  unfold AStep at H; simp only [ho, hw, if_true] at H; exact H
/-- an outcome of a step at hand -/
theorem AStep.outcome {j : Nat} {oj : Oper} (hj : ops[j]? = some oj) {a : Act} {h : Heap} {K : Act → Heap → Prop} (hl : Live hR h) (H : AStep P hR cl ops j a h K) :
    ∃ a' h', K a' h' ∧ Live hR h' ∧ (∃ u, a' = a.put oj.dst u ∨ ∃ d, a' = ({ a with defers := d :: a.defers } : Act).put oj.dst u) := by
  unfold AStep at H
  simp only [hj] at H
  split at H
  · cases hc : cl j <;> simp only [hc] at H
    · obtain ⟨v, _, h2⟩ := H; exact ⟨_, _, h2, hl, v, .inl rfl⟩
    · obtain ⟨v, _, h2⟩ := H; exact ⟨_, _, h2, hl, v, .inl rfl⟩
    · obtain ⟨ob, val, _, h2⟩ := H
      obtain ⟨b, _, hb, hb'⟩ := hl.fresh 0
      exact ⟨_, _, h2 b hb hb', hl.put _ hb hb', _, .inl rfl⟩
    · obtain ⟨w, f⟩ := hl
      have g := H w f
      unfold Oper.wp at g
      generalize (execOp a.eval oj).run P w = r at g
      cases r with
      | ok n w' =>
        cases n <;> simp only [Oper.upon] at g
        case value u => obtain ⟨h', s, k⟩ := g; exact ⟨_, h', k, ⟨_, f.step s⟩, u, .inl rfl⟩
        case skip => obtain ⟨h', s, k⟩ := g; exact ⟨_, h', k, ⟨_, f.step s⟩, undef, .inl rfl⟩
        case defer d => obtain ⟨h', s, k⟩ := g; exact ⟨_, h', k, ⟨_, f.step s⟩, undef, .inr ⟨d, rfl⟩⟩
        case enter fn args =>
          obtain ⟨e, w2, fr, hx, _⟩ := g []
          cases e with
          | returned u => obtain ⟨h', s, k⟩ := hx; exact ⟨_, h', k, ⟨_, f.step s⟩, u, .inl rfl⟩
          | panicked c => exact hx.elim
          | outgrown => obtain ⟨_, _, hx⟩ := hx; exact hx.elim
        case row row args =>
          obtain ⟨u, w2, ⟨h', s, k⟩, _⟩ := g (default : Frame) []
          exact ⟨_, h', k, ⟨_, f.step s⟩, u, .inl rfl⟩
      | halt x w' => cases x <;> simp only [Oper.upon] at g
  · exact ⟨_, _, H, hl, undef, .inl rfl⟩
end
end Go.Sep
end
section
/- A region that draws its order: what holds of the operations taken in one order holds of them in every order that the edges allow, where a check finds that those in no order do not meet. Over any program. -/
namespace Go.Sep
section
variable {P : Program} {hR : Heap} {ops : Array Oper} {cl : Nat → Cls}
/-- two neighbours change places -/
theorem AStep.swap {i j : Nat} {oi oj : Oper} (hi : ops[i]? = some oi) (hj : ops[j]? = some oj) (hap : oi.apart ops oj = true)
    (hsi : ∀ cs b, oi.op ≠ .select cs b) (hsj : ∀ cs b, oj.op ≠ .select cs b) (hc : swapC (cl j) (cl i) = true)
    {a : Act} {h : Heap} {K : Act → Heap → Prop} (hl : Live hR h)
    (H : AStep P hR cl ops j a h fun a' h' => AStep P hR cl ops i a' h' K) : AStep P hR cl ops i a h fun a' h' => AStep P hR cl ops j a' h' K := by
  obtain ⟨h1, h2, h3⟩ := Oper.apart_spec hap
  have h2' : ∀ d, oj.dst = some d → oi.dst ≠ some d := fun d e e' => h2 d e' e
  have hei : ∀ (a : Act) u, execOp (a.put oj.dst u).eval oi = execOp a.eval oi := fun a u => execOp_put oi hsi a oj.dst u h3
  have hej : ∀ (a : Act) u, execOp (a.put oi.dst u).eval oj = execOp a.eval oj := fun a u => execOp_put oj hsj a oi.dst u h1
  have hwi : ∀ (a : Act) u, Region.wanted oi (yielded ops (a.put oj.dst u).tmps) = Region.wanted oi (yielded ops a.tmps) := fun a u => wanted_put oi a oj.dst u h3
  have hwj : ∀ (a : Act) u, Region.wanted oj (yielded ops (a.put oi.dst u).tmps) = Region.wanted oj (yielded ops a.tmps) := fun a u => wanted_put oj a oi.dst u h1
  by_cases hpi : Region.wanted oi (yielded ops a.tmps) = true → cl i = .P
  · -- the second one only reckons
    have keepD : ∀ (d : Deferred) u v, YieldsF P hR ops oi v (({ a with defers := d :: a.defers } : Act).put oj.dst u) → YieldsF P hR ops oi v a := fun d u v hy => by
      have h0 : YieldsF P hR ops oi v ({ a with defers := d :: a.defers } : Act) := hy.of_same (hei _ u).symm (hwi _ u).symm
      exact h0.of_same rfl rfl
    have keep : ∀ u v, YieldsF P hR ops oi v (a.put oj.dst u) → YieldsF P hR ops oi v a := fun u v hy => hy.of_same (hei a u).symm (hwi a u).symm
    have hback : ∀ a' : Act, ((∃ u, a' = a.put oj.dst u ∨ ∃ d, a' = ({ a with defers := d :: a.defers } : Act).put oj.dst u)) →
        (∀ v, YieldsF P hR ops oi v a' → YieldsF P hR ops oi v a) ∧ (Region.wanted oi (yielded ops a'.tmps) = true → cl i = .P) := fun a' ⟨u, hu⟩ => by
      rcases hu with rfl | ⟨d, rfl⟩
      · exact ⟨keep u, fun hw => hpi (by rw [hwi] at hw; exact hw)⟩
      · exact ⟨keepD d u, fun hw => hpi (by rw [hwi] at hw; exact hw)⟩
    -- an outcome tells the value
    obtain ⟨a1, g1, k1, l1, hu1⟩ := AStep.outcome hj hl H
    obtain ⟨v, hy1, _⟩ := k1.yields hi (hback a1 hu1).2
    have hy := (hback a1 hu1).1 v hy1
    refine AStep.of_yields hi hpi hy ?_
    -- the first one, behind it
    unfold AStep at H ⊢
    simp only [hj, hwj] at H ⊢
    have fin : ∀ a' h', ((∃ u, a' = a.put oj.dst u ∨ ∃ d, a' = ({ a with defers := d :: a.defers } : Act).put oj.dst u)) → AStep P hR cl ops i a' h' K → K (a'.put oi.dst v) h' := fun a' h' hu hk => by
      obtain ⟨v', hy', hk'⟩ := hk.yields hi (hback a' hu).2
      rw [yields_unique hl ((hback a' hu).1 v' hy') hy] at hk'
      exact hk'
    have hc' : ∀ u, (a.put oi.dst v).put oj.dst u = (a.put oj.dst u).put oi.dst v := fun u => Act.put_comm a v u h2
    split
    · rename_i hw
      simp only [hw, if_true] at H
      generalize cl j = c at H
      cases c with
      | P => obtain ⟨u, g1, g2⟩ := H; exact ⟨u, by rw [hej]; exact g1, by rw [hc']; exact fin _ _ ⟨u, .inl rfl⟩ g2⟩
      | R =>
        obtain ⟨u, ⟨b, ob, q0, q1, q2⟩, g2⟩ := H
        exact ⟨u, ⟨b, ob, by rw [rblk_put h1]; exact q0, q1, by rw [hej]; exact q2⟩, by rw [hc']; exact fin _ _ ⟨u, .inl rfl⟩ g2⟩
      | A =>
        obtain ⟨ob, val, g1, g2⟩ := H
        exact ⟨ob, val, by unfold Allocs; rw [hej]; exact g1, fun b hb hb' => by rw [hc']; exact fin _ _ ⟨_, .inl rfl⟩ (g2 b hb hb')⟩
      | E =>
        intro w f
        have g := H w f
        unfold Oper.wp at *
        rw [hej]
        generalize (execOp a.eval oj).run P w = r at *
        cases r with
        | ok n w' =>
          cases n <;> simp only [Oper.upon] at g ⊢
          case value u => obtain ⟨h', s, k⟩ := g; exact ⟨h', s, by rw [hc']; exact fin _ _ ⟨u, .inl rfl⟩ k⟩
          case skip => obtain ⟨h', s, k⟩ := g; exact ⟨h', s, by rw [hc']; exact fin _ _ ⟨undef, .inl rfl⟩ k⟩
          case defer d =>
            obtain ⟨h', s, k⟩ := g
            refine ⟨h', s, ?_⟩
            rw [Act.put_defers, Act.put_comm _ v undef h2]
            exact fin _ _ ⟨undef, .inr ⟨d, rfl⟩⟩ k
          case enter fn args =>
            refine Calls.mono g ?_
            intro e w'' hx
            cases e with
            | returned u => obtain ⟨h', s, k⟩ := hx; exact ⟨h', s, by rw [hc']; exact fin _ _ ⟨u, .inl rfl⟩ k⟩
            | panicked c => exact hx
            | outgrown => exact hx
          case row row args => exact Rows.mono g (fun u w'' hx => by obtain ⟨h', s, k⟩ := hx; exact ⟨h', s, by rw [hc']; exact fin _ _ ⟨u, .inl rfl⟩ k⟩)
        | halt x w' => cases x <;> simp only [Oper.upon] at g ⊢
    · rename_i hw
      simp only [hw] at H
      rw [hc']
      exact fin _ _ ⟨undef, .inl rfl⟩ H
  · by_cases hpj : Region.wanted oj (yielded ops a.tmps) = true → cl j = .P
    · -- the first one only reckons
      obtain ⟨v, hy, hk⟩ := H.yields hj hpj
      have hs := hk.put_slot hi hsi h3 h2'
      have keep : ∀ u, YieldsF P hR ops oj v (a.put oi.dst u) := fun u => hy.of_same (hej a u) (hwj a u)
      have keepD : ∀ (d : Deferred) u, YieldsF P hR ops oj v (({ a with defers := d :: a.defers } : Act).put oi.dst u) := fun d u =>
        (hy.of_same (a' := ({ a with defers := d :: a.defers } : Act)) rfl rfl).of_same (hej _ u) (hwj _ u)
      have fin : ∀ a' h', ((∃ u, a' = a.put oi.dst u ∨ ∃ d, a' = ({ a with defers := d :: a.defers } : Act).put oi.dst u)) → K (a'.put oj.dst v) h' → AStep P hR cl ops j a' h' K := fun a' h' ⟨u, hu⟩ hk => by
        refine AStep.of_yields (v := v) hj (fun hw => hpj ?_) ?_ hk
        · rcases hu with rfl | ⟨d, rfl⟩ <;> rw [hwj] at hw <;> exact hw
        · rcases hu with rfl | ⟨d, rfl⟩
          · exact keep u
          · exact keepD d u
      unfold AStep at hs
      unfold AStep
      simp only [hi] at hs ⊢
      split
      · rename_i hw
        simp only [hw, if_true] at hs
        generalize cl i = c at hs
        cases c with
        | P => obtain ⟨u, g1, g2⟩ := hs; exact ⟨u, g1, fin _ _ ⟨u, .inl rfl⟩ g2⟩
        | R => obtain ⟨u, g1, g2⟩ := hs; exact ⟨u, g1, fin _ _ ⟨u, .inl rfl⟩ g2⟩
        | A => obtain ⟨ob, val, g1, g2⟩ := hs; exact ⟨ob, val, g1, fun b hb hb' => fin _ _ ⟨_, .inl rfl⟩ (g2 b hb hb')⟩
        | E =>
          intro w f
          have g := hs w f
          unfold Oper.wp at *
          generalize (execOp a.eval oi).run P w = r at *
          cases r with
          | ok n w' =>
            cases n <;> simp only [Oper.upon] at g ⊢
            case value u => obtain ⟨h', s, k⟩ := g; exact ⟨h', s, fin _ _ ⟨u, .inl rfl⟩ k⟩
            case skip => obtain ⟨h', s, k⟩ := g; exact ⟨h', s, fin _ _ ⟨undef, .inl rfl⟩ k⟩
            case defer d => obtain ⟨h', s, k⟩ := g; exact ⟨h', s, fin _ _ ⟨undef, .inr ⟨d, rfl⟩⟩ k⟩
            case enter fn args =>
              refine Calls.mono g ?_
              intro e w'' hx
              cases e with
              | returned u => obtain ⟨h', s, k⟩ := hx; exact ⟨h', s, fin _ _ ⟨u, .inl rfl⟩ k⟩
              | panicked c => exact hx
              | outgrown => exact hx
            case row row args => exact Rows.mono g (fun u w'' hx => by obtain ⟨h', s, k⟩ := hx; exact ⟨h', s, fin _ _ ⟨u, .inl rfl⟩ k⟩)
          | halt x w' => cases x <;> simp only [Oper.upon] at g ⊢
      · rename_i hw
        simp only [hw] at hs
        exact fin _ _ ⟨undef, .inl rfl⟩ hs
    · -- both do more
      have hwi0 : Region.wanted oi (yielded ops a.tmps) = true := by
        cases hb : Region.wanted oi (yielded ops a.tmps) with
        | true => rfl
        | false => exact absurd (fun h => by rw [hb] at h; cases h) hpi
      have hwj0 : Region.wanted oj (yielded ops a.tmps) = true := by
        cases hb : Region.wanted oj (yielded ops a.tmps) with
        | true => rfl
        | false => exact absurd (fun h => by rw [hb] at h; cases h) hpj
      have hni : cl i ≠ .P := fun e => hpi fun _ => e
      have hnj : cl j ≠ .P := fun e => hpj fun _ => e
      have hcm : ∀ u v, (a.put oj.dst u).put oi.dst v = (a.put oi.dst v).put oj.dst u := fun u v => Act.put_comm a u v h2'
      have H1 := H.to_op hj hwj0
      have inner : ∀ u h', AStep P hR cl ops i (a.put oj.dst u) h' K → AOp P hR (cl i) oi (a.put oj.dst u) h' K := fun u h' g => g.to_op hi (by rw [hwi]; exact hwi0)
      refine AStep.of_op hi hwi0 ?_
      have outer : ∀ u h', AOp P hR (cl j) oj (a.put oi.dst u) h' K → AStep P hR cl ops j (a.put oi.dst u) h' K := fun u h' g => g |> AStep.of_op hj (by rw [hwj]; exact hwj0)
      have ri : ∀ u, rblk oi (a.put oj.dst u) = rblk oi a := fun u => rblk_put h3
      have rj : ∀ u, rblk oj (a.put oi.dst u) = rblk oj a := fun u => rblk_put h1
      generalize hci : cl i = ci at *
      generalize hcj : cl j = cj at *
      cases cj <;> cases ci <;> first | (exact absurd rfl hni) | (exact absurd rfl hnj) | (exact absurd hc (Bool.eq_false_iff.1 rfl)) | skip
      · -- R, R
        obtain ⟨u, ⟨b, ob, q0, q1, q2⟩, g2⟩ := H1
        obtain ⟨v, ⟨b', ob', r0, r1, r2⟩, g3⟩ := inner _ _ g2
        refine ⟨v, ⟨b', ob', by rw [ri] at r0; exact r0, r1, by rw [hei] at r2; exact r2⟩, outer _ _ ⟨u, ⟨b, ob, by rw [rj]; exact q0, q1, by rw [hej]; exact q2⟩, ?_⟩⟩
        rw [← hcm]; exact g3
      · -- R, A
        obtain ⟨u, ⟨b, ob, q0, q1, q2⟩, g2⟩ := H1
        obtain ⟨ob', val, r1, r2⟩ := inner _ _ g2
        unfold Allocs at r1; rw [hei] at r1
        refine ⟨ob', val, r1, fun b' hb hb' => outer _ _ ⟨u, ⟨b, ob, by rw [rj]; exact q0, ?_, by rw [hej]; exact q2⟩, ?_⟩⟩
        · exact q1.imp id (sub_put ob' hb' b ob)
        · rw [← hcm]; exact r2 b' hb hb'
      · -- A, R
        obtain ⟨ob, val, q1, q2⟩ := H1
        have key : ∀ b, hR b = none → h b = none → ∃ v, Reads P hR oi a (put h b ob) v ∧ K ((a.put oi.dst v).put oj.dst (val b)) (put h b ob) := fun b hb hb' => by
          obtain ⟨v, ⟨b', ob', r0, r1, r2⟩, g3⟩ := inner _ _ (q2 b hb hb')
          exact ⟨v, ⟨b', ob', by rw [ri] at r0; exact r0, r1, by rw [hei] at r2; exact r2⟩, by rw [← hcm]; exact g3⟩
        have uniq : ∀ b, hR b = none → h b = none → ∀ v ob', Reads P hR oi a (put h b ob) v → (∀ c, rblk oi a = some c → hR c = some ob' ∨ h c = some ob') → ∀ v', (∀ c, rblk oi a = some c → ∀ w, hp w c = some ob' → (execOp a.eval oi).run P w = .ok (.value v') w) → v = v' := fun b hb hb' v ob' ⟨b1, ob1, r0, r1, r2⟩ hob v' hv' => by
          have e : ob1 = ob' := by
            rcases hob b1 r0 with x | x <;> rcases r1 with y | y
            · rw [x] at y; cases y; rfl
            · unfold put at y; split at y
              · rename_i e; subst e; rw [hb] at x; cases x
              · obtain ⟨w, f⟩ := hl; exact absurd ((f.apart b1).resolve_right (by rw [y]; simp)) (by rw [x]; simp)
            · obtain ⟨w, f⟩ := hl; exact absurd ((f.apart b1).resolve_right (by rw [x]; simp)) (by rw [y]; simp)
            · unfold put at y; split at y
              · rename_i e; subst e; rw [hb'] at x; cases x
              · rw [x] at y; cases y; rfl
          subst e
          have hw : hp (World.fill default b1 ob1) b1 = some ob1 := hp_fill_self _ _ _
          have := (r2 _ hw).symm.trans (hv' b1 r0 _ hw)
          simpa using this
        -- a block that the reading does not mean
        obtain ⟨b0, hb0, hb1, hb2⟩ := hl.fresh ((rblk oi a).getD 0)
        obtain ⟨v, ⟨b', ob', r0, r1, r2⟩, g3⟩ := key b0 hb1 hb2
        have hne : b' ≠ b0 := by intro e; rw [r0] at hb0; simp at hb0; omega
        have r1' : hR b' = some ob' ∨ h b' = some ob' := by
          refine r1.imp id fun y => ?_
          unfold put at y; rw [if_neg hne] at y; exact y
        refine ⟨v, ⟨b', ob', r0, r1', r2⟩, outer _ _ ⟨ob, val, by unfold Allocs; rw [hej]; exact q1, fun b hb hb' => ?_⟩⟩
        obtain ⟨v2, hr2, hk2⟩ := key b hb hb'
        have : v2 = v := uniq b hb hb' v2 ob' hr2 (fun c hc => by rw [r0] at hc; cases hc; exact r1') v (fun c hc w hw => by rw [r0] at hc; cases hc; exact r2 w hw)
        rw [this] at hk2
        exact hk2
      · -- A, A
        obtain ⟨ob, val, q1, q2⟩ := H1
        have key : ∀ b, hR b = none → h b = none → ∃ ob' val', Allocs P oi a ob' val' ∧ ∀ c, hR c = none → put h b ob c = none → K ((a.put oi.dst (val' c)).put oj.dst (val b)) (put (put h b ob) c ob') := fun b hb hb' => by
          obtain ⟨ob', val', r1, r2⟩ := inner _ _ (q2 b hb hb')
          unfold Allocs at r1; rw [hei] at r1
          exact ⟨ob', val', r1, fun c hc hc' => by have := r2 c hc hc'; rw [hcm] at this; exact this⟩
        obtain ⟨b0, _, hb1, hb2⟩ := hl.fresh 0
        obtain ⟨ob', val', r1, _⟩ := key b0 hb1 hb2
        refine ⟨ob', val', r1, fun c hc hc' => outer _ _ ⟨ob, val, by unfold Allocs; rw [hej]; exact q1, fun b hb hb' => ?_⟩⟩
        have hne : b ≠ c := fun e => by subst e; unfold put at hb'; simp at hb'
        have hb'' : h b = none := by unfold put at hb'; rw [if_neg hne] at hb'; exact hb'
        obtain ⟨ob2, val2, s1, s2⟩ := key b hb hb''
        obtain ⟨rfl, rfl⟩ := allocs_unique r1 s1
        have := s2 c hc (by unfold put; rw [if_neg (Ne.symm hne)]; exact hc')
        rw [put_comm _ _ hne] at this
        exact this
      · -- E, A
        have allocs : ∃ ob val, Allocs P oi a ob val := by
          obtain ⟨a1, g1, k1, l1, u, hu⟩ := AStep.outcome hj hl H
          unfold AStep at k1
          simp only [hi, hci] at k1
          have hw1 : Region.wanted oi (yielded ops a1.tmps) = true := by
            rcases hu with rfl | ⟨d, rfl⟩ <;> rw [hwi] <;> exact hwi0
          simp only [hw1, if_true] at k1
          obtain ⟨ob, val, r1, _⟩ := k1
          refine ⟨ob, val, ?_⟩
          unfold Allocs at r1 ⊢
          rcases hu with rfl | ⟨d, rfl⟩
          · rw [hei] at r1; exact r1
          · rw [hei] at r1; exact r1
        obtain ⟨ob, val, r1⟩ := allocs
        refine ⟨ob, val, r1, fun b hb hb' => outer _ _ ?_⟩
        intro w f
        have f0 : Fits hR h w := f.sub (sub_put ob hb')
        have hbw : hp w b = some ob := f.own b ob (by unfold put; simp)
        have g := H1 w f0
        have fin : ∀ a' h' w', ((∃ u, a' = a.put oj.dst u ∨ ∃ d, a' = ({ a with defers := d :: a.defers } : Act).put oj.dst u)) → Step w h w' h' → AStep P hR cl ops i a' h' K →
            Step w (put h b ob) w' (put h' b ob) ∧ K (a'.put oi.dst (val b)) (put h' b ob) := fun a' h' w' ⟨u, hu⟩ s k => by
          have hfresh : h' b = none := by
            cases hx : h' b with
            | none => rfl
            | some o =>
              rcases s.dom b (by simp [hx]) with y | y
              · exact absurd hb' y
              · have := hp_lt hbw; omega
          refine ⟨⟨fun c x hc => ?_, s.size, fun c hc hn => ?_, fun c hc => ?_, s.same⟩, ?_⟩
          · unfold put at hc
            split at hc
            · rename_i e; subst e; cases hc; rw [s.keep c (hp_lt hbw) hb']; exact hbw
            · exact s.sub c x hc
          · unfold put at hn
            split at hn
            · cases hn
            · exact s.keep c hc hn
          · unfold put at hc ⊢
            split
            · exact .inl (by simp)
            · rename_i e; rw [if_neg e] at hc; exact s.dom c hc
          · unfold AStep at k
            simp only [hi, hci] at k
            have hw1 : Region.wanted oi (yielded ops a'.tmps) = true := by
              rcases hu with rfl | ⟨d, rfl⟩ <;> rw [hwi] <;> exact hwi0
            simp only [hw1, if_true] at k
            obtain ⟨ob2, val2, r2, k2⟩ := k
            have r2' : Allocs P oi a ob2 val2 := by
              unfold Allocs at r2 ⊢
              rcases hu with rfl | ⟨d, rfl⟩
              · rw [hei] at r2; exact r2
              · rw [hei] at r2; exact r2
            obtain ⟨rfl, rfl⟩ := allocs_unique r1 r2'
            exact k2 b hb hfresh
        have hcm' : ∀ u, (a.put oi.dst (val b)).put oj.dst u = (a.put oj.dst u).put oi.dst (val b) := fun u => (hcm u _).symm
        unfold Oper.wp at *
        rw [hej]
        generalize (execOp a.eval oj).run P w = r at *
        cases r with
        | ok n w' =>
          cases n <;> simp only [Oper.upon] at g ⊢
          case value u => obtain ⟨h', s, k⟩ := g; have := fin _ h' _ ⟨u, .inl rfl⟩ s k; exact ⟨_, this.1, by rw [hcm']; exact this.2⟩
          case skip => obtain ⟨h', s, k⟩ := g; have := fin _ h' _ ⟨undef, .inl rfl⟩ s k; exact ⟨_, this.1, by rw [hcm']; exact this.2⟩
          case defer d =>
            obtain ⟨h', s, k⟩ := g
            have := fin _ h' _ ⟨undef, .inr ⟨d, rfl⟩⟩ s k
            refine ⟨_, this.1, ?_⟩
            rw [Act.put_defers, Act.put_comm _ (val b) undef h2]
            exact this.2
          case enter fn args =>
            refine Calls.mono g ?_
            intro e w'' hx
            cases e with
            | returned u => obtain ⟨h', s, k⟩ := hx; have := fin _ h' _ ⟨u, .inl rfl⟩ s k; exact ⟨_, this.1, by simp only [hcm']; exact this.2⟩
            | panicked c => exact hx
            | outgrown => exact hx
          case row row args => exact Rows.mono g (fun u w'' hx => by obtain ⟨h', s, k⟩ := hx; have := fin _ h' _ ⟨u, .inl rfl⟩ s k; exact ⟨_, this.1, by simp only [hcm']; exact this.2⟩)
        | halt x w' => cases x <;> simp only [Oper.upon] at g ⊢
end
end Go.Sep
end
section
/- A region that draws its order, second part: the check, and the theorem. Over any program. -/
namespace Go.Sep
def Edged (ops : Array Oper) (j i : Nat) : Prop := ∃ o, ops[i]? = some o ∧ ∃ e ∈ o.after, Region.binds .any e = true ∧ e.on = j
inductive Anc (ops : Array Oper) : Nat → Nat → Prop
  | one {j i : Nat} (h : Edged ops j i) : Anc ops j i
  | more {j k i : Nat} (h : Anc ops j k) (h' : Edged ops k i) : Anc ops j i
def Closed (ops : Array Oper) (listed : Array Bool) : Prop := ∀ i j, listed.getD i false = true → Edged ops j i → listed.getD j false = true
theorem Closed.anc {ops : Array Oper} {listed : Array Bool} (hc : Closed ops listed) {j i : Nat} (h : Anc ops j i) : (∀ k, Edged ops k i → listed.getD k false = true) → listed.getD j false = true := by
  induction h with
  | one h => exact fun g => g _ h
  | more h h' ih => exact fun g => ih fun k hk => hc _ _ (g _ h') hk
def maskOf (acc : Array Nat) (o : Oper) : Nat :=
  o.after.toList.foldl (fun s e => if Region.binds .any e then s ||| 2 ^ e.on ||| acc.getD e.on 0 else s) 0
def masksFrom : List Oper → Array Nat → Array Nat
  | [], acc => acc
  | o :: l, acc => masksFrom l (acc.push (maskOf acc o))
def masks (ops : Array Oper) : Array Nat := masksFrom ops.toList #[]
theorem mask_fold {acc : Array Nat} {j : Nat} : ∀ (l : List Edge) (s : Nat), (l.foldl (fun s e => if Region.binds .any e then s ||| 2 ^ e.on ||| acc.getD e.on 0 else s) s).testBit j = true →
    s.testBit j = true ∨ ∃ e ∈ l, Region.binds .any e = true ∧ (e.on = j ∨ (acc.getD e.on 0).testBit j = true)
  | [], s, h => .inl h
  | e :: l, s, h => by
    simp only [List.foldl_cons] at h
    rcases mask_fold l _ h with h1 | ⟨e', he, hb⟩
    · by_cases hb : Region.binds .any e = true
      · simp only [hb, if_true, Nat.testBit_or, Bool.or_eq_true, Nat.testBit_two_pow, decide_eq_true_eq] at h1
        rcases h1 with (h1 | h1) | h1
        · exact .inl h1
        · exact .inr ⟨e, by simp, hb, .inl h1⟩
        · exact .inr ⟨e, by simp, hb, .inr h1⟩
      · simp only [hb] at h1; exact .inl h1
    · exact .inr ⟨e', by simp [he], hb⟩
theorem masksFrom_spec {ops : Array Oper} : ∀ (l : List Oper) (acc : Array Nat), (∀ k, l[k]? = ops[acc.size + k]?) →
    (∀ i j, (acc.getD i 0).testBit j = true → Anc ops j i) → ∀ i j, ((masksFrom l acc).getD i 0).testBit j = true → Anc ops j i
  | [], _, _, h => h
  | o :: l, acc, hl, h => by
    refine masksFrom_spec l _ (fun k => ?_) (fun i j hij => ?_)
    · have := hl (k + 1)
      simp only [List.getElem?_cons_succ] at this
      rw [this, Array.size_push]; congr 1; omega
    · by_cases hi : i < acc.size
      · refine h i j ?_
        rw [Array.getD_eq_getD_getElem?] at hij ⊢
        rw [Array.getElem?_push_lt hi] at hij
        rw [Array.getElem?_eq_getElem hi]; exact hij
      · by_cases he : i = acc.size
        · subst he
          simp only [Array.getD_eq_getD_getElem?, Array.getElem?_push_size, Option.getD_some] at hij
          have ho : ops[acc.size]? = some o := by have := hl 0; simpa using this.symm
          rcases mask_fold _ _ hij with h1 | ⟨e, he, hb, h2⟩
          · simp at h1
          · have hed : Edged ops e.on acc.size := ⟨o, ho, e, by simpa using he, hb, rfl⟩
            rcases h2 with rfl | h2
            · exact .one hed
            · exact .more (h _ _ h2) hed
        · rw [Array.getD_eq_getD_getElem?, Array.getElem?_eq_none (by simp; omega)] at hij
          simp at hij
theorem masks_spec {ops : Array Oper} {i j : Nat} (h : ((masks ops).getD i 0).testBit j = true) : Anc ops j i :=
  masksFrom_spec ops.toList #[] (by simp) (by simp) i j h
def apartB (ops : Array Oper) (y x : Nat) : Bool := match ops[y]?, ops[x]? with
  | some oy, some ox => oy.apart ops ox
  | _, _ => false
def predsB (ops : Array Oper) (x : Nat) (l : List Nat) : Bool := match ops[x]? with
  | some o => o.after.all fun e => !Region.binds .any e || (decide (e.on < ops.size) && !l.contains e.on)
  | none => false
def chkL (cl : Nat → Cls) (ops : Array Oper) (m : Array Nat) : List Nat → Bool
  | [] => true
  | x :: l => predsB ops x (x :: l) && l.all (fun y => (m.getD y 0).testBit x || (swapC (cl x) (cl y) && apartB ops y x)) && chkL cl ops m l
def permB (n : Nat) (l : List Nat) : Bool := l.length == n && l.all (fun x => decide (x < n)) && decide l.Nodup && (List.range n).all (fun x => l.contains x)
def chk (cl : Nat → Cls) (ops : Array Oper) (l : List Nat) : Bool := permB ops.size l && Region.noSelect ops && chkL cl ops (masks ops) l
section
variable {P : Program} {hR : Heap} {ops : Array Oper} {cl : Nat → Cls}
theorem chkL_erase {m : Array Nat} {i : Nat} : ∀ {l : List Nat}, chkL cl ops m l = true → chkL cl ops m (l.erase i) = true
  | [], _ => rfl
  | x :: l, h => by
    simp only [chkL, Bool.and_eq_true] at h
    rw [List.erase_cons]
    split
    · exact h.2
    · simp only [chkL, Bool.and_eq_true]
      refine ⟨⟨?_, ?_⟩, chkL_erase h.2⟩
      · have h1 := h.1.1
        unfold predsB at h1 ⊢
        split
        · rename_i o ho
          simp only [ho] at h1
          rw [Array.all_eq_true_iff_forall_mem] at h1 ⊢
          intro e he
          have h2 := h1 e he
          simp only [Bool.or_eq_true, Bool.and_eq_true, Bool.not_eq_true', decide_eq_true_eq] at h2 ⊢
          refine h2.imp id fun h3 => ⟨h3.1, ?_⟩
          have h4 := h3.2
          simp only [List.contains_eq_mem, decide_eq_false_iff_not, List.mem_cons, not_or] at h4 ⊢
          exact ⟨h4.1, fun hm => h4.2 (List.mem_of_mem_erase hm)⟩
        · rename_i ho; simp only [ho] at h1; cases h1
      · rw [List.all_eq_true] at *
        exact fun y hy => h.1.2 y (List.mem_of_mem_erase hy)
theorem bubble {K : Act → Heap → Prop} {m : Array Nat} {i : Nat} (hsel : Region.noSelect ops = true) (hm : ∀ x, (m.getD i 0).testBit x = true → Anc ops x i) :
    ∀ {l : List Nat}, (∀ x ∈ l, ¬ Anc ops x i) → i ∈ l → chkL cl ops m l = true → ∀ {a : Act} {h : Heap} (_ : Live hR h)
      (_ : ARun P hR cl ops l a h K), ARun P hR cl ops (i :: l.erase i) a h K
  | [], _, hi, _, _, _, _, _ => by cases hi
  | x :: l, hA, hi, hc, a, h, hl, H => by
    by_cases hx : x = i
    · subst hx; rw [List.erase_cons_head]; exact H
    · have hil : i ∈ l := by rcases List.mem_cons.1 hi with e | e; exact absurd e.symm hx; exact e
      rw [List.erase_cons_tail (by simpa using hx)]
      simp only [chkL, Bool.and_eq_true] at hc
      have h1 := List.all_eq_true.1 hc.1.2 i hil
      simp only [Bool.or_eq_true, Bool.and_eq_true] at h1
      have h2 := h1.resolve_left fun hb => hA x (by simp) (hm x hb)
      have hap := h2.2
      unfold apartB at hap
      split at hap
      · rename_i oi ox hoi hox
        have H1 : AStep P hR cl ops x a h fun a' h' => AStep P hR cl ops i a' h' fun a'' h'' => ARun P hR cl ops (l.erase i) a'' h'' K :=
          AStep.mono hl (fun a' h' hl' H' => bubble hsel hm (fun y hy => hA y (by simp [hy])) hil hc.2 hl' H') H
        exact AStep.swap hoi hox hap (fun cs b => Region.noSelect_spec hsel i oi cs b hoi) (fun cs b => Region.noSelect_spec hsel x ox cs b hox) h2.1 hl H1
      · cases hap
theorem AStep.wpOp {i : Nat} {Q : Exit → Act → World → Prop} {W : Act → World → Prop} {a : Act} {h : Heap} {w : World} {K : Act → Heap → Prop} (f : Fits hR h w)
    (hk : ∀ a' h' w', Step w h w' h' → K a' h' → W a' w') (H : AStep P hR cl ops i a h K) : Go.wpOp P ops Q i W a w := by
  unfold AStep at H
  unfold Go.wpOp
  split
  · rename_i ho; simp only [ho] at H; exact hk _ _ _ (.refl f.own) H
  · rename_i o ho
    simp only [ho] at H
    split
    · rename_i hw
      simp only [hw, if_true] at H
      refine .inl ?_
      cases hc : cl i <;> simp only [hc] at H
      · obtain ⟨v, h1, h2⟩ := H
        unfold Oper.wp; rw [h1 w f.ro]; exact hk _ _ _ (.refl f.own) h2
      · obtain ⟨v, ⟨b, ob, h0, h1, h3⟩, h2⟩ := H
        unfold Oper.wp
        rw [h3 w (by rcases h1 with x | x; exact f.ro _ _ x; exact f.own _ _ x)]
        exact hk _ _ _ (.refl f.own) h2
      · obtain ⟨ob, val, h1, h2⟩ := H
        unfold Oper.wp
        rw [h1 w]
        have hb : hp w w.heap.size = none := by simp [hp]
        have n1 : hR w.heap.size = none := by
          cases hx : hR w.heap.size with
          | none => rfl
          | some x => have := f.ro _ _ hx; rw [hb] at this; cases this
        have n2 : h w.heap.size = none := by
          cases hx : h w.heap.size with
          | none => rfl
          | some x => have := f.own _ _ hx; rw [hb] at this; cases this
        refine hk _ _ _ ⟨fun c x hx => ?_, by simp [World.push], fun c hc _ => ?_, fun c hc => ?_, ⟨rfl, rfl, rfl⟩⟩ (h2 _ n1 n2)
        · unfold put at hx
          split at hx
          · rename_i e; subst e; cases hx; simp [hp, World.push]
          · have := f.own c x hx
            unfold hp World.push at *
            rw [Array.getElem?_push_lt (hp_lt this)]
            exact (Array.getElem?_eq_getElem (hp_lt this)).symm.trans this
        · unfold hp World.push; rw [Array.getElem?_push_lt hc]; exact (Array.getElem?_eq_getElem hc).symm
        · unfold put at hc
          split at hc
          · rename_i e; exact .inr (by omega)
          · exact .inl hc
      · have g := H w f
        unfold Oper.wp at *
        generalize (execOp a.eval o).run P w = r at *
        cases r with
        | ok n w' =>
          cases n <;> simp only [Oper.upon] at g ⊢
          case value u => obtain ⟨h', s, k⟩ := g; exact hk _ _ _ s k
          case skip => obtain ⟨h', s, k⟩ := g; exact hk _ _ _ s k
          case defer d => obtain ⟨h', s, k⟩ := g; exact hk _ _ _ s k
          case enter fn args =>
            refine Calls.mono g ?_
            intro e w'' hx
            cases e with
            | returned u => obtain ⟨h', s, k⟩ := hx; exact hk _ _ _ s k
            | panicked c => exact hx.elim
            | outgrown => obtain ⟨_, _, hx⟩ := hx; exact hx.elim
          case row row args => exact Rows.mono g (fun u w'' hx => by obtain ⟨h', s, k⟩ := hx; exact hk _ _ _ s k)
        | halt x w' => cases x <;> simp only [Oper.upon] at g ⊢
    · rename_i hw; simp only [hw] at H; exact hk _ _ _ (.refl f.own) H
theorem wpAny_of_run {Q : Exit → Act → World → Prop} {K : Act → Heap → Prop} {w0 : World} {h0 : Heap} (hsel : Region.noSelect ops = true)
    (hQ : ∀ a h w, Step w0 h0 w h → K a h → Q .normal a w) : ∀ (fuel : Nat) (l : List Nat) (listed : Array Bool) (a : Act) (h : Heap) (w : World),
      (∀ i, i ∈ l ↔ i < ops.size ∧ listed.getD i true = false) → l.Nodup → listed.size = ops.size → Closed ops listed → chkL cl ops (masks ops) l = true → l.length ≤ fuel →
      Fits hR h w → Step w0 h0 w h → ARun P hR cl ops l a h K → wpAny P .any ops Q fuel listed a w := by
  intro fuel
  induction fuel with
  | zero =>
    intro l listed a h w hmem hnd hsz hcl hchk hlen f s H
    have : l = [] := List.length_eq_zero_iff.1 (by omega)
    subst this
    refine ⟨?_, hQ _ _ _ s H⟩
    cases hr : Region.ready .any ops listed with
    | nil => rfl
    | cons i r =>
      have hi : i ∈ Region.ready .any ops listed := by rw [hr]; simp
      rw [mem_ready] at hi
      obtain ⟨h1, o, ho, _⟩ := hi
      have := (hmem i).2 ⟨(Array.getElem?_eq_some_iff.1 ho).1, h1⟩
      cases this
  | succ fuel ih =>
    intro l listed a h w hmem hnd hsz hcl hchk hlen f s H
    refine ⟨fun hr => ?_, fun i hi => ?_⟩
    · cases l with
      | nil => exact hQ _ _ _ s H
      | cons x l =>
        exfalso
        have hx := (hmem x).1 (by simp)
        simp only [chkL, Bool.and_eq_true] at hchk
        have h1 := hchk.1.1
        unfold predsB at h1
        have ho : ops[x]? = some ops[x] := Array.getElem?_eq_getElem hx.1
        simp only [ho] at h1
        have : x ∈ Region.ready .any ops listed := by
          rw [mem_ready]
          refine ⟨hx.2, _, ho, fun e he hb => ?_⟩
          have h2 := Array.all_eq_true_iff_forall_mem.1 h1 e he
          simp only [hb, Bool.not_true, Bool.false_or, Bool.and_eq_true, decide_eq_true_eq, Bool.not_eq_true', List.contains_eq_mem, decide_eq_false_iff_not] at h2
          cases hg : listed.getD e.on false with
          | true => rfl
          | false => exact absurd ((hmem e.on).2 ⟨h2.1, by
              rw [Array.getD_eq_getD_getElem?, Array.getElem?_eq_getElem (by omega)] at hg ⊢; exact hg⟩) h2.2
        rw [hr] at this; cases this
    · have hi' := mem_ready.1 hi
      obtain ⟨hun, o, ho, hpre⟩ := hi'
      have hil : i ∈ l := (hmem i).2 ⟨(Array.getElem?_eq_some_iff.1 ho).1, hun⟩
      have hdir : ∀ k, Edged ops k i → listed.getD k false = true := fun k ⟨o', ho', e, he, hb, hk⟩ => by
        rw [ho] at ho'; cases ho'; rw [← hk]; exact hpre e he hb
      have hA : ∀ x ∈ l, ¬ Anc ops x i := fun x hx ha => by
        have h1 := hcl.anc ha hdir
        have h2 := ((hmem x).1 hx).2
        have h3 := ((hmem x).1 hx).1
        rw [Array.getD_eq_getD_getElem?, Array.getElem?_eq_getElem (by omega)] at h1 h2
        simp only [Option.getD_some] at h1 h2
        rw [h1] at h2; cases h2
      have H1 := bubble hsel (fun x hx => masks_spec hx) hA hil hchk ⟨w, f⟩ H
      refine AStep.wpOp f (fun a' h' w' s' k => ?_) H1
      have hlen' : (l.erase i).length = l.length - 1 := List.length_erase_of_mem hil
      have hpos : 0 < l.length := List.length_pos_of_mem hil
      refine ih (l.erase i) _ a' h' w' (fun j => ?_) (hnd.erase i) (by simp [hsz]) (fun j k hj he => ?_) (chkL_erase hchk) (by omega) (f.step s') (s.trans s') k
      · rw [hnd.mem_erase_iff, hmem]
        by_cases hji : i = j
        · subst hji; simp [hsz] <;> (intros; omega)
        · rw [getD_set_ne true hji]; constructor
          · exact fun h => h.2
          · exact fun h => ⟨Ne.symm hji, h⟩
      · by_cases hji : i = j
        · subst hji; exact getD_set_true (hdir k he)
        · rw [getD_set_ne false hji] at hj; exact getD_set_true (hcl j k hj he)
theorem permB_spec {n : Nat} {l : List Nat} (h : permB n l = true) : (∀ i, i ∈ l ↔ i < n) ∧ l.Nodup ∧ l.length = n := by
  simp only [permB, Bool.and_eq_true, beq_iff_eq, decide_eq_true_eq, List.all_eq_true, List.contains_eq_mem, List.mem_range] at h
  exact ⟨fun i => ⟨fun hi => h.1.1.2 i hi, fun hi => h.2 i hi⟩, h.1.2, h.1.1.1⟩
/-! ### In whatever frame: of a call, or of a round of a range over a function -/
def FR (ro : Option Nat) : Fence := { Fence.wide with round := ro }
def ndO (o : Oper) : Bool := match o.op with | .defer _ => false | _ => true
def ndB (ro : Option Nat) (ops : Array Oper) : Bool := match ro with | none => true | some _ => ops.all ndO
theorem calls_FR {ro : Option Nat} {m : Nat} {f : FuncId} {args : Array Value} {w : World} {R : Ending → World → Prop} (h : Calls P f args w R) : CallsIn (FR ro) m P f args w R := callsIn_wide.2 h
theorem rows_FR {ro : Option Nat} {m : Nat} {row : String} {args : Array Value} {w : World} {R : Value → World → Prop} (h : Rows P row args w R) : RowsIn (FR ro) m P row args w R :=
  fun c cs _ => let ⟨v, w', r, s⟩ := h c cs; ⟨v, w', r, stepsIn_wide.2 s⟩
theorem sem_FR {ro : Option Nat} {i : Nat} {o : Oper} (hn : ndB ro ops = true) (ho : ops[i]? = some o) (ρ : Operand → Value) : o.semAt ro ρ = execOp ρ o := by
  cases ro with
  | none => rfl
  | some l =>
    refine Oper.semAt_eq _ _ _ fun c hc => ?_
    have := Array.all_eq_true_iff_forall_mem.1 hn o (Array.mem_of_getElem? ho)
    simp [ndO, hc] at this
theorem wpOpsIn_of {ro : Option Nat} {m : Nat} {Q : Exit → Act → World → Prop} (hn : ndB ro ops = true) (hQ : ∀ a w, ¬ Q .outgrown a w) : ∀ (l : List Nat) (a : Act) (w : World), wpOps P ops Q l a w → wpOpsIn (FR ro) m P ops Q l a w
  | [], _, _, h => h
  | i :: l, a, w, h => by
    unfold wpOps at h
    unfold wpOpsIn
    cases ho : ops[i]? with
    | none => rw [ho] at h; exact wpOpsIn_of hn hQ l a w h
    | some o =>
      rw [ho] at h
      simp only at h ⊢
      by_cases hw : Region.wanted o (yielded ops a.tmps) = true
      · rw [if_pos hw] at h ⊢
        have h1 := h.resolve_right fun ⟨_, _, _, hq⟩ => hQ _ _ hq
        refine ⟨fun _ _ => trivial, ?_⟩
        have e : Oper.semAt (FR ro).round a.eval o = execOp a.eval o := sem_FR hn ho _
        rw [e]
        unfold Oper.wp at h1
        generalize (execOp a.eval o).run P w = r at h1 ⊢
        cases r with
        | ok x w' =>
          cases x <;> simp only [Oper.upon, Oper.uponIn] at h1 ⊢
          case value u => exact wpOpsIn_of hn hQ l _ _ h1
          case skip => exact wpOpsIn_of hn hQ l _ _ h1
          case defer d => exact wpOpsIn_of hn hQ l _ _ h1
          case enter fn args =>
            refine ⟨(fun h => by cases h), (calls_FR h1).mono ?_⟩
            intro e w'' hx
            cases e with
            | returned u => exact wpOpsIn_of hn hQ l _ _ hx
            | panicked c => exact hx
            | outgrown => exact hx
          case row row args => exact ⟨fun h => (by cases h), RowsIn.mono (rows_FR h1) fun u w'' hx => wpOpsIn_of hn hQ l _ _ hx⟩
        | halt x w' => cases x <;> simp only [Oper.upon, Oper.uponIn] at h1 ⊢ <;> exact h1
      · rw [if_neg hw] at h ⊢
        exact ⟨fun _ _ => trivial, wpOpsIn_of hn hQ l _ _ h⟩
theorem wpIn_mono_n {c : Code} {F : Fence} {m : Nat} {Q : Exit → Act → World → Prop} {a : Act} {w : World} (h : c.wpIn F m P (fun e a w => e = .normal ∧ Q .normal a w) a w) : c.wpIn F m P Q a w :=
  wpIn_mono h fun e a w ⟨he, q⟩ => by subst he; exact q
theorem wpIn_drawn_of {ro : Option Nat} {m : Nat} {Q : Exit → Act → World → Prop} {id : Nat} {a : Act} {w : World} (hm : P.follows .mixedOrders = true) (hn : ndB ro ops = true)
    (h : wpAny P .any ops (fun e a w => e = .normal ∧ Q .normal a w) ops.size (Array.replicate ops.size false) a { w with drawn := w.drawn + 1 }) : (Code.region id ops true).wpIn (FR ro) m P Q a w :=
  wpIn_mono_n (wpIn_region_draw fun t => by
    simp only [Region.schedule, hm, Bool.true_or, if_true]
    exact wpOpsIn_of hn (fun _ _ h => by cases h.1) _ _ _ (wpAny_sound ops.size t _ a _ h))
/-- a region that draws its order -/
theorem wp_region_drawn {Q : Exit → Act → World → Prop} {K : Act → Heap → Prop} {id : Nat} {a : Act} {h : Heap} {w : World} (l : List Nat) (hm : P.follows .mixedOrders = true)
    (hchk : chk cl ops l = true) (hQ : ∀ a h' w', Step w h w' h' → K a h' → Q .normal a w') (f : Fits hR h w) (H : ARun P hR cl ops l a h K) {ro : Option Nat} {m : Nat} (hn : ndB ro ops = true) : (Code.region id ops true).wpIn (FR ro) m P Q a w := by
  simp only [chk, Bool.and_eq_true] at hchk
  obtain ⟨⟨hp, hs⟩, hc⟩ := hchk
  obtain ⟨h1, h2, h3⟩ := permB_spec hp
  have hst : Step w h { w with drawn := w.drawn + 1 } h := ⟨f.own, Nat.le_refl _, fun _ _ _ => rfl, fun _ hb => .inl hb, ⟨rfl, rfl, rfl⟩⟩
  refine wpIn_drawn_of hm hn (wpAny_of_run (Q := fun e a w => e = .normal ∧ Q .normal a w) hs (fun a h w s k => ⟨rfl, hQ a h w s k⟩) _ l _ a h _ (fun i => ?_) h2 (by simp) (fun i j hi => ?_) hc (Nat.le_of_eq h3) (f.step hst) hst H)
  · rw [h1]
    constructor
    · exact fun hi => ⟨hi, by simp [hi]⟩
    · exact fun h => h.1
  · rw [Array.getD_eq_getD_getElem?] at hi
    by_cases hlt : i < ops.size
    · simp [hlt] at hi
    · simp [hlt] at hi
theorem wpOps_of_run {Q : Exit → Act → World → Prop} {K : Act → Heap → Prop} {w0 : World} {h0 : Heap} (hQ : ∀ a h w, Step w0 h0 w h → K a h → Q .normal a w) :
    ∀ (l : List Nat) (a : Act) (h : Heap) (w : World), Fits hR h w → Step w0 h0 w h → ARun P hR cl ops l a h K → wpOps P ops Q l a w
  | [], a, h, w, _, s, H => hQ _ _ _ s H
  | i :: l, a, h, w, f, s, H => by
    rw [wpOps_cons]
    exact AStep.wpOp f (fun a' h' w' s' k => wpOps_of_run hQ l a' h' w' (f.step s') (s.trans s') k) H
/-- a region that has one order -/
theorem wp_region_plain {Q : Exit → Act → World → Prop} {K : Act → Heap → Prop} {id : Nat} {a : Act} {h : Heap} {w : World}
    (hQ : ∀ a h' w', Step w h w' h' → K a h' → Q .normal a w') (f : Fits hR h w) (H : ARun P hR cl ops (List.range ops.size) a h K) {ro : Option Nat} {m : Nat} (hn : ndB ro ops = true) : (Code.region id ops false).wpIn (FR ro) m P Q a w :=
  wpIn_mono_n (wpIn_region (wpOpsIn_of hn (fun _ _ h => by cases h.1) _ _ _ (wpOps_of_run (Q := fun e a w => e = .normal ∧ Q .normal a w) (fun a h w s k => ⟨rfl, hQ a h w s k⟩) _ a h w f (.refl f.own) H)))
end
end Go.Sep
end
section
/- What is known of a frame's slots and of the memory that is owned, as lists; the rules of the code over them; calls. Over any program. -/
namespace Go.Sep
/-! ### The frame -/
abbrev Env := List (Nat × Value)
def Env.get : Env → Nat → Option Value
  | [], _ => none
  | (t, v) :: r, u => bif Nat.beq u t then some v else Env.get r u
/-- a frame: its slots, what it has put off, whether it is a round's -/
structure Fr where
  k : Nat
  ds : List Deferred
  ro : Option Nat
structure Ok (n : Fr) (ρ : Env) (a : Act) : Prop where
  size : a.tmps.size = n.k
  defers : a.defers = n.ds
  get : ∀ t v, ρ.get t = some v → a.tmps[t]? = some v
def Env.val (ρ : Env) : Operand → Option Value
  | .tmp t => ρ.get t
  | .const v => some v
  | .global g => some (.pointer (some ⟨g, 0, none⟩))
  | .func f => some (.func (.func f) #[] #[])
theorem Ok.eval {n : Fr} {ρ : Env} {a : Act} (h : Ok n ρ a) {x : Operand} {v : Value} (hv : ρ.val x = some v) : a.eval x = v := by
  cases x with
  | tmp t => simp only [Act.eval, Array.getD_eq_getD_getElem?]; rw [h.get t v hv]; rfl
  | const c => simpa [Env.val, Act.eval] using hv
  | global g => simpa [Env.val, Act.eval] using hv
  | func f => simpa [Env.val, Act.eval] using hv
theorem Ok.put {n : Fr} {ρ : Env} {a : Act} (h : Ok n ρ a) {d : Nat} (hd : d < n.k) (v : Value) : Ok n ((d, v) :: ρ) (a.put (some d) v) := by
  refine ⟨by simpa [Act.put] using h.size, h.defers, fun t u hu => ?_⟩
  simp only [Env.get] at hu
  cases e : Nat.beq t d with
  | true =>
    rw [e] at hu
    have e' : t = d := Nat.eq_of_beq_eq_true e
    subst e'; cases hu
    simp [Act.put, h.size, hd]
  | false =>
    rw [e] at hu
    have e' : d ≠ t := fun x => Nat.ne_of_beq_eq_false e x.symm
    simp only [Act.put]
    rw [Array.getElem?_setIfInBounds_ne e']
    exact h.get t u hu
def Env.ext (ρ : Env) : Option Tmp → Value → Env
  | some d, v => (d, v) :: ρ
  | none, _ => ρ
def dstOk (n : Fr) : Option Tmp → Bool
  | some d => decide (d < n.k)
  | none => true
theorem Ok.ext {n : Fr} {ρ : Env} {a : Act} (h : Ok n ρ a) {d : Option Tmp} (hd : dstOk n d = true) (v : Value) : Ok n (ρ.ext d v) (a.put d v) := by
  cases d with
  | none => exact h
  | some d => exact h.put (by simpa [dstOk] using hd) v
def covers (ρ : Env) : Env → Prop
  | [] => True
  | (t, v) :: r => ρ.get t = some v ∧ covers ρ r
theorem covers.get {ρ : Env} : ∀ {r : Env}, covers ρ r → ∀ t v, r.get t = some v → ρ.get t = some v
  | [], _, _, _, h => by cases h
  | (t', v') :: r, ⟨h1, h2⟩, t, v, h => by
    simp only [Env.get] at h
    cases e : Nat.beq t t' with
    | true => rw [e] at h; have : t = t' := Nat.eq_of_beq_eq_true e; subst this; cases h; exact h1
    | false => rw [e] at h; exact h2.get t v h
theorem Ok.weaken {n : Fr} {ρ ρ' : Env} {a : Act} (h : Ok n ρ a) (hc : covers ρ ρ') : Ok n ρ' a :=
  ⟨h.size, h.defers, fun t v hv => h.get t v (hc.get t v hv)⟩
def collectV : List (Option Value) → Option (List Value)
  | [] => some []
  | some v :: r => match collectV r with | some vs => some (v :: vs) | none => none
  | none :: _ => none
theorem collectV_spec : ∀ {xs : List (Option Value)} {vs : List Value}, collectV xs = some vs → xs = vs.map some
  | [], _, h => by simp only [collectV, Option.some.injEq] at h; subst h; rfl
  | some v :: r, vs, h => by
    simp only [collectV] at h
    split at h
    · rename_i us hu; cases h; simp [collectV_spec hu]
    · cases h
  | none :: _, _, h => by simp [collectV] at h
def collectP : Nat → List (Nat × Option Value) → Option (List Value)
  | _, [] => some []
  | i, (j, some v) :: r => bif Nat.beq i j then (match collectP (i + 1) r with | some vs => some (v :: vs) | none => none) else none
  | _, (_, none) :: _ => none
def idxd : Nat → List Value → List (Nat × Value)
  | _, [] => []
  | i, u :: us => (i, u) :: idxd (i + 1) us
theorem collectP_spec : ∀ {xs : List (Nat × Option Value)} {i : Nat} {vs : List Value}, collectP i xs = some vs → xs = (idxd i vs).map fun p => (p.1, some p.2)
  | [], _, _, h => by simp only [collectP, Option.some.injEq] at h; subst h; rfl
  | (j, some v) :: r, i, vs, h => by
    simp only [collectP] at h
    cases e : Nat.beq i j with
    | false => rw [e] at h; cases h
    | true =>
      rw [e] at h
      simp only [cond_true] at h
      split at h
      · rename_i us hu
        cases h
        have : i = j := Nat.eq_of_beq_eq_true e
        subst this
        simp [idxd, ← collectP_spec hu]
      · cases h
  | (_, none) :: _, _, _, h => by simp [collectP] at h
/-! ### Owned memory -/
abbrev HProp := Heap → Prop
def sat : List HProp → Heap → Prop
  | [], _ => True
  | A :: Γ, h => ∃ h1 h2, A h1 ∧ sat Γ h2 ∧ Disj h1 h2 ∧ h = un h1 h2
theorem un_emp (h : Heap) {g : Heap} (hg : ∀ b, g b = none) : un h g = h := by funext b; simp [un, hg]
theorem emp_un (h : Heap) {g : Heap} (hg : ∀ b, g b = none) : un g h = h := by funext b; simp [un, hg]
theorem un_comm {h g : Heap} (hd : Disj h g) : un h g = un g h := by
  funext b; unfold un; rcases hd b with e | e <;> simp [e]
theorem un_assoc (h g k : Heap) : un (un h g) k = un h (un g k) := by funext b; simp [un, Option.or_assoc]
theorem Disj.symm {h g : Heap} (hd : Disj h g) : Disj g h := fun b => (hd b).symm
theorem disj_un {h g k : Heap} : Disj h (un g k) ↔ Disj h g ∧ Disj h k := by
  constructor
  · intro hd
    exact ⟨fun b => (hd b).imp id (fun e => by unfold un at e; cases hx : g b <;> simp [hx] at e ⊢), fun b => (hd b).imp id (fun e => by unfold un at e; cases hx : g b <;> simp [hx] at e ⊢; exact e)⟩
  · intro ⟨h1, h2⟩ b
    rcases h1 b with e | e
    · exact .inl e
    · rcases h2 b with e' | e'
      · exact .inl e'
      · exact .inr (by simp [un, e, e'])
theorem un_disj {h g k : Heap} : Disj (un g k) h ↔ Disj g h ∧ Disj k h :=
  ⟨fun hd => let ⟨a, b⟩ := disj_un.1 hd.symm; ⟨a.symm, b.symm⟩, fun ⟨a, b⟩ => (disj_un.2 ⟨a.symm, b.symm⟩).symm⟩
theorem sub_un_left (h g : Heap) : Sub h (un h g) := fun b o hb => by simp [un, hb]
theorem sub_un_right {h g : Heap} (hd : Disj h g) : Sub g (un h g) := by rw [un_comm hd]; exact sub_un_left g h
theorem Sub.trans {h g k : Heap} (a : Sub h g) (b : Sub g k) : Sub h k := fun c o hc => b c o (a c o hc)
theorem Sub.refl (h : Heap) : Sub h h := fun _ _ h => h
theorem sat_mono : ∀ {Γ : List HProp} {h g : Heap}, sat Γ h → Disj h g → sat Γ (un h g)
  | [], _, _, _, _ => trivial
  | A :: Γ, _, g, ⟨h1, h2, g1, g2, hd, e⟩, hg => by
    subst e
    obtain ⟨d1, d2⟩ := un_disj.1 hg
    exact ⟨h1, un h2 g, g1, sat_mono g2 d2, disj_un.2 ⟨hd, d1⟩, un_assoc _ _ _⟩
theorem sat_append {Γ Δ : List HProp} {h : Heap} : sat (Γ ++ Δ) h ↔ ∃ h1 h2, sat Γ h1 ∧ sat Δ h2 ∧ Disj h1 h2 ∧ h = un h1 h2 := by
  induction Γ generalizing h with
  | nil =>
    constructor
    · exact fun hs => ⟨emp, h, trivial, hs, fun _ => .inl rfl, (emp_un h fun _ => rfl).symm⟩
    · rintro ⟨h1, h2, _, g2, hd, rfl⟩
      rw [un_comm hd]; exact sat_mono g2 hd.symm
  | cons A Γ ih =>
    simp only [List.cons_append, sat]
    constructor
    · rintro ⟨h1, h2, g1, g2, hd, rfl⟩
      obtain ⟨h3, h4, g3, g4, hd', rfl⟩ := ih.1 g2
      obtain ⟨d1, d2⟩ := disj_un.1 hd
      exact ⟨un h1 h3, h4, ⟨h1, h3, g1, g3, d1, rfl⟩, g4, un_disj.2 ⟨d2, hd'⟩, (un_assoc _ _ _).symm⟩
    · rintro ⟨h12, h4, ⟨h1, h3, g1, g3, d1, rfl⟩, g4, hd, rfl⟩
      obtain ⟨d2, d3⟩ := un_disj.1 hd
      exact ⟨h1, un h3 h4, g1, ih.2 ⟨h3, h4, g3, g4, d3, rfl⟩, disj_un.2 ⟨d1, d2⟩, un_assoc _ _ _⟩
theorem sat_perm {Γ Δ : List HProp} (hp : Γ.Perm Δ) : ∀ {h : Heap}, sat Γ h → sat Δ h := by
  induction hp with
  | nil => exact fun _ => trivial
  | cons A _ ih => rintro h ⟨h1, h2, g1, g2, hd, rfl⟩; exact ⟨h1, h2, g1, ih g2, hd, rfl⟩
  | swap A B Γ =>
    rintro h ⟨h1, h2, g1, ⟨h3, h4, g3, g4, hd', rfl⟩, hd, rfl⟩
    obtain ⟨d1, d2⟩ := disj_un.1 hd
    refine ⟨h3, un h1 h4, g3, ⟨h1, h4, g1, g4, d2, rfl⟩, disj_un.2 ⟨d1.symm, hd'⟩, ?_⟩
    rw [← un_assoc, ← un_assoc, un_comm d1]
  | trans _ _ ih1 ih2 => exact fun h => ih2 (ih1 h)
def ent (Γ Δ : List HProp) : Prop := ∀ h, sat Γ h → sat Δ h
theorem ent.refl (Γ : List HProp) : ent Γ Γ := fun _ h => h
theorem ent.trans {Γ Δ Θ : List HProp} (a : ent Γ Δ) (b : ent Δ Θ) : ent Γ Θ := fun h g => b h (a h g)
theorem ent.perm {Γ Δ : List HProp} (hp : Γ.Perm Δ) : ent Γ Δ := fun _ => sat_perm hp
theorem ent.cons {A B : HProp} {Γ Δ : List HProp} (h1 : ∀ h, A h → B h) (h2 : ent Γ Δ) : ent (A :: Γ) (B :: Δ) :=
  fun _ ⟨x, y, a, b, c, d⟩ => ⟨x, y, h1 _ a, h2 _ b, c, d⟩
theorem ent.app {Γ Γ' Δ Δ' : List HProp} (h1 : ent Γ Γ') (h2 : ent Δ Δ') : ent (Γ ++ Δ) (Γ' ++ Δ') := fun h hs => by
  obtain ⟨x, y, a, b, c, d⟩ := sat_append.1 hs
  exact sat_append.2 ⟨x, y, h1 _ a, h2 _ b, c, d⟩
theorem ent.drop (A : HProp) (Γ : List HProp) : ent (A :: Γ) Γ := fun _ ⟨_, _, _, g2, hd, e⟩ => by
  subst e; rw [un_comm hd]; exact sat_mono g2 hd.symm
/-- the n-th piece first -/
def front (n : Nat) (Γ : List HProp) : List HProp := (Γ[n]?).toList ++ Γ.eraseIdx n
theorem front_perm (n : Nat) (Γ : List HProp) : Γ.Perm (front n Γ) := by
  unfold front
  by_cases h : n < Γ.length
  · rw [List.getElem?_eq_getElem h]
    simp only [Option.toList_some, List.singleton_append]
    induction Γ generalizing n with
    | nil => simp at h
    | cons A Γ ih =>
      cases n with
      | zero => simp
      | succ n => simp only [List.length_cons, Nat.add_lt_add_iff_right] at h; exact ((ih n h).cons A).trans (.swap _ _ _)
  · rw [List.getElem?_eq_none (by omega), List.eraseIdx_of_length_le (by omega)]; simp
theorem ent.left (Γ Δ : List HProp) : ent (Γ ++ Δ) Γ := fun h hs => by
  obtain ⟨x, y, a, _, c, d⟩ := sat_append.1 hs
  rw [d]; exact sat_mono a c
/-! ### Code -/
def thn (next : Env → List HProp → Prop) (Q : Exit → Env → List HProp → Prop) : Exit → Env → List HProp → Prop
  | .normal, ρ, Γ => next ρ Γ
  | e, ρ, Γ => Q e ρ Γ
def blk' (id : Nat) (Q : Exit → Env → List HProp → Prop) : Exit → Env → List HProp → Prop
  | .exit id', ρ, Γ => if id' = id then Q .normal ρ Γ else Q (.exit id') ρ Γ
  | e, ρ, Γ => Q e ρ Γ
section
variable (P : Program) (hR : Heap) (n : Fr)
def lift (Q : Exit → Env → List HProp → Prop) (w : World) (h : Heap) (e : Exit) (a' : Act) (w' : World) : Prop :=
  ∃ h' ρ' Γ', Step w h w' h' ∧ Ok n ρ' a' ∧ sat Γ' h' ∧ Q e ρ' Γ'
def WP (c : Code) (Q : Exit → Env → List HProp → Prop) (ρ : Env) (Γ : List HProp) : Prop :=
  ∀ a h w, Ok n ρ a → sat Γ h → Fits hR h w → c.wpIn (FR n.ro) 0 P (lift n Q w h) a w
/-- the function's contract -/
def Tri (f : FuncId) (args : Array Value) (Γ : List HProp) (R : Value → List HProp → Prop) : Prop :=
  ∀ h w, sat Γ h → Fits hR h w → Calls P f args w fun e w' => ∃ v h' Γ', e = .returned v ∧ Step w h w' h' ∧ sat Γ' h' ∧ R v Γ'
end
section
variable {P : Program} {hR : Heap} {n : Fr} {Q : Exit → Env → List HProp → Prop} {ρ : Env} {Γ : List HProp}
theorem WP.mono {c : Code} {Q' : Exit → Env → List HProp → Prop} (hq : ∀ e ρ Γ, Q e ρ Γ → Q' e ρ Γ) (H : WP P hR n c Q ρ Γ) : WP P hR n c Q' ρ Γ :=
  fun a h w ho hs hf => wpIn_mono (H a h w ho hs hf) fun _ _ _ ⟨h', ρ', Γ', s, o, t, q⟩ => ⟨h', ρ', Γ', s, o, t, hq _ _ _ q⟩
theorem WP.weaken {c : Code} {ρ' : Env} {Γ' : List HProp} (hc : covers ρ ρ') (he : ent Γ Γ') (H : WP P hR n c Q ρ' Γ') : WP P hR n c Q ρ Γ :=
  fun a h w ho hs hf => H a h w (ho.weaken hc) (he h hs) hf
theorem WP.via {c : Code} {Γ' : List HProp} (he : ent Γ Γ') (H : WP P hR n c Q ρ Γ') : WP P hR n c Q ρ Γ :=
  fun a h w ho hs hf => H a h w ho (he h hs) hf
/-- what the memory says is opened -/
theorem WP.opens {α : Type} {c : Code} {Γ' : α → List HProp} (he : ∀ h, sat Γ h → ∃ x, sat (Γ' x) h) (H : ∀ x, WP P hR n c Q ρ (Γ' x)) : WP P hR n c Q ρ Γ :=
  fun a h w ho hs hf => let ⟨x, hx⟩ := he h hs; H x a h w ho hx hf
theorem WP.skip (H : Q .normal ρ Γ) : WP P hR n .skip Q ρ Γ := fun _ h _ ho hs hf => wpIn_skip ⟨h, ρ, Γ, .refl hf.own, ho, hs, H⟩
theorem WP.label {l : Nat} (H : Q .normal ρ Γ) : WP P hR n (.label l) Q ρ Γ := fun _ h _ ho hs hf => wpIn_label ⟨h, ρ, Γ, .refl hf.own, ho, hs, H⟩
theorem WP.exit {id : Nat} (H : Q (.exit id) ρ Γ) : WP P hR n (.exit id) Q ρ Γ := fun _ h _ ho hs hf => wpIn_exit ⟨h, ρ, Γ, .refl hf.own, ho, hs, H⟩
theorem WP.ret (H : Q .ret ρ Γ) : WP P hR n .ret Q ρ Γ := fun _ h _ ho hs hf => wpIn_ret ⟨h, ρ, Γ, .refl hf.own, ho, hs, H⟩
theorem WP.seq {x y : Code} (H : WP P hR n x (thn (fun ρ Γ => WP P hR n y Q ρ Γ) Q) ρ Γ) : WP P hR n (.seq x y) Q ρ Γ := by
  intro a h w ho hs hf
  refine wpIn_seq (wpIn_mono (H a h w ho hs hf) ?_)
  rintro e a1 w1 ⟨h1, ρ1, Γ1, s, o1, t1, q⟩
  have other : e ≠ .normal → lift n Q w h e a1 w1 → Exit.then (Code.wpIn (FR n.ro) 0 P y (lift n Q w h)) (lift n Q w h) e a1 w1 := fun hne q' => by
    cases e <;> first | exact absurd rfl hne | exact q'
  cases e with
  | normal =>
    refine wpIn_mono (q a1 h1 w1 o1 t1 (hf.step s)) ?_
    rintro e2 a2 w2 ⟨h2, ρ2, Γ2, s2, o2, t2, q2⟩
    exact ⟨h2, ρ2, Γ2, s.trans s2, o2, t2, q2⟩
  | _ => exact other (by simp) ⟨h1, ρ1, Γ1, s, o1, t1, q⟩
theorem WP.cond {c : Operand} {x y : Code} {t : Bool} (hv : ρ.val c = some (.bool t)) (h1 : t = true → WP P hR n x Q ρ Γ) (h2 : t = false → WP P hR n y Q ρ Γ) :
    WP P hR n (.cond c x y) Q ρ Γ :=
  fun a h w ho hs hf => wpIn_cond_split (ho.eval hv) (fun e => h1 e a h w ho hs hf) (fun e => h2 e a h w ho hs hf)
theorem WP.ite {c : Operand} {x y : Code} {p : Prop} [Decidable p] (hv : ρ.val c = some (.bool (decide p))) (h1 : p → WP P hR n x Q ρ Γ) (h2 : ¬ p → WP P hR n y Q ρ Γ) :
    WP P hR n (.cond c x y) Q ρ Γ :=
  WP.cond hv (fun e => h1 (by simpa using e)) (fun e => h2 (by simpa using e))
theorem WP.block {id : Nat} {c : Code} (H : WP P hR n c (blk' id Q) ρ Γ) : WP P hR n (.block id c) Q ρ Γ := by
  intro a h w ho hs hf
  refine wpIn_block (wpIn_mono (H a h w ho hs hf) ?_)
  rintro e a1 w1 ⟨h1, ρ1, Γ1, s, o1, t1, q⟩
  cases e with
  | exit id' =>
    simp only [blk', Exit.inBlock] at q ⊢
    split
    · rename_i e; rw [if_pos e] at q; exact ⟨h1, ρ1, Γ1, s, o1, t1, q⟩
    · rename_i e; rw [if_neg e] at q; exact ⟨h1, ρ1, Γ1, s, o1, t1, q⟩
  | _ => exact ⟨h1, ρ1, Γ1, s, o1, t1, q⟩
theorem WP.loop {α : Type} {c : Code} (good : α → Prop) (env : α → Env) (mem : α → List HProp) (μ : α → Nat) (x0 : α) (hg : good x0) (hc : covers ρ (env x0)) (he : ent Γ (mem x0))
    (round : ∀ x, good x → WP P hR n c (thn (fun ρ' Γ' => ∃ x', good x' ∧ μ x' < μ x ∧ covers ρ' (env x') ∧ ent Γ' (mem x')) Q) (env x) (mem x)) : WP P hR n (.loop c) Q ρ Γ := by
  intro a h w ho hs hf
  let I : Act → World → Prop := fun a' w' => ∃ x h', good x ∧ Step w h w' h' ∧ Ok n (env x) a' ∧ sat (mem x) h'
  intro b ks cs hro hb hr
  have key : ∀ k x a' w' h', good x → μ x = k → Step w h w' h' → Ok n (env x) a' → sat (mem x) h' →
      ∃ e a2 w2, lift n Q w h e a2 w2 ∧ ArrivesIn (Machine.fenced P (FR n.ro)) P (lone (b.atR a' (.code c :: .inLoop c :: ks)) cs w') b ks cs e a2 w2 := by
    intro k
    induction k using Nat.strongRecOn with
    | _ k ih =>
      intro x a' w' h' g hk s o t
      obtain ⟨e, a1, w1, ⟨h1, ρ1, Γ1, s1, o1, t1, q⟩, harr⟩ := round x g a' h' w' o t (hf.step s) b (.inLoop c :: ks) cs hro hb hr
      cases e with
      | normal =>
        obtain ⟨x', g', hlt, hc', he'⟩ := q
        obtain ⟨e2, a2, w2, hq2, harr2⟩ := ih (μ x') (hk ▸ hlt) x' a1 w1 h1 g' rfl (s.trans s1) (o1.weaken hc') (he' h1 t1)
        exact ⟨e2, a2, w2, hq2, .of_steps (StepsIn.trans harr (.one (fenced_calm hb hr rfl) stepR_inLoop)) harr2⟩
      | exit id => exact ⟨_, a1, w1, ⟨h1, ρ1, Γ1, s.trans s1, o1, t1, q⟩, .pass (x := .inLoop c) rfl (fun _ _ => .inl (by simp)) harr⟩
      | goto l => exact ⟨_, a1, w1, ⟨h1, ρ1, Γ1, s.trans s1, o1, t1, q⟩, .pass (x := .inLoop c) rfl (fun _ _ => .inl (by simp)) harr⟩
      | ret => exact ⟨_, a1, w1, ⟨h1, ρ1, Γ1, s.trans s1, o1, t1, q⟩, .pass (x := .inLoop c) rfl (fun _ _ => .inl (by simp)) harr⟩
      | panic ch => exact ⟨_, a1, w1, ⟨h1, ρ1, Γ1, s.trans s1, o1, t1, q⟩, .pass (x := .inLoop c) rfl (fun _ _ => .inl (by simp)) harr⟩
      | outgrown => exact ⟨_, a1, w1, ⟨h1, ρ1, Γ1, s.trans s1, o1, t1, q⟩, .pass (x := .inLoop c) rfl (fun _ _ => .inl (by simp)) harr⟩
  obtain ⟨e, a', w', hq, harr⟩ := key _ x0 a w h hg rfl (.refl hf.own) (ho.weaken hc) (he h hs)
  exact ⟨e, a', w', hq, .of_steps (.one (fenced_calm hb hr rfl) stepR_loop) harr⟩
/-! ### Regions -/
def opsRun (P : Program) (hR : Heap) (cf : Op → Cls) (ops : Array Oper) : List Oper → Act → Heap → (Act → Heap → Prop) → Prop
  | [], a, h, K => K a h
  | o :: l, a, h, K => if Region.wanted o (yielded ops a.tmps) then AOp P hR (cf o.op) o a h (fun a' h' => opsRun P hR cf ops l a' h' K) else opsRun P hR cf ops l (a.put o.dst undef) h K
def clOf (cf : Op → Cls) (ops : Array Oper) (i : Nat) : Cls := match ops[i]? with | some o => cf o.op | none => .P
theorem arun_of_ops {cf : Op → Cls} {ops : Array Oper} {K : Act → Heap → Prop} : ∀ (is : List Nat) (l : List Oper), is.map (ops[·]?) = l.map some → ∀ a h,
    opsRun P hR cf ops l a h K → ARun P hR (clOf cf ops) ops is a h K
  | [], [], _, _, _, H => H
  | i :: is, o :: l, he, a, h, H => by
    simp only [List.map_cons, List.cons.injEq] at he
    have hi : ops[i]? = some o := he.1
    have ih := arun_of_ops (cf := cf) (K := K) is l he.2
    simp only [ARun, AStep, hi, clOf]
    simp only [opsRun] at H
    split
    · rename_i hw
      simp only [hw, if_true] at H
      generalize cf o.op = c at H
      cases c with
      | P => obtain ⟨v, h1, h2⟩ := H; exact ⟨v, h1, ih _ _ h2⟩
      | R => obtain ⟨v, h1, h2⟩ := H; exact ⟨v, h1, ih _ _ h2⟩
      | A => obtain ⟨ob, val, h1, h2⟩ := H; exact ⟨ob, val, h1, fun b hb hb' => ih _ _ (h2 b hb hb')⟩
      | E => exact fun w f => Oper.wp_mono (fun a' w' ⟨h', s, k⟩ => ⟨h', s, ih _ _ k⟩) (H w f)
    · rename_i hw; simp only [hw] at H; exact ih _ _ H
  | [], _ :: _, he, _, _, _ => by simp at he
  | _ :: _, [], he, _, _, _ => by simp at he
theorem range_map (ops : Array Oper) : (List.range ops.size).map (ops[·]?) = ops.toList.map some := by
  apply List.ext_getElem?
  intro i
  simp only [List.getElem?_map]
  by_cases h : i < ops.size
  · simp [h]
  · simp [h]
/-- the operations of a region, one behind the other -/
def Run (P : Program) (hR : Heap) (n : Fr) (cf : Op → Cls) (ops : Array Oper) (l : List Oper) (K : Env → List HProp → Prop) (ρ : Env) (Γ : List HProp) : Prop :=
  ∀ a h, Ok n ρ a → sat Γ h → Live hR h → opsRun P hR cf ops l a h fun a' h' => ∃ ρ' Γ', Ok n ρ' a' ∧ sat Γ' h' ∧ K ρ' Γ'
theorem WP.plain {id : Nat} {ops : Array Oper} (cf : Op → Cls) {l : List Oper} (hl : ops = ⟨l⟩) (H : Run P hR n cf ops l (Q .normal) ρ Γ) (hn : ndB n.ro ops = true := by rfl) : WP P hR n (.region id ops false) Q ρ Γ := by
  intro a h w ho hs hf
  refine wp_region_plain (cl := clOf cf ops) (fun a h' w' s k => ?_) hf (arun_of_ops _ l (by rw [range_map, hl]) a h (H a h ho hs ⟨w, hf⟩)) hn
  obtain ⟨ρ', Γ', o, t, q⟩ := k
  exact ⟨h', ρ', Γ', s, o, t, q⟩
theorem WP.drawn {id : Nat} {ops : Array Oper} (cf : Op → Cls) {l : List Oper} (is : List Nat) (hm : P.follows .mixedOrders = true) (hl : is.map (ops[·]?) = l.map some)
    (hk : chk (clOf cf ops) ops is = true) (H : Run P hR n cf ops l (Q .normal) ρ Γ) (hn : ndB n.ro ops = true := by rfl) : WP P hR n (.region id ops true) Q ρ Γ := by
  intro a h w ho hs hf
  refine wp_region_drawn is hm hk (fun a h' w' s k => ?_) hf (arun_of_ops _ l hl a h (H a h ho hs ⟨w, hf⟩)) hn
  obtain ⟨ρ', Γ', o, t, q⟩ := k
  exact ⟨h', ρ', Γ', s, o, t, q⟩
theorem WP.drawn0 {id : Nat} {ops : Array Oper} (cf : Op → Cls) {l : List Oper} (hm : P.follows .mixedOrders = true) (hl : ops = ⟨l⟩)
    (hk : chk (clOf cf ops) ops (List.range ops.size) = true) (H : Run P hR n cf ops l (Q .normal) ρ Γ) (hn : ndB n.ro ops = true := by rfl) : WP P hR n (.region id ops true) Q ρ Γ :=
  WP.drawn cf (List.range ops.size) hm (by rw [range_map, hl]) hk H hn
def collectO : List (Option Oper) → Option (List Oper)
  | [] => some []
  | some v :: r => match collectO r with | some vs => some (v :: vs) | none => none
  | none :: _ => none
theorem collectO_spec : ∀ {xs : List (Option Oper)} {vs : List Oper}, collectO xs = some vs → xs = vs.map some
  | [], _, h => by simp only [collectO, Option.some.injEq] at h; subst h; rfl
  | some v :: r, vs, h => by
    simp only [collectO] at h
    split at h
    · rename_i us hu; cases h; simp [collectO_spec hu]
    · cases h
  | none :: _, _, h => by simp [collectO] at h
/-! ### Contracts -/
theorem Tri.mono {f : FuncId} {args : Array Value} {R R' : Value → List HProp → Prop} (hr : ∀ v Γ, R v Γ → R' v Γ) (H : Tri P hR f args Γ R) : Tri P hR f args Γ R' :=
  fun h w hs hf => Calls.mono (H h w hs hf) fun _ _ ⟨v, h', Γ', e, s, t, r⟩ => ⟨v, h', Γ', e, s, t, hr _ _ r⟩
theorem Tri.weaken {f : FuncId} {args : Array Value} {R : Value → List HProp → Prop} {Γ' : List HProp} (he : ent Γ Γ') (H : Tri P hR f args Γ' R) : Tri P hR f args Γ R :=
  fun h w hs hf => H h w (he h hs) hf
theorem Tri.opens {α : Type} {f : FuncId} {args : Array Value} {R : Value → List HProp → Prop} {Γ' : α → List HProp} (he : ∀ h, sat Γ h → ∃ x, sat (Γ' x) h) (H : ∀ x, Tri P hR f args (Γ' x) R) : Tri P hR f args Γ R :=
  fun h w hs hf => let ⟨x, hx⟩ := he h hs; H x h w hx hf
theorem Step.frame {w w' : World} {h h' g : Heap} (hg : Sub g (hp w)) (hd : Disj h g) (s : Step w h w' h') : Step w (un h g) w' (un h' g) ∧ Disj h' g := by
  have hd' : Disj h' g := fun b => by
    cases hx : h' b with
    | none => exact .inl rfl
    | some o =>
      refine .inr ?_
      rcases s.dom b (by simp [hx]) with e | e
      · exact (hd b).resolve_left e
      · cases hy : g b with
        | none => rfl
        | some o' => have := hp_lt (hg b o' hy); omega
  refine ⟨⟨fun b o hb => ?_, s.size, fun b hb hn => ?_, fun b hb => ?_, s.same⟩, hd'⟩
  · unfold un at hb
    cases hx : h' b with
    | some o' => simp [hx] at hb; subst hb; exact s.sub b _ hx
    | none =>
      simp [hx] at hb
      rw [s.keep b (hp_lt (hg b o hb)) ((hd b).resolve_right (by simp [hb]))]
      exact hg b o hb
  · refine s.keep b hb ?_
    unfold un at hn
    cases hx : h b <;> simp [hx] at hn ⊢
  · unfold un at hb ⊢
    cases hx : h' b with
    | some o' =>
      rcases s.dom b (by simp [hx]) with e | e
      · left; cases hy : h b <;> simp [hy] at e ⊢
      · exact .inr e
    | none =>
      simp [hx] at hb
      left; cases hy : h b <;> simp [hb]
theorem Fits.left {hR h g : Heap} {w : World} (f : Fits hR (un h g) w) : Fits hR h w := f.sub (sub_un_left h g)
theorem Fits.right {hR h g : Heap} {w : World} (hd : Disj h g) (f : Fits hR (un h g) w) : Fits hR g w := f.sub (sub_un_right hd)
theorem Tri.frame {f : FuncId} {args : Array Value} {R : Value → List HProp → Prop} (Δ : List HProp) (H : Tri P hR f args Γ R) :
    Tri P hR f args (Γ ++ Δ) fun v Γ' => ∃ Γ1, Γ' = Γ1 ++ Δ ∧ R v Γ1 := by
  intro h w hs hf
  obtain ⟨h1, h2, g1, g2, hd, rfl⟩ := sat_append.1 hs
  refine Calls.mono (H h1 w g1 hf.left) ?_
  rintro e w' ⟨v, h', Γ', rfl, s, t, r⟩
  obtain ⟨s', hd'⟩ := s.frame (hf.right hd).own hd
  exact ⟨v, un h' h2, Γ' ++ Δ, rfl, s', sat_append.2 ⟨h', h2, t, g2, hd', rfl⟩, Γ', rfl, r⟩
/-- what is owned is lent for reading -/
theorem Tri.lend {f : FuncId} {args : Array Value} {R : Value → List HProp → Prop} (Δ : List HProp) (H : ∀ g, sat Δ g → Disj hR g → Tri P (un hR g) f args Γ R) :
    Tri P hR f args (Γ ++ Δ) fun v Γ' => ∃ Γ1, Γ' = Γ1 ++ Δ ∧ R v Γ1 := by
  intro h w hs hf
  obtain ⟨h1, h2, g1, g2, hd, rfl⟩ := sat_append.1 hs
  have hRg : Disj hR h2 := (hf.right hd).apart
  have hf' : Fits (un hR h2) h1 w := by
    refine ⟨fun b o hb => ?_, hf.left.own, un_disj.2 ⟨hf.left.apart, hd.symm⟩⟩
    unfold un at hb
    cases hx : hR b with
    | some o' => simp [hx] at hb; subst hb; exact hf.ro b _ hx
    | none => simp [hx] at hb; exact (hf.right hd).own b o hb
  refine Calls.mono (H h2 g2 hRg h1 w g1 hf') ?_
  rintro e w' ⟨v, h', Γ', rfl, s, t, r⟩
  obtain ⟨s', hd'⟩ := s.frame (hf.right hd).own hd
  exact ⟨v, un h' h2, Γ' ++ Δ, rfl, s', sat_append.2 ⟨h', h2, t, g2, hd', rfl⟩, Γ', rfl, r⟩
/-- the body's post -/
def retQ (P : Program) (hR : Heap) (n : Fr) (fn : Func) (R : Value → List HProp → Prop) (e : Exit) (ρ : Env) (Γ : List HProp) : Prop :=
  (e = .ret ∨ e = .normal) ∧ ∃ v, (∀ a h w, Ok n ρ a → sat Γ h → Fits hR h w → (results fn a.tmps).run P w = .ok v w) ∧ R v Γ
def argEnv : Nat → List Value → Env
  | _, [] => []
  | i, v :: l => (i, v) :: argEnv (i + 1) l
theorem argEnv_get : ∀ (l : List Value) (i t : Nat) (v : Value), (argEnv i l).get t = some v → i ≤ t ∧ l[t - i]? = some v
  | [], _, _, _, h => by cases h
  | x :: l, i, t, v, h => by
    simp only [argEnv, Env.get] at h
    cases e : Nat.beq t i with
    | true =>
      rw [e] at h
      have : t = i := Nat.eq_of_beq_eq_true e
      subst this; cases h; simp
    | false =>
      rw [e] at h
      obtain ⟨h1, h2⟩ := argEnv_get l (i + 1) t v h
      refine ⟨by omega, ?_⟩
      have : t - i = (t - (i + 1)) + 1 := by omega
      rw [this]; simpa using h2
theorem Tri.of {f : FuncId} {fn : Func} {c : Code} {args : List Value} {R : Value → List HProp → Prop} (hf : P.funcs[f]? = some fn) (hb : fn.body = some c) {k : Nat} (hn : fn.ntmps = k) (hlen : args.length ≤ k)
    (H : WP P hR ⟨k, [], none⟩ c (retQ P hR ⟨k, [], none⟩ fn R) (argEnv 0 args) Γ) : Tri P hR f ⟨args⟩ Γ R := by
  intro h w hs hfi
  refine calls_of_wp hf hb (wpIn_wide.1 (wpIn_mono (H _ h w ⟨?_, rfl, ?_⟩ hs hfi) ?_))
  · simp; omega
  · intro t v hv
    obtain ⟨_, h2⟩ := argEnv_get args 0 t v hv
    have h2' : args[t]? = some v := by simpa using h2
    have hlt : t < args.length := (List.getElem?_eq_some_iff.1 h2').1
    rw [Array.getElem?_append_left (by simpa using hlt)]
    simpa using h2'
  · rintro e a w' ⟨h', ρ', Γ', s, o, t, he, v, hv, hr⟩
    have hres := hv a h' w' o t (hfi.step s)
    rcases he with rfl | rfl
    · exact ⟨o.defers, v, hres, v, h', Γ', rfl, s, t, hr⟩
    · exact ⟨o.defers, v, hres, v, h', Γ', rfl, s, t, hr⟩
end
end Go.Sep
end
