/- A region that draws its order, second part: the check, and the theorem. Over any program. -/
import Derived.Test.YtengcfamhoppbaaS2
namespace Go.Sep

def Edged (ops : Array Oper) (j i : Nat) : Prop := ∃ o, ops[i]? = some o ∧ ∃ e ∈ o.after, Region.binds .any e = true ∧ e.on = j

inductive Anc (ops : Array Oper) : Nat → Nat → Prop
  | one {j i : Nat} (h : Edged ops j i) : Anc ops j i
  | more {j k i : Nat} (h : Anc ops j k) (h' : Edged ops k i) : Anc ops j i

def Closed (ops : Array Oper) (listed : Array Bool) : Prop := ∀ i j, listed.getD i false = true → Edged ops j i → listed.getD j false = true

theorem Closed.anc {ops : Array Oper} {listed : Array Bool} (hc : Closed ops listed) {j i : Nat} (h : Anc ops j i) : (∀ k, Edged ops k i → listed.getD k false = true) → listed.getD j false = true := by
  induction h with
  | one h => exact fun g => g _ h
  | more h h' ih => exact fun g => ih fun k hk => hc _ _ (g _ h') hk

def maskOf (acc : Array Nat) (o : Oper) : Nat :=
  o.after.toList.foldl (fun s e => if Region.binds .any e then s ||| 2 ^ e.on ||| acc.getD e.on 0 else s) 0
def masksFrom : List Oper → Array Nat → Array Nat
  | [], acc => acc
  | o :: l, acc => masksFrom l (acc.push (maskOf acc o))
def masks (ops : Array Oper) : Array Nat := masksFrom ops.toList #[]

theorem mask_fold {acc : Array Nat} {j : Nat} : ∀ (l : List Edge) (s : Nat), (l.foldl (fun s e => if Region.binds .any e then s ||| 2 ^ e.on ||| acc.getD e.on 0 else s) s).testBit j = true →
    s.testBit j = true ∨ ∃ e ∈ l, Region.binds .any e = true ∧ (e.on = j ∨ (acc.getD e.on 0).testBit j = true)
  | [], s, h => .inl h
  | e :: l, s, h => by
    simp only [List.foldl_cons] at h
    rcases mask_fold l _ h with h1 | ⟨e', he, hb⟩
    · by_cases hb : Region.binds .any e = true
      · simp only [hb, if_true, Nat.testBit_or, Bool.or_eq_true, Nat.testBit_two_pow, decide_eq_true_eq] at h1
        rcases h1 with (h1 | h1) | h1
        · exact .inl h1
        · exact .inr ⟨e, by simp, hb, .inl h1⟩
        · exact .inr ⟨e, by simp, hb, .inr h1⟩
      · simp only [hb] at h1; exact .inl h1
    · exact .inr ⟨e', by simp [he], hb⟩

theorem masksFrom_spec {ops : Array Oper} : ∀ (l : List Oper) (acc : Array Nat), (∀ k, l[k]? = ops[acc.size + k]?) →
    (∀ i j, (acc.getD i 0).testBit j = true → Anc ops j i) → ∀ i j, ((masksFrom l acc).getD i 0).testBit j = true → Anc ops j i
  | [], _, _, h => h
  | o :: l, acc, hl, h => by
    refine masksFrom_spec l _ (fun k => ?_) (fun i j hij => ?_)
    · have := hl (k + 1)
      simp only [List.getElem?_cons_succ] at this
      rw [this, Array.size_push]; congr 1; omega
    · by_cases hi : i < acc.size
      · refine h i j ?_
        rw [Array.getD_eq_getD_getElem?] at hij ⊢
        rw [Array.getElem?_push_lt hi] at hij
        rw [Array.getElem?_eq_getElem hi]; exact hij
      · by_cases he : i = acc.size
        · subst he
          simp only [Array.getD_eq_getD_getElem?, Array.getElem?_push_size, Option.getD_some] at hij
          have ho : ops[acc.size]? = some o := by have := hl 0; simpa using this.symm
          rcases mask_fold _ _ hij with h1 | ⟨e, he, hb, h2⟩
          · simp at h1
          · have hed : Edged ops e.on acc.size := ⟨o, ho, e, by simpa using he, hb, rfl⟩
            rcases h2 with rfl | h2
            · exact .one hed
            · exact .more (h _ _ h2) hed
        · rw [Array.getD_eq_getD_getElem?, Array.getElem?_eq_none (by simp; omega)] at hij
          simp at hij

theorem masks_spec {ops : Array Oper} {i j : Nat} (h : ((masks ops).getD i 0).testBit j = true) : Anc ops j i :=
  masksFrom_spec ops.toList #[] (by simp) (by simp) i j h

def apartB (ops : Array Oper) (y x : Nat) : Bool := match ops[y]?, ops[x]? with
  | some oy, some ox => oy.apart ops ox
  | _, _ => false
def predsB (ops : Array Oper) (x : Nat) (l : List Nat) : Bool := match ops[x]? with
  | some o => o.after.all fun e => !Region.binds .any e || (decide (e.on < ops.size) && !l.contains e.on)
  | none => false
def chkL (cl : Nat → Cls) (ops : Array Oper) (m : Array Nat) : List Nat → Bool
  | [] => true
  | x :: l => predsB ops x (x :: l) && l.all (fun y => (m.getD y 0).testBit x || (swapC (cl x) (cl y) && apartB ops y x)) && chkL cl ops m l
def permB (n : Nat) (l : List Nat) : Bool := l.length == n && l.all (fun x => decide (x < n)) && decide l.Nodup && (List.range n).all (fun x => l.contains x)
def chk (cl : Nat → Cls) (ops : Array Oper) (l : List Nat) : Bool := permB ops.size l && Region.noSelect ops && chkL cl ops (masks ops) l

section
variable {P : Program} {hR : Heap} {ops : Array Oper} {cl : Nat → Cls}

theorem chkL_erase {m : Array Nat} {i : Nat} : ∀ {l : List Nat}, chkL cl ops m l = true → chkL cl ops m (l.erase i) = true
  | [], _ => rfl
  | x :: l, h => by
    simp only [chkL, Bool.and_eq_true] at h
    rw [List.erase_cons]
    split
    · exact h.2
    · simp only [chkL, Bool.and_eq_true]
      refine ⟨⟨?_, ?_⟩, chkL_erase h.2⟩
      · have h1 := h.1.1
        unfold predsB at h1 ⊢
        split
        · rename_i o ho
          simp only [ho] at h1
          rw [Array.all_eq_true_iff_forall_mem] at h1 ⊢
          intro e he
          have h2 := h1 e he
          simp only [Bool.or_eq_true, Bool.and_eq_true, Bool.not_eq_true', decide_eq_true_eq] at h2 ⊢
          refine h2.imp id fun h3 => ⟨h3.1, ?_⟩
          have h4 := h3.2
          simp only [List.contains_eq_mem, decide_eq_false_iff_not, List.mem_cons, not_or] at h4 ⊢
          exact ⟨h4.1, fun hm => h4.2 (List.mem_of_mem_erase hm)⟩
        · rename_i ho; simp only [ho] at h1; cases h1
      · rw [List.all_eq_true] at *
        exact fun y hy => h.1.2 y (List.mem_of_mem_erase hy)

theorem bubble {K : Act → Heap → Prop} {m : Array Nat} {i : Nat} (hsel : Region.noSelect ops = true) (hm : ∀ x, (m.getD i 0).testBit x = true → Anc ops x i) :
    ∀ {l : List Nat}, (∀ x ∈ l, ¬ Anc ops x i) → i ∈ l → chkL cl ops m l = true → ∀ {a : Act} {h : Heap} (_ : Live hR h)
      (_ : ARun P hR cl ops l a h K), ARun P hR cl ops (i :: l.erase i) a h K
  | [], _, hi, _, _, _, _, _ => by cases hi
  | x :: l, hA, hi, hc, a, h, hl, H => by
    by_cases hx : x = i
    · subst hx; rw [List.erase_cons_head]; exact H
    · have hil : i ∈ l := by rcases List.mem_cons.1 hi with e | e; exact absurd e.symm hx; exact e
      rw [List.erase_cons_tail (by simpa using hx)]
      simp only [chkL, Bool.and_eq_true] at hc
      have h1 := List.all_eq_true.1 hc.1.2 i hil
      simp only [Bool.or_eq_true, Bool.and_eq_true] at h1
      have h2 := h1.resolve_left fun hb => hA x (by simp) (hm x hb)
      have hap := h2.2
      unfold apartB at hap
      split at hap
      · rename_i oi ox hoi hox
        have H1 : AStep P hR cl ops x a h fun a' h' => AStep P hR cl ops i a' h' fun a'' h'' => ARun P hR cl ops (l.erase i) a'' h'' K :=
          AStep.mono hl (fun a' h' hl' H' => bubble hsel hm (fun y hy => hA y (by simp [hy])) hil hc.2 hl' H') H
        exact AStep.swap hoi hox hap (fun cs b => Region.noSelect_spec hsel i oi cs b hoi) (fun cs b => Region.noSelect_spec hsel x ox cs b hox) h2.1 hl H1
      · cases hap

theorem AStep.wpOp {i : Nat} {Q : Exit → Act → World → Prop} {W : Act → World → Prop} {a : Act} {h : Heap} {w : World} {K : Act → Heap → Prop} (f : Fits hR h w)
    (hk : ∀ a' h' w', Step w h w' h' → K a' h' → W a' w') (H : AStep P hR cl ops i a h K) : Go.wpOp P ops Q i W a w := by
  unfold AStep at H
  unfold Go.wpOp
  split
  · rename_i ho; simp only [ho] at H; exact hk _ _ _ (.refl f.own) H
  · rename_i o ho
    simp only [ho] at H
    split
    · rename_i hw
      simp only [hw, if_true] at H
      refine .inl ?_
      cases hc : cl i <;> simp only [hc] at H
      · obtain ⟨v, h1, h2⟩ := H
        unfold Oper.wp; rw [h1 w f.ro]; exact hk _ _ _ (.refl f.own) h2
      · obtain ⟨v, ⟨b, ob, h0, h1, h3⟩, h2⟩ := H
        unfold Oper.wp
        rw [h3 w (by rcases h1 with x | x; exact f.ro _ _ x; exact f.own _ _ x)]
        exact hk _ _ _ (.refl f.own) h2
      · obtain ⟨ob, val, h1, h2⟩ := H
        unfold Oper.wp
        rw [h1 w]
        have hb : hp w w.heap.size = none := by simp [hp]
        have n1 : hR w.heap.size = none := by
          cases hx : hR w.heap.size with
          | none => rfl
          | some x => have := f.ro _ _ hx; rw [hb] at this; cases this
        have n2 : h w.heap.size = none := by
          cases hx : h w.heap.size with
          | none => rfl
          | some x => have := f.own _ _ hx; rw [hb] at this; cases this
        refine hk _ _ _ ⟨fun c x hx => ?_, by simp [World.push], fun c hc _ => ?_, fun c hc => ?_, ⟨rfl, rfl, rfl⟩⟩ (h2 _ n1 n2)
        · unfold put at hx
          split at hx
          · rename_i e; subst e; cases hx; simp [hp, World.push]
          · have := f.own c x hx
            unfold hp World.push at *
            rw [Array.getElem?_push_lt (hp_lt this)]
            exact (Array.getElem?_eq_getElem (hp_lt this)).symm.trans this
        · unfold hp World.push; rw [Array.getElem?_push_lt hc]; exact (Array.getElem?_eq_getElem hc).symm
        · unfold put at hc
          split at hc
          · rename_i e; exact .inr (by omega)
          · exact .inl hc
      · have g := H w f
        unfold Oper.wp at *
        generalize (execOp a.eval o).run P w = r at *
        cases r with
        | ok n w' =>
          cases n <;> simp only [Oper.upon] at g ⊢
          case value u => obtain ⟨h', s, k⟩ := g; exact hk _ _ _ s k
          case skip => obtain ⟨h', s, k⟩ := g; exact hk _ _ _ s k
          case defer d => obtain ⟨h', s, k⟩ := g; exact hk _ _ _ s k
          case enter fn args =>
            refine Calls.mono g ?_
            intro e w'' hx
            cases e with
            | returned u => obtain ⟨h', s, k⟩ := hx; exact hk _ _ _ s k
            | panicked c => exact hx.elim
            | outgrown => obtain ⟨_, _, hx⟩ := hx; exact hx.elim
          case row row args => exact Rows.mono g (fun u w'' hx => by obtain ⟨h', s, k⟩ := hx; exact hk _ _ _ s k)
        | halt x w' => cases x <;> simp only [Oper.upon] at g ⊢
    · rename_i hw; simp only [hw] at H; exact hk _ _ _ (.refl f.own) H

theorem wpAny_of_run {Q : Exit → Act → World → Prop} {K : Act → Heap → Prop} {w0 : World} {h0 : Heap} (hsel : Region.noSelect ops = true)
    (hQ : ∀ a h w, Step w0 h0 w h → K a h → Q .normal a w) : ∀ (fuel : Nat) (l : List Nat) (listed : Array Bool) (a : Act) (h : Heap) (w : World),
      (∀ i, i ∈ l ↔ i < ops.size ∧ listed.getD i true = false) → l.Nodup → listed.size = ops.size → Closed ops listed → chkL cl ops (masks ops) l = true → l.length ≤ fuel →
      Fits hR h w → Step w0 h0 w h → ARun P hR cl ops l a h K → wpAny P .any ops Q fuel listed a w := by
  intro fuel
  induction fuel with
  | zero =>
    intro l listed a h w hmem hnd hsz hcl hchk hlen f s H
    have : l = [] := List.length_eq_zero_iff.1 (by omega)
    subst this
    refine ⟨?_, hQ _ _ _ s H⟩
    cases hr : Region.ready .any ops listed with
    | nil => rfl
    | cons i r =>
      have hi : i ∈ Region.ready .any ops listed := by rw [hr]; simp
      rw [mem_ready] at hi
      obtain ⟨h1, o, ho, _⟩ := hi
      have := (hmem i).2 ⟨(Array.getElem?_eq_some_iff.1 ho).1, h1⟩
      cases this
  | succ fuel ih =>
    intro l listed a h w hmem hnd hsz hcl hchk hlen f s H
    refine ⟨fun hr => ?_, fun i hi => ?_⟩
    · cases l with
      | nil => exact hQ _ _ _ s H
      | cons x l =>
        exfalso
        have hx := (hmem x).1 (by simp)
        simp only [chkL, Bool.and_eq_true] at hchk
        have h1 := hchk.1.1
        unfold predsB at h1
        have ho : ops[x]? = some ops[x] := Array.getElem?_eq_getElem hx.1
        simp only [ho] at h1
        have : x ∈ Region.ready .any ops listed := by
          rw [mem_ready]
          refine ⟨hx.2, _, ho, fun e he hb => ?_⟩
          have h2 := Array.all_eq_true_iff_forall_mem.1 h1 e he
          simp only [hb, Bool.not_true, Bool.false_or, Bool.and_eq_true, decide_eq_true_eq, Bool.not_eq_true', List.contains_eq_mem, decide_eq_false_iff_not] at h2
          cases hg : listed.getD e.on false with
          | true => rfl
          | false => exact absurd ((hmem e.on).2 ⟨h2.1, by
              rw [Array.getD_eq_getD_getElem?, Array.getElem?_eq_getElem (by omega)] at hg ⊢; exact hg⟩) h2.2
        rw [hr] at this; cases this
    · have hi' := mem_ready.1 hi
      obtain ⟨hun, o, ho, hpre⟩ := hi'
      have hil : i ∈ l := (hmem i).2 ⟨(Array.getElem?_eq_some_iff.1 ho).1, hun⟩
      have hdir : ∀ k, Edged ops k i → listed.getD k false = true := fun k ⟨o', ho', e, he, hb, hk⟩ => by
        rw [ho] at ho'; cases ho'; rw [← hk]; exact hpre e he hb
      have hA : ∀ x ∈ l, ¬ Anc ops x i := fun x hx ha => by
        have h1 := hcl.anc ha hdir
        have h2 := ((hmem x).1 hx).2
        have h3 := ((hmem x).1 hx).1
        rw [Array.getD_eq_getD_getElem?, Array.getElem?_eq_getElem (by omega)] at h1 h2
        simp only [Option.getD_some] at h1 h2
        rw [h1] at h2; cases h2
      have H1 := bubble hsel (fun x hx => masks_spec hx) hA hil hchk ⟨w, f⟩ H
      refine AStep.wpOp f (fun a' h' w' s' k => ?_) H1
      have hlen' : (l.erase i).length = l.length - 1 := List.length_erase_of_mem hil
      have hpos : 0 < l.length := List.length_pos_of_mem hil
      refine ih (l.erase i) _ a' h' w' (fun j => ?_) (hnd.erase i) (by simp [hsz]) (fun j k hj he => ?_) (chkL_erase hchk) (by omega) (f.step s') (s.trans s') k
      · rw [hnd.mem_erase_iff, hmem]
        by_cases hji : i = j
        · subst hji; simp [hsz] <;> (intros; omega)
        · rw [getD_set_ne true hji]; constructor
          · exact fun h => h.2
          · exact fun h => ⟨Ne.symm hji, h⟩
      · by_cases hji : i = j
        · subst hji; exact getD_set_true (hdir k he)
        · rw [getD_set_ne false hji] at hj; exact getD_set_true (hcl j k hj he)

theorem permB_spec {n : Nat} {l : List Nat} (h : permB n l = true) : (∀ i, i ∈ l ↔ i < n) ∧ l.Nodup ∧ l.length = n := by
  simp only [permB, Bool.and_eq_true, beq_iff_eq, decide_eq_true_eq, List.all_eq_true, List.contains_eq_mem, List.mem_range] at h
  exact ⟨fun i => ⟨fun hi => h.1.1.2 i hi, fun hi => h.2 i hi⟩, h.1.2, h.1.1.1⟩

/-- a region that draws its order -/
theorem wp_region_drawn {Q : Exit → Act → World → Prop} {K : Act → Heap → Prop} {id : Nat} {a : Act} {h : Heap} {w : World} (l : List Nat) (hm : P.follows .mixedOrders = true)
    (hchk : chk cl ops l = true) (hQ : ∀ a h' w', Step w h w' h' → K a h' → Q .normal a w') (f : Fits hR h w) (H : ARun P hR cl ops l a h K) : (Code.region id ops true).wp P Q a w := by
  simp only [chk, Bool.and_eq_true] at hchk
  obtain ⟨⟨hp, hs⟩, hc⟩ := hchk
  obtain ⟨h1, h2, h3⟩ := permB_spec hp
  have hst : Step w h { w with drawn := w.drawn + 1 } h := ⟨f.own, Nat.le_refl _, fun _ _ _ => rfl, fun _ hb => .inl hb, ⟨rfl, rfl, rfl⟩⟩
  refine wp_region_any hm (wpAny_of_run hs hQ _ l _ a h _ (fun i => ?_) h2 (by simp) (fun i j hi => ?_) hc (Nat.le_of_eq h3) (f.step hst) hst H)
  · rw [h1]
    constructor
    · exact fun hi => ⟨hi, by simp [hi]⟩
    · exact fun h => h.1
  · rw [Array.getD_eq_getD_getElem?] at hi
    by_cases hlt : i < ops.size
    · simp [hlt] at hi
    · simp [hlt] at hi

theorem wpOps_of_run {Q : Exit → Act → World → Prop} {K : Act → Heap → Prop} {w0 : World} {h0 : Heap} (hQ : ∀ a h w, Step w0 h0 w h → K a h → Q .normal a w) :
    ∀ (l : List Nat) (a : Act) (h : Heap) (w : World), Fits hR h w → Step w0 h0 w h → ARun P hR cl ops l a h K → wpOps P ops Q l a w
  | [], a, h, w, _, s, H => hQ _ _ _ s H
  | i :: l, a, h, w, f, s, H => by
    rw [wpOps_cons]
    exact AStep.wpOp f (fun a' h' w' s' k => wpOps_of_run hQ l a' h' w' (f.step s') (s.trans s') k) H

/-- a region that has one order -/
theorem wp_region_plain {Q : Exit → Act → World → Prop} {K : Act → Heap → Prop} {id : Nat} {a : Act} {h : Heap} {w : World}
    (hQ : ∀ a h' w', Step w h w' h' → K a h' → Q .normal a w') (f : Fits hR h w) (H : ARun P hR cl ops (List.range ops.size) a h K) : (Code.region id ops false).wp P Q a w :=
  wp_region (wpOps_of_run hQ _ a h w f (.refl f.own) H)
end
end Go.Sep
