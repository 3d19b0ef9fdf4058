/- append that tells its two ways apart: elder slices of the same block stay what they were. Over any program. -/
import Derived.Test.YtfaokbjpinlcaaaGA2
import Derived.RangeFuncRecord
section
/- append that tells its two ways apart: elder slices of the same block stay what they were. Over any program. -/
namespace Go.Sep
section
variable {P : Program} {hR : Heap} {n : Fr} {cf : Op → Cls} {ops : Array Oper} {l : List Oper} {K : Env → List HProp → Prop} {ρ : Env} {Γ : List HProp} {o : Oper} {d : Nat}
variable {A : Type} {TE : TypeId} {E : Enc A} {v : SV} {xs ys : List A}
end
end Go.Sep
end
section
/- A region that draws its order, in two parts: in the first one a piece of memory is only read (its readings stand in no order), in the second one, which is behind all of the first, it may be written. Over any program. -/
namespace Go.Sep
def chkL2 (cl : Nat → Cls) (ops : Array Oper) (m : Array Nat) (l2 : List Nat) : List Nat → Bool
  | [] => true
  | x :: l => predsB ops x (x :: l ++ l2) && l.all (fun y => (m.getD y 0).testBit x || (swapC (cl x) (cl y) && apartB ops y x)) && chkL2 cl ops m l2 l
def chk2 (cl : Nat → Cls) (ops : Array Oper) (l1 l2 : List Nat) : Bool :=
  permB ops.size (l1 ++ l2) && Region.noSelect ops && chkL2 cl ops (masks ops) l2 l1 && chkL cl ops (masks ops) l2 && l2.all fun y => l1.all fun x => ((masks ops).getD y 0).testBit x
section
variable {P : Program} {hR : Heap} {ops : Array Oper} {cl : Nat → Cls}
theorem chkL2_chkL {m : Array Nat} {l2 : List Nat} : ∀ {l : List Nat}, chkL2 cl ops m l2 l = true → chkL cl ops m l = true
  | [], _ => rfl
  | x :: l, h => by
    simp only [chkL2, Bool.and_eq_true] at h
    simp only [chkL, Bool.and_eq_true]
    refine ⟨⟨?_, h.1.2⟩, chkL2_chkL h.2⟩
    have h1 := h.1.1
    unfold predsB at h1 ⊢
    split
    · rename_i o ho
      simp only [ho] at h1
      rw [Array.all_eq_true_iff_forall_mem] at h1 ⊢
      intro e he
      have h2 := h1 e he
      simp only [Bool.or_eq_true, Bool.and_eq_true, Bool.not_eq_true', decide_eq_true_eq] at h2 ⊢
      refine h2.imp id fun h3 => ⟨h3.1, ?_⟩
      have h4 := h3.2
      simp only [List.contains_eq_mem, decide_eq_false_iff_not, List.mem_append, not_or] at h4 ⊢
      exact h4.1
    · rename_i ho; simp only [ho] at h1; cases h1
theorem chkL2_erase {m : Array Nat} {l2 : List Nat} {i : Nat} : ∀ {l : List Nat}, chkL2 cl ops m l2 l = true → chkL2 cl ops m l2 (l.erase i) = true
  | [], _ => rfl
  | x :: l, h => by
    simp only [chkL2, Bool.and_eq_true] at h
    rw [List.erase_cons]
    split
    · exact h.2
    · simp only [chkL2, Bool.and_eq_true]
      refine ⟨⟨?_, ?_⟩, chkL2_erase h.2⟩
      · have h1 := h.1.1
        unfold predsB at h1 ⊢
        split
        · rename_i o ho
          simp only [ho] at h1
          rw [Array.all_eq_true_iff_forall_mem] at h1 ⊢
          intro e he
          have h2 := h1 e he
          simp only [Bool.or_eq_true, Bool.and_eq_true, Bool.not_eq_true', decide_eq_true_eq] at h2 ⊢
          refine h2.imp id fun h3 => ⟨h3.1, ?_⟩
          have h4 := h3.2
          simp only [List.contains_eq_mem, decide_eq_false_iff_not, List.mem_append, List.mem_cons, not_or] at h4 ⊢
          exact ⟨⟨h4.1.1, fun hm => h4.1.2 (List.mem_of_mem_erase hm)⟩, h4.2⟩
        · rename_i ho; simp only [ho] at h1; cases h1
      · rw [List.all_eq_true] at *
        exact fun y hy => h.1.2 y (List.mem_of_mem_erase hy)
theorem Fits.unfreeze {hF h1 : Heap} {w : World} (hd : Disj hR hF) (f : Fits (un hR hF) h1 w) : Fits hR (un h1 hF) w := by
  have hd1 := un_disj.1 f.apart
  refine ⟨fun b o hb => f.ro b o (sub_un_left hR hF b o hb), fun b o hb => ?_, disj_un.2 ⟨hd1.1, hd⟩⟩
  unfold un at hb
  cases hx : h1 b with
  | some o' => simp [hx] at hb; subst hb; exact f.own b _ hx
  | none => simp [hx] at hb; exact f.ro b o (sub_un_right hd b o hb)
theorem wpAny_of_run2 {Q : Exit → Act → World → Prop} {K : Act → Heap → Prop} {w0 : World} {h0 hF : Heap} (hd : Disj hR hF) (hsel : Region.noSelect ops = true)
    (hQ : ∀ a h w, Step w0 h0 w h → K a h → Q .normal a w) (l2 : List Nat) (hchk2 : chkL cl ops (masks ops) l2 = true) : ∀ (fuel : Nat) (l1 : List Nat) (listed : Array Bool) (a : Act) (h1 : Heap) (w : World),
      (∀ i, i ∈ l1 ++ l2 ↔ i < ops.size ∧ listed.getD i true = false) → (l1 ++ l2).Nodup → listed.size = ops.size → Closed ops listed → chkL2 cl ops (masks ops) l2 l1 = true → (∀ y ∈ l2, ∀ x ∈ l1, ((masks ops).getD y 0).testBit x = true) →
      (l1 ++ l2).length ≤ fuel → Fits (un hR hF) h1 w → Step w0 h0 w (un h1 hF) → ARun P (un hR hF) cl ops l1 a h1 (fun a' h1' => ARun P hR cl ops l2 a' (un h1' hF) K) → wpAny P .any ops Q fuel listed a w := by
  intro fuel
  induction fuel with
  | zero =>
    intro l1 listed a h1 w hmem hnd hsz hcl hc1 hx hlen f s H
    have e : l1 = [] := List.length_eq_zero_iff.1 (by rw [List.length_append] at hlen; omega)
    subst e
    exact wpAny_of_run hsel hQ 0 l2 listed a _ w hmem hnd hsz hcl hchk2 (by simpa using hlen) (f.unfreeze hd) s H
  | succ fuel ih =>
    intro l1 listed a h1 w hmem hnd hsz hcl hc1 hx hlen f s H
    cases hl1 : l1 with
    | nil =>
      subst hl1
      exact wpAny_of_run hsel hQ (fuel + 1) l2 listed a _ w hmem hnd hsz hcl hchk2 (by simpa using hlen) (f.unfreeze hd) s H
    | cons x0 l1' =>
    have hx0 : x0 ∈ l1 := by rw [hl1]; simp
    refine ⟨fun hr => ?_, fun i hi => ?_⟩
    · exfalso
      have hx := (hmem x0).1 (List.mem_append_left _ hx0)
      rw [hl1] at hc1
      simp only [chkL2, Bool.and_eq_true] at hc1
      have h1 := hc1.1.1
      unfold predsB at h1
      have ho : ops[x0]? = some ops[x0] := Array.getElem?_eq_getElem hx.1
      simp only [ho] at h1
      have : x0 ∈ Region.ready .any ops listed := by
        rw [mem_ready]
        refine ⟨hx.2, _, ho, fun e he hb => ?_⟩
        have h2 := Array.all_eq_true_iff_forall_mem.1 h1 e he
        simp only [hb, Bool.not_true, Bool.false_or, Bool.and_eq_true, decide_eq_true_eq, Bool.not_eq_true', List.contains_eq_mem, decide_eq_false_iff_not] at h2
        cases hg : listed.getD e.on false with
        | true => rfl
        | false => exact absurd ((hmem e.on).2 ⟨h2.1, by
            rw [Array.getD_eq_getD_getElem?, Array.getElem?_eq_getElem (by omega)] at hg ⊢; exact hg⟩) (by rw [hl1]; exact h2.2)
      rw [hr] at this; cases this
    · have hi' := mem_ready.1 hi
      obtain ⟨hun, o, ho, hpre⟩ := hi'
      have hil : i ∈ l1 ++ l2 := (hmem i).2 ⟨(Array.getElem?_eq_some_iff.1 ho).1, hun⟩
      have hdir : ∀ k, Edged ops k i → listed.getD k false = true := fun k ⟨o', ho', e, he, hb, hk⟩ => by
        rw [ho] at ho'; cases ho'; rw [← hk]; exact hpre e he hb
      have hA : ∀ x ∈ l1 ++ l2, ¬ Anc ops x i := fun x hx ha => by
        have h1 := hcl.anc ha hdir
        have h2 := ((hmem x).1 hx).2
        have h3 := ((hmem x).1 hx).1
        rw [Array.getD_eq_getD_getElem?, Array.getElem?_eq_getElem (by omega)] at h1 h2
        simp only [Option.getD_some] at h1 h2
        rw [h1] at h2; cases h2
      have hi1 : i ∈ l1 := by
        rcases List.mem_append.1 hil with h | h
        · exact h
        · exact absurd (masks_spec (hx i h x0 hx0)) (hA x0 (List.mem_append_left _ hx0))
      have hi2 : i ∉ l2 := fun h => by
        obtain ⟨_, _, h3⟩ := List.nodup_append.1 hnd
        exact h3 i hi1 i h rfl
      have H1 := bubble hsel (fun x hx => masks_spec hx) (fun x hx => hA x (List.mem_append_left _ hx)) hi1 (chkL2_chkL hc1) ⟨w, f⟩ H
      refine AStep.wpOp f (fun a' h' w' s' k => ?_) H1
      have hlen' : (l1.erase i).length = l1.length - 1 := List.length_erase_of_mem hi1
      have hpos : 0 < l1.length := List.length_pos_of_mem hi1
      have hfr := s'.frame (g := hF) (fun b o hb => f.ro b o (sub_un_right hd b o hb)) ((un_disj.1 f.apart).2.symm)
      refine ih (l1.erase i) _ a' h' w' (fun j => ?_) ?_ (by simp [hsz]) (fun j k hj he => ?_) (chkL2_erase hc1) (fun y hy x hx' => hx y hy x (List.mem_of_mem_erase hx')) (by rw [List.length_append] at hlen ⊢; omega) (f.step s') (s.trans hfr.1) k
      · have key : j ∈ l1.erase i ++ l2 ↔ j ≠ i ∧ j ∈ l1 ++ l2 := by
          rw [List.mem_append, List.mem_append, (List.nodup_append.1 hnd).1.mem_erase_iff]
          constructor
          · rintro (⟨h1, h2⟩ | h2)
            · exact ⟨h1, .inl h2⟩
            · exact ⟨fun e => hi2 (e ▸ h2), .inr h2⟩
          · rintro ⟨h1, h2 | h2⟩
            · exact .inl ⟨h1, h2⟩
            · exact .inr h2
        rw [key, hmem]
        by_cases hji : i = j
        · subst hji; simp [hsz] <;> (intros; omega)
        · rw [getD_set_ne true hji]; constructor
          · exact fun h => h.2
          · exact fun h => ⟨Ne.symm hji, h⟩
      · obtain ⟨n1, n2, n3⟩ := List.nodup_append.1 hnd
        exact List.nodup_append.2 ⟨n1.erase i, n2, fun x hx' y hy => n3 x (List.mem_of_mem_erase hx') y hy⟩
      · by_cases hji : i = j
        · subst hji; exact getD_set_true (hdir k he)
        · rw [getD_set_ne false hji] at hj; exact getD_set_true (hcl j k hj he)
theorem wp_region_drawn2 {Q : Exit → Act → World → Prop} {K : Act → Heap → Prop} {id : Nat} {a : Act} {h1 hF : Heap} {w : World} (l1 l2 : List Nat) (hm : P.follows .mixedOrders = true)
    (hchk : chk2 cl ops l1 l2 = true) (hd : Disj hR hF) (hQ : ∀ a h' w', Step w (un h1 hF) w' h' → K a h' → Q .normal a w') (f : Fits (un hR hF) h1 w)
    (H : ARun P (un hR hF) cl ops l1 a h1 (fun a' h1' => ARun P hR cl ops l2 a' (un h1' hF) K)) {ro : Option Nat} {m : Nat} (hn : ndB ro ops = true) : (Code.region id ops true).wpIn (FR ro) m P Q a w := by
  simp only [chk2, Bool.and_eq_true] at hchk
  obtain ⟨⟨⟨⟨hp, hs⟩, hc1⟩, hc2⟩, hcross⟩ := hchk
  obtain ⟨p1, p2, p3⟩ := permB_spec hp
  have f0 : Fits hR (un h1 hF) w := f.unfreeze hd
  have hst : Step w (un h1 hF) { w with drawn := w.drawn + 1 } (un h1 hF) := ⟨f0.own, Nat.le_refl _, fun _ _ _ => rfl, fun _ hb => .inl hb, ⟨rfl, rfl, rfl⟩⟩
  have hst1 : Step w h1 { w with drawn := w.drawn + 1 } h1 := ⟨f.own, Nat.le_refl _, fun _ _ _ => rfl, fun _ hb => .inl hb, ⟨rfl, rfl, rfl⟩⟩
  refine wpIn_drawn_of hm hn (wpAny_of_run2 (Q := fun e a w => e = .normal ∧ Q .normal a w) hd hs (fun a h w s k => ⟨rfl, hQ a h w s k⟩) l2 hc2 _ l1 _ a h1 _ (fun i => ?_) p2 (by simp) (fun i j hi => ?_) hc1 (fun y hy x hx => ?_) (Nat.le_of_eq p3) (f.step hst1) hst H)
  · rw [p1]
    constructor
    · exact fun hi => ⟨hi, by simp [hi]⟩
    · exact fun h => h.1
  · rw [Array.getD_eq_getD_getElem?] at hi
    by_cases hlt : i < ops.size
    · simp [hlt] at hi
    · rw [Array.getElem?_eq_none (by simp; omega)] at hi; simp at hi
  · exact List.all_eq_true.1 (List.all_eq_true.1 hcross y hy) x hx
end
section
variable {P : Program} {hR : Heap} {n : Fr} {Q : Exit → Env → List HProp → Prop} {ρ : Env} {Γ : List HProp}
theorem WP.drawnF {id : Nat} {ops : Array Oper} (cf : Op → Cls) {la lb : List Oper} (l1 l2 : List Nat) (Θ : List HProp) (hm : P.follows .mixedOrders = true) (hl1 : collectO (l1.map (ops[·]?)) = some la) (hl2 : collectO (l2.map (ops[·]?)) = some lb)
    (hk : chk2 (clOf cf ops) ops l1 l2 = true) (H : ∀ g, sat Θ g → Disj hR g → Run P (un hR g) n cf ops la (fun ρ' Γ' => Run P hR n cf ops lb (Q .normal) ρ' (Γ' ++ Θ)) ρ Γ) (hn : ndB n.ro ops = true := by rfl) : WP P hR n (.region id ops true) Q ρ (Γ ++ Θ) := by
  intro a h w ho hs hf
  obtain ⟨h1, h2, g1, g2, hd, rfl⟩ := sat_append.1 hs
  have hRg : Disj hR h2 := (hf.right hd).apart
  have hf' : Fits (un hR h2) h1 w := by
    refine ⟨fun b o hb => ?_, hf.left.own, un_disj.2 ⟨hf.left.apart, hd.symm⟩⟩
    unfold un at hb
    cases hx : hR b with
    | some o => simp [hx] at hb; subst hb; exact hf.ro b _ hx
    | none => simp [hx] at hb; exact (hf.right hd).own b o hb
  have H1 := arun_of_ops _ la (collectO_spec hl1) a h1 (H h2 g2 hRg a h1 ho g1 ⟨w, hf'⟩)
  refine wp_region_drawn2 l1 l2 hm hk hRg (fun a h' w' s k => ?_) hf' (ARun.mono (fun a' h1' hlive k => ?_) l1 ⟨w, hf'⟩ H1) (K := fun a' h' => ∃ ρ' Γ', Ok n ρ' a' ∧ sat Γ' h' ∧ Q .normal ρ' Γ') (hn := hn)
  · obtain ⟨ρ', Γ', o, t, q⟩ := k
    exact ⟨h', ρ', Γ', s, o, t, q⟩
  · obtain ⟨ρ', Γ', o, t, q⟩ := k
    obtain ⟨w1, f1⟩ := hlive
    have hd1 := (un_disj.1 f1.apart).2.symm
    exact arun_of_ops _ lb (collectO_spec hl2) a' _ (q a' _ o (sat_append.2 ⟨h1', h2, t, g2, hd1, rfl⟩) ⟨w1, f1.unfreeze hRg⟩)
/-- a block that is owned, lent -/
theorem lent_blk {b : Nat} {cs : List Value} {T : TypeId} {Θ : List HProp} {g : Heap} (k j : Nat) {v : Value} (hk : Θ[k]? = some (blk b cs T)) (hj : cs[j]? = some v) (hs : sat Θ g) (hd : Disj hR g) : cellH (un hR g) ⟨b, j, none⟩ v := by
  obtain ⟨h1, h2, g1, hd', e, _⟩ := sat_get hs hk
  subst g1
  refine ⟨⟨cs⟩, T, (0, 0), ?_, rfl, by simpa using hj⟩
  exact sub_un_right hd b _ (by rw [e]; exact un_left_some put_emp_self)
end
end Go.Sep
end
section
/- Rows, more: the first one taken off; rows turned row by row. Over any program. -/
namespace Go.Sep
section
variable {A : Type} {T : TypeId} {E : Enc A}
end
end Go.Sep
end
section
/- A range over a function: the rounds, yield, the marks. Over any program. -/
namespace Go.Sep
set_option linter.unusedVariables false
set_option linter.unusedSimpArgs false
def lop (l : Nat) (r : Loop) : HProp := fun h => h = put emp l (.loop r)
def dfr (D : Nat) : HProp := fun h => h = put emp D (.deferred (some []))
def mark (D : Nat) : Deferred := { target := .collected D, args := #[] }
def yv (l : Nat) : Value := .func (.yield l) #[] #[]
theorem Step.alloc {hR : Heap} {w : World} {h : Heap} {ob : Obj} (hf : Fits hR h w) : Step w h (w.alloc ob) (put h w.heap.size ob) ∧ h w.heap.size = none := by
  have hb : hp w w.heap.size = none := by unfold hp; exact Array.getElem?_eq_none (Nat.le_refl _)
  have n2 : h w.heap.size = none := by
    cases hx : h w.heap.size with
    | none => rfl
    | some x => have := hf.own _ _ hx; rw [hb] at this; cases this
  have hsz : (w.alloc ob).heap = w.heap.push ob := rfl
  refine ⟨⟨fun c x hx => ?_, by rw [hsz, Array.size_push]; omega, fun c hc _ => ?_, fun c hc => ?_, ⟨rfl, rfl, rfl⟩⟩, n2⟩
  · unfold hp; rw [hsz]
    unfold put at hx
    split at hx
    · rename_i e; subst e; cases hx; rw [Array.getElem?_push, if_pos rfl]
    · have := hf.own c x hx
      unfold hp at this
      rw [Array.getElem?_push_lt (hp_lt this)]
      exact (Array.getElem?_eq_getElem (hp_lt this)).symm.trans this
  · unfold hp; rw [hsz, Array.getElem?_push_lt hc]; exact (Array.getElem?_eq_getElem hc).symm
  · unfold put at hc
    split at hc
    · rename_i e; exact .inr (by omega)
    · exact .inl hc
/-- a block that is owned becomes another object -/
theorem Step.turn {w : World} {h : Heap} {l : Nat} {o o' : Obj} (hs : Sub (un (put emp l o) h) (hp w)) (hd : Disj (put emp l o) h) : Step w (un (put emp l o) h) (w.putObj l o') (un (put emp l o') h) ∧ Disj (put emp l o') h := by
  have h0 : hp w l = some o := hs l o (un_left_some put_emp_self)
  have hlt := hp_lt h0
  have hln : h l = none := (hd l).resolve_left (by rw [put_emp_self]; simp)
  have hother : ∀ c, c ≠ l → put emp l o' c = none := fun c hc => by simp [put, hc, emp]
  have hother2 : ∀ c, c ≠ l → put emp l o c = none := fun c hc => by simp [put, hc, emp]
  refine ⟨⟨fun c x hx => ?_, by rw [World.putObj_size]; exact Nat.le_refl _, fun c hc hn => ?_, fun c hc => ?_, ⟨rfl, rfl, rfl⟩⟩, fun c => ?_⟩
  · by_cases e : c = l
    · subst e
      rw [un_left_some put_emp_self] at hx; cases hx
      exact World.putObj_heap_same hlt
    · unfold un at hx
      rw [hother c e] at hx
      simp only [Option.none_or] at hx
      unfold hp; rw [World.putObj_heap_other e]
      exact hs c x (by unfold un; rw [hother2 c e]; simpa using hx)
  · by_cases e : c = l
    · subst e; rw [un_left_some put_emp_self] at hn; cases hn
    · unfold hp; rw [World.putObj_heap_other e]
  · by_cases e : c = l
    · subst e; exact .inl (by rw [un_left_some put_emp_self]; simp)
    · refine .inl ?_
      unfold un at hc ⊢
      rw [hother c e] at hc; rw [hother2 c e]; exact hc
  · by_cases e : c = l
    · subst e; exact .inr hln
    · exact .inl (hother c e)
section
variable {P : Program} {hR : Heap} {n : Fr} {Q : Exit → Env → List HProp → Prop} {ρ : Env} {Γ : List HProp}
/-- what a call of yield does -/
def Yld (P : Program) (hR : Heap) (l : Nat) (args : List Value) (Γ : List HProp) (R : Value → List HProp → Prop) : Prop :=
  ∀ h w, sat Γ h → Fits hR h w → ∃ f tmps asg body, (Instr.yield l ⟨args⟩).run P w = .ok (.round l f tmps asg body) w ∧
    RoundIn (FR none) 0 P l f tmps asg body w fun e w' => ∃ v h' Γ', e = .returned v ∧ Step w h w' h' ∧ sat Γ' h' ∧ R v Γ'
theorem Yld.frame {l : Nat} {args : List Value} {R : Value → List HProp → Prop} (Θ : List HProp) (H : Yld P hR l args Γ R) : Yld P hR l args (Γ ++ Θ) fun v Γ' => ∃ Γ1, Γ' = Γ1 ++ Θ ∧ R v Γ1 := by
  intro h w hs hf
  obtain ⟨h1, h2, g1, g2, hd, rfl⟩ := sat_append.1 hs
  obtain ⟨f, tmps, asg, body, hy, hr⟩ := H h1 w g1 hf.left
  refine ⟨f, tmps, asg, body, hy, hr.mono ?_⟩
  rintro e w' ⟨v, h', Γ', rfl, s, t, r⟩
  obtain ⟨s', hd'⟩ := s.frame (hf.right hd).own hd
  exact ⟨v, un h' h2, Γ' ++ Θ, rfl, s', sat_append.2 ⟨h', h2, t, g2, hd', rfl⟩, Γ', rfl, r⟩
end
end Go.Sep
end
section
/- A range over a function: the statement, and functions that hold one. Over any program. -/
namespace Go.Sep
set_option linter.unusedVariables false
set_option linter.unusedSimpArgs false
theorem put_un {h : Heap} {b : Nat} {o : Obj} (hn : h b = none) : put h b o = un (put emp b o) h ∧ Disj (put emp b o) h := by
  refine ⟨?_, fun c => ?_⟩
  · funext c
    by_cases e : c = b
    · subst e; simp [put, un]
    · simp [put, un, emp, e]
  · by_cases e : c = b
    · subst e; exact .inr hn
    · exact .inl (by simp [put, emp, e])
def bindE : List Tmp → List Value → Env → Env
  | t :: ts, v :: vs, ρ => bindE ts vs ((t, v) :: ρ)
  | _, _, ρ => ρ
theorem bind_ok {k : Nat} {ro : Option Nat} : ∀ (ps : List Tmp) (vs : List Value) (ρ : Env) (tmps : Array Value), Ok ⟨k, [], ro⟩ ρ { tmps := tmps, defers := [] } → ps.all (fun t => decide (t < k)) = true →
    Ok ⟨k, [], ro⟩ (bindE ps vs ρ) { tmps := (ps.zip vs).foldl (fun tm (x : Tmp × Value) => tm.setIfInBounds x.1 x.2) tmps, defers := [] }
  | [], _, _, _, h, _ => h
  | _ :: _, [], _, _, h, _ => h
  | t :: ts, v :: vs, ρ, tmps, h, hp => by
    simp only [List.all_cons, Bool.and_eq_true] at hp
    have h1 : Ok ⟨k, [], ro⟩ ((t, v) :: ρ) (({ tmps := tmps, defers := [] } : Act).put (some t) v) := h.put (of_decide_eq_true hp.1) v
    exact bind_ok ts vs ((t, v) :: ρ) (tmps.setIfInBounds t v) h1 hp.2
section
variable {P : Program} {hR : Heap} {k : Nat} {ρ : Env} {Γ : List HProp} {g : Operand} {ps : Array Tmp} {asg body : Code} {G : Nat → List HProp} {N : Nat} {argsOf : Nat → List Value} {gf : FuncId} {lb : Array Value}
structure RangeAt (P : Program) (hR : Heap) (k : Nat) (ρ : Env) (Γ : List HProp) (g : Operand) (ps : Array Tmp) (asg body : Code) (G : Nat → List HProp) (N : Nat) (argsOf : Nat → List Value) (gf : FuncId) (lb : Array Value) : Prop where
  hg : ρ.val g = some (.func (.func gf) #[] lb)
  ok : calleeOk P gf = true
  sz : ∀ i, (argsOf i).length = ps.size
  start : ent Γ (G 0)
  iter : ∀ l r, (∀ i, i < N → Yld P hR l (argsOf i) (lop l r :: G i) (fun v Γ' => v = .bool true ∧ Γ' = lop l r :: G (i + 1))) → Tri P hR gf (#[yv l] ++ lb) (lop l r :: G 0) (fun _ Γ' => Γ' = lop l r :: G N)
  round : ∀ l i, i < N → WP P hR ⟨k, [], some l⟩ asg (fun e ρ' Γ' => e = .normal ∧ WP P hR ⟨k, [], some l⟩ body (fun e _ Γ'' => e = .normal ∧ ent Γ'' (G (i + 1))) ρ' Γ') (bindE ps.toList (argsOf i) ρ) (G i)
theorem range_wp (H : RangeAt P hR k ρ Γ g ps asg body G N argsOf gf lb) (hps : ps.toList.all (fun t => decide (t < k)) = true) {a : Act} {h : Heap} {w : World} (ho : Ok ⟨k, [], none⟩ ρ a) (hs : sat Γ h) (hf : Fits hR h w) :
    (Code.rangeFunc g ps asg body).wpIn (FR none) 0 P (fun e a' w' => e = .normal ∧ ∃ D h', Step w h w' h' ∧ Ok ⟨k, [mark D], none⟩ ρ a' ∧ sat (dfr D :: G N) h') a w := by
  refine wpIn_rangeFunc fun fn hfn => ?_
  obtain ⟨rec, hrec⟩ : ∃ rec : LoopState → Option Code → Loop, rec = fun st pe => { state := st, pending := pe, fn, tmps := a.tmps, params := ps, assign := asg, body, defers := w.heap.size } := ⟨_, rfl⟩
  obtain ⟨s1, n1⟩ := Step.alloc (ob := .deferred (some [])) hf
  have f1 := hf.step s1
  obtain ⟨s2, n2⟩ := Step.alloc (ob := .loop (rec .ready none)) f1
  have f2 := f1.step s2
  rw [World.size_alloc] at s2 n2 f2
  obtain ⟨e1, d1⟩ := put_un (o := .deferred (some [])) n1
  obtain ⟨e2, d2⟩ := put_un (o := .loop (rec .ready none)) n2
  have hsat : sat (lop (w.heap.size + 1) (rec .ready none) :: ([dfr w.heap.size] ++ G 0)) (put (put h w.heap.size (.deferred (some []))) (w.heap.size + 1) (.loop (rec .ready none))) := by
    rw [e2]
    refine ⟨_, _, rfl, ?_, d2, rfl⟩
    rw [e1]
    exact ⟨_, _, rfl, H.start h hs, d1, rfl⟩
  have hsat2 : sat ((lop (w.heap.size + 1) (rec .ready none) :: G 0) ++ [dfr w.heap.size]) (put (put h w.heap.size (.deferred (some []))) (w.heap.size + 1) (.loop (rec .ready none))) :=
    sat_perm (List.Perm.cons _ List.perm_append_comm) hsat
  have hargs : (ps.zip (#[] : Array Value)) = #[] := by simp
  -- a round
  have hY : ∀ i, i < N → Yld P hR (w.heap.size + 1) (argsOf i) (lop (w.heap.size + 1) (rec .ready none) :: G i) (fun v Γ' => v = .bool true ∧ Γ' = lop (w.heap.size + 1) (rec .ready none) :: G (i + 1)) := by
    intro i hi h3 w3 hs3 hf3
    obtain ⟨hl, hg, q1, q2, hd3, rfl⟩ := hs3
    subst q1
    have hl3 : w3.heap[w.heap.size + 1]? = some (.loop (rec .ready none)) := hf3.own _ _ (un_left_some put_emp_self)
    have hy := run_yield (P := P) (args := ⟨argsOf i⟩) hl3 (by rw [hrec]; simpa using H.sz i)
    rw [hrec] at hy
    refine ⟨fn, _, asg, body, hy, roundIn_of_wpIn hfn ?_⟩
    have ho3 : Ok ⟨k, [], some (w.heap.size + 1)⟩ (bindE ps.toList (argsOf i) ρ) { tmps := (ps.zip ⟨argsOf i⟩).foldl (fun tmps (t, a) => tmps.setIfInBounds t a) a.tmps, defers := [] } := by
      have := bind_ok (ro := some (w.heap.size + 1)) ps.toList (argsOf i) ρ a.tmps ⟨ho.size, rfl, ho.get⟩ hps
      have e : (ps.zip (⟨argsOf i⟩ : Array Value)).foldl (fun tmps (x : Tmp × Value) => tmps.setIfInBounds x.1 x.2) a.tmps = (ps.toList.zip (argsOf i)).foldl (fun tm (x : Tmp × Value) => tm.setIfInBounds x.1 x.2) a.tmps := by
        rw [← Array.foldl_toList, Array.toList_zip]
      rw [e]; exact this
    have hfg := hf3.right hd3
    have w1 := H.round (w.heap.size + 1) i hi _ hg w3 ho3 q2 hfg
    refine wpIn_mono w1 ?_
    rintro e a4 w4 ⟨h4, ρ4, Γ4, s4, o4, t4, he, hb⟩
    subst he
    obtain ⟨s4', d4⟩ := s4.frame hf3.left.own hd3.symm
    have hl4 : w4.heap[w.heap.size + 1]? = some (.loop (rec .ready none)) := s4'.sub _ _ (by rw [un_comm d4]; exact un_left_some put_emp_self)
    refine ⟨_, run_beginRound hl4 (by rw [hrec]), ?_⟩
    have hsub4 : Sub (un (put emp (w.heap.size + 1) (.loop (rec .ready none))) h4) (hp w4) := by rw [un_comm d4.symm]; exact s4'.sub
    obtain ⟨s5, d5⟩ := Step.turn (o' := .loop { rec .ready none with state := .busy }) hsub4 d4.symm
    have s45 : Step w3 (un (put emp (w.heap.size + 1) (.loop (rec .ready none))) hg) (w4.putObj (w.heap.size + 1) (.loop { rec .ready none with state := .busy })) (un (put emp (w.heap.size + 1) (.loop { rec .ready none with state := .busy })) h4) := by
      refine Step.trans ?_ s5
      rw [un_comm hd3, un_comm d4.symm]; exact s4'
    have f5 := hf3.step s45
    have w2 := hb a4 h4 _ o4 t4 (f5.right d5)
    refine wpIn_mono w2 ?_
    rintro e a6 w6 ⟨h6, ρ6, Γ6, s6, o6, t6, he, hent⟩
    subst he
    obtain ⟨s6', d6⟩ := s6.frame f5.left.own d5.symm
    have hl6 : w6.heap[w.heap.size + 1]? = some (.loop { rec .ready none with state := .busy }) := s6'.sub _ _ (by rw [un_comm d6]; exact un_left_some put_emp_self)
    have hend := run_endRound (P := P) none hl6
    refine ⟨_, _, hend, ?_⟩
    have hsub6 : Sub (un (put emp (w.heap.size + 1) (.loop { rec .ready none with state := .busy })) h6) (hp w6) := by rw [un_comm d6.symm]; exact s6'.sub
    obtain ⟨s7, d7⟩ := Step.turn (o' := .loop (rec .ready none)) hsub6 d6.symm
    refine ⟨_, un (put emp (w.heap.size + 1) (.loop (rec .ready none))) h6, lop (w.heap.size + 1) (rec .ready none) :: G (i + 1), rfl, ?_, ⟨_, _, rfl, hent _ t6, d7, rfl⟩, rfl, rfl⟩
    have hr7 : ({ { rec .ready none with state := .busy } with state := if (none : Option Code).isNone then LoopState.ready else .done, pending := none } : Loop) = rec .ready none := by rw [hrec]; rfl
    rw [hr7]
    refine s45.trans (Step.trans ?_ s7)
    rw [un_comm d5, un_comm d6.symm]; exact s6'
  have hT := (H.iter (w.heap.size + 1) (rec .ready none) hY).frame [dfr w.heap.size]
  obtain ⟨W1, hW1⟩ : ∃ W1, (w.alloc (.deferred (some []))).alloc (.loop (rec .ready none)) = W1 := ⟨_, rfl⟩
  have hent : (Instr.enterLoop fn a.tmps ps asg body (FR none).round).run P w = .ok (w.heap.size + 1, [mark w.heap.size]) W1 := by
    rw [← hW1, hrec]; exact run_enterLoop_outer _ _ _ _ _
  rw [hW1] at s2 f2
  refine ⟨w.heap.size + 1, [mark w.heap.size], W1, { target := .fn (.func gf) lb, args := #[yv (w.heap.size + 1)] }, W1, gf, #[yv (w.heap.size + 1)] ++ lb, W1, hent, ?_, fun _ _ => trivial, ?_, (fun h => by cases h), ?_⟩
  · simp only [resolve, ho.eval H.hg]
    simp [go_sem, yv, Deferred.ofValue]
  · simp [invoke, run_callFunc H.ok]
  · refine (calls_FR (hT _ _ hsat2 f2)).mono ?_
    rintro e w5 ⟨v, h5, Γ5, rfl, s5, t5, Γ6, rfl, rfl⟩
    obtain ⟨hA, hB, q1, q2, hd5, rfl⟩ := (show sat (lop (w.heap.size + 1) (rec .ready none) :: (G N ++ [dfr w.heap.size])) h5 from t5)
    subst q1
    have hl5 : w5.heap[w.heap.size + 1]? = some (.loop (rec .ready none)) := s5.sub _ _ (un_left_some put_emp_self)
    obtain ⟨s6, d6⟩ := Step.turn (o' := .loop { rec .ready none with state := .exhausted }) s5.sub hd5
    have hend : (Instr.endLoop (w.heap.size + 1)).run P w5 = .ok none (w5.putObj (w.heap.size + 1) (.loop { rec .ready none with state := .exhausted })) := by
      have h1 := run_endLoop (P := P) hl5 (by rw [hrec]; simp)
      clear hY hT
      subst hrec
      exact h1
    refine ⟨none, _, hend, ?_⟩
    refine ⟨rfl, w.heap.size, _, ((s1.trans s2).trans s5).trans s6, ⟨ho.size, by simp [ho.defers, mark], ho.get⟩, ?_⟩
    rw [un_comm d6]
    exact sat_mono (sat_perm List.perm_append_comm q2) d6.symm
abbrev RQ (P : Program) (fn : Func) (R : Value → List HProp → Prop) (w : World) (h : Heap) : Exit → Act → World → Prop :=
  bodyPostM Fence.wide 0 P fn (fun e w' => ∃ v h' Γ', e = .returned v ∧ Step w h w' h' ∧ sat Γ' h' ∧ R v Γ')
/-- the end of a function that bears a mark -/
theorem fin_mark {fn : Func} {R : Value → List HProp → Prop} {w : World} {h : Heap} (hfi : Fits hR h w) {D : Nat} {ρ1 : Env} {a1 : Act} {w1 : World} {h1 : Heap} {G1 : List HProp} {e : Exit} (s1 : Step w h w1 h1) (o1 : Ok ⟨k, [mark D], none⟩ ρ1 a1) (t1 : sat (dfr D :: G1) h1)
    (hq : retQ P hR ⟨k, [mark D], none⟩ fn R e ρ1 G1) : RQ P fn R w h e a1 w1 := by
  obtain ⟨hA, hB, q1, q2, hd, rfl⟩ := t1
  subst q1
  obtain ⟨he, v, hv, hr⟩ := hq
  have hD : w1.heap[D]? = some (.deferred (some [])) := s1.sub _ _ (un_left_some put_emp_self)
  obtain ⟨s3, d3⟩ := Step.turn (o' := .deferred none) s1.sub hd
  have f3 := (hfi.step (s1.trans s3)).right d3
  have hres := hv a1 hB _ o1 q2 f3
  have lv : LeavesInM Fence.wide 0 P fn a1.tmps (fun e w' => ∃ v h' Γ', e = .returned v ∧ Step w h w' h' ∧ sat Γ' h' ∧ R v Γ') a1.defers .returning w1 := by
    have hdef : a1.defers = [mark D] := o1.defers
    rw [hdef]
    refine ⟨by simp, .inl ⟨D, _, rfl, run_takeDeferred hD, ?_⟩⟩
    refine ⟨v, hres, v, _, G1, rfl, s1.trans s3, ?_, hr⟩
    rw [un_comm d3]; exact sat_mono q2 d3.symm
  rcases he with rfl | rfl
  · exact lv
  · exact lv
/-- what is left of a function's code, up to its end -/
def WX (P : Program) (hR : Heap) (k : Nat) (fn : Func) (R : Value → List HProp → Prop) (c : Code) (ρ : Env) (Γ : List HProp) : Prop :=
  ∀ w0 h0 a h w, Fits hR h0 w0 → Step w0 h0 w h → Ok ⟨k, [], none⟩ ρ a → sat Γ h → c.wpIn (FR none) 0 P (RQ P fn R w0 h0) a w
theorem WX.pre {fn : Func} {R : Value → List HProp → Prop} {c1 c2 : Code} (H : WP P hR ⟨k, [], none⟩ c1 (fun e ρ Γ => e = .normal ∧ WX P hR k fn R c2 ρ Γ) ρ Γ) : WX P hR k fn R (.seq c1 c2) ρ Γ := by
  intro w0 h0 a h w hf0 s o t
  refine wpIn_seq (wpIn_mono (H a h w o t (hf0.step s)) ?_)
  rintro e a1 w1 ⟨h1, ρ1, Γ1, s1, o1, t1, rfl, q⟩
  exact q w0 h0 a1 h1 w1 hf0 (s.trans s1) o1 t1
theorem WX.last {fn : Func} {R : Value → List HProp → Prop} {id : Nat} (hps : ps.toList.all (fun t => decide (t < k)) = true) (hr : RangeAt P hR k ρ Γ g ps asg body G N argsOf gf lb) (h2 : ∀ D, retQ P hR ⟨k, [mark D], none⟩ fn R .normal ρ (G N)) :
    WX P hR k fn R (.block id (.rangeFunc g ps asg body)) ρ Γ := by
  intro w0 h0 a1 h1 w1 hfi s1 o1 t1
  refine wpIn_block (wpIn_mono (range_wp hr hps o1 t1 (hfi.step s1)) ?_)
  rintro e a2 w2 ⟨rfl, D, h3, s3, o3, t3⟩
  exact fin_mark hfi (s1.trans s3) o3 t3 (h2 D)
end
end Go.Sep
end
section
/- Shifts, bits, other kinds of integers. Over any program. -/
namespace Go.Sep
set_option linter.unusedVariables false
set_option linter.unusedSimpArgs false
section
variable {P : Program} {hR : Heap} {n : Fr} {cf : Op → Cls} {ops : Array Oper} {l : List Oper} {K : Env → List HProp → Prop} {ρ : Env} {Γ : List HProp} {o : Oper} {d : Nat}
def shiftR (op : BinOp) (k : IntKind) (a b : Int) : Option Value :=
  if b < 0 then none else
  match op with
  | .shl => some (.int k (k.wrap (a * 2 ^ (min b.toNat k.bits))))
  | .shr => some (.int k (a.fdiv (2 ^ (min b.toNat k.bits))))
  | _ => none
theorem Run.shift {op : BinOp} {T T' : TypeId} {x y : Operand} {k yk : IntKind} {a b : Int} {v : Value} (hop : o.op = .binOp op T x y T') (hx : ρ.val x = some (.int k a)) (hy : ρ.val y = some (.int yk b))
    (hv : shiftR op k a b = some v) (_hd : o.dst = some d) (hs : pre n cf ops ρ o d = true) (H : Run P hR n cf ops l K ((d, v) :: ρ) Γ) : Run P hR n cf ops (o :: l) K ρ Γ :=
  Run.val hs (fun A h ho ht w => by
    unfold shiftR at hv
    split at hv
    · cases hv
    rename_i hb
    cases op <;> simp only at hv <;> first | (cases hv; done) | skip
    all_goals
      cases hv
      simp [execOp, hop, ho.eval hx, ho.eval hy, eqGuard, binOp, Op.shift, hb]) H
theorem Run.conv {S T : TypeId} {us : TypeDesc} {x : Operand} {k k' : IntKind} {a : Int} (hop : o.op = .convert S T x) (hx : ρ.val x = some (.int k a)) (hS : P.underlying S = some us) (hT : P.underlying T = some (.int k'))
    (_hd : o.dst = some d) (hs : pre n cf ops ρ o d = true) (H : Run P hR n cf ops l K ((d, .int k' (k'.wrap a)) :: ρ) Γ) : Run P hR n cf ops (o :: l) K ρ Γ :=
  Run.val hs (fun A h ho ht w => by
    simp [execOp, hop, ho.eval hx, convert, underlying, hS, hT, Conv.intToInt]) H
end
end Go.Sep
end
section
/- Loops and meetings that keep the frame's other slots; pieces matched one by one. Over any program. -/
namespace Go.Sep
set_option linter.unusedVariables false
/-- all that the second knows is known in the first -/
def sup (ρ' ρ : Env) : Prop := ∀ t v, ρ.get t = some v → ρ'.get t = some v
theorem sup.refl (ρ : Env) : sup ρ ρ := fun _ _ h => h
theorem Ok.sup {n : Fr} {ρ ρ' : Env} {a : Act} (h : Ok n ρ a) (hc : sup ρ ρ') : Ok n ρ' a := ⟨h.size, h.defers, fun t v hv => h.get t v (hc t v hv)⟩
def hasS (t : Nat) : Env → Bool
  | [] => false
  | (u, _) :: r => Nat.beq t u || hasS t r
/-- what is new names only slots that are carried or that are not known -/
def newB (car ρ : Env) : Env → Bool
  | [] => true
  | (t, _) :: r => (hasS t car || !hasS t ρ) && newB car ρ r
theorem get_app : ∀ (a b : Env) (t : Nat), Env.get (a ++ b) t = if hasS t a = true then a.get t else b.get t
  | [], b, t => by simp [hasS]
  | (u, v) :: r, b, t => by
    simp only [List.cons_append, Env.get, hasS]
    have hb : Nat.beq t u = true ∨ Nat.beq t u = false := by cases Nat.beq t u <;> simp
    rcases hb with e | e
    · simp only [e, cond_true, Bool.true_or, if_true]
    · simp only [e, cond_false, Bool.false_or]; exact get_app r b t
theorem get_none : ∀ {ρ : Env} {t : Nat}, hasS t ρ = false → ρ.get t = none
  | [], _, _ => rfl
  | (u, v) :: r, t, h => by
    simp only [hasS, Bool.or_eq_false_iff] at h
    simp [Env.get, h.1, get_none h.2]
theorem newB_spec {car ρ : Env} {t : Nat} : ∀ {a : Env}, newB car ρ a = true → hasS t a = true → hasS t car = true ∨ hasS t ρ = false
  | (u, v) :: r, h, ht => by
    simp only [newB, Bool.and_eq_true, Bool.or_eq_true, Bool.not_eq_true'] at h
    simp only [hasS, Bool.or_eq_true] at ht
    rcases ht with ht | ht
    · have := Nat.eq_of_beq_eq_true ht; subst this; exact h.1
    · exact newB_spec h.2 ht
theorem covers_get {ρ' : Env} : ∀ {car : Env}, covers ρ' car → ∀ t v, car.get t = some v → ρ'.get t = some v := fun h => h.get
theorem sup_keep {ρ' car ρ : Env} (hc : covers ρ' car) (hd : ρ'.drop (ρ'.length - ρ.length) = ρ) (hn : newB car ρ (ρ'.take (ρ'.length - ρ.length)) = true) : sup ρ' (car ++ ρ) := by
  intro t v h
  rw [get_app] at h
  by_cases hs : hasS t car = true
  · rw [if_pos hs] at h; exact covers_get hc t v h
  · rw [if_neg hs] at h
    have e : ρ' = ρ'.take (ρ'.length - ρ.length) ++ ρ := by
      conv => lhs; rw [← List.take_append_drop (ρ'.length - ρ.length) ρ', hd]
    rw [e, get_app]
    split
    · rename_i hs2
      rcases newB_spec hn hs2 with h3 | h3
      · exact absurd h3 hs
      · rw [get_none h3] at h; cases h
    · exact h
section
variable {P : Program} {hR : Heap} {n : Fr} {Q : Exit → Env → List HProp → Prop} {ρ : Env} {Γ : List HProp}
theorem WP.sup {c : Code} {ρ' : Env} {Γ' : List HProp} (hc : sup ρ ρ') (he : ent Γ Γ') (H : WP P hR n c Q ρ' Γ') : WP P hR n c Q ρ Γ :=
  fun a h w ho hs hf => H a h w (ho.sup hc) (he h hs) hf
theorem WP.loopS {α : Type} {c : Code} (good : α → Prop) (env : α → Env) (mem : α → List HProp) (μ : α → Nat) (x0 : α) (hg : good x0) (hc : Go.Sep.sup ρ (env x0)) (he : ent Γ (mem x0))
    (round : ∀ x, good x → WP P hR n c (thn (fun ρ' Γ' => ∃ x', good x' ∧ μ x' < μ x ∧ Go.Sep.sup ρ' (env x') ∧ ent Γ' (mem x')) Q) (env x) (mem x)) : WP P hR n (.loop c) Q ρ Γ := by
  intro a h w ho hs hf
  let I : Act → World → Prop := fun a' w' => ∃ x h', good x ∧ Step w h w' h' ∧ Ok n (env x) a' ∧ sat (mem x) h'
  intro b ks cs hro hb hr
  have key : ∀ k x a' w' h', good x → μ x = k → Step w h w' h' → Ok n (env x) a' → sat (mem x) h' →
      ∃ e a2 w2, lift n Q w h e a2 w2 ∧ ArrivesIn (Machine.fenced P (FR n.ro)) P (lone (b.atR a' (.code c :: .inLoop c :: ks)) cs w') b ks cs e a2 w2 := by
    intro k
    induction k using Nat.strongRecOn with
    | _ k ih =>
      intro x a' w' h' g hk s o t
      obtain ⟨e, a1, w1, ⟨h1, ρ1, Γ1, s1, o1, t1, q⟩, harr⟩ := round x g a' h' w' o t (hf.step s) b (.inLoop c :: ks) cs hro hb hr
      cases e with
      | normal =>
        obtain ⟨x', g', hlt, hc', he'⟩ := q
        obtain ⟨e2, a2, w2, hq2, harr2⟩ := ih (μ x') (hk ▸ hlt) x' a1 w1 h1 g' rfl (s.trans s1) (o1.sup hc') (he' h1 t1)
        exact ⟨e2, a2, w2, hq2, .of_steps (StepsIn.trans harr (.one (fenced_calm hb hr rfl) stepR_inLoop)) harr2⟩
      | exit id => exact ⟨_, a1, w1, ⟨h1, ρ1, Γ1, s.trans s1, o1, t1, q⟩, .pass (x := .inLoop c) rfl (fun _ _ => .inl (by simp)) harr⟩
      | goto l => exact ⟨_, a1, w1, ⟨h1, ρ1, Γ1, s.trans s1, o1, t1, q⟩, .pass (x := .inLoop c) rfl (fun _ _ => .inl (by simp)) harr⟩
      | ret => exact ⟨_, a1, w1, ⟨h1, ρ1, Γ1, s.trans s1, o1, t1, q⟩, .pass (x := .inLoop c) rfl (fun _ _ => .inl (by simp)) harr⟩
      | panic ch => exact ⟨_, a1, w1, ⟨h1, ρ1, Γ1, s.trans s1, o1, t1, q⟩, .pass (x := .inLoop c) rfl (fun _ _ => .inl (by simp)) harr⟩
      | outgrown => exact ⟨_, a1, w1, ⟨h1, ρ1, Γ1, s.trans s1, o1, t1, q⟩, .pass (x := .inLoop c) rfl (fun _ _ => .inl (by simp)) harr⟩
  obtain ⟨e, a', w', hq, harr⟩ := key _ x0 a w h hg rfl (.refl hf.own) (ho.sup hc) (he h hs)
  exact ⟨e, a', w', hq, .of_steps (.one (fenced_calm hb hr rfl) stepR_loop) harr⟩
/-- the slots that change are told; the others stay as they are known -/
structure Kp (ρ' car ρ : Env) : Prop where
  hc : covers ρ' car
  hd : ρ'.drop (ρ'.length - ρ.length) = ρ
  hn : newB car ρ (ρ'.take (ρ'.length - ρ.length)) = true
theorem Kp.sup {ρ' car ρ : Env} (h : Kp ρ' car ρ) : Go.Sep.sup ρ' (car ++ ρ) := sup_keep h.hc h.hd h.hn
end
/-! ### pieces, one by one -/
theorem ent.none (Γ : List HProp) : ent Γ [] := fun _ _ => trivial
theorem ent.at {Γ Δ : List HProp} {A : HProp} (k : Nat) (h : Γ[k]? = some A) (H : ent (Γ.eraseIdx k) Δ) : ent Γ (A :: Δ) := by
  have h1 := ent.perm (front_perm k Γ)
  unfold front at h1
  rw [h] at h1
  exact h1.trans (ent.cons (fun _ h => h) H)
/-- the pieces are matched one by one -/
theorem ent.go {Γ Δ : List HProp} (h : ent Γ Δ := by repeat first | exact ent.none _ | refine ent.at 0 rfl ?_ | refine ent.at 1 rfl ?_ | refine ent.at 2 rfl ?_ | refine ent.at 3 rfl ?_ | refine ent.at 4 rfl ?_ | refine ent.at 5 rfl ?_ | refine ent.at 6 rfl ?_ | refine ent.at 7 rfl ?_ | refine ent.at 8 rfl ?_ | refine ent.at 9 rfl ?_ | refine ent.at 10 rfl ?_ | refine ent.at 11 rfl ?_ | refine ent.at 12 rfl ?_ | refine ent.at 13 rfl ?_ | refine ent.at 14 rfl ?_ | refine ent.at 15 rfl ?_ | refine ent.at 16 rfl ?_ | refine ent.at 17 rfl ?_ | refine ent.at 18 rfl ?_ | refine ent.at 19 rfl ?_ | refine ent.at 20 rfl ?_ | refine ent.at 21 rfl ?_ | refine ent.at 22 rfl ?_ | refine ent.at 23 rfl ?_) : ent Γ Δ := h
end Go.Sep
end
section
/- A region that calls yield, the call told by its place. Over any program. -/
namespace Go.Sep
section
variable {P : Program} {hR : Heap} {n : Fr} {Q : Exit → Env → List HProp → Prop} {ρ : Env} {Γ : List HProp}
end
end Go.Sep
namespace Go.Sep
section
variable {P : Program} {hR : Heap} {k : Nat} {ρ : Env} {Γ : List HProp} {fn : Func} {R : Value → List HProp → Prop}
theorem WX.sup {c : Code} {ρ' : Env} {Γ' : List HProp} (hc : Go.Sep.sup ρ ρ') (he : ent Γ Γ') (H : WX P hR k fn R c ρ' Γ') : WX P hR k fn R c ρ Γ :=
  fun w0 h0 a h w hf s o t => H w0 h0 a h w hf s (o.sup hc) (he h t)
theorem Tri.ent {f : FuncId} {args : Array Value} {R0 : Value → List HProp → Prop} (H : Tri P hR f args Γ (fun v Γ' => ∃ Δ, Go.Sep.ent Γ' Δ ∧ R0 v Δ)) : Tri P hR f args Γ R0 :=
  fun h w hs hf => (H h w hs hf).mono fun e w' ⟨v, h', Γ', he, s, t, Δ, hd, r⟩ => ⟨v, h', Δ, he, s, hd h' t, r⟩
end
end Go.Sep
namespace Go.Sep
end Go.Sep
end
section
/- copy, onto a slice that is owned, of as many elements. Over any program. -/
namespace Go.Sep
section
variable {P : Program} {hR : Heap} {n : Fr} {cf : Op → Cls} {ops : Array Oper} {l : List Oper} {K : Env → List HProp → Prop} {ρ : Env} {Γ : List HProp} {o : Oper} {d : Nat}
variable {A : Type} {TE : TypeId} {E : Enc A} {v : Value} {xs ys : List A}
end
end Go.Sep
end
section
/- clear of what lies behind a place of a slice that is owned. Over any program. -/
namespace Go.Sep
section
variable {P : Program} {hR : Heap} {n : Fr} {cf : Op → Cls} {ops : Array Oper} {l : List Oper} {K : Env → List HProp → Prop} {ρ : Env} {Γ : List HProp} {o : Oper}
variable {A : Type} {TE : TypeId} {E : Enc A} {xs : List A}
end
end Go.Sep
end
section
/- Strings are compared and measured; an argument that is opened with its bounds. Over any program. -/
namespace Go.Sep
section
variable {P : Program} {hR : Heap} {n : Fr} {cf : Op → Cls} {ops : Array Oper} {l : List Oper} {K : Env → List HProp → Prop} {ρ : Env} {Γ : List HProp} {o : Oper} {d : Nat}
theorem Run.neStr {T T' : TypeId} {x y : Operand} {a b : ByteArray} (hop : o.op = .binOp .neq T x y T') (hx : ρ.val x = some (.string a)) (hy : ρ.val y = some (.string b))
    (_hd : o.dst = some d) (hs : pre n cf ops ρ o d = true) (H : Run P hR n cf ops l K ((d, .bool (!(a.toList == b.toList))) :: ρ) Γ) : Run P hR n cf ops (o :: l) K ρ Γ :=
  Run.val hs (fun A h ho ht w => by
    simp [execOp, hop, ho.eval hx, ho.eval hy, eqGuard, binOp, Op.stringOp]) H
theorem Run.neStr0 {T T' : TypeId} {x y : Operand} {a : ByteArray} (hop : o.op = .binOp .neq T x y T') (hx : ρ.val x = some (.string a)) (hy : ρ.val y = some (.string a))
    (hd : o.dst = some d) (hs : pre n cf ops ρ o d = true) (H : Run P hR n cf ops l K ((d, .bool false) :: ρ) Γ) : Run P hR n cf ops (o :: l) K ρ Γ :=
  Run.neStr hop hx hy hd hs (by simpa using H)
theorem Run.lenStr {T : TypeId} {x : Operand} {a : ByteArray} (hop : o.op = .call { callee := .builtin .len, args := #[x], argTypes := #[T] }) (hx : ρ.val x = some (.string a))
    (hT : P.underlying T = some .string) (_hd : o.dst = some d) (hs : pre n cf ops ρ o d = true) (H : Run P hR n cf ops l K ((d, .int .i64 (a.size : Int)) :: ρ) Γ) : Run P hR n cf ops (o :: l) K ρ Γ :=
  Run.val hs (fun A h ho ht w => by
    simp [execOp, hop, resolve, invoke, builtin, Builtin.len_, underlying, hT, ho.eval hx, goInt]) H
end
/-- a type's reading opens, where it is not too great -/
def OpensW {A : Type} (P : Program) (w : World) (t : TypeId) (E : Rd A) (G : A → Prop) : Prop :=
  ∀ {H : Type} {enc : TypeId × Value → H} {base : Nat} {spare : Nat → Bool} {held : Bool} {fuel : Nat} {cs : List Value} {x : DataW H × List MemPlace},
    DataW.trod enc P w base spare held fuel t cs = some x → (∀ m ∈ x.1.weights P t, m ≤ reachBytes) → ∃ a, E.rel (hp w) a cs ∧ G a
section
variable {P : Program} {w : World} {t e : TypeId}
theorem OpensW.of {A : Type} {E : Rd A} {G : A → Prop} (h : Opens P w t E G) : OpensW P w t E G := fun h1 _ => h h1
theorem OpensW.str (ht : P.underlying t = some .string) : OpensW P w t Enc.str.rd (fun s => s.size ≤ 140737488355327) := fun h hw => by
  obtain ⟨s, rfl, rfl, _⟩ := DataW.trod_string ht h
  refine ⟨s, rfl, ?_⟩
  have := hw s.data.toList.length (by simp [DataW.weights])
  simp only [reachBytes] at this
  have e : s.size = s.data.toList.length := by cases s; rfl
  show s.size ≤ 140737488355327
  rw [e]
  exact Nat.le_trans this (by decide)
theorem weightsAll_mem {H : Type} {P : Program} {e : TypeId} {m : Nat} {d : DataW H} : ∀ {ds : List (DataW H)}, d ∈ ds → m ∈ d.weights P e → m ∈ DataW.weightsAll P e ds
  | x :: r, hd, hm => by
    simp only [DataW.weightsAll, List.mem_append]
    rcases List.mem_cons.1 hd with rfl | h
    · exact .inl hm
    · exact .inr (weightsAll_mem h hm)
theorem reachBytes_le : reachBytes ≤ 140737488351232 := Nat.le_of_eq rfl
theorem OpensW.sliceT {A : Type} {E : Rd A} {G : A → Prop} (ht : P.underlying t = some (.slice e)) (hc : P.cellsOf e = E.sz) (hb : 8 ≤ P.bytesOf e) (HE : OpensW P w e E G) :
    OpensW P w t E.slice (fun xs => xs.length ≤ 17592186043904 ∧ ∀ x ∈ xs, G x) := fun {H enc base spare held fuel cs x} h hw => by
  rcases DataW.trod_slice ht h with ⟨rfl, _⟩ | ⟨a, len, cap, elems, rest, n, _, rfl, hxe, _, hle, _, hlen, hel, _⟩
  · exact ⟨[], ⟨_, rfl, none, 0, rfl, Nat.le_refl _, fun h => absurd rfl h⟩, by simp, fun x hx => by cases hx⟩
  · have hx1 : x.1 = .slice (elems.map (·.1)) (rest.map (·.1)) := by rw [hxe]
    have hwt : x.1.weights P t = ((elems.map (·.1)).length + (rest.map (·.1)).length) * P.bytesOf e :: (DataW.weightsAll P e (elems.map (·.1)) ++ DataW.weightsAll P e (rest.map (·.1))) := by
      rw [hx1]; simp only [DataW.weights, ht]
    rw [hwt] at hw
    have each : ∀ i, i < len → ∃ y : A, (∃ cs, E.rel (hp w) y cs ∧ rowH (hp w) (a.add (i * E.sz)) cs) ∧ G y := fun i hi => by
      have h1 := hel i hi
      rw [List.getElem?_eq_getElem (by omega)] at h1
      obtain ⟨cs', h2, h3⟩ := Option.bind_eq_some_iff.1 h1
      obtain ⟨y, h4, h5⟩ := HE h3 fun m hm => hw m (List.mem_cons_of_mem _ (List.mem_append_left _ (weightsAll_mem (List.mem_map_of_mem (List.getElem_mem _)) hm)))
      rw [hc] at h2
      exact ⟨y, ⟨cs', h4, rowH_of h2⟩, h5⟩
    obtain ⟨xs, hx1, hx2⟩ := choose_list len each
    have hbl : len * 8 ≤ 140737488351232 := by
      have h0 := hw _ List.mem_cons_self
      simp only [List.length_map, hlen] at h0
      have h1 : len * 8 ≤ (len + rest.length) * P.bytesOf e := Nat.mul_le_mul (Nat.le_add_right _ _) hb
      have h2 := reachBytes_le
      omega
    refine ⟨xs, ⟨_, rfl, some a, cap, by rw [hx1], by rw [hx1]; exact hle, fun _ => ⟨a, rfl, fun i y hy => (hx2 i y hy).1⟩⟩, by rw [hx1]; omega, fun y hy => ?_⟩
    obtain ⟨i, hi⟩ := List.getElem?_of_mem hy
    exact (hx2 i y hi).2
theorem OpensW.slice {A : Type} {E : Rd A} {G : A → Prop} (ht : P.underlying t = some (.slice e)) (hc : P.cellsOf e = E.sz) (hb : 8 ≤ P.bytesOf e) (HE : OpensW P w e E G) :
    OpensW P w t E.slice (fun xs => xs.length ≤ 17592186044416 ∧ ∀ x ∈ xs, G x) := fun {H enc base spare held fuel cs x} h hw => by
  obtain ⟨xs, h1, h2, h3⟩ := OpensW.sliceT ht hc hb HE h hw
  exact ⟨xs, h1, by omega, h3⟩
theorem OpensW.part {A : Type} {E : Rd A} {G : A → Prop} {fs : Array Field} (ht : P.underlying t = some (.struct fs))
    {H : Type} {enc : TypeId × Value → H} {base : Nat} {spare : Nat → Bool} {held : Bool} {fuel : Nat} {cs : List Value} {x : DataW H × List MemPlace} (h : DataW.trod enc P w base spare held fuel t cs = some x)
    (hw : ∀ m ∈ x.1.weights P t, m ≤ reachBytes) {i : Nat} {f : Field} (hf : fs[i]? = some f) (HE : OpensW P w f.type E G) : ∃ a, E.rel (hp w) a ((cs.drop f.offset).take (P.cellsOf f.type)) ∧ G a := by
  obtain ⟨xs, n, _, hxe, h1, h2, h3⟩ := DataW.trod_struct ht h
  have hg := h3 i f hf
  have hi : i < xs.length := by rw [h2]; exact (Array.getElem?_eq_some_iff.1 hf).1
  rw [List.getElem?_eq_getElem hi] at hg
  refine HE hg fun m hm => hw m ?_
  have hwt : x.1.weights P t = DataW.weightsEach P (fs.toList.map (·.type)) (xs.map (·.1)) := by
    rw [hxe]; simp only [DataW.weights, ht]
  rw [hwt]
  refine DataW.weights_mem_each (j := i) (t := f.type) (d := xs[i].1) ?_ ?_ m hm
  · rw [List.getElem?_map, Array.getElem?_toList, hf]; rfl
  · rw [List.getElem?_map, List.getElem?_eq_getElem hi]; rfl
end
end Go.Sep
end
