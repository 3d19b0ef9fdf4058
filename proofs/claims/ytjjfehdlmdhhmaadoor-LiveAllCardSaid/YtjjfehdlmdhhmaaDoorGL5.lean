/- A region that draws its order, in two parts: in the first one a piece of memory is only read (its readings stand in no order), in the second one, which is behind all of the first, it may be written. Over any program. -/
import Derived.Test.YtjjfehdlmdhhmaaDoorGL4
import Derived.RangeFuncRecord
section
/- A region that draws its order, in two parts: in the first one a piece of memory is only read (its readings stand in no order), in the second one, which is behind all of the first, it may be written. Over any program. -/
namespace Go.Sep
def chkL2 (cl : Nat → Cls) (ops : Array Oper) (m : Array Nat) (l2 : List Nat) : List Nat → Bool
  | [] => true
  | x :: l => predsB ops x (x :: l ++ l2) && l.all (fun y => (m.getD y 0).testBit x || (swapC (cl x) (cl y) && apartB ops y x)) && chkL2 cl ops m l2 l
def chk2 (cl : Nat → Cls) (ops : Array Oper) (l1 l2 : List Nat) : Bool :=
  permB ops.size (l1 ++ l2) && Region.noSelect ops && chkL2 cl ops (masks ops) l2 l1 && chkL cl ops (masks ops) l2 && l2.all fun y => l1.all fun x => ((masks ops).getD y 0).testBit x
section
variable {P : Program} {hR : Heap} {ops : Array Oper} {cl : Nat → Cls}
theorem chkL2_chkL {m : Array Nat} {l2 : List Nat} : ∀ {l : List Nat}, chkL2 cl ops m l2 l = true → chkL cl ops m l = true
  | [], _ => rfl
  | x :: l, h => by
    simp only [chkL2, Bool.and_eq_true] at h
    simp only [chkL, Bool.and_eq_true]
    refine ⟨⟨?_, h.1.2⟩, chkL2_chkL h.2⟩
    have h1 := h.1.1
    unfold predsB at h1 ⊢
    split
    · rename_i o ho
      simp only [ho] at h1
      rw [Array.all_eq_true_iff_forall_mem] at h1 ⊢
      intro e he
      have h2 := h1 e he
      simp only [Bool.or_eq_true, Bool.and_eq_true, Bool.not_eq_true', decide_eq_true_eq] at h2 ⊢
      refine h2.imp id fun h3 => ⟨h3.1, ?_⟩
      have h4 := h3.2
      simp only [List.contains_eq_mem, decide_eq_false_iff_not, List.mem_append, not_or] at h4 ⊢
      exact h4.1
    · rename_i ho; simp only [ho] at h1; cases h1
theorem chkL2_erase {m : Array Nat} {l2 : List Nat} {i : Nat} : ∀ {l : List Nat}, chkL2 cl ops m l2 l = true → chkL2 cl ops m l2 (l.erase i) = true
  | [], _ => rfl
  | x :: l, h => by
    simp only [chkL2, Bool.and_eq_true] at h
    rw [List.erase_cons]
    split
    · exact h.2
    · simp only [chkL2, Bool.and_eq_true]
      refine ⟨⟨?_, ?_⟩, chkL2_erase h.2⟩
      · have h1 := h.1.1
        unfold predsB at h1 ⊢
        split
        · rename_i o ho
          simp only [ho] at h1
          rw [Array.all_eq_true_iff_forall_mem] at h1 ⊢
          intro e he
          have h2 := h1 e he
          simp only [Bool.or_eq_true, Bool.and_eq_true, Bool.not_eq_true', decide_eq_true_eq] at h2 ⊢
          refine h2.imp id fun h3 => ⟨h3.1, ?_⟩
          have h4 := h3.2
          simp only [List.contains_eq_mem, decide_eq_false_iff_not, List.mem_append, List.mem_cons, not_or] at h4 ⊢
          exact ⟨⟨h4.1.1, fun hm => h4.1.2 (List.mem_of_mem_erase hm)⟩, h4.2⟩
        · rename_i ho; simp only [ho] at h1; cases h1
      · rw [List.all_eq_true] at *
        exact fun y hy => h.1.2 y (List.mem_of_mem_erase hy)
theorem Fits.unfreeze {hF h1 : Heap} {w : World} (hd : Disj hR hF) (f : Fits (un hR hF) h1 w) : Fits hR (un h1 hF) w := by
  have hd1 := un_disj.1 f.apart
  refine ⟨fun b o hb => f.ro b o (sub_un_left hR hF b o hb), fun b o hb => ?_, disj_un.2 ⟨hd1.1, hd⟩⟩
  unfold un at hb
  cases hx : h1 b with
  | some o' => simp [hx] at hb; subst hb; exact f.own b _ hx
  | none => simp [hx] at hb; exact f.ro b o (sub_un_right hd b o hb)
theorem wpAny_of_run2 {Q : Exit → Act → World → Prop} {K : Act → Heap → Prop} {w0 : World} {h0 hF : Heap} (hd : Disj hR hF) (hsel : Region.noSelect ops = true)
    (hQ : ∀ a h w, Step w0 h0 w h → K a h → Q .normal a w) (l2 : List Nat) (hchk2 : chkL cl ops (masks ops) l2 = true) : ∀ (fuel : Nat) (l1 : List Nat) (listed : Array Bool) (a : Act) (h1 : Heap) (w : World),
      (∀ i, i ∈ l1 ++ l2 ↔ i < ops.size ∧ listed.getD i true = false) → (l1 ++ l2).Nodup → listed.size = ops.size → Closed ops listed → chkL2 cl ops (masks ops) l2 l1 = true → (∀ y ∈ l2, ∀ x ∈ l1, ((masks ops).getD y 0).testBit x = true) →
      (l1 ++ l2).length ≤ fuel → Fits (un hR hF) h1 w → Step w0 h0 w (un h1 hF) → ARun P (un hR hF) cl ops l1 a h1 (fun a' h1' => ARun P hR cl ops l2 a' (un h1' hF) K) → wpAny P .any ops Q fuel listed a w := by
  intro fuel
  induction fuel with
  | zero =>
    intro l1 listed a h1 w hmem hnd hsz hcl hc1 hx hlen f s H
    have e : l1 = [] := List.length_eq_zero_iff.1 (by rw [List.length_append] at hlen; omega)
    subst e
    exact wpAny_of_run hsel hQ 0 l2 listed a _ w hmem hnd hsz hcl hchk2 (by simpa using hlen) (f.unfreeze hd) s H
  | succ fuel ih =>
    intro l1 listed a h1 w hmem hnd hsz hcl hc1 hx hlen f s H
    cases hl1 : l1 with
    | nil =>
      subst hl1
      exact wpAny_of_run hsel hQ (fuel + 1) l2 listed a _ w hmem hnd hsz hcl hchk2 (by simpa using hlen) (f.unfreeze hd) s H
    | cons x0 l1' =>
    have hx0 : x0 ∈ l1 := by rw [hl1]; simp
    refine ⟨fun hr => ?_, fun i hi => ?_⟩
    · exfalso
      have hx := (hmem x0).1 (List.mem_append_left _ hx0)
      rw [hl1] at hc1
      simp only [chkL2, Bool.and_eq_true] at hc1
      have h1 := hc1.1.1
      unfold predsB at h1
      have ho : ops[x0]? = some ops[x0] := Array.getElem?_eq_getElem hx.1
      simp only [ho] at h1
      have : x0 ∈ Region.ready .any ops listed := by
        rw [mem_ready]
        refine ⟨hx.2, _, ho, fun e he hb => ?_⟩
        have h2 := Array.all_eq_true_iff_forall_mem.1 h1 e he
        simp only [hb, Bool.not_true, Bool.false_or, Bool.and_eq_true, decide_eq_true_eq, Bool.not_eq_true', List.contains_eq_mem, decide_eq_false_iff_not] at h2
        cases hg : listed.getD e.on false with
        | true => rfl
        | false => exact absurd ((hmem e.on).2 ⟨h2.1, by
            rw [Array.getD_eq_getD_getElem?, Array.getElem?_eq_getElem (by omega)] at hg ⊢; exact hg⟩) (by rw [hl1]; exact h2.2)
      rw [hr] at this; cases this
    · have hi' := mem_ready.1 hi
      obtain ⟨hun, o, ho, hpre⟩ := hi'
      have hil : i ∈ l1 ++ l2 := (hmem i).2 ⟨(Array.getElem?_eq_some_iff.1 ho).1, hun⟩
      have hdir : ∀ k, Edged ops k i → listed.getD k false = true := fun k ⟨o', ho', e, he, hb, hk⟩ => by
        rw [ho] at ho'; cases ho'; rw [← hk]; exact hpre e he hb
      have hA : ∀ x ∈ l1 ++ l2, ¬ Anc ops x i := fun x hx ha => by
        have h1 := hcl.anc ha hdir
        have h2 := ((hmem x).1 hx).2
        have h3 := ((hmem x).1 hx).1
        rw [Array.getD_eq_getD_getElem?, Array.getElem?_eq_getElem (by omega)] at h1 h2
        simp only [Option.getD_some] at h1 h2
        rw [h1] at h2; cases h2
      have hi1 : i ∈ l1 := by
        rcases List.mem_append.1 hil with h | h
        · exact h
        · exact absurd (masks_spec (hx i h x0 hx0)) (hA x0 (List.mem_append_left _ hx0))
      have hi2 : i ∉ l2 := fun h => by
        obtain ⟨_, _, h3⟩ := List.nodup_append.1 hnd
        exact h3 i hi1 i h rfl
      have H1 := bubble hsel (fun x hx => masks_spec hx) (fun x hx => hA x (List.mem_append_left _ hx)) hi1 (chkL2_chkL hc1) ⟨w, f⟩ H
      refine AStep.wpOp f (fun a' h' w' s' k => ?_) H1
      have hlen' : (l1.erase i).length = l1.length - 1 := List.length_erase_of_mem hi1
      have hpos : 0 < l1.length := List.length_pos_of_mem hi1
      have hfr := s'.frame (g := hF) (fun b o hb => f.ro b o (sub_un_right hd b o hb)) ((un_disj.1 f.apart).2.symm)
      refine ih (l1.erase i) _ a' h' w' (fun j => ?_) ?_ (by simp [hsz]) (fun j k hj he => ?_) (chkL2_erase hc1) (fun y hy x hx' => hx y hy x (List.mem_of_mem_erase hx')) (by rw [List.length_append] at hlen ⊢; omega) (f.step s') (s.trans hfr.1) k
      · have key : j ∈ l1.erase i ++ l2 ↔ j ≠ i ∧ j ∈ l1 ++ l2 := by
          rw [List.mem_append, List.mem_append, (List.nodup_append.1 hnd).1.mem_erase_iff]
          constructor
          · rintro (⟨h1, h2⟩ | h2)
            · exact ⟨h1, .inl h2⟩
            · exact ⟨fun e => hi2 (e ▸ h2), .inr h2⟩
          · rintro ⟨h1, h2 | h2⟩
            · exact .inl ⟨h1, h2⟩
            · exact .inr h2
        rw [key, hmem]
        by_cases hji : i = j
        · subst hji; simp [hsz] <;> (intros; omega)
        · rw [getD_set_ne true hji]; constructor
          · exact fun h => h.2
          · exact fun h => ⟨Ne.symm hji, h⟩
      · obtain ⟨n1, n2, n3⟩ := List.nodup_append.1 hnd
        exact List.nodup_append.2 ⟨n1.erase i, n2, fun x hx' y hy => n3 x (List.mem_of_mem_erase hx') y hy⟩
      · by_cases hji : i = j
        · subst hji; exact getD_set_true (hdir k he)
        · rw [getD_set_ne false hji] at hj; exact getD_set_true (hcl j k hj he)
theorem wp_region_drawn2 {Q : Exit → Act → World → Prop} {K : Act → Heap → Prop} {id : Nat} {a : Act} {h1 hF : Heap} {w : World} (l1 l2 : List Nat) (hm : P.follows .mixedOrders = true)
    (hchk : chk2 cl ops l1 l2 = true) (hd : Disj hR hF) (hQ : ∀ a h' w', Step w (un h1 hF) w' h' → K a h' → Q .normal a w') (f : Fits (un hR hF) h1 w)
    (H : ARun P (un hR hF) cl ops l1 a h1 (fun a' h1' => ARun P hR cl ops l2 a' (un h1' hF) K)) {ro : Option Nat} {m : Nat} (hn : ndB ro ops = true) : (Code.region id ops true).wpIn (FR ro) m P Q a w := by
  simp only [chk2, Bool.and_eq_true] at hchk
  obtain ⟨⟨⟨⟨hp, hs⟩, hc1⟩, hc2⟩, hcross⟩ := hchk
  obtain ⟨p1, p2, p3⟩ := permB_spec hp
  have f0 : Fits hR (un h1 hF) w := f.unfreeze hd
  have hst : Step w (un h1 hF) { w with drawn := w.drawn + 1 } (un h1 hF) := ⟨f0.own, Nat.le_refl _, fun _ _ _ => rfl, fun _ hb => .inl hb, ⟨rfl, rfl, rfl⟩⟩
  have hst1 : Step w h1 { w with drawn := w.drawn + 1 } h1 := ⟨f.own, Nat.le_refl _, fun _ _ _ => rfl, fun _ hb => .inl hb, ⟨rfl, rfl, rfl⟩⟩
  refine wpIn_drawn_of hm hn (wpAny_of_run2 (Q := fun e a w => e = .normal ∧ Q .normal a w) hd hs (fun a h w s k => ⟨rfl, hQ a h w s k⟩) l2 hc2 _ l1 _ a h1 _ (fun i => ?_) p2 (by simp) (fun i j hi => ?_) hc1 (fun y hy x hx => ?_) (Nat.le_of_eq p3) (f.step hst1) hst H)
  · rw [p1]
    constructor
    · exact fun hi => ⟨hi, by simp [hi]⟩
    · exact fun h => h.1
  · rw [Array.getD_eq_getD_getElem?] at hi
    by_cases hlt : i < ops.size
    · simp [hlt] at hi
    · rw [Array.getElem?_eq_none (by simp; omega)] at hi; simp at hi
  · exact List.all_eq_true.1 (List.all_eq_true.1 hcross y hy) x hx
end
section
variable {P : Program} {hR : Heap} {n : Fr} {Q : Exit → Env → List HProp → Prop} {ρ : Env} {Γ : List HProp}
theorem WP.drawnF {id : Nat} {ops : Array Oper} (cf : Op → Cls) {la lb : List Oper} (l1 l2 : List Nat) (Θ : List HProp) (hm : P.follows .mixedOrders = true) (hl1 : collectO (l1.map (ops[·]?)) = some la) (hl2 : collectO (l2.map (ops[·]?)) = some lb)
    (hk : chk2 (clOf cf ops) ops l1 l2 = true) (H : ∀ g, sat Θ g → Disj hR g → Run P (un hR g) n cf ops la (fun ρ' Γ' => Run P hR n cf ops lb (Q .normal) ρ' (Γ' ++ Θ)) ρ Γ) (hn : ndB n.ro ops = true := by rfl) : WP P hR n (.region id ops true) Q ρ (Γ ++ Θ) := by
  intro a h w ho hs hf
  obtain ⟨h1, h2, g1, g2, hd, rfl⟩ := sat_append.1 hs
  have hRg : Disj hR h2 := (hf.right hd).apart
  have hf' : Fits (un hR h2) h1 w := by
    refine ⟨fun b o hb => ?_, hf.left.own, un_disj.2 ⟨hf.left.apart, hd.symm⟩⟩
    unfold un at hb
    cases hx : hR b with
    | some o => simp [hx] at hb; subst hb; exact hf.ro b _ hx
    | none => simp [hx] at hb; exact (hf.right hd).own b o hb
  have H1 := arun_of_ops _ la (collectO_spec hl1) a h1 (H h2 g2 hRg a h1 ho g1 ⟨w, hf'⟩)
  refine wp_region_drawn2 l1 l2 hm hk hRg (fun a h' w' s k => ?_) hf' (ARun.mono (fun a' h1' hlive k => ?_) l1 ⟨w, hf'⟩ H1) (K := fun a' h' => ∃ ρ' Γ', Ok n ρ' a' ∧ sat Γ' h' ∧ Q .normal ρ' Γ') (hn := hn)
  · obtain ⟨ρ', Γ', o, t, q⟩ := k
    exact ⟨h', ρ', Γ', s, o, t, q⟩
  · obtain ⟨ρ', Γ', o, t, q⟩ := k
    obtain ⟨w1, f1⟩ := hlive
    have hd1 := (un_disj.1 f1.apart).2.symm
    exact arun_of_ops _ lb (collectO_spec hl2) a' _ (q a' _ o (sat_append.2 ⟨h1', h2, t, g2, hd1, rfl⟩) ⟨w1, f1.unfreeze hRg⟩)
/-- a block that is owned, lent -/
theorem lent_blk {b : Nat} {cs : List Value} {T : TypeId} {Θ : List HProp} {g : Heap} (k j : Nat) {v : Value} (hk : Θ[k]? = some (blk b cs T)) (hj : cs[j]? = some v) (hs : sat Θ g) (hd : Disj hR g) : cellH (un hR g) ⟨b, j, none⟩ v := by
  obtain ⟨h1, h2, g1, hd', e, _⟩ := sat_get hs hk
  subst g1
  refine ⟨⟨cs⟩, T, (0, 0), ?_, rfl, by simpa using hj⟩
  exact sub_un_right hd b _ (by rw [e]; exact un_left_some put_emp_self)
theorem lent_sub {Θ : List HProp} {g : Heap} {A : HProp} (k : Nat) (hk : Θ[k]? = some A) (hs : sat Θ g) (hd : Disj hR g) : ∃ h1, A h1 ∧ Sub h1 (un hR g) := by
  obtain ⟨h1, h2, g1, hd', e, _⟩ := sat_get hs hk
  subst e
  exact ⟨h1, g1, (sub_un_left h1 h2).trans (sub_un_right hd)⟩
end
end Go.Sep
end
section
/- Rows, more: the first one taken off; rows turned row by row. Over any program. -/
namespace Go.Sep
section
variable {A : Type} {T : TypeId} {E : Enc A}
theorem rows_first {sv : SV} {xs : List A} (p : List (SV × List A)) (Γ : List HProp) : ent (rows T E ((sv, xs) :: p) :: Γ) (slA T E sv.val xs :: rows T E p :: Γ) := by
  have h1 := many_out (rowsL T E ((sv, xs) :: p)) Γ
  exact h1.trans (ent.cons (fun _ h => h) (many_in (rowsL T E p) Γ))
end
end Go.Sep
end
section
/- A range over a function: the rounds, yield, the marks. Over any program. -/
namespace Go.Sep
set_option linter.unusedVariables false
set_option linter.unusedSimpArgs false
def lop (l : Nat) (r : Loop) : HProp := fun h => h = put emp l (.loop r)
def dfr (D : Nat) : HProp := fun h => h = put emp D (.deferred (some []))
def mark (D : Nat) : Deferred := { target := .collected D, args := #[] }
def yv (l : Nat) : Value := .func (.yield l) #[] #[]
theorem Step.alloc {hR : Heap} {w : World} {h : Heap} {ob : Obj} (hf : Fits hR h w) : Step w h (w.alloc ob) (put h w.heap.size ob) ∧ h w.heap.size = none := by
  have hb : hp w w.heap.size = none := by unfold hp; exact Array.getElem?_eq_none (Nat.le_refl _)
  have n2 : h w.heap.size = none := by
    cases hx : h w.heap.size with
    | none => rfl
    | some x => have := hf.own _ _ hx; rw [hb] at this; cases this
  have hsz : (w.alloc ob).heap = w.heap.push ob := rfl
  refine ⟨⟨fun c x hx => ?_, by rw [hsz, Array.size_push]; omega, fun c hc _ => ?_, fun c hc => ?_, ⟨rfl, rfl, rfl⟩⟩, n2⟩
  · unfold hp; rw [hsz]
    unfold put at hx
    split at hx
    · rename_i e; subst e; cases hx; rw [Array.getElem?_push, if_pos rfl]
    · have := hf.own c x hx
      unfold hp at this
      rw [Array.getElem?_push_lt (hp_lt this)]
      exact (Array.getElem?_eq_getElem (hp_lt this)).symm.trans this
  · unfold hp; rw [hsz, Array.getElem?_push_lt hc]; exact (Array.getElem?_eq_getElem hc).symm
  · unfold put at hc
    split at hc
    · rename_i e; exact .inr (by omega)
    · exact .inl hc
/-- a block that is owned becomes another object -/
theorem Step.turn {w : World} {h : Heap} {l : Nat} {o o' : Obj} (hs : Sub (un (put emp l o) h) (hp w)) (hd : Disj (put emp l o) h) : Step w (un (put emp l o) h) (w.putObj l o') (un (put emp l o') h) ∧ Disj (put emp l o') h := by
  have h0 : hp w l = some o := hs l o (un_left_some put_emp_self)
  have hlt := hp_lt h0
  have hln : h l = none := (hd l).resolve_left (by rw [put_emp_self]; simp)
  have hother : ∀ c, c ≠ l → put emp l o' c = none := fun c hc => by simp [put, hc, emp]
  have hother2 : ∀ c, c ≠ l → put emp l o c = none := fun c hc => by simp [put, hc, emp]
  refine ⟨⟨fun c x hx => ?_, by rw [World.putObj_size]; exact Nat.le_refl _, fun c hc hn => ?_, fun c hc => ?_, ⟨rfl, rfl, rfl⟩⟩, fun c => ?_⟩
  · by_cases e : c = l
    · subst e
      rw [un_left_some put_emp_self] at hx; cases hx
      exact World.putObj_heap_same hlt
    · unfold un at hx
      rw [hother c e] at hx
      simp only [Option.none_or] at hx
      unfold hp; rw [World.putObj_heap_other e]
      exact hs c x (by unfold un; rw [hother2 c e]; simpa using hx)
  · by_cases e : c = l
    · subst e; rw [un_left_some put_emp_self] at hn; cases hn
    · unfold hp; rw [World.putObj_heap_other e]
  · by_cases e : c = l
    · subst e; exact .inl (by rw [un_left_some put_emp_self]; simp)
    · refine .inl ?_
      unfold un at hc ⊢
      rw [hother c e] at hc; rw [hother2 c e]; exact hc
  · by_cases e : c = l
    · subst e; exact .inr hln
    · exact .inl (hother c e)
section
variable {P : Program} {hR : Heap} {n : Fr} {Q : Exit → Env → List HProp → Prop} {ρ : Env} {Γ : List HProp}
/-- what a call of yield does -/
def Yld (P : Program) (hR : Heap) (l : Nat) (args : List Value) (Γ : List HProp) (R : Value → List HProp → Prop) : Prop :=
  ∀ h w, sat Γ h → Fits hR h w → ∃ f tmps asg body, (Instr.yield l ⟨args⟩).run P w = .ok (.round l f tmps asg body) w ∧
    RoundIn (FR none) 0 P l f tmps asg body w fun e w' => ∃ v h' Γ', e = .returned v ∧ Step w h w' h' ∧ sat Γ' h' ∧ R v Γ'
theorem Yld.frame {l : Nat} {args : List Value} {R : Value → List HProp → Prop} (Θ : List HProp) (H : Yld P hR l args Γ R) : Yld P hR l args (Γ ++ Θ) fun v Γ' => ∃ Γ1, Γ' = Γ1 ++ Θ ∧ R v Γ1 := by
  intro h w hs hf
  obtain ⟨h1, h2, g1, g2, hd, rfl⟩ := sat_append.1 hs
  obtain ⟨f, tmps, asg, body, hy, hr⟩ := H h1 w g1 hf.left
  refine ⟨f, tmps, asg, body, hy, hr.mono ?_⟩
  rintro e w' ⟨v, h', Γ', rfl, s, t, r⟩
  obtain ⟨s', hd'⟩ := s.frame (hf.right hd).own hd
  exact ⟨v, un h' h2, Γ' ++ Θ, rfl, s', sat_append.2 ⟨h', h2, t, g2, hd', rfl⟩, Γ', rfl, r⟩
theorem wpOpsIn_head {ops : Array Oper} {ro : Option Nat} {m : Nat} {Q : Exit → Act → World → Prop} {W : Act → World → Prop} {i : Nat} {l : List Nat} {a : Act} {w : World} (hn : ndB ro ops = true)
    (h : Go.wpOp P ops (fun _ _ _ => False) i W a w) (hW : ∀ a w, W a w → wpOpsIn (FR ro) m P ops Q l a w) : wpOpsIn (FR ro) m P ops Q (i :: l) a w := by
  unfold Go.wpOp at h
  unfold wpOpsIn
  cases ho : ops[i]? with
  | none => rw [ho] at h; exact hW _ _ h
  | some o =>
    rw [ho] at h
    simp only at h ⊢
    by_cases hw : Region.wanted o (yielded ops a.tmps) = true
    · rw [if_pos hw] at h ⊢
      have h1 := h.resolve_right fun ⟨_, _, _, hq⟩ => hq
      refine ⟨fun _ _ => trivial, ?_⟩
      have e : Oper.semAt (FR ro).round a.eval o = execOp a.eval o := sem_FR hn ho _
      rw [e]
      unfold Oper.wp at h1
      generalize (execOp a.eval o).run P w = r at h1 ⊢
      cases r with
      | ok x w' =>
        cases x <;> simp only [Oper.upon, Oper.uponIn] at h1 ⊢
        case value u => exact hW _ _ h1
        case skip => exact hW _ _ h1
        case defer d => exact hW _ _ h1
        case enter fn args =>
          refine ⟨(fun h => by cases h), (calls_FR h1).mono ?_⟩
          intro e w'' hx
          cases e with
          | returned u => exact hW _ _ hx
          | panicked c => exact hx.elim
          | outgrown => obtain ⟨_, _, hx⟩ := hx; exact hx.elim
        case row row args => exact ⟨fun h => (by cases h), RowsIn.mono (rows_FR h1) fun u w'' hx => hW _ _ hx⟩
      | halt x w' => cases x <;> simp only [Oper.upon, Oper.uponIn] at h1 ⊢
    · rw [if_neg hw] at h ⊢
      exact ⟨fun _ _ => trivial, hW _ _ h⟩
theorem wpOpsIn_run {ops : Array Oper} {cl : Nat → Cls} {ro : Option Nat} {m : Nat} {Q : Exit → Act → World → Prop} {K : Act → Heap → Prop} {l2 : List Nat} {w0 : World} {h0 : Heap} (hn : ndB ro ops = true)
    (hQ : ∀ a h w, Step w0 h0 w h → Fits hR h w → K a h → wpOpsIn (FR ro) m P ops Q l2 a w) :
    ∀ (l : List Nat) (a : Act) (h : Heap) (w : World), Fits hR h w → Step w0 h0 w h → ARun P hR cl ops l a h K → wpOpsIn (FR ro) m P ops Q (l ++ l2) a w
  | [], a, h, w, f, s, H => hQ _ _ _ s f H
  | i :: l, a, h, w, f, s, H => wpOpsIn_head hn (AStep.wpOp (W := fun a w => wpOpsIn (FR ro) m P ops Q (l ++ l2) a w) f (fun a' h' w' s' k => wpOpsIn_run hn hQ l a' h' w' (f.step s') (s.trans s') k) H) fun _ _ h => h
/-- a region that has one order and calls yield -/
theorem WP.plainY {id : Nat} {ops : Array Oper} (cf : Op → Cls) {l1 l2 : List Oper} {o : Oper} {c : Call} {x : Operand} {d l : Nat} (hl : ops = ⟨l1 ++ o :: l2⟩) (hop : o.op = .call c) (hc : c.callee = .value x) (hg : o.guard = none)
    (hd : o.dst = some d) (hdn : decide (d < n.k) = true)
    (H : Run P hR n cf ops l1 (fun ρ Γ => ∃ vs Δ Θ R, ρ.val x = some (yv l) ∧ collectV (c.args.toList.map ρ.val) = some vs ∧ ent Γ (Δ ++ Θ) ∧ Yld P hR l vs Δ R ∧
      ∀ v Γ', R v Γ' → Run P hR n cf ops l2 (Q .normal) ((d, v) :: ρ) (Γ' ++ Θ)) ρ Γ) (hn : ndB n.ro ops = true := by rfl) (hro : n.ro = none := by rfl) : WP P hR n (.region id ops false) Q ρ Γ := by
  intro a h w ho hs hf
  obtain ⟨nk, nds, nro⟩ := n
  simp only at hro; subst hro
  have hr : List.range ops.size = List.range l1.length ++ (l1.length :: (List.range l2.length).map (l1.length + 1 + ·)) := by
    have e : ops.size = l1.length + (1 + l2.length) := by rw [hl]; simp; omega
    rw [e, List.range_add, List.range_add]; simp [Nat.add_assoc, Function.comp_def]
  have g1 : (List.range l1.length).map (ops[·]?) = l1.map some := by
    rw [hl]
    apply List.ext_getElem?
    intro i
    simp only [List.getElem?_map]
    by_cases h : i < l1.length
    · simp [h]
      rw [List.getElem?_append_left h, List.getElem?_eq_getElem h]
    · simp [h]
  have g2 : ops[l1.length]? = some o := by rw [hl]; simp
  have g3 : ((List.range l2.length).map (l1.length + 1 + ·)).map (ops[·]?) = l2.map some := by
    rw [hl]
    apply List.ext_getElem?
    intro i
    simp only [List.getElem?_map]
    by_cases h : i < l2.length
    · simp [h]
      rw [List.getElem?_append_right (by omega)]
      have : l1.length + 1 + i - l1.length = i + 1 := by omega
      rw [this, List.getElem?_cons_succ, List.getElem?_eq_getElem h]
    · simp [h]
  refine wpIn_region ?_
  rw [hr]
  refine wpOpsIn_run (cl := clOf cf ops) hn (fun a1 h1 w1 s1 f1 k1 => ?_) _ a h w hf (.refl hf.own) (arun_of_ops _ l1 g1 a h (H a h ho hs ⟨w, hf⟩))
  obtain ⟨ρ1, Γ1, o1, t1, vs, Δ, Θ, R, hx, hargs, he, hY, hgo⟩ := k1
  unfold wpOpsIn
  rw [g2]
  simp only
  have hw : Region.wanted o (yielded ops a1.tmps) = true := by unfold Region.wanted; rw [hg]
  rw [if_pos hw]
  refine ⟨fun _ _ => trivial, ?_⟩
  have e : Oper.semAt (FR none).round a1.eval o = execOp a1.eval o := rfl
  rw [e]
  have hargs' : c.args.map a1.eval = vs.toArray := by
    apply Array.ext'; simpa using evals o1 c.args.toList vs (collectV_spec hargs)
  obtain ⟨f, tmps, asg, body, hy, hround⟩ := (hY.frame Θ) h1 w1 (he h1 t1) f1
  have hrun : (execOp a1.eval o).run P w1 = .ok (.round l f tmps asg body) w1 := by
    have hy' : (Instr.yield l vs.toArray).run P w1 = .ok (.round l f tmps asg body) w1 := hy
    simp [execOp, hop, resolve, hc, o1.eval hx, yv, Deferred.ofValue, invoke, hargs', hy']
  rw [hrun]
  simp only [Oper.uponIn]
  refine ⟨(fun h => by cases h), hround.mono ?_⟩
  rintro e w2 ⟨v, h2, Γ2, rfl, s2, t2, Γ3, rfl, r⟩
  simp only
  have ho2 : Ok ⟨nk, nds, none⟩ ((d, v) :: ρ1) (a1.put o.dst v) := by rw [hd]; exact o1.put (of_decide_eq_true hdn) v
  have f2 := f1.step s2
  have := wpOpsIn_run (l2 := []) (cl := clOf cf ops) (P := P) (ro := none) (m := 0) (Q := lift ⟨nk, nds, none⟩ Q w h) (w0 := w2) (h0 := h2) hn
    (fun a3 h3 w3 s3 f3 k3 => by
      obtain ⟨ρ3, Γ3, o3, t3, q3⟩ := k3
      exact ⟨h3, ρ3, Γ3, (s1.trans s2).trans s3, o3, t3, q3⟩) _ _ h2 w2 f2 (.refl f2.own) (arun_of_ops _ l2 g3 _ h2 (hgo v Γ3 r _ h2 ho2 t2 ⟨w2, f2⟩))
  rw [List.append_nil] at this
  exact this
end
end Go.Sep
end
section
/- A range over a function: the statement, and functions that hold one. Over any program. -/
namespace Go.Sep
set_option linter.unusedVariables false
set_option linter.unusedSimpArgs false
theorem put_un {h : Heap} {b : Nat} {o : Obj} (hn : h b = none) : put h b o = un (put emp b o) h ∧ Disj (put emp b o) h := by
  refine ⟨?_, fun c => ?_⟩
  · funext c
    by_cases e : c = b
    · subst e; simp [put, un]
    · simp [put, un, emp, e]
  · by_cases e : c = b
    · subst e; exact .inr hn
    · exact .inl (by simp [put, emp, e])
def bindE : List Tmp → List Value → Env → Env
  | t :: ts, v :: vs, ρ => bindE ts vs ((t, v) :: ρ)
  | _, _, ρ => ρ
theorem bind_ok {k : Nat} {ro : Option Nat} : ∀ (ps : List Tmp) (vs : List Value) (ρ : Env) (tmps : Array Value), Ok ⟨k, [], ro⟩ ρ { tmps := tmps, defers := [] } → ps.all (fun t => decide (t < k)) = true →
    Ok ⟨k, [], ro⟩ (bindE ps vs ρ) { tmps := (ps.zip vs).foldl (fun tm (x : Tmp × Value) => tm.setIfInBounds x.1 x.2) tmps, defers := [] }
  | [], _, _, _, h, _ => h
  | _ :: _, [], _, _, h, _ => h
  | t :: ts, v :: vs, ρ, tmps, h, hp => by
    simp only [List.all_cons, Bool.and_eq_true] at hp
    have h1 : Ok ⟨k, [], ro⟩ ((t, v) :: ρ) (({ tmps := tmps, defers := [] } : Act).put (some t) v) := h.put (of_decide_eq_true hp.1) v
    exact bind_ok ts vs ((t, v) :: ρ) (tmps.setIfInBounds t v) h1 hp.2
section
variable {P : Program} {hR : Heap} {k : Nat} {ρ : Env} {Γ : List HProp} {g : Operand} {ps : Array Tmp} {asg body : Code} {G : Nat → List HProp} {N : Nat} {argsOf : Nat → List Value} {gf : FuncId} {lb : Array Value}
structure RangeAt (P : Program) (hR : Heap) (k : Nat) (ρ : Env) (Γ : List HProp) (g : Operand) (ps : Array Tmp) (asg body : Code) (G : Nat → List HProp) (N : Nat) (argsOf : Nat → List Value) (gf : FuncId) (lb : Array Value) : Prop where
  hg : ρ.val g = some (.func (.func gf) #[] lb)
  ok : calleeOk P gf = true
  sz : ∀ i, (argsOf i).length = ps.size
  start : ent Γ (G 0)
  iter : ∀ l r, (∀ i, i < N → Yld P hR l (argsOf i) (lop l r :: G i) (fun v Γ' => v = .bool true ∧ Γ' = lop l r :: G (i + 1))) → Tri P hR gf (#[yv l] ++ lb) (lop l r :: G 0) (fun _ Γ' => Γ' = lop l r :: G N)
  round : ∀ l i, i < N → WP P hR ⟨k, [], some l⟩ asg (fun e ρ' Γ' => e = .normal ∧ WP P hR ⟨k, [], some l⟩ body (fun e _ Γ'' => e = .normal ∧ ent Γ'' (G (i + 1))) ρ' Γ') (bindE ps.toList (argsOf i) ρ) (G i)
theorem range_wp (H : RangeAt P hR k ρ Γ g ps asg body G N argsOf gf lb) (hps : ps.toList.all (fun t => decide (t < k)) = true) {a : Act} {h : Heap} {w : World} (ho : Ok ⟨k, [], none⟩ ρ a) (hs : sat Γ h) (hf : Fits hR h w) :
    (Code.rangeFunc g ps asg body).wpIn (FR none) 0 P (fun e a' w' => e = .normal ∧ ∃ D h', Step w h w' h' ∧ Ok ⟨k, [mark D], none⟩ ρ a' ∧ sat (dfr D :: G N) h') a w := by
  refine wpIn_rangeFunc fun fn hfn => ?_
  obtain ⟨rec, hrec⟩ : ∃ rec : LoopState → Option Code → Loop, rec = fun st pe => { state := st, pending := pe, fn, tmps := a.tmps, params := ps, assign := asg, body, defers := w.heap.size } := ⟨_, rfl⟩
  obtain ⟨s1, n1⟩ := Step.alloc (ob := .deferred (some [])) hf
  have f1 := hf.step s1
  obtain ⟨s2, n2⟩ := Step.alloc (ob := .loop (rec .ready none)) f1
  have f2 := f1.step s2
  rw [World.size_alloc] at s2 n2 f2
  obtain ⟨e1, d1⟩ := put_un (o := .deferred (some [])) n1
  obtain ⟨e2, d2⟩ := put_un (o := .loop (rec .ready none)) n2
  have hsat : sat (lop (w.heap.size + 1) (rec .ready none) :: ([dfr w.heap.size] ++ G 0)) (put (put h w.heap.size (.deferred (some []))) (w.heap.size + 1) (.loop (rec .ready none))) := by
    rw [e2]
    refine ⟨_, _, rfl, ?_, d2, rfl⟩
    rw [e1]
    exact ⟨_, _, rfl, H.start h hs, d1, rfl⟩
  have hsat2 : sat ((lop (w.heap.size + 1) (rec .ready none) :: G 0) ++ [dfr w.heap.size]) (put (put h w.heap.size (.deferred (some []))) (w.heap.size + 1) (.loop (rec .ready none))) :=
    sat_perm (List.Perm.cons _ List.perm_append_comm) hsat
  have hargs : (ps.zip (#[] : Array Value)) = #[] := by simp
  -- a round
  have hY : ∀ i, i < N → Yld P hR (w.heap.size + 1) (argsOf i) (lop (w.heap.size + 1) (rec .ready none) :: G i) (fun v Γ' => v = .bool true ∧ Γ' = lop (w.heap.size + 1) (rec .ready none) :: G (i + 1)) := by
    intro i hi h3 w3 hs3 hf3
    obtain ⟨hl, hg, q1, q2, hd3, rfl⟩ := hs3
    subst q1
    have hl3 : w3.heap[w.heap.size + 1]? = some (.loop (rec .ready none)) := hf3.own _ _ (un_left_some put_emp_self)
    have hy := run_yield (P := P) (args := ⟨argsOf i⟩) hl3 (by rw [hrec]; simpa using H.sz i)
    rw [hrec] at hy
    refine ⟨fn, _, asg, body, hy, roundIn_of_wpIn hfn ?_⟩
    have ho3 : Ok ⟨k, [], some (w.heap.size + 1)⟩ (bindE ps.toList (argsOf i) ρ) { tmps := (ps.zip ⟨argsOf i⟩).foldl (fun tmps (t, a) => tmps.setIfInBounds t a) a.tmps, defers := [] } := by
      have := bind_ok (ro := some (w.heap.size + 1)) ps.toList (argsOf i) ρ a.tmps ⟨ho.size, rfl, ho.get⟩ hps
      have e : (ps.zip (⟨argsOf i⟩ : Array Value)).foldl (fun tmps (x : Tmp × Value) => tmps.setIfInBounds x.1 x.2) a.tmps = (ps.toList.zip (argsOf i)).foldl (fun tm (x : Tmp × Value) => tm.setIfInBounds x.1 x.2) a.tmps := by
        rw [← Array.foldl_toList, Array.toList_zip]
      rw [e]; exact this
    have hfg := hf3.right hd3
    have w1 := H.round (w.heap.size + 1) i hi _ hg w3 ho3 q2 hfg
    refine wpIn_mono w1 ?_
    rintro e a4 w4 ⟨h4, ρ4, Γ4, s4, o4, t4, he, hb⟩
    subst he
    obtain ⟨s4', d4⟩ := s4.frame hf3.left.own hd3.symm
    have hl4 : w4.heap[w.heap.size + 1]? = some (.loop (rec .ready none)) := s4'.sub _ _ (by rw [un_comm d4]; exact un_left_some put_emp_self)
    refine ⟨_, run_beginRound hl4 (by rw [hrec]), ?_⟩
    have hsub4 : Sub (un (put emp (w.heap.size + 1) (.loop (rec .ready none))) h4) (hp w4) := by rw [un_comm d4.symm]; exact s4'.sub
    obtain ⟨s5, d5⟩ := Step.turn (o' := .loop { rec .ready none with state := .busy }) hsub4 d4.symm
    have s45 : Step w3 (un (put emp (w.heap.size + 1) (.loop (rec .ready none))) hg) (w4.putObj (w.heap.size + 1) (.loop { rec .ready none with state := .busy })) (un (put emp (w.heap.size + 1) (.loop { rec .ready none with state := .busy })) h4) := by
      refine Step.trans ?_ s5
      rw [un_comm hd3, un_comm d4.symm]; exact s4'
    have f5 := hf3.step s45
    have w2 := hb a4 h4 _ o4 t4 (f5.right d5)
    refine wpIn_mono w2 ?_
    rintro e a6 w6 ⟨h6, ρ6, Γ6, s6, o6, t6, he, hent⟩
    subst he
    obtain ⟨s6', d6⟩ := s6.frame f5.left.own d5.symm
    have hl6 : w6.heap[w.heap.size + 1]? = some (.loop { rec .ready none with state := .busy }) := s6'.sub _ _ (by rw [un_comm d6]; exact un_left_some put_emp_self)
    have hend := run_endRound (P := P) none hl6
    refine ⟨_, _, hend, ?_⟩
    have hsub6 : Sub (un (put emp (w.heap.size + 1) (.loop { rec .ready none with state := .busy })) h6) (hp w6) := by rw [un_comm d6.symm]; exact s6'.sub
    obtain ⟨s7, d7⟩ := Step.turn (o' := .loop (rec .ready none)) hsub6 d6.symm
    refine ⟨_, un (put emp (w.heap.size + 1) (.loop (rec .ready none))) h6, lop (w.heap.size + 1) (rec .ready none) :: G (i + 1), rfl, ?_, ⟨_, _, rfl, hent _ t6, d7, rfl⟩, rfl, rfl⟩
    have hr7 : ({ { rec .ready none with state := .busy } with state := if (none : Option Code).isNone then LoopState.ready else .done, pending := none } : Loop) = rec .ready none := by rw [hrec]; rfl
    rw [hr7]
    refine s45.trans (Step.trans ?_ s7)
    rw [un_comm d5, un_comm d6.symm]; exact s6'
  have hT := (H.iter (w.heap.size + 1) (rec .ready none) hY).frame [dfr w.heap.size]
  obtain ⟨W1, hW1⟩ : ∃ W1, (w.alloc (.deferred (some []))).alloc (.loop (rec .ready none)) = W1 := ⟨_, rfl⟩
  have hent : (Instr.enterLoop fn a.tmps ps asg body (FR none).round).run P w = .ok (w.heap.size + 1, [mark w.heap.size]) W1 := by
    rw [← hW1, hrec]; exact run_enterLoop_outer _ _ _ _ _
  rw [hW1] at s2 f2
  refine ⟨w.heap.size + 1, [mark w.heap.size], W1, { target := .fn (.func gf) lb, args := #[yv (w.heap.size + 1)] }, W1, gf, #[yv (w.heap.size + 1)] ++ lb, W1, hent, ?_, fun _ _ => trivial, ?_, (fun h => by cases h), ?_⟩
  · simp only [resolve, ho.eval H.hg]
    simp [go_sem, yv, Deferred.ofValue]
  · simp [invoke, run_callFunc H.ok]
  · refine (calls_FR (hT _ _ hsat2 f2)).mono ?_
    rintro e w5 ⟨v, h5, Γ5, rfl, s5, t5, Γ6, rfl, rfl⟩
    obtain ⟨hA, hB, q1, q2, hd5, rfl⟩ := (show sat (lop (w.heap.size + 1) (rec .ready none) :: (G N ++ [dfr w.heap.size])) h5 from t5)
    subst q1
    have hl5 : w5.heap[w.heap.size + 1]? = some (.loop (rec .ready none)) := s5.sub _ _ (un_left_some put_emp_self)
    obtain ⟨s6, d6⟩ := Step.turn (o' := .loop { rec .ready none with state := .exhausted }) s5.sub hd5
    have hend : (Instr.endLoop (w.heap.size + 1)).run P w5 = .ok none (w5.putObj (w.heap.size + 1) (.loop { rec .ready none with state := .exhausted })) := by
      have h1 := run_endLoop (P := P) hl5 (by rw [hrec]; simp)
      clear hY hT
      subst hrec
      exact h1
    refine ⟨none, _, hend, ?_⟩
    refine ⟨rfl, w.heap.size, _, ((s1.trans s2).trans s5).trans s6, ⟨ho.size, by simp [ho.defers, mark], ho.get⟩, ?_⟩
    rw [un_comm d6]
    exact sat_mono (sat_perm List.perm_append_comm q2) d6.symm
abbrev RQ (P : Program) (fn : Func) (R : Value → List HProp → Prop) (w : World) (h : Heap) : Exit → Act → World → Prop :=
  bodyPostM Fence.wide 0 P fn (fun e w' => ∃ v h' Γ', e = .returned v ∧ Step w h w' h' ∧ sat Γ' h' ∧ R v Γ')
/-- the end of a function that bears a mark -/
theorem fin_mark {fn : Func} {R : Value → List HProp → Prop} {w : World} {h : Heap} (hfi : Fits hR h w) {D : Nat} {ρ1 : Env} {a1 : Act} {w1 : World} {h1 : Heap} {G1 : List HProp} {e : Exit} (s1 : Step w h w1 h1) (o1 : Ok ⟨k, [mark D], none⟩ ρ1 a1) (t1 : sat (dfr D :: G1) h1)
    (hq : retQ P hR ⟨k, [mark D], none⟩ fn R e ρ1 G1) : RQ P fn R w h e a1 w1 := by
  obtain ⟨hA, hB, q1, q2, hd, rfl⟩ := t1
  subst q1
  obtain ⟨he, v, hv, hr⟩ := hq
  have hD : w1.heap[D]? = some (.deferred (some [])) := s1.sub _ _ (un_left_some put_emp_self)
  obtain ⟨s3, d3⟩ := Step.turn (o' := .deferred none) s1.sub hd
  have f3 := (hfi.step (s1.trans s3)).right d3
  have hres := hv a1 hB _ o1 q2 f3
  have lv : LeavesInM Fence.wide 0 P fn a1.tmps (fun e w' => ∃ v h' Γ', e = .returned v ∧ Step w h w' h' ∧ sat Γ' h' ∧ R v Γ') a1.defers .returning w1 := by
    have hdef : a1.defers = [mark D] := o1.defers
    rw [hdef]
    refine ⟨by simp, .inl ⟨D, _, rfl, run_takeDeferred hD, ?_⟩⟩
    refine ⟨v, hres, v, _, G1, rfl, s1.trans s3, ?_, hr⟩
    rw [un_comm d3]; exact sat_mono q2 d3.symm
  rcases he with rfl | rfl
  · exact lv
  · exact lv
theorem args_ok {fn : Func} {args : List Value} (hn : fn.ntmps = k) (hlen : args.length ≤ k) : Ok ⟨k, [], none⟩ (argEnv 0 args) { tmps := (⟨args⟩ : Array Value) ++ Array.replicate (fn.ntmps - (⟨args⟩ : Array Value).size) undef, defers := [] } := by
  refine ⟨by simp; omega, rfl, fun t v hv => ?_⟩
  obtain ⟨_, h2⟩ := argEnv_get args 0 t v hv
  have h2' : args[t]? = some v := by simpa using h2
  have hlt : t < args.length := (List.getElem?_eq_some_iff.1 h2').1
  show ((⟨args⟩ : Array Value) ++ _)[t]? = some v
  rw [Array.getElem?_append_left (by simpa using hlt)]
  simpa using h2'
/-- what is left of a function's code, up to its end -/
def WX (P : Program) (hR : Heap) (k : Nat) (fn : Func) (R : Value → List HProp → Prop) (c : Code) (ρ : Env) (Γ : List HProp) : Prop :=
  ∀ w0 h0 a h w, Fits hR h0 w0 → Step w0 h0 w h → Ok ⟨k, [], none⟩ ρ a → sat Γ h → c.wpIn (FR none) 0 P (RQ P fn R w0 h0) a w
theorem WX.pre {fn : Func} {R : Value → List HProp → Prop} {c1 c2 : Code} (H : WP P hR ⟨k, [], none⟩ c1 (fun e ρ Γ => e = .normal ∧ WX P hR k fn R c2 ρ Γ) ρ Γ) : WX P hR k fn R (.seq c1 c2) ρ Γ := by
  intro w0 h0 a h w hf0 s o t
  refine wpIn_seq (wpIn_mono (H a h w o t (hf0.step s)) ?_)
  rintro e a1 w1 ⟨h1, ρ1, Γ1, s1, o1, t1, rfl, q⟩
  exact q w0 h0 a1 h1 w1 hf0 (s.trans s1) o1 t1
theorem WX.last {fn : Func} {R : Value → List HProp → Prop} {id : Nat} (hps : ps.toList.all (fun t => decide (t < k)) = true) (hr : RangeAt P hR k ρ Γ g ps asg body G N argsOf gf lb) (h2 : ∀ D, retQ P hR ⟨k, [mark D], none⟩ fn R .normal ρ (G N)) :
    WX P hR k fn R (.block id (.rangeFunc g ps asg body)) ρ Γ := by
  intro w0 h0 a1 h1 w1 hfi s1 o1 t1
  refine wpIn_block (wpIn_mono (range_wp hr hps o1 t1 (hfi.step s1)) ?_)
  rintro e a2 w2 ⟨rfl, D, h3, s3, o3, t3⟩
  exact fin_mark hfi (s1.trans s3) o3 t3 (h2 D)
theorem WX.mid {fn : Func} {R : Value → List HProp → Prop} {id : Nat} {c1 c2 : Code} (hps : ps.toList.all (fun t => decide (t < k)) = true)
    (H : WP P hR ⟨k, [], none⟩ c1 (fun e ρ Γ => e = .normal ∧ ∃ G N argsOf gf lb, RangeAt P hR k ρ Γ g ps asg body G N argsOf gf lb ∧ ∀ D, WP P hR ⟨k, [mark D], none⟩ c2 (retQ P hR ⟨k, [mark D], none⟩ fn R) ρ (G N)) ρ Γ) :
    WX P hR k fn R (.seq (.seq c1 (.block id (.rangeFunc g ps asg body))) c2) ρ Γ := by
  intro w0 h0 a0 h00 w00 hfi s0 o0 t0
  refine wpIn_seq (wpIn_seq (wpIn_mono (H a0 h00 w00 o0 t0 (hfi.step s0)) ?_))
  rintro e a1 w1 ⟨h1, ρ1, Γ1, s1, o1, t1, rfl, G, N, argsOf, gf, lb, hr, h2⟩
  refine wpIn_block (wpIn_mono (range_wp hr hps o1 t1 (hfi.step (s0.trans s1))) ?_)
  rintro e a2 w2 ⟨rfl, D, h3, s3, o3, t3⟩
  obtain ⟨hA, hB, q1, q2, hd, rfl⟩ := t3
  have sAll := (s0.trans s1).trans s3
  have f1 := hfi.step sAll
  refine wpIn_mono (h2 D a2 hB w2 o3 q2 (f1.right hd)) ?_
  rintro e a4 w4 ⟨h4, ρ4, Γ4, s4, o4, t4, q4⟩
  obtain ⟨s4', d4⟩ := s4.frame f1.left.own hd.symm
  refine fin_mark hfi (sAll.trans ?_) o4 ⟨_, _, q1, t4, d4.symm, rfl⟩ q4
  rw [un_comm hd, un_comm d4.symm]; exact s4'
theorem Tri.ofWX {f : FuncId} {fn : Func} {c : Code} {args : List Value} {R : Value → List HProp → Prop} (hf : P.funcs[f]? = some fn) (hb : fn.body = some c) (hn : fn.ntmps = k) (hlen : args.length ≤ k)
    (H : WX P hR k fn R c (argEnv 0 args) Γ) : Tri P hR f ⟨args⟩ Γ R := fun h w hs hfi =>
  callsIn_wide.1 (callsIn_of_wp_marks (F := Fence.wide) (n := 0) hf hb trivial (H w h _ h w hfi (.refl hfi.own) (args_ok hn hlen) hs))
end
end Go.Sep
end
section
/- Shifts, bits, other kinds of integers. Over any program. -/
namespace Go.Sep
set_option linter.unusedVariables false
set_option linter.unusedSimpArgs false
section
variable {P : Program} {hR : Heap} {n : Fr} {cf : Op → Cls} {ops : Array Oper} {l : List Oper} {K : Env → List HProp → Prop} {ρ : Env} {Γ : List HProp} {o : Oper} {d : Nat}
def shiftR (op : BinOp) (k : IntKind) (a b : Int) : Option Value :=
  if b < 0 then none else
  match op with
  | .shl => some (.int k (k.wrap (a * 2 ^ (min b.toNat k.bits))))
  | .shr => some (.int k (a.fdiv (2 ^ (min b.toNat k.bits))))
  | _ => none
theorem Run.shift {op : BinOp} {T T' : TypeId} {x y : Operand} {k yk : IntKind} {a b : Int} {v : Value} (hop : o.op = .binOp op T x y T') (hx : ρ.val x = some (.int k a)) (hy : ρ.val y = some (.int yk b))
    (hv : shiftR op k a b = some v) (_hd : o.dst = some d) (hs : pre n cf ops ρ o d = true) (H : Run P hR n cf ops l K ((d, v) :: ρ) Γ) : Run P hR n cf ops (o :: l) K ρ Γ :=
  Run.val hs (fun A h ho ht w => by
    unfold shiftR at hv
    split at hv
    · cases hv
    rename_i hb
    cases op <;> simp only at hv <;> first | (cases hv; done) | skip
    all_goals
      cases hv
      simp [execOp, hop, ho.eval hx, ho.eval hy, eqGuard, binOp, Op.shift, hb]) H
theorem Run.conv {S T : TypeId} {us : TypeDesc} {x : Operand} {k k' : IntKind} {a : Int} (hop : o.op = .convert S T x) (hx : ρ.val x = some (.int k a)) (hS : P.underlying S = some us) (hT : P.underlying T = some (.int k'))
    (_hd : o.dst = some d) (hs : pre n cf ops ρ o d = true) (H : Run P hR n cf ops l K ((d, .int k' (k'.wrap a)) :: ρ) Γ) : Run P hR n cf ops (o :: l) K ρ Γ :=
  Run.val hs (fun A h ho ht w => by
    simp [execOp, hop, ho.eval hx, convert, underlying, hS, hT, Conv.intToInt]) H
end
/-- words of 64 bits -/
def Enc.u64 : Enc (BitVec 64) := ⟨1, fun x => [.int .u64 (x.toNat : Int)], fun _ => rfl, fun _ => rfl⟩
theorem wrap_u64 {m : Nat} (h : m < 18446744073709551616) : IntKind.u64.wrap (m : Int) = m := by
  unfold IntKind.wrap
  simp only [IntKind.bits, IntKind.signed, Bool.false_and, Bool.false_eq_true, if_false]
  omega
theorem and_u64 (a b : BitVec 64) : intOpR .and .u64 a.toNat b.toNat = some (.int .u64 ((a &&& b).toNat : Int)) := by
  have e : ∀ c : BitVec 64, BitVec.ofInt 64 (c.toNat : Int) = c := fun c => by simp
  show some (Value.int .u64 (IntKind.u64.wrap ((BitVec.ofInt 64 (a.toNat : Int) &&& BitVec.ofInt 64 (b.toNat : Int)).toNat : Int))) = _
  rw [e, e, wrap_u64 (BitVec.isLt _)]
theorem or_u64 (a b : BitVec 64) : intOpR .or .u64 a.toNat b.toNat = some (.int .u64 ((a ||| b).toNat : Int)) := by
  have e : ∀ c : BitVec 64, BitVec.ofInt 64 (c.toNat : Int) = c := fun c => by simp
  show some (Value.int .u64 (IntKind.u64.wrap ((BitVec.ofInt 64 (a.toNat : Int) ||| BitVec.ofInt 64 (b.toNat : Int)).toNat : Int))) = _
  rw [e, e, wrap_u64 (BitVec.isLt _)]
theorem andNot_u64 (a b : BitVec 64) : intOpR .andNot .u64 a.toNat b.toNat = some (.int .u64 ((a &&& ~~~ b).toNat : Int)) := by
  have e : ∀ c : BitVec 64, BitVec.ofInt 64 (c.toNat : Int) = c := fun c => by simp
  show some (Value.int .u64 (IntKind.u64.wrap ((BitVec.ofInt 64 (a.toNat : Int) &&& ~~~ BitVec.ofInt 64 (b.toNat : Int)).toNat : Int))) = _
  rw [e, e, wrap_u64 (BitVec.isLt _)]
theorem neq_u64 (a : BitVec 64) : intOpR .neq .u64 a.toNat 0 = some (.bool (decide (a ≠ 0#64))) := by
  show some (Value.bool (decide ((a.toNat : Int) ≠ 0))) = _
  congr 2
  have : ((a.toNat : Int) ≠ 0) ↔ a ≠ 0#64 := by
    constructor
    · intro h e; subst e; exact h rfl
    · intro h e; exact h (BitVec.eq_of_toNat_eq (by simp; omega))
  exact decide_eq_decide.2 this
end Go.Sep
end
section
/- Loops and meetings that keep the frame's other slots; pieces matched one by one. Over any program. -/
namespace Go.Sep
set_option linter.unusedVariables false
/-- all that the second knows is known in the first -/
def sup (ρ' ρ : Env) : Prop := ∀ t v, ρ.get t = some v → ρ'.get t = some v
theorem sup.refl (ρ : Env) : sup ρ ρ := fun _ _ h => h
theorem Ok.sup {n : Fr} {ρ ρ' : Env} {a : Act} (h : Ok n ρ a) (hc : sup ρ ρ') : Ok n ρ' a := ⟨h.size, h.defers, fun t v hv => h.get t v (hc t v hv)⟩
def hasS (t : Nat) : Env → Bool
  | [] => false
  | (u, _) :: r => Nat.beq t u || hasS t r
/-- what is new names only slots that are carried or that are not known -/
def newB (car ρ : Env) : Env → Bool
  | [] => true
  | (t, _) :: r => (hasS t car || !hasS t ρ) && newB car ρ r
theorem get_app : ∀ (a b : Env) (t : Nat), Env.get (a ++ b) t = if hasS t a = true then a.get t else b.get t
  | [], b, t => by simp [hasS]
  | (u, v) :: r, b, t => by
    simp only [List.cons_append, Env.get, hasS]
    have hb : Nat.beq t u = true ∨ Nat.beq t u = false := by cases Nat.beq t u <;> simp
    rcases hb with e | e
    · simp only [e, cond_true, Bool.true_or, if_true]
    · simp only [e, cond_false, Bool.false_or]; exact get_app r b t
theorem get_none : ∀ {ρ : Env} {t : Nat}, hasS t ρ = false → ρ.get t = none
  | [], _, _ => rfl
  | (u, v) :: r, t, h => by
    simp only [hasS, Bool.or_eq_false_iff] at h
    simp [Env.get, h.1, get_none h.2]
theorem newB_spec {car ρ : Env} {t : Nat} : ∀ {a : Env}, newB car ρ a = true → hasS t a = true → hasS t car = true ∨ hasS t ρ = false
  | (u, v) :: r, h, ht => by
    simp only [newB, Bool.and_eq_true, Bool.or_eq_true, Bool.not_eq_true'] at h
    simp only [hasS, Bool.or_eq_true] at ht
    rcases ht with ht | ht
    · have := Nat.eq_of_beq_eq_true ht; subst this; exact h.1
    · exact newB_spec h.2 ht
theorem covers_get {ρ' : Env} : ∀ {car : Env}, covers ρ' car → ∀ t v, car.get t = some v → ρ'.get t = some v := fun h => h.get
theorem sup_keep {ρ' car ρ : Env} (hc : covers ρ' car) (hd : ρ'.drop (ρ'.length - ρ.length) = ρ) (hn : newB car ρ (ρ'.take (ρ'.length - ρ.length)) = true) : sup ρ' (car ++ ρ) := by
  intro t v h
  rw [get_app] at h
  by_cases hs : hasS t car = true
  · rw [if_pos hs] at h; exact covers_get hc t v h
  · rw [if_neg hs] at h
    have e : ρ' = ρ'.take (ρ'.length - ρ.length) ++ ρ := by
      conv => lhs; rw [← List.take_append_drop (ρ'.length - ρ.length) ρ', hd]
    rw [e, get_app]
    split
    · rename_i hs2
      rcases newB_spec hn hs2 with h3 | h3
      · exact absurd h3 hs
      · rw [get_none h3] at h; cases h
    · exact h
section
variable {P : Program} {hR : Heap} {n : Fr} {Q : Exit → Env → List HProp → Prop} {ρ : Env} {Γ : List HProp}
theorem WP.sup {c : Code} {ρ' : Env} {Γ' : List HProp} (hc : sup ρ ρ') (he : ent Γ Γ') (H : WP P hR n c Q ρ' Γ') : WP P hR n c Q ρ Γ :=
  fun a h w ho hs hf => H a h w (ho.sup hc) (he h hs) hf
theorem WP.loopS {α : Type} {c : Code} (good : α → Prop) (env : α → Env) (mem : α → List HProp) (μ : α → Nat) (x0 : α) (hg : good x0) (hc : Go.Sep.sup ρ (env x0)) (he : ent Γ (mem x0))
    (round : ∀ x, good x → WP P hR n c (thn (fun ρ' Γ' => ∃ x', good x' ∧ μ x' < μ x ∧ Go.Sep.sup ρ' (env x') ∧ ent Γ' (mem x')) Q) (env x) (mem x)) : WP P hR n (.loop c) Q ρ Γ := by
  intro a h w ho hs hf
  let I : Act → World → Prop := fun a' w' => ∃ x h', good x ∧ Step w h w' h' ∧ Ok n (env x) a' ∧ sat (mem x) h'
  intro b ks cs hro hb hr
  have key : ∀ k x a' w' h', good x → μ x = k → Step w h w' h' → Ok n (env x) a' → sat (mem x) h' →
      ∃ e a2 w2, lift n Q w h e a2 w2 ∧ ArrivesIn (Machine.fenced P (FR n.ro)) P (lone (b.atR a' (.code c :: .inLoop c :: ks)) cs w') b ks cs e a2 w2 := by
    intro k
    induction k using Nat.strongRecOn with
    | _ k ih =>
      intro x a' w' h' g hk s o t
      obtain ⟨e, a1, w1, ⟨h1, ρ1, Γ1, s1, o1, t1, q⟩, harr⟩ := round x g a' h' w' o t (hf.step s) b (.inLoop c :: ks) cs hro hb hr
      cases e with
      | normal =>
        obtain ⟨x', g', hlt, hc', he'⟩ := q
        obtain ⟨e2, a2, w2, hq2, harr2⟩ := ih (μ x') (hk ▸ hlt) x' a1 w1 h1 g' rfl (s.trans s1) (o1.sup hc') (he' h1 t1)
        exact ⟨e2, a2, w2, hq2, .of_steps (StepsIn.trans harr (.one (fenced_calm hb hr rfl) stepR_inLoop)) harr2⟩
      | exit id => exact ⟨_, a1, w1, ⟨h1, ρ1, Γ1, s.trans s1, o1, t1, q⟩, .pass (x := .inLoop c) rfl (fun _ _ => .inl (by simp)) harr⟩
      | goto l => exact ⟨_, a1, w1, ⟨h1, ρ1, Γ1, s.trans s1, o1, t1, q⟩, .pass (x := .inLoop c) rfl (fun _ _ => .inl (by simp)) harr⟩
      | ret => exact ⟨_, a1, w1, ⟨h1, ρ1, Γ1, s.trans s1, o1, t1, q⟩, .pass (x := .inLoop c) rfl (fun _ _ => .inl (by simp)) harr⟩
      | panic ch => exact ⟨_, a1, w1, ⟨h1, ρ1, Γ1, s.trans s1, o1, t1, q⟩, .pass (x := .inLoop c) rfl (fun _ _ => .inl (by simp)) harr⟩
      | outgrown => exact ⟨_, a1, w1, ⟨h1, ρ1, Γ1, s.trans s1, o1, t1, q⟩, .pass (x := .inLoop c) rfl (fun _ _ => .inl (by simp)) harr⟩
  obtain ⟨e, a', w', hq, harr⟩ := key _ x0 a w h hg rfl (.refl hf.own) (ho.sup hc) (he h hs)
  exact ⟨e, a', w', hq, .of_steps (.one (fenced_calm hb hr rfl) stepR_loop) harr⟩
/-- the slots that change are told; the others stay as they are known -/
structure Kp (ρ' car ρ : Env) : Prop where
  hc : covers ρ' car
  hd : ρ'.drop (ρ'.length - ρ.length) = ρ
  hn : newB car ρ (ρ'.take (ρ'.length - ρ.length)) = true
theorem Kp.sup {ρ' car ρ : Env} (h : Kp ρ' car ρ) : Go.Sep.sup ρ' (car ++ ρ) := sup_keep h.hc h.hd h.hn
theorem WP.loopK {α : Type} {c : Code} (good : α → Prop) (car : α → Env) (mem : α → List HProp) (μ : α → Nat) (x0 : α) (hg : good x0) (hc : Kp ρ (car x0) ρ) (he : ent Γ (mem x0))
    (round : ∀ x, good x → WP P hR n c (thn (fun ρ' Γ' => ∃ x', good x' ∧ μ x' < μ x ∧ Kp ρ' (car x') ρ ∧ ent Γ' (mem x')) Q) (car x ++ ρ) (mem x)) : WP P hR n (.loop c) Q ρ Γ :=
  WP.loopS good (fun x => car x ++ ρ) mem μ x0 hg hc.sup he fun x g => (round x g).mono fun e ρ' Γ' h => by
    cases e with
    | normal => obtain ⟨x', g', m, k, en⟩ := h; exact ⟨x', g', m, k.sup, en⟩
    | _ => exact h
theorem WP.meetK {α : Type} {x y : Code} (good : α → Prop) (car : α → Env) (mem : α → List HProp) (H1 : WP P hR n x (thn (fun ρ' Γ' => ∃ z, good z ∧ Kp ρ' (car z) ρ ∧ ent Γ' (mem z)) Q) ρ Γ)
    (H2 : ∀ z, good z → WP P hR n y Q (car z ++ ρ) (mem z)) : WP P hR n (.seq x y) Q ρ Γ :=
  WP.seq (H1.mono fun e ρ' Γ' h => by
    cases e with
    | normal => obtain ⟨z, g, h1, h2⟩ := h; exact (H2 z g).sup h1.sup h2
    | _ => exact h)
end
/-! ### pieces, one by one -/
theorem ent.none (Γ : List HProp) : ent Γ [] := fun _ _ => trivial
theorem ent.at {Γ Δ : List HProp} {A : HProp} (k : Nat) (h : Γ[k]? = some A) (H : ent (Γ.eraseIdx k) Δ) : ent Γ (A :: Δ) := by
  have h1 := ent.perm (front_perm k Γ)
  unfold front at h1
  rw [h] at h1
  exact h1.trans (ent.cons (fun _ h => h) H)
/-- the pieces are matched one by one -/
theorem ent.go {Γ Δ : List HProp} (h : ent Γ Δ := by repeat first | exact ent.none _ | refine ent.at 0 rfl ?_ | refine ent.at 1 rfl ?_ | refine ent.at 2 rfl ?_ | refine ent.at 3 rfl ?_ | refine ent.at 4 rfl ?_ | refine ent.at 5 rfl ?_ | refine ent.at 6 rfl ?_ | refine ent.at 7 rfl ?_ | refine ent.at 8 rfl ?_ | refine ent.at 9 rfl ?_ | refine ent.at 10 rfl ?_ | refine ent.at 11 rfl ?_ | refine ent.at 12 rfl ?_ | refine ent.at 13 rfl ?_ | refine ent.at 14 rfl ?_ | refine ent.at 15 rfl ?_ | refine ent.at 16 rfl ?_ | refine ent.at 17 rfl ?_ | refine ent.at 18 rfl ?_ | refine ent.at 19 rfl ?_ | refine ent.at 20 rfl ?_ | refine ent.at 21 rfl ?_ | refine ent.at 22 rfl ?_ | refine ent.at 23 rfl ?_) : ent Γ Δ := h
/-- the same, the list made plain first -/
theorem ent.gn {Γ Δ : List HProp} (h : ent Γ Δ := by (try simp only [List.set_cons_zero, List.set_cons_succ, List.cons_append, List.nil_append]); repeat first | exact ent.none _ | refine ent.at 0 rfl ?_ | refine ent.at 1 rfl ?_ | refine ent.at 2 rfl ?_ | refine ent.at 3 rfl ?_ | refine ent.at 4 rfl ?_ | refine ent.at 5 rfl ?_ | refine ent.at 6 rfl ?_ | refine ent.at 7 rfl ?_ | refine ent.at 8 rfl ?_ | refine ent.at 9 rfl ?_ | refine ent.at 10 rfl ?_ | refine ent.at 11 rfl ?_ | refine ent.at 12 rfl ?_ | refine ent.at 13 rfl ?_ | refine ent.at 14 rfl ?_ | refine ent.at 15 rfl ?_ | refine ent.at 16 rfl ?_ | refine ent.at 17 rfl ?_ | refine ent.at 18 rfl ?_ | refine ent.at 19 rfl ?_ | refine ent.at 20 rfl ?_ | refine ent.at 21 rfl ?_ | refine ent.at 22 rfl ?_ | refine ent.at 23 rfl ?_) : ent Γ Δ := h
end Go.Sep
end
section
/- A region that calls yield, the call told by its place. Over any program. -/
namespace Go.Sep
section
variable {P : Program} {hR : Heap} {n : Fr} {Q : Exit → Env → List HProp → Prop} {ρ : Env} {Γ : List HProp}
theorem WP.plainYk (k : Nat) {id : Nat} {ops : Array Oper} (cf : Op → Cls) {o : Oper} {c : Call} {x : Operand} {d m : Nat} (ho : ops.toList[k]? = some o) (hop : o.op = .call c) (hc : c.callee = .value x) (hg : o.guard = none)
    (hd : o.dst = some d) (hdn : decide (d < n.k) = true) (hn : ndB n.ro ops = true) (hro : n.ro = none)
    (H : Run P hR n cf ops (ops.toList.take k) (fun ρ Γ => ∃ vs Δ Θ R, ρ.val x = some (yv m) ∧ collectV (c.args.toList.map ρ.val) = some vs ∧ ent Γ (Δ ++ Θ) ∧ Yld P hR m vs Δ R ∧
      ∀ v Γ', R v Γ' → Run P hR n cf ops (ops.toList.drop (k + 1)) (Q .normal) ((d, v) :: ρ) (Γ' ++ Θ)) ρ Γ) : WP P hR n (.region id ops false) Q ρ Γ := by
  obtain ⟨l⟩ := ops
  have e : l = l.take k ++ o :: l.drop (k + 1) := by
    obtain ⟨h1, h2⟩ := List.getElem?_eq_some_iff.1 ho
    conv => lhs; rw [← List.take_append_drop k l, List.drop_eq_getElem_cons h1, h2]
  exact WP.plainY (l1 := l.take k) (l2 := l.drop (k + 1)) (o := o) cf (congrArg _ e) hop hc hg hd hdn H hn hro
end
end Go.Sep
namespace Go.Sep
section
variable {P : Program} {hR : Heap} {k : Nat} {ρ : Env} {Γ : List HProp} {fn : Func} {R : Value → List HProp → Prop}
theorem WX.sup {c : Code} {ρ' : Env} {Γ' : List HProp} (hc : Go.Sep.sup ρ ρ') (he : ent Γ Γ') (H : WX P hR k fn R c ρ' Γ') : WX P hR k fn R c ρ Γ :=
  fun w0 h0 a h w hf s o t => H w0 h0 a h w hf s (o.sup hc) (he h t)
theorem WX.meetK {α : Type} {c1 c2 : Code} (good : α → Prop) (car : α → Env) (mem : α → List HProp) (H1 : WP P hR ⟨k, [], none⟩ c1 (fun e ρ' Γ' => e = .normal ∧ ∃ z, good z ∧ Kp ρ' (car z) ρ ∧ ent Γ' (mem z)) ρ Γ)
    (H2 : ∀ z, good z → WX P hR k fn R c2 (car z ++ ρ) (mem z)) : WX P hR k fn R (.seq c1 c2) ρ Γ :=
  WX.pre (H1.mono fun e ρ' Γ' ⟨he, z, g, h1, h2⟩ => ⟨he, (H2 z g).sup h1.sup h2⟩)
theorem Tri.ent {f : FuncId} {args : Array Value} {R0 : Value → List HProp → Prop} (H : Tri P hR f args Γ (fun v Γ' => ∃ Δ, Go.Sep.ent Γ' Δ ∧ R0 v Δ)) : Tri P hR f args Γ R0 :=
  fun h w hs hf => (H h w hs hf).mono fun e w' ⟨v, h', Γ', he, s, t, Δ, hd, r⟩ => ⟨v, h', Δ, he, s, hd h' t, r⟩
end
end Go.Sep
namespace Go.Sep
def ndL : List Oper → Bool
  | [] => true
  | o :: l => ndO o && ndL l
theorem ndL_all : ∀ l : List Oper, ndL l = l.all ndO
  | [] => rfl
  | o :: l => by simp [ndL, ndL_all l]
theorem nd_of {ro : Option Nat} {ops : Array Oper} (h : ndL ops.toList = true) : ndB ro ops = true := by
  cases ro with
  | none => rfl
  | some l => show ops.all ndO = true; rw [← Array.all_toList, ← ndL_all]; exact h
end Go.Sep
end
section
/- copy, onto a slice that is owned, of as many elements. Over any program. -/
namespace Go.Sep
section
variable {P : Program} {hR : Heap} {n : Fr} {cf : Op → Cls} {ops : Array Oper} {l : List Oper} {K : Env → List HProp → Prop} {ρ : Env} {Γ : List HProp} {o : Oper} {d : Nat}
variable {A : Type} {TE : TypeId} {E : Enc A} {v : Value} {xs ys : List A}
theorem splice_over (pre X Y post : List Value) (h : Y.length = X.length) : setManyL (pre ++ X ++ post) pre.length Y = pre ++ Y ++ post := by
  apply List.ext_getElem?
  intro j
  rw [setManyL_get _ _ _ _ (by simp only [List.length_append]; omega)]
  by_cases h1 : pre.length ≤ j ∧ j < pre.length + Y.length
  · rw [if_pos h1, List.append_assoc, List.getElem?_append_right (by omega), List.getElem?_append_left (by omega)]
  · rw [if_neg h1, List.append_assoc, List.append_assoc]
    by_cases h2 : j < pre.length
    · rw [List.getElem?_append_left h2, List.getElem?_append_left h2]
    · rw [List.getElem?_append_right (by omega), List.getElem?_append_right (by omega), List.getElem?_append_right (by omega), List.getElem?_append_right (by omega), h]
theorem src_rows (m : Nat) {TE2 : TypeId} {p : List (SV × List A)} {i : Nat} {sv : SV} (hm : Γ[m]? = some (rows TE2 E p)) (hi : p[i]? = some (sv, ys)) : ∀ h w, sat Γ h → Fits hR h w → SlR E.rd (hp w) sv.val ys := fun _ _ hs hf => by
  obtain ⟨h1, h2, g1, hd, e, _⟩ := sat_get hs hm
  subst e
  exact (sat_rows g1 hi).mono ((sub_un_left h1 h2).trans hf.own)
theorem Run.copyO (k : Nat) {T T2 EE : TypeId} {x y : Operand} {v2 : Value} {by' : Nat} (hop : o.op = .call { callee := .builtin .copy, args := #[x, y], argTypes := #[T, T2] }) (hx : ρ.val x = some v) (hy : ρ.val y = some v2)
    (_hd : o.dst = some d) (hs : preC .E n cf ops ρ o d = true) (hk : Γ[k]? = some (slA TE E v xs)) (hT : slT P T = some (EE, E.sz, by')) (hsrc : ∀ h w, sat Γ h → Fits hR h w → SlR E.rd (hp w) v2 ys) (hl : ys.length = xs.length)
    (H : Run P hR n cf ops l K ((d, .int .i64 (ys.length : Int)) :: ρ) (Γ.set k (slA TE E v ys))) : Run P hR n cf ops (o :: l) K ρ Γ := by
  intro a h ho ht hlv
  obtain ⟨h1, h2, h3, h4⟩ := preC_spec hs
  obtain ⟨hu, inf, hinf, hisz, hiby⟩ := slT_spec hT
  unfold opsRun
  rw [gd_wanted ho h4, if_pos rfl, h3]
  intro w f
  obtain ⟨g1, g2, gA, hd, e, hset⟩ := sat_get ht hk
  have hY := hsrc h w ht f
  suffices hres : ∃ (w' : World) (g1' : Heap), (Builtin.copy_ #[T, T2] o.type #[v, v2]).run P w = .ok (.int .i64 (ys.length : Int)) w' ∧ slA TE E v ys g1' ∧ Disj g1' g2 ∧ Step w h w' (un g1' g2) by
    obtain ⟨w', g1', hr, hA', hd', hst⟩ := hres
    unfold Oper.wp
    have hrun : (execOp a.eval o).run P w = .ok (.value (.int .i64 (ys.length : Int))) w' := by
      simp [execOp, hop, resolve, invoke, builtin, ho.eval hx, ho.eval hy, hr]
    rw [hrun]
    refine ⟨_, hst, ?_⟩
    rw [h1]
    exact H _ _ (ho.put h2 _) (hset _ _ hA' hd') ⟨_, f.step hst⟩
  have hY2 := hY
  obtain ⟨a2, c2, rfl, _, hsome⟩ := hY2
  have hnews : (ys.flatMap E.cells).length = ys.length * inf.size := by rw [flat_len, hisz]
  have hf1 : (Builtin.firstCells inf.size ys.length (.slice a2 ys.length c2)).run P w = .ok (ys.flatMap E.cells).toArray w := by
    by_cases hne : ys = []
    · subst hne
      cases a2 with
      | none => exact run_firstCells_none w _ _ _ _
      | some ad => exact run_firstCells_some w inf.size 0 ad 0 c2 [] (by simp) (by simp)
    · obtain ⟨ad, rfl, _⟩ := hsome hne
      exact run_firstCells_some w inf.size ys.length ad ys.length c2 _ hnews (cells_of_SlR hY hne)
  rcases gA with ⟨rfl, rfl, hg1⟩ | ⟨b, o', c, pre, post, rfl, q1, q2, q3, q4⟩
  · have : ys = [] := List.length_eq_zero_iff.1 (by simpa using hl)
    subst this
    refine ⟨w, g1, ?_, .inl ⟨rfl, rfl, hg1⟩, hd, by rw [← e]; exact .refl f.own⟩
    simp at hf1
    simp [Builtin.copy_, underlying, hu, sizeOf, typeInfo, hinf, Builtin.lenOf, hf1, goInt]
  · subst q4
    have hbw : hp w b = some (.cells ⟨pre ++ xs.flatMap E.cells ++ post⟩ TE (0, 0)) := f.own b _ (by rw [e]; exact un_left_some put_emp_self)
    have hlx := flat_len E xs
    have hly := flat_len E ys
    have hsc := run_storeCells (P := P) (off := o') (ys.flatMap E.cells) ⟨pre ++ xs.flatMap E.cells ++ post⟩ 0 w hbw (by
      unfold oneCells; rw [List.all_flatMap]; exact List.all_eq_true.2 fun y _ => E.one y) (by simp only [List.size_toArray, List.length_append]; rw [hlx, hly, hl]; omega)
    rw [Nat.add_zero, setMany_list] at hsc
    have hnew : setManyL (pre ++ xs.flatMap E.cells ++ post) o' (ys.flatMap E.cells) = pre ++ ys.flatMap E.cells ++ post := by
      rw [← q2]; exact splice_over _ _ _ _ (by rw [hlx, hly, hl])
    rw [hnew] at hsc
    have hst := step_write (ob' := .cells ⟨pre ++ ys.flatMap E.cells ++ post⟩ TE (0, 0)) (by rw [← e]; exact f.own) hd e
    refine ⟨_, put emp b (.cells ⟨pre ++ ys.flatMap E.cells ++ post⟩ TE (0, 0)), ?_, ?_, ?_, hst⟩
    · have hmin : Nat.min ys.length xs.length = ys.length := by rw [hl]; exact Nat.min_self _
      have hmin2 : min ys.length xs.length = ys.length := hmin
      simp [Builtin.copy_, underlying, hu, sizeOf, typeInfo, hinf, Builtin.lenOf, hmin, hmin2, hf1, hsc, goInt]
    · exact .inr ⟨b, o', c, pre, post, by rw [hl], by omega, q2, by rw [hl]; exact q3, rfl⟩
    · intro cc
      by_cases hcc : cc = b
      · subst hcc; exact .inr ((hd cc).resolve_left (by simp [put]))
      · exact .inl (by simp [put, hcc, emp])
end
end Go.Sep
end
section
/- clear of what lies behind a place of a slice that is owned. Over any program. -/
namespace Go.Sep
section
variable {P : Program} {hR : Heap} {n : Fr} {cf : Op → Cls} {ops : Array Oper} {l : List Oper} {K : Env → List HProp → Prop} {ρ : Env} {Γ : List HProp} {o : Oper}
variable {A : Type} {TE : TypeId} {E : Enc A} {xs : List A}
theorem zeroCells_one {z : Array Value} (h : oneCells z.toList = true) (k : Nat) : oneCells (Builtin.zeroCells z k).toList = true := by
  unfold oneCells at h ⊢
  rw [List.all_eq_true] at h ⊢
  intro x hx
  unfold Builtin.zeroCells at hx
  simp only [Array.toList_map, List.mem_map, Array.toList_range, List.mem_range] at hx
  obtain ⟨i, hi, rfl⟩ := hx
  have hpos : 0 < z.size := by
    rcases Nat.eq_zero_or_pos z.size with e | e
    · rw [e, Nat.mul_zero] at hi; omega
    · exact e
  refine h _ ?_
  have : i % z.size < z.size := Nat.mod_lt _ hpos
  rw [getElem!_pos z _ this]
  exact Array.getElem_mem_toList this
theorem Run.clearTail (k lo : Nat) {T EE : TypeId} {x : Operand} {sv : SV} {by' : Nat} {z : Value} {z0 : A} (hop : o.op = .call { callee := .builtin .clear, args := #[x], argTypes := #[T] })
    (hx : ρ.val x = some (sv.cut E.sz lo sv.n).val) (hs : preN .E cf ops ρ o = true) (hk : Γ[k]? = some (slA TE E sv.val xs)) (hT : slT P T = some (EE, E.sz, by')) (hz : zr P EE = some z) (hz0 : z.cells = ⟨E.cells z0⟩) (hlo : lo ≤ xs.length)
    (H : Run P hR n cf ops l K ρ (Γ.set k (slA TE E (sv.cut E.sz 0 lo).val (xs.take lo)))) : Run P hR n cf ops (o :: l) K ρ Γ := by
  intro a h ho ht hlv
  obtain ⟨h1, h3, h4⟩ := preN_spec hs
  obtain ⟨hu, inf, hinf, hisz, hiby⟩ := slT_spec hT
  unfold opsRun
  rw [gd_wanted ho h4, if_pos rfl, h3]
  intro w f
  obtain ⟨g1, g2, gA, hd, e, hset⟩ := sat_get ht hk
  suffices hres : ∃ (w' : World) (g1' : Heap), (Builtin.clear_ #[T] o.type #[(sv.cut E.sz lo sv.n).val]).run P w = .ok (.tuple #[]) w' ∧ slA TE E (sv.cut E.sz 0 lo).val (xs.take lo) g1' ∧ Disj g1' g2 ∧ Step w h w' (un g1' g2) by
    obtain ⟨w', g1', hr, hA', hd', hst⟩ := hres
    unfold Oper.wp
    have hrun : (execOp a.eval o).run P w = .ok (.value (.tuple #[])) w' := by
      simp [execOp, hop, resolve, invoke, builtin, ho.eval hx, hr]
    rw [hrun]
    refine ⟨_, hst, ?_⟩
    rw [h1]
    exact H _ _ ho (hset _ _ hA' hd') ⟨_, f.step hst⟩
  obtain ⟨sa, sn, sc⟩ := sv
  rcases gA with ⟨hv, hx0, hg1⟩ | ⟨b, o', c, pre, post, hv, q1, q2, q3, q4⟩
  · simp only [SV.val, Value.slice.injEq] at hv
    obtain ⟨rfl, rfl, rfl⟩ := hv
    subst hx0
    have hl0 : lo = 0 := by simpa using hlo
    subst hl0
    refine ⟨w, g1, ?_, .inl ⟨rfl, rfl, hg1⟩, hd, by rw [← e]; exact .refl f.own⟩
    simp [Builtin.clear_, underlying, hu, SV.cut, SV.val]
  · simp only [SV.val, Value.slice.injEq] at hv
    obtain ⟨rfl, rfl, rfl⟩ := hv
    subst q4
    have hbw : hp w b = some (.cells ⟨pre ++ xs.flatMap E.cells ++ post⟩ TE (0, 0)) := f.own b _ (by rw [e]; exact un_left_some put_emp_self)
    have hlx := flat_len E xs
    have htk : (xs.take lo).length = lo := by rw [List.length_take]; omega
    have hsplit : xs.flatMap E.cells = (xs.take lo).flatMap E.cells ++ (xs.drop lo).flatMap E.cells := by rw [← List.flatMap_append, List.take_append_drop]
    have hlt1 := flat_len E (xs.take lo)
    have hlt2 := flat_len E (xs.drop lo)
    rw [htk] at hlt1
    rw [List.length_drop] at hlt2
    have hcut0 : (SV.cut ⟨some ⟨b, o', none⟩, xs.length, sc⟩ E.sz 0 lo).val = .slice (some ⟨b, o', none⟩) (xs.take lo).length sc := by
      simp [SV.cut, SV.val, htk, Addr.add]
    have hpost : ∀ Y : List Value, Y.length = (xs.length - lo) * E.sz → slA TE E (SV.cut ⟨some ⟨b, o', none⟩, xs.length, sc⟩ E.sz 0 lo).val (xs.take lo) (put emp b (.cells ⟨pre ++ (xs.take lo).flatMap E.cells ++ (Y ++ post)⟩ TE (0, 0))) := fun Y hY => by
      refine .inr ⟨b, o', sc, pre, Y ++ post, hcut0, by omega, q2, ?_, rfl⟩
      rw [htk, List.length_append, hY]
      have : sc - lo = (xs.length - lo) + (sc - xs.length) := by omega
      rw [this, Nat.add_mul]; omega
    by_cases hfull : xs.length - lo = 0
    · refine ⟨w, put emp b (.cells ⟨pre ++ xs.flatMap E.cells ++ post⟩ TE (0, 0)), ?_, ?_, hd, by rw [← e]; exact .refl f.own⟩
      · by_cases hsc : sc = lo <;> simp [Builtin.clear_, underlying, hu, SV.cut, SV.val, hfull, hsc]
      · have := hpost ((xs.drop lo).flatMap E.cells) hlt2
        rw [hsplit]
        simpa [List.append_assoc] using this
    · have hsc : sc ≠ lo := by omega
      have hzs : z.cells.size = E.sz := by rw [hz0]; simpa using E.len z0
      have hY : (Builtin.zeroCells z.cells (xs.length - lo)).toList.length = (xs.length - lo) * E.sz := by rw [Array.length_toList, zeroCells_size, hzs]
      have hone := zeroCells_one (z := z.cells) (by rw [hz0]; exact E.one z0) (xs.length - lo)
      have hsto := run_storeCells (P := P) (off := o' + lo * E.sz) (Builtin.zeroCells z.cells (xs.length - lo)).toList ⟨pre ++ xs.flatMap E.cells ++ post⟩ 0 w hbw hone (by
        simp only [List.size_toArray, List.length_append, hY, hlx, Nat.add_zero, q2]
        have : xs.length * E.sz = lo * E.sz + (xs.length - lo) * E.sz := by rw [← Nat.add_mul]; congr 1; omega
        omega)
      rw [Nat.add_zero, setMany_list] at hsto
      have hnew : setManyL (pre ++ xs.flatMap E.cells ++ post) (o' + lo * E.sz) (Builtin.zeroCells z.cells (xs.length - lo)).toList = pre ++ (xs.take lo).flatMap E.cells ++ ((Builtin.zeroCells z.cells (xs.length - lo)).toList ++ post) := by
        have h9 := splice_over (pre ++ (xs.take lo).flatMap E.cells) ((xs.drop lo).flatMap E.cells) (Builtin.zeroCells z.cells (xs.length - lo)).toList post (by rw [hY, hlt2])
        have e1 : pre ++ (xs.take lo).flatMap E.cells ++ (xs.drop lo).flatMap E.cells ++ post = pre ++ xs.flatMap E.cells ++ post := by rw [hsplit]; simp [List.append_assoc]
        have e2 : (pre ++ (xs.take lo).flatMap E.cells).length = o' + lo * E.sz := by rw [List.length_append, hlt1, q2]
        rw [e1, e2] at h9
        rw [h9, List.append_assoc]
      rw [hnew] at hsto
      have hst := step_write (ob' := .cells ⟨pre ++ (xs.take lo).flatMap E.cells ++ ((Builtin.zeroCells z.cells (xs.length - lo)).toList ++ post)⟩ TE (0, 0)) (by rw [← e]; exact f.own) hd e
      refine ⟨_, _, ?_, hpost _ hY, ?_, hst⟩
      · simp [Builtin.clear_, underlying, hu, SV.cut, SV.val, hsc, add_lit, zr_spec hz, hsto]
      · intro cc
        by_cases hcc : cc = b
        · subst hcc; exact .inr ((hd cc).resolve_left (by simp [put]))
        · exact .inl (by simp [put, hcc, emp])
end
end Go.Sep
end
