/- A region that draws its order, in two parts: in the first one a piece of memory is only read (its readings stand in no order), in the second one, which is behind all of the first, it may be written. Over any program. -/
import Derived.Test.YtengcfamhoppbaaS22
namespace Go.Sep

def chkL2 (cl : Nat → Cls) (ops : Array Oper) (m : Array Nat) (l2 : List Nat) : List Nat → Bool
  | [] => true
  | x :: l => predsB ops x (x :: l ++ l2) && l.all (fun y => (m.getD y 0).testBit x || (swapC (cl x) (cl y) && apartB ops y x)) && chkL2 cl ops m l2 l
def chk2 (cl : Nat → Cls) (ops : Array Oper) (l1 l2 : List Nat) : Bool :=
  permB ops.size (l1 ++ l2) && Region.noSelect ops && chkL2 cl ops (masks ops) l2 l1 && chkL cl ops (masks ops) l2 && l2.all fun y => l1.all fun x => ((masks ops).getD y 0).testBit x

section
variable {P : Program} {hR : Heap} {ops : Array Oper} {cl : Nat → Cls}

theorem chkL2_chkL {m : Array Nat} {l2 : List Nat} : ∀ {l : List Nat}, chkL2 cl ops m l2 l = true → chkL cl ops m l = true
  | [], _ => rfl
  | x :: l, h => by
    simp only [chkL2, Bool.and_eq_true] at h
    simp only [chkL, Bool.and_eq_true]
    refine ⟨⟨?_, h.1.2⟩, chkL2_chkL h.2⟩
    have h1 := h.1.1
    unfold predsB at h1 ⊢
    split
    · rename_i o ho
      simp only [ho] at h1
      rw [Array.all_eq_true_iff_forall_mem] at h1 ⊢
      intro e he
      have h2 := h1 e he
      simp only [Bool.or_eq_true, Bool.and_eq_true, Bool.not_eq_true', decide_eq_true_eq] at h2 ⊢
      refine h2.imp id fun h3 => ⟨h3.1, ?_⟩
      have h4 := h3.2
      simp only [List.contains_eq_mem, decide_eq_false_iff_not, List.mem_append, not_or] at h4 ⊢
      exact h4.1
    · rename_i ho; simp only [ho] at h1; cases h1

theorem chkL2_erase {m : Array Nat} {l2 : List Nat} {i : Nat} : ∀ {l : List Nat}, chkL2 cl ops m l2 l = true → chkL2 cl ops m l2 (l.erase i) = true
  | [], _ => rfl
  | x :: l, h => by
    simp only [chkL2, Bool.and_eq_true] at h
    rw [List.erase_cons]
    split
    · exact h.2
    · simp only [chkL2, Bool.and_eq_true]
      refine ⟨⟨?_, ?_⟩, chkL2_erase h.2⟩
      · have h1 := h.1.1
        unfold predsB at h1 ⊢
        split
        · rename_i o ho
          simp only [ho] at h1
          rw [Array.all_eq_true_iff_forall_mem] at h1 ⊢
          intro e he
          have h2 := h1 e he
          simp only [Bool.or_eq_true, Bool.and_eq_true, Bool.not_eq_true', decide_eq_true_eq] at h2 ⊢
          refine h2.imp id fun h3 => ⟨h3.1, ?_⟩
          have h4 := h3.2
          simp only [List.contains_eq_mem, decide_eq_false_iff_not, List.mem_append, List.mem_cons, not_or] at h4 ⊢
          exact ⟨⟨h4.1.1, fun hm => h4.1.2 (List.mem_of_mem_erase hm)⟩, h4.2⟩
        · rename_i ho; simp only [ho] at h1; cases h1
      · rw [List.all_eq_true] at *
        exact fun y hy => h.1.2 y (List.mem_of_mem_erase hy)

theorem Fits.unfreeze {hF h1 : Heap} {w : World} (hd : Disj hR hF) (f : Fits (un hR hF) h1 w) : Fits hR (un h1 hF) w := by
  have hd1 := un_disj.1 f.apart
  refine ⟨fun b o hb => f.ro b o (sub_un_left hR hF b o hb), fun b o hb => ?_, disj_un.2 ⟨hd1.1, hd⟩⟩
  unfold un at hb
  cases hx : h1 b with
  | some o' => simp [hx] at hb; subst hb; exact f.own b _ hx
  | none => simp [hx] at hb; exact f.ro b o (sub_un_right hd b o hb)

theorem wpAny_of_run2 {Q : Exit → Act → World → Prop} {K : Act → Heap → Prop} {w0 : World} {h0 hF : Heap} (hd : Disj hR hF) (hsel : Region.noSelect ops = true)
    (hQ : ∀ a h w, Step w0 h0 w h → K a h → Q .normal a w) (l2 : List Nat) (hchk2 : chkL cl ops (masks ops) l2 = true) : ∀ (fuel : Nat) (l1 : List Nat) (listed : Array Bool) (a : Act) (h1 : Heap) (w : World),
      (∀ i, i ∈ l1 ++ l2 ↔ i < ops.size ∧ listed.getD i true = false) → (l1 ++ l2).Nodup → listed.size = ops.size → Closed ops listed → chkL2 cl ops (masks ops) l2 l1 = true → (∀ y ∈ l2, ∀ x ∈ l1, ((masks ops).getD y 0).testBit x = true) →
      (l1 ++ l2).length ≤ fuel → Fits (un hR hF) h1 w → Step w0 h0 w (un h1 hF) → ARun P (un hR hF) cl ops l1 a h1 (fun a' h1' => ARun P hR cl ops l2 a' (un h1' hF) K) → wpAny P .any ops Q fuel listed a w := by
  intro fuel
  induction fuel with
  | zero =>
    intro l1 listed a h1 w hmem hnd hsz hcl hc1 hx hlen f s H
    have e : l1 = [] := List.length_eq_zero_iff.1 (by rw [List.length_append] at hlen; omega)
    subst e
    exact wpAny_of_run hsel hQ 0 l2 listed a _ w hmem hnd hsz hcl hchk2 (by simpa using hlen) (f.unfreeze hd) s H
  | succ fuel ih =>
    intro l1 listed a h1 w hmem hnd hsz hcl hc1 hx hlen f s H
    cases hl1 : l1 with
    | nil =>
      subst hl1
      exact wpAny_of_run hsel hQ (fuel + 1) l2 listed a _ w hmem hnd hsz hcl hchk2 (by simpa using hlen) (f.unfreeze hd) s H
    | cons x0 l1' =>
    have hx0 : x0 ∈ l1 := by rw [hl1]; simp
    refine ⟨fun hr => ?_, fun i hi => ?_⟩
    · exfalso
      have hx := (hmem x0).1 (List.mem_append_left _ hx0)
      rw [hl1] at hc1
      simp only [chkL2, Bool.and_eq_true] at hc1
      have h1 := hc1.1.1
      unfold predsB at h1
      have ho : ops[x0]? = some ops[x0] := Array.getElem?_eq_getElem hx.1
      simp only [ho] at h1
      have : x0 ∈ Region.ready .any ops listed := by
        rw [mem_ready]
        refine ⟨hx.2, _, ho, fun e he hb => ?_⟩
        have h2 := Array.all_eq_true_iff_forall_mem.1 h1 e he
        simp only [hb, Bool.not_true, Bool.false_or, Bool.and_eq_true, decide_eq_true_eq, Bool.not_eq_true', List.contains_eq_mem, decide_eq_false_iff_not] at h2
        cases hg : listed.getD e.on false with
        | true => rfl
        | false => exact absurd ((hmem e.on).2 ⟨h2.1, by
            rw [Array.getD_eq_getD_getElem?, Array.getElem?_eq_getElem (by omega)] at hg ⊢; exact hg⟩) (by rw [hl1]; exact h2.2)
      rw [hr] at this; cases this
    · have hi' := mem_ready.1 hi
      obtain ⟨hun, o, ho, hpre⟩ := hi'
      have hil : i ∈ l1 ++ l2 := (hmem i).2 ⟨(Array.getElem?_eq_some_iff.1 ho).1, hun⟩
      have hdir : ∀ k, Edged ops k i → listed.getD k false = true := fun k ⟨o', ho', e, he, hb, hk⟩ => by
        rw [ho] at ho'; cases ho'; rw [← hk]; exact hpre e he hb
      have hA : ∀ x ∈ l1 ++ l2, ¬ Anc ops x i := fun x hx ha => by
        have h1 := hcl.anc ha hdir
        have h2 := ((hmem x).1 hx).2
        have h3 := ((hmem x).1 hx).1
        rw [Array.getD_eq_getD_getElem?, Array.getElem?_eq_getElem (by omega)] at h1 h2
        simp only [Option.getD_some] at h1 h2
        rw [h1] at h2; cases h2
      have hi1 : i ∈ l1 := by
        rcases List.mem_append.1 hil with h | h
        · exact h
        · exact absurd (masks_spec (hx i h x0 hx0)) (hA x0 (List.mem_append_left _ hx0))
      have hi2 : i ∉ l2 := fun h => by
        obtain ⟨_, _, h3⟩ := List.nodup_append.1 hnd
        exact h3 i hi1 i h rfl
      have H1 := bubble hsel (fun x hx => masks_spec hx) (fun x hx => hA x (List.mem_append_left _ hx)) hi1 (chkL2_chkL hc1) ⟨w, f⟩ H
      refine AStep.wpOp f (fun a' h' w' s' k => ?_) H1
      have hlen' : (l1.erase i).length = l1.length - 1 := List.length_erase_of_mem hi1
      have hpos : 0 < l1.length := List.length_pos_of_mem hi1
      have hfr := s'.frame (g := hF) (fun b o hb => f.ro b o (sub_un_right hd b o hb)) ((un_disj.1 f.apart).2.symm)
      refine ih (l1.erase i) _ a' h' w' (fun j => ?_) ?_ (by simp [hsz]) (fun j k hj he => ?_) (chkL2_erase hc1) (fun y hy x hx' => hx y hy x (List.mem_of_mem_erase hx')) (by rw [List.length_append] at hlen ⊢; omega) (f.step s') (s.trans hfr.1) k
      · have key : j ∈ l1.erase i ++ l2 ↔ j ≠ i ∧ j ∈ l1 ++ l2 := by
          rw [List.mem_append, List.mem_append, (List.nodup_append.1 hnd).1.mem_erase_iff]
          constructor
          · rintro (⟨h1, h2⟩ | h2)
            · exact ⟨h1, .inl h2⟩
            · exact ⟨fun e => hi2 (e ▸ h2), .inr h2⟩
          · rintro ⟨h1, h2 | h2⟩
            · exact .inl ⟨h1, h2⟩
            · exact .inr h2
        rw [key, hmem]
        by_cases hji : i = j
        · subst hji; simp [hsz] <;> (intros; omega)
        · rw [getD_set_ne true hji]; constructor
          · exact fun h => h.2
          · exact fun h => ⟨Ne.symm hji, h⟩
      · obtain ⟨n1, n2, n3⟩ := List.nodup_append.1 hnd
        exact List.nodup_append.2 ⟨n1.erase i, n2, fun x hx' y hy => n3 x (List.mem_of_mem_erase hx') y hy⟩
      · by_cases hji : i = j
        · subst hji; exact getD_set_true (hdir k he)
        · rw [getD_set_ne false hji] at hj; exact getD_set_true (hcl j k hj he)

theorem wp_region_drawn2 {Q : Exit → Act → World → Prop} {K : Act → Heap → Prop} {id : Nat} {a : Act} {h1 hF : Heap} {w : World} (l1 l2 : List Nat) (hm : P.follows .mixedOrders = true)
    (hchk : chk2 cl ops l1 l2 = true) (hd : Disj hR hF) (hQ : ∀ a h' w', Step w (un h1 hF) w' h' → K a h' → Q .normal a w') (f : Fits (un hR hF) h1 w)
    (H : ARun P (un hR hF) cl ops l1 a h1 (fun a' h1' => ARun P hR cl ops l2 a' (un h1' hF) K)) : (Code.region id ops true).wp P Q a w := by
  simp only [chk2, Bool.and_eq_true] at hchk
  obtain ⟨⟨⟨⟨hp, hs⟩, hc1⟩, hc2⟩, hcross⟩ := hchk
  obtain ⟨p1, p2, p3⟩ := permB_spec hp
  have f0 : Fits hR (un h1 hF) w := f.unfreeze hd
  have hst : Step w (un h1 hF) { w with drawn := w.drawn + 1 } (un h1 hF) := ⟨f0.own, Nat.le_refl _, fun _ _ _ => rfl, fun _ hb => .inl hb, ⟨rfl, rfl, rfl⟩⟩
  have hst1 : Step w h1 { w with drawn := w.drawn + 1 } h1 := ⟨f.own, Nat.le_refl _, fun _ _ _ => rfl, fun _ hb => .inl hb, ⟨rfl, rfl, rfl⟩⟩
  refine wp_region_any hm (wpAny_of_run2 hd hs hQ l2 hc2 _ l1 _ a h1 _ (fun i => ?_) p2 (by simp) (fun i j hi => ?_) hc1 (fun y hy x hx => ?_) (Nat.le_of_eq p3) (f.step hst1) hst H)
  · rw [p1]
    constructor
    · exact fun hi => ⟨hi, by simp [hi]⟩
    · exact fun h => h.1
  · rw [Array.getD_eq_getD_getElem?] at hi
    by_cases hlt : i < ops.size
    · simp [hlt] at hi
    · rw [Array.getElem?_eq_none (by simp; omega)] at hi; simp at hi
  · exact List.all_eq_true.1 (List.all_eq_true.1 hcross y hy) x hx
end

section
variable {P : Program} {hR : Heap} {n : Nat} {Q : Exit → Env → List HProp → Prop} {ρ : Env} {Γ : List HProp}

theorem WP.drawnF {id : Nat} {ops : Array Oper} (cf : Op → Cls) {la lb : List Oper} (l1 l2 : List Nat) (Θ : List HProp) (hm : P.follows .mixedOrders = true) (hl1 : collectO (l1.map (ops[·]?)) = some la) (hl2 : collectO (l2.map (ops[·]?)) = some lb)
    (hk : chk2 (clOf cf ops) ops l1 l2 = true) (H : ∀ g, sat Θ g → Disj hR g → Run P (un hR g) n cf ops la (fun ρ' Γ' => Run P hR n cf ops lb (Q .normal) ρ' (Γ' ++ Θ)) ρ Γ) : WP P hR n (.region id ops true) Q ρ (Γ ++ Θ) := by
  intro a h w ho hs hf
  obtain ⟨h1, h2, g1, g2, hd, rfl⟩ := sat_append.1 hs
  have hRg : Disj hR h2 := (hf.right hd).apart
  have hf' : Fits (un hR h2) h1 w := by
    refine ⟨fun b o hb => ?_, hf.left.own, un_disj.2 ⟨hf.left.apart, hd.symm⟩⟩
    unfold un at hb
    cases hx : hR b with
    | some o => simp [hx] at hb; subst hb; exact hf.ro b _ hx
    | none => simp [hx] at hb; exact (hf.right hd).own b o hb
  have H1 := arun_of_ops _ la (collectO_spec hl1) a h1 (H h2 g2 hRg a h1 ho g1 ⟨w, hf'⟩)
  refine wp_region_drawn2 l1 l2 hm hk hRg (fun a h' w' s k => ?_) hf' (ARun.mono (fun a' h1' hlive k => ?_) l1 ⟨w, hf'⟩ H1) (K := fun a' h' => ∃ ρ' Γ', Ok n ρ' a' ∧ sat Γ' h' ∧ Q .normal ρ' Γ')
  · obtain ⟨ρ', Γ', o, t, q⟩ := k
    exact ⟨h', ρ', Γ', s, o, t, q⟩
  · obtain ⟨ρ', Γ', o, t, q⟩ := k
    obtain ⟨w1, f1⟩ := hlive
    have hd1 := (un_disj.1 f1.apart).2.symm
    exact arun_of_ops _ lb (collectO_spec hl2) a' _ (q a' _ o (sat_append.2 ⟨h1', h2, t, g2, hd1, rfl⟩) ⟨w1, f1.unfreeze hRg⟩)

/-- a block that is owned, lent -/
theorem lent_blk {b : Nat} {cs : List Value} {T : TypeId} {Θ : List HProp} {g : Heap} (k j : Nat) {v : Value} (hk : Θ[k]? = some (blk b cs T)) (hj : cs[j]? = some v) (hs : sat Θ g) (hd : Disj hR g) : cellH (un hR g) ⟨b, j, none⟩ v := by
  obtain ⟨h1, h2, g1, hd', e, _⟩ := sat_get hs hk
  subst g1
  refine ⟨⟨cs⟩, T, (0, 0), ?_, rfl, by simpa using hj⟩
  exact sub_un_right hd b _ (by rw [e]; exact un_left_some put_emp_self)
theorem lent_sub {Θ : List HProp} {g : Heap} {A : HProp} (k : Nat) (hk : Θ[k]? = some A) (hs : sat Θ g) (hd : Disj hR g) : ∃ h1, A h1 ∧ Sub h1 (un hR g) := by
  obtain ⟨h1, h2, g1, hd', e, _⟩ := sat_get hs hk
  subst e
  exact ⟨h1, g1, (sub_un_left h1 h2).trans (sub_un_right hd)⟩
end
end Go.Sep
