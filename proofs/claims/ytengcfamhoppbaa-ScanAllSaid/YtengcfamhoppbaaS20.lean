/- What is owned is frozen for a piece of code: it is only read there. Rows of nothing. Over any program. -/
import Derived.Test.YtengcfamhoppbaaS19
namespace Go.Sep
section
variable {P : Program} {hR : Heap} {n : Nat} {Q : Exit → Env → List HProp → Prop} {ρ : Env} {Γ : List HProp}

theorem WP.freeze {c : Code} (Θ : List HProp) (H : ∀ g, sat Θ g → Disj hR g → WP P (un hR g) n c (fun e ρ' Γ' => Q e ρ' (Γ' ++ Θ)) ρ Γ) : WP P hR n c Q ρ (Γ ++ Θ) := by
  intro a h w ho hs hf
  obtain ⟨h1, h2, g1, g2, hd, rfl⟩ := sat_append.1 hs
  have hRg : Disj hR h2 := (hf.right hd).apart
  have hf' : Fits (un hR h2) h1 w := by
    refine ⟨fun b o hb => ?_, hf.left.own, un_disj.2 ⟨hf.left.apart, hd.symm⟩⟩
    unfold un at hb
    cases hx : hR b with
    | some o => simp [hx] at hb; subst hb; exact hf.ro b _ hx
    | none => simp [hx] at hb; exact (hf.right hd).own b o hb
  refine wp_mono (H h2 g2 hRg a h1 w ho g1 hf') ?_
  rintro e a1 w1 ⟨h', ρ1, Γ1, s, o1, t1, q⟩
  obtain ⟨s', hd'⟩ := s.frame (hf.right hd).own hd
  exact ⟨un h' h2, ρ1, Γ1 ++ Θ, s', o1, sat_append.2 ⟨h', h2, t1, g2, hd', rfl⟩, q⟩

theorem Sub.un_left (h g : Heap) : Sub h (un h g) := sub_un_left h g
end

section
variable {A : Type} {T : TypeId} {E : Enc A}
theorem rows_all (p : List (SV × List A)) (Γ : List HProp) : ent (rowsL T E p ++ Γ) (rows T E p :: Γ) := many_in _ _
theorem rows_nils (Γ : List HProp) : ∀ n : Nat, ent Γ (rows T E (List.replicate n ((⟨none, 0, 0⟩ : SV), ([] : List A))) :: Γ)
  | 0 => rows_new Γ
  | n + 1 => by
    have h1 := rows_nils Γ n
    have h2 := slA_nil T E (rows T E (List.replicate n ((⟨none, 0, 0⟩ : SV), ([] : List A))) :: Γ)
    have h3 : ent (rows T E (List.replicate n ((⟨none, 0, 0⟩ : SV), ([] : List A))) :: Γ ++ [slA T E (.slice none 0 0) []]) (rows T E (List.replicate n ((⟨none, 0, 0⟩ : SV), ([] : List A))) :: slA T E (SV.val ⟨none, 0, 0⟩) [] :: Γ) :=
      ent.cons (fun _ h => h) (ent.perm (List.perm_append_comm (l₁ := Γ) (l₂ := [slA T E (.slice none 0 0) []])))
    have e : List.replicate (n + 1) ((⟨none, 0, 0⟩ : SV), ([] : List A)) = List.replicate n ((⟨none, 0, 0⟩ : SV), ([] : List A)) ++ [(⟨none, 0, 0⟩, [])] := by
      rw [List.replicate_succ']
    rw [e]
    exact h1.trans (h2.trans (h3.trans (rows_snoc Γ)))
end

theorem sum_set : ∀ (l : List Nat) (i x y : Nat), l[i]? = some y → (l.set i x).sum + y = l.sum + x
  | [], _, _, _, h => by simp at h
  | a :: l, 0, x, y, h => by simp at h; subst h; simp; omega
  | a :: l, i + 1, x, y, h => by
    have := sum_set l i x y (by simpa using h)
    simp only [List.set_cons_succ, List.sum_cons]; omega
end Go.Sep
