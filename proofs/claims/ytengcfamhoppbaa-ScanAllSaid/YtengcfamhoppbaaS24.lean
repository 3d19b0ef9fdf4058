/- Rows, more: the first one taken off; rows turned row by row. Over any program. -/
import Derived.Test.YtengcfamhoppbaaS23
namespace Go.Sep
section
variable {A : Type} {T : TypeId} {E : Enc A}
theorem rows_first {sv : SV} {xs : List A} (p : List (SV × List A)) (Γ : List HProp) : ent (rows T E ((sv, xs) :: p) :: Γ) (slA T E sv.val xs :: rows T E p :: Γ) := by
  have h1 := many_out (rowsL T E ((sv, xs) :: p)) Γ
  exact h1.trans (ent.cons (fun _ h => h) (many_in (rowsL T E p) Γ))
theorem rows_append (p q : List (SV × List A)) (Γ : List HProp) : ent (rows T E p :: rows T E q :: Γ) (rows T E (p ++ q) :: Γ) := by
  have h1 := many_out (rowsL T E p) (rows T E q :: Γ)
  have h2 : ent (rowsL T E p ++ (rows T E q :: Γ)) (rowsL T E p ++ (rowsL T E q ++ Γ)) := ent.app (ent.refl _) (many_out _ _)
  have h3 := many_in (rowsL T E (p ++ q)) Γ
  have e : rowsL T E (p ++ q) ++ Γ = rowsL T E p ++ (rowsL T E q ++ Γ) := by simp [rowsL]
  rw [e] at h3
  exact h1.trans (h2.trans h3)
theorem rowsL_turn {p q : List (SV × List A)} (hl : q.length = p.length) (h : ∀ (i : Nat) (a b : SV × List A), p[i]? = some a → q[i]? = some b → ∀ g, slA T E a.1.val a.2 g → slA T E b.1.val b.2 g) : ent (rowsL T E p) (rowsL T E q) := by
  induction p generalizing q with
  | nil => cases q with
    | nil => exact ent.refl _
    | cons b q => simp at hl
  | cons a p ih =>
    cases q with
    | nil => simp at hl
    | cons b q =>
      exact ent.cons (h 0 a b rfl rfl) (ih (by simpa using hl) fun i a' b' ha hb => h (i + 1) a' b' (by simpa using ha) (by simpa using hb))
theorem rows_turn {p q : List (SV × List A)} (hl : q.length = p.length) (h : ∀ (i : Nat) (a b : SV × List A), p[i]? = some a → q[i]? = some b → ∀ g, slA T E a.1.val a.2 g → slA T E b.1.val b.2 g) (Γ : List HProp) : ent (rows T E p :: Γ) (rows T E q :: Γ) :=
  ent.cons (fun g hg => rowsL_turn hl h g hg) (ent.refl _)
theorem rows_know {Γ : List HProp} (k : Nat) {p : List (SV × List A)} (hk : Γ[k]? = some (rows T E p)) : ∀ h, sat Γ h → ∀ (i : Nat) (sv : SV) (xs : List A), p[i]? = some (sv, xs) → sv.n = xs.length := fun h hs i sv xs hi => by
  obtain ⟨h1, h2, g1, _⟩ := sat_get hs hk
  obtain ⟨a, c, e, _⟩ := sat_rows g1 hi
  simp only [SV.val, Value.slice.injEq] at e
  exact e.2.1
/-- the front of a slice -/
theorem slA_front {v w : SV} {xs : List A} (ha : w.a = v.a) (hc : w.c = v.c) (hn : w.n ≤ xs.length) : ∀ g, slA T E v.val xs g → slA T E w.val (xs.take w.n) g := by
  obtain ⟨wa, wn, wc⟩ := w
  simp only at ha hc hn
  subst ha; subst hc
  rintro g (⟨e, rfl, rfl⟩ | ⟨b, o, c, pre, post, e, q1, q2, q3, rfl⟩)
  · simp only [SV.val, Value.slice.injEq] at e
    simp at hn; subst hn
    exact .inl ⟨by simp [SV.val, e.1, e.2.2], by simp, rfl⟩
  · simp only [SV.val, Value.slice.injEq] at e
    refine .inr ⟨b, o, c, pre, (xs.drop wn).flatMap E.cells ++ post, by simp [SV.val, e.1, e.2.2]; omega, by simp; omega, q2, ?_, ?_⟩
    · rw [List.length_append, flat_len, List.length_drop, List.length_take, Nat.min_eq_left hn]
      have : (c - wn) * E.sz = (xs.length - wn) * E.sz + (c - xs.length) * E.sz := by rw [← Nat.add_mul]; congr 1; omega
      omega
    · have : xs.flatMap E.cells = (xs.take wn).flatMap E.cells ++ (xs.drop wn).flatMap E.cells := by rw [← List.flatMap_append, List.take_append_drop]
      rw [this]; simp
end
end Go.Sep
