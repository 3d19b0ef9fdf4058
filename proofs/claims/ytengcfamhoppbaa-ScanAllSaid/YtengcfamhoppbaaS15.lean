/- What an argument's reading tells of memory, and a walked call's ending as a row wants it. Over any program. -/
import Derived.Test.YtengcfamhoppbaaS14
import Derived.WalkKit
import Derived.ProofKit
import Derived.OpenShut
import Derived.ChangeOld
import Derived.Below
import Derived.SizedLaws
namespace Go.Sep
open Go.ChangeShapes Go.WideShapes Go.ChangeAt Go.RowKit

theorem cellH_of {w : World} {p : Addr} {v : Value} (h : w.cell? p = some v) : cellH (hp w) p v := by
  unfold World.cell? at h
  split at h
  · rename_i c T fz hc
    split at h
    · cases h
    · rename_i hs
      exact ⟨c, T, fz, hc, by simpa using hs, h⟩
  · cases h

theorem rowH_of {w : World} {base : Nat} {a : Addr} {n : Nat} {cs : List Value} (h : w.cells? base a n = some cs) : rowH (hp w) a cs := by
  obtain ⟨_, h1, h2⟩ := World.cells?_some h
  intro j v hj
  have hlt : j < n := by rw [← h1]; exact (List.getElem?_eq_some_iff.1 hj).1
  exact cellH_of ((h2 j hlt).trans hj)

/-- a type's reading opens -/
def Opens {A : Type} (P : Program) (w : World) (t : TypeId) (E : Rd A) (G : A → Prop) : Prop :=
  ∀ {H : Type} {enc : TypeId × Value → H} {base : Nat} {spare : Nat → Bool} {held : Bool} {fuel : Nat} {cs : List Value} {x : DataW H × List MemPlace},
    DataW.trod enc P w base spare held fuel t cs = some x → ∃ a, E.rel (hp w) a cs ∧ G a

section
variable {P : Program} {w : World} {t e : TypeId}

theorem Opens.int {k : IntKind} (ht : P.underlying t = some (.int k)) : Opens P w t (Enc.int k).rd (fun n => (Lit.int k n).wf = true) := fun h => by
  obtain ⟨n, rfl, _, hw⟩ := DataW.trod_int ht h
  exact ⟨n, rfl, hw⟩

theorem Opens.bool (ht : P.underlying t = some .bool) : Opens P w t Enc.bool.rd (fun _ => True) := fun h => by
  obtain ⟨b, rfl, _⟩ := DataW.trod_bool ht h
  exact ⟨b, rfl, trivial⟩

theorem choose_list {B : Type} {q : Nat → B → Prop} : ∀ n : Nat, (∀ i, i < n → ∃ b, q i b) → ∃ xs : List B, xs.length = n ∧ ∀ i b, xs[i]? = some b → q i b
  | 0, _ => ⟨[], rfl, fun i b h => by simp at h⟩
  | n + 1, hq => by
    obtain ⟨xs, h1, h2⟩ := choose_list n fun i hi => hq i (by omega)
    obtain ⟨b, hb⟩ := hq n (by omega)
    refine ⟨xs ++ [b], by simp [h1], fun i c hc => ?_⟩
    by_cases hi : i < xs.length
    · rw [List.getElem?_append_left hi] at hc; exact h2 i c hc
    · have hl := (List.getElem?_eq_some_iff.1 hc).1
      simp only [List.length_append, List.length_cons, List.length_nil] at hl
      have : i = xs.length := by omega
      subst this
      rw [List.getElem?_append_right (Nat.le_refl _), Nat.sub_self] at hc
      cases hc
      rw [h1]; exact hb

theorem Opens.slice {A : Type} {E : Rd A} {G : A → Prop} (ht : P.underlying t = some (.slice e)) (hc : P.cellsOf e = E.sz) (HE : Opens P w e E G) :
    Opens P w t E.slice (fun xs => ∀ x ∈ xs, G x) := fun {H enc base spare held fuel cs x} h => by
  rcases DataW.trod_slice ht h with ⟨rfl, _⟩ | ⟨a, len, cap, elems, rest, n, _, rfl, _, _, hle, _, hlen, hel, _⟩
  · exact ⟨[], ⟨_, rfl, none, 0, rfl, Nat.le_refl _, fun h => absurd rfl h⟩, fun x hx => by cases hx⟩
  · have each : ∀ i, i < len → ∃ y : A, (∃ cs, E.rel (hp w) y cs ∧ rowH (hp w) (a.add (i * E.sz)) cs) ∧ G y := fun i hi => by
      have h1 := hel i hi
      rw [List.getElem?_eq_getElem (by omega)] at h1
      obtain ⟨cs', h2, h3⟩ := Option.bind_eq_some_iff.1 h1
      obtain ⟨y, h4, h5⟩ := HE h3
      rw [hc] at h2
      exact ⟨y, ⟨cs', h4, rowH_of h2⟩, h5⟩
    obtain ⟨xs, hx1, hx2⟩ := choose_list len each
    refine ⟨xs, ⟨_, rfl, some a, cap, by rw [hx1], by rw [hx1]; exact hle, fun _ => ⟨a, rfl, fun i y hy => (hx2 i y hy).1⟩⟩, fun y hy => ?_⟩
    obtain ⟨i, hi⟩ := List.getElem?_of_mem hy
    exact (hx2 i y hi).2

/-- a struct of whole numbers -/
theorem Opens.ints {fs : Array Field} (ht : P.underlying t = some (.struct fs)) (hc : P.cellsOf t = fs.size) (hf : ∀ (i : Nat) (f : Field), fs[i]? = some f → f.offset = i ∧ P.cellsOf f.type = 1 ∧ P.underlying f.type = some (.int .i64))
    {H : Type} {enc : TypeId × Value → H} {base : Nat} {spare : Nat → Bool} {held : Bool} {fuel : Nat} {cs : List Value} {x : DataW H × List MemPlace} (h : DataW.trod enc P w base spare held fuel t cs = some x) :
    ∃ ns : List Int, ns.length = fs.size ∧ cs = ns.map (.int .i64) ∧ ∀ n ∈ ns, (Lit.int .i64 n).wf = true := by
  obtain ⟨xs, n, _, _, h1, h2, h3⟩ := DataW.trod_struct ht h
  have each : ∀ i, i < fs.size → ∃ m : Int, cs[i]? = some (.int .i64 m) ∧ (Lit.int .i64 m).wf = true := fun i hi => by
    have hfi : fs[i]? = some fs[i] := Array.getElem?_eq_getElem hi
    obtain ⟨q1, q2, q3⟩ := hf i _ hfi
    have g := h3 i _ hfi
    rw [q1, q2, List.getElem?_eq_getElem (by omega)] at g
    obtain ⟨m, g1, _, g2⟩ := DataW.trod_int q3 g
    refine ⟨m, ?_, g2⟩
    have := congrArg (fun l => l[0]?) g1
    simpa [List.getElem?_take, List.getElem?_drop] using this
  obtain ⟨ns, hn1, hn2⟩ := choose_list fs.size each
  refine ⟨ns, hn1, ?_, fun m hm => ?_⟩
  · refine List.ext_getElem? fun i => ?_
    rw [List.getElem?_map]
    cases hi : ns[i]? with
    | none =>
      have : fs.size ≤ i := by have := List.getElem?_eq_none_iff.1 hi; omega
      rw [List.getElem?_eq_none (by omega)]; rfl
    | some m => exact (hn2 i m hi).1
  · obtain ⟨i, hi⟩ := List.getElem?_of_mem hm
    exact (hn2 i m hi).2

theorem Tri.below {f : FuncId} {args : Array Value} {R : Value → List HProp → Prop} (T : Tri P (hp w) f args [] R) :
    Calls P f args w fun e w' => (∃ v Γ', e = .returned v ∧ R v Γ') ∧ Below w.heap.size w w' := by
  refine Calls.mono (T emp w (by simp [sat]) ⟨fun _ _ h => h, (fun b o h => by cases h), fun b => .inr rfl⟩) ?_
  rintro e w' ⟨v, h', Γ', rfl, s, _, r⟩
  exact ⟨⟨v, Γ', rfl, r⟩, ⟨s.same.os, s.same.tape, s.same.output, s.size, fun k hk => s.keep k hk rfl⟩⟩
end
end Go.Sep
