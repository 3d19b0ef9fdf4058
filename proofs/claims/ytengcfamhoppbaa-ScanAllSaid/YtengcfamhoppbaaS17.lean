/- Slices of slices and structs of two parts, read and opened. Over any program. -/
import Derived.Test.YtengcfamhoppbaaS16
namespace Go.Sep
open Go.ChangeShapes Go.WideShapes Go.ChangeAt Go.RowKit

theorem SlR.rowV {A : Type} {E : Rd A} {yss : List (List A)} {h : Heap} {v : Value} (hr : SlR E.slice h v yss) {i : Nat} {ys : List A} (hi : yss[i]? = some ys) :
    ∃ u, cellH h (elemAddr v (i * 1)) u ∧ SlR E h u ys := by
  obtain ⟨cs, ⟨u, rfl, hu⟩, h2⟩ := hr.at hi
  refine ⟨u, ?_, hu⟩
  have := h2 0 u rfl
  exact this

def Rd.prod {A B : Type} (E : Rd A) (F : Rd B) : Rd (A × B) :=
  ⟨E.sz + F.sz, fun h p cs => ∃ c1 c2, cs = c1 ++ c2 ∧ E.rel h p.1 c1 ∧ F.rel h p.2 c2, fun ⟨c1, c2, e, h1, h2⟩ => by rw [e, List.length_append, E.len h1, F.len h2],
    fun hs ⟨c1, c2, e, h1, h2⟩ => ⟨c1, c2, e, E.mono hs h1, F.mono hs h2⟩⟩

theorem SlR.part1 {A B : Type} {E : Rd A} {F : Rd B} {ys : List (A × B)} {h : Heap} {v : Value} (hr : SlR (E.prod F) h v ys) {i : Nat} {y : A × B} (hi : ys[i]? = some y) :
    ∃ cs, E.rel h y.1 cs ∧ rowH h (elemAddr v (i * (E.prod F).sz)) cs := by
  obtain ⟨cs, ⟨c1, c2, rfl, h1, h2⟩, h3⟩ := hr.at hi
  refine ⟨c1, h1, fun j u hj => h3 j u ?_⟩
  rw [List.getElem?_append_left (List.getElem?_eq_some_iff.1 hj).1]; exact hj

theorem add_plus (a : Addr) (i j : Nat) : (a.add i).add j = a.add (i + j) := by
  unfold Addr.add
  by_cases hi : i = 0 <;> by_cases hj : j = 0 <;> simp [hi, hj, Nat.add_assoc]

theorem SlR.part2 {A B : Type} {E : Rd A} {F : Rd B} {ys : List (A × B)} {h : Heap} {v : Value} (hr : SlR (E.prod F) h v ys) {i : Nat} {y : A × B} (hi : ys[i]? = some y) :
    ∃ cs, F.rel h y.2 cs ∧ rowH h ((elemAddr v (i * (E.prod F).sz)).add E.sz) cs := by
  obtain ⟨cs, ⟨c1, c2, rfl, h1, h2⟩, h3⟩ := hr.at hi
  refine ⟨c2, h2, fun j u hj => ?_⟩
  rw [add_plus]
  refine h3 (E.sz + j) u ?_
  rw [List.getElem?_append_right (by rw [E.len h1]; omega), E.len h1, Nat.add_sub_cancel_left]; exact hj

theorem Opens.pair {A B : Type} {P : Program} {w : World} {t : TypeId} {E : Rd A} {F : Rd B} {G : A → Prop} {G' : B → Prop} {f0 f1 : Field} (ht : P.underlying t = some (.struct #[f0, f1])) (hc : P.cellsOf t = E.sz + F.sz)
    (o0 : f0.offset = 0) (o1 : f1.offset = E.sz) (c0 : P.cellsOf f0.type = E.sz) (c1 : P.cellsOf f1.type = F.sz) (HE : Opens P w f0.type E G) (HF : Opens P w f1.type F G') :
    Opens P w t (E.prod F) (fun p => G p.1 ∧ G' p.2) := fun {H enc base spare held fuel cs x} h => by
  obtain ⟨xs, n, _, _, h1, h2, h3⟩ := DataW.trod_struct ht h
  have g0 := h3 0 f0 rfl
  have g1 := h3 1 f1 rfl
  have h2' : xs.length = 2 := h2
  rw [o0, c0, List.getElem?_eq_getElem (by omega)] at g0
  rw [o1, c1, List.getElem?_eq_getElem (by omega)] at g1
  obtain ⟨a, a1, a2⟩ := HE g0
  obtain ⟨b, b1, b2⟩ := HF g1
  refine ⟨(a, b), ⟨_, _, ?_, a1, b1⟩, a2, b2⟩
  rw [List.drop_zero]
  have : (cs.drop E.sz).take F.sz = cs.drop E.sz := List.take_of_length_le (by rw [List.length_drop, h1, hc]; omega)
  rw [this, List.take_append_drop]
end Go.Sep
