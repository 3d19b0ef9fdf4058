/- Strings are compared and measured; an argument that is opened with its bounds. Over any program. -/
import Derived.Test.YtjjfehdlmdhhmaaDoorGL5
section
/- Strings are compared and measured; an argument that is opened with its bounds. Over any program. -/
namespace Go.Sep
section
variable {P : Program} {hR : Heap} {n : Fr} {cf : Op → Cls} {ops : Array Oper} {l : List Oper} {K : Env → List HProp → Prop} {ρ : Env} {Γ : List HProp} {o : Oper} {d : Nat}
theorem Run.lenStr {T : TypeId} {x : Operand} {a : ByteArray} (hop : o.op = .call { callee := .builtin .len, args := #[x], argTypes := #[T] }) (hx : ρ.val x = some (.string a))
    (hT : P.underlying T = some .string) (_hd : o.dst = some d) (hs : pre n cf ops ρ o d = true) (H : Run P hR n cf ops l K ((d, .int .i64 (a.size : Int)) :: ρ) Γ) : Run P hR n cf ops (o :: l) K ρ Γ :=
  Run.val hs (fun A h ho ht w => by
    simp [execOp, hop, resolve, invoke, builtin, Builtin.len_, underlying, hT, ho.eval hx, goInt]) H
end
/-- a type's reading opens, where it is not too great -/
def OpensW {A : Type} (P : Program) (w : World) (t : TypeId) (E : Rd A) (G : A → Prop) : Prop :=
  ∀ {H : Type} {enc : TypeId × Value → H} {base : Nat} {spare : Nat → Bool} {held : Bool} {fuel : Nat} {cs : List Value} {x : DataW H × List MemPlace},
    DataW.trod enc P w base spare held fuel t cs = some x → (∀ m ∈ x.1.weights P t, m ≤ reachBytes) → ∃ a, E.rel (hp w) a cs ∧ G a
section
variable {P : Program} {w : World} {t e : TypeId}
theorem OpensW.of {A : Type} {E : Rd A} {G : A → Prop} (h : Opens P w t E G) : OpensW P w t E G := fun h1 _ => h h1
theorem OpensW.str (ht : P.underlying t = some .string) : OpensW P w t Enc.str.rd (fun s => s.size ≤ 140737488355327) := fun h hw => by
  obtain ⟨s, rfl, rfl, _⟩ := DataW.trod_string ht h
  refine ⟨s, rfl, ?_⟩
  have := hw s.data.toList.length (by simp [DataW.weights])
  simp only [reachBytes] at this
  have e : s.size = s.data.toList.length := by cases s; rfl
  show s.size ≤ 140737488355327
  rw [e]
  exact Nat.le_trans this (by decide)
theorem weightsAll_mem {H : Type} {P : Program} {e : TypeId} {m : Nat} {d : DataW H} : ∀ {ds : List (DataW H)}, d ∈ ds → m ∈ d.weights P e → m ∈ DataW.weightsAll P e ds
  | x :: r, hd, hm => by
    simp only [DataW.weightsAll, List.mem_append]
    rcases List.mem_cons.1 hd with rfl | h
    · exact .inl hm
    · exact .inr (weightsAll_mem h hm)
theorem reachBytes_le : reachBytes ≤ 140737488351232 := Nat.le_of_eq rfl
theorem OpensW.sliceT {A : Type} {E : Rd A} {G : A → Prop} (ht : P.underlying t = some (.slice e)) (hc : P.cellsOf e = E.sz) (hb : 8 ≤ P.bytesOf e) (HE : OpensW P w e E G) :
    OpensW P w t E.slice (fun xs => xs.length ≤ 17592186043904 ∧ ∀ x ∈ xs, G x) := fun {H enc base spare held fuel cs x} h hw => by
  rcases DataW.trod_slice ht h with ⟨rfl, _⟩ | ⟨a, len, cap, elems, rest, n, _, rfl, hxe, _, hle, _, hlen, hel, _⟩
  · exact ⟨[], ⟨_, rfl, none, 0, rfl, Nat.le_refl _, fun h => absurd rfl h⟩, by simp, fun x hx => by cases hx⟩
  · have hx1 : x.1 = .slice (elems.map (·.1)) (rest.map (·.1)) := by rw [hxe]
    have hwt : x.1.weights P t = ((elems.map (·.1)).length + (rest.map (·.1)).length) * P.bytesOf e :: (DataW.weightsAll P e (elems.map (·.1)) ++ DataW.weightsAll P e (rest.map (·.1))) := by
      rw [hx1]; simp only [DataW.weights, ht]
    rw [hwt] at hw
    have each : ∀ i, i < len → ∃ y : A, (∃ cs, E.rel (hp w) y cs ∧ rowH (hp w) (a.add (i * E.sz)) cs) ∧ G y := fun i hi => by
      have h1 := hel i hi
      rw [List.getElem?_eq_getElem (by omega)] at h1
      obtain ⟨cs', h2, h3⟩ := Option.bind_eq_some_iff.1 h1
      obtain ⟨y, h4, h5⟩ := HE h3 fun m hm => hw m (List.mem_cons_of_mem _ (List.mem_append_left _ (weightsAll_mem (List.mem_map_of_mem (List.getElem_mem _)) hm)))
      rw [hc] at h2
      exact ⟨y, ⟨cs', h4, rowH_of h2⟩, h5⟩
    obtain ⟨xs, hx1, hx2⟩ := choose_list len each
    have hbl : len * 8 ≤ 140737488351232 := by
      have h0 := hw _ List.mem_cons_self
      simp only [List.length_map, hlen] at h0
      have h1 : len * 8 ≤ (len + rest.length) * P.bytesOf e := Nat.mul_le_mul (Nat.le_add_right _ _) hb
      have h2 := reachBytes_le
      omega
    refine ⟨xs, ⟨_, rfl, some a, cap, by rw [hx1], by rw [hx1]; exact hle, fun _ => ⟨a, rfl, fun i y hy => (hx2 i y hy).1⟩⟩, by rw [hx1]; omega, fun y hy => ?_⟩
    obtain ⟨i, hi⟩ := List.getElem?_of_mem hy
    exact (hx2 i y hi).2
theorem OpensW.slice {A : Type} {E : Rd A} {G : A → Prop} (ht : P.underlying t = some (.slice e)) (hc : P.cellsOf e = E.sz) (hb : 8 ≤ P.bytesOf e) (HE : OpensW P w e E G) :
    OpensW P w t E.slice (fun xs => xs.length ≤ 17592186044416 ∧ ∀ x ∈ xs, G x) := fun {H enc base spare held fuel cs x} h hw => by
  obtain ⟨xs, h1, h2, h3⟩ := OpensW.sliceT ht hc hb HE h hw
  exact ⟨xs, h1, by omega, h3⟩
theorem OpensW.part {A : Type} {E : Rd A} {G : A → Prop} {fs : Array Field} (ht : P.underlying t = some (.struct fs))
    {H : Type} {enc : TypeId × Value → H} {base : Nat} {spare : Nat → Bool} {held : Bool} {fuel : Nat} {cs : List Value} {x : DataW H × List MemPlace} (h : DataW.trod enc P w base spare held fuel t cs = some x)
    (hw : ∀ m ∈ x.1.weights P t, m ≤ reachBytes) {i : Nat} {f : Field} (hf : fs[i]? = some f) (HE : OpensW P w f.type E G) : ∃ a, E.rel (hp w) a ((cs.drop f.offset).take (P.cellsOf f.type)) ∧ G a := by
  obtain ⟨xs, n, _, hxe, h1, h2, h3⟩ := DataW.trod_struct ht h
  have hg := h3 i f hf
  have hi : i < xs.length := by rw [h2]; exact (Array.getElem?_eq_some_iff.1 hf).1
  rw [List.getElem?_eq_getElem hi] at hg
  refine HE hg fun m hm => hw m ?_
  have hwt : x.1.weights P t = DataW.weightsEach P (fs.toList.map (·.type)) (xs.map (·.1)) := by
    rw [hxe]; simp only [DataW.weights, ht]
  rw [hwt]
  refine DataW.weights_mem_each (j := i) (t := f.type) (d := xs[i].1) ?_ ?_ m hm
  · rw [List.getElem?_map, Array.getElem?_toList, hf]; rfl
  · rw [List.getElem?_map, List.getElem?_eq_getElem hi]; rfl
end
end Go.Sep
end
