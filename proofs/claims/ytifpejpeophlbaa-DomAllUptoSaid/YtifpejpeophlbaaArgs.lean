/- The arguments of this seat's laws, opened. -/
import Derived.Test.YtifpejpeophlbaaDOver
import Derived.Test.YtifpejpeophlbaaRows
import Derived.Test.YtifpejpeophlbaaS15
import Derived.JoinedCond
namespace Go.Proofs.Ytifpejpeophlbaa
open Go.Sep Go.ChangeShapes Go.WideShapes Go.ChangeAt Go.RowKit
set_option linter.unusedSimpArgs false
set_option linter.unusedVariables false

theorem Try.own : ownKnob Try.prog.godebug = none := by kernel_rfl
theorem Try.laidOut : laidOutB Try.prog = true := by kernel_rfl
theorem co_3 : Try.prog.cellsOf 3 = 1 := by kernel_rfl
theorem co_31 : Try.prog.cellsOf 31 = 1 := by kernel_rfl
theorem co_22 : Try.prog.cellsOf 22 = 1 := by kernel_rfl
theorem by_3 : Try.prog.bytesOf 3 = 8 := by kernel_rfl

/-- a type's reading opens, and its bulk is told -/
def OpensB {A : Type} (P : Program) (w : World) (t : TypeId) (E : Rd A) (G : A → Nat → Prop) : Prop :=
  ∀ {H : Type} {enc : TypeId × Value → H} {base : Nat} {spare : Nat → Bool} {held : Bool} {fuel : Nat} {cs : List Value} {x : DataW H × List MemPlace},
    DataW.trod enc P w base spare held fuel t cs = some x → ∃ a, E.rel (hp w) a cs ∧ G a (Rows.uptoBulk x.1)

theorem bulk_one {H : Type} (d : DataW H) : 1 ≤ Rows.uptoBulk d := by
  cases d with
  | lit l => cases l <;> simp [Rows.uptoBulk]
  | nil => simp [Rows.uptoBulk]
  | ptr d => simp [Rows.uptoBulk]
  | slice elems spare => simp [Rows.uptoBulk]
  | agg parts => simp [Rows.uptoBulk]
  | iface t d => simp [Rows.uptoBulk]
  | map entries => simp [Rows.uptoBulk]
  | held h => simp [Rows.uptoBulk]
theorem bulk_sum {H : Type} : ∀ l : List (DataW H), Rows.uptoBulkAll l = (l.map Rows.uptoBulk).sum
  | [] => by simp [Rows.uptoBulkAll]
  | d :: l => by simp [Rows.uptoBulkAll, bulk_sum l]

theorem OpensB.int {w : World} : OpensB Try.prog w 3 (Enc.int .i64).rd (fun _ b => 1 ≤ b) := fun h => by
  obtain ⟨n, rfl, _, hw⟩ := DataW.trod_int Try.underlying3 h
  exact ⟨n, rfl, bulk_one _⟩

theorem OpensB.slice {A : Type} {w : World} {t e : TypeId} {E : Rd A} {G : A → Nat → Prop} (ht : Try.prog.underlying t = some (.slice e)) (hc : Try.prog.cellsOf e = E.sz) (HE : OpensB Try.prog w e E G) :
    OpensB Try.prog w t E.slice (fun xs b => ∃ bs : List Nat, bs.length = xs.length ∧ (∀ (i : Nat) (x : A) (n : Nat), xs[i]? = some x → bs[i]? = some n → G x n) ∧ bs.sum + 1 ≤ b) := fun {H enc base spare held fuel cs x} h => by
  rcases DataW.trod_slice ht h with ⟨rfl, rfl⟩ | ⟨a, len, cap, elems, rest, n, _, rfl, rfl, _, hle, _, hlen, hel, _⟩
  · exact ⟨[], ⟨_, rfl, none, 0, rfl, Nat.le_refl _, fun h => absurd rfl h⟩, [], rfl, by simp, bulk_one _⟩
  · have each : ∀ i, i < len → ∃ y : A, (∃ cs, E.rel (hp w) y cs ∧ rowH (hp w) (a.add (i * E.sz)) cs) ∧ ∀ q, elems[i]? = some q → G y (Rows.uptoBulk q.1) := fun i hi => by
      have h1 := hel i hi
      rw [List.getElem?_eq_getElem (by omega)] at h1
      obtain ⟨cs', h2, h3⟩ := Option.bind_eq_some_iff.1 h1
      obtain ⟨y, h4, h5⟩ := HE h3
      rw [hc] at h2
      refine ⟨y, ⟨cs', h4, rowH_of h2⟩, fun q hq => ?_⟩
      rw [List.getElem?_eq_getElem (by omega)] at hq; cases hq; exact h5
    obtain ⟨xs, hx1, hx2⟩ := choose_list len each
    refine ⟨xs, ⟨_, rfl, some a, cap, by rw [hx1], by rw [hx1]; exact hle, fun _ => ⟨a, rfl, fun i y hy => (hx2 i y hy).1⟩⟩, elems.map fun q => Rows.uptoBulk q.1, by simp [hx1, hlen], fun i x n hx hn => ?_, ?_⟩
    · simp only [List.getElem?_map] at hn
      cases he : elems[i]? with
      | none => rw [he] at hn; cases hn
      | some q => rw [he] at hn; cases hn; exact (hx2 i x hx).2 q he
    · simp only [Rows.uptoBulk, bulk_sum, List.map_map]
      have : (elems.map fun q => Rows.uptoBulk q.1) = elems.map (Rows.uptoBulk ∘ fun x => x.1) := rfl
      rw [this]; omega

theorem sum_ge : ∀ (xs bs : List Nat), bs.length = xs.length → (∀ (i x n : Nat), xs[i]? = some x → bs[i]? = some n → x ≤ n) → xs.sum ≤ bs.sum
  | [], [], _, _ => by simp
  | x :: xs, b :: bs, hl, h => by
    have h1 := h 0 x b rfl rfl
    have h2 := sum_ge xs bs (by simpa using hl) fun i x n hx hn => h (i + 1) x n hx hn
    simp only [List.sum_cons]; omega
  | [], _ :: _, hl, _ => by simp at hl
  | _ :: _, [], hl, _ => by simp at hl
theorem sum_ones : ∀ (l : List Nat) (n : Nat), l.length = n → (∀ x ∈ l, 1 ≤ x) → n ≤ l.sum
  | [], n, h, _ => by simp at h; omega
  | x :: l, n, h, h1 => by
    have := sum_ones l (n - 1) (by simp at h; omega) fun y hy => h1 y (by simp [hy])
    have := h1 x (by simp)
    simp only [List.sum_cons]; omega
theorem each_get {A : Type} {xs : List A} {bs : List Nat} (hl : bs.length = xs.length) {G : A → Nat → Prop} (h : ∀ (i : Nat) (x : A) (n : Nat), xs[i]? = some x → bs[i]? = some n → G x n) : ∀ n ∈ bs, ∃ x, G x n := fun n hn => by
  obtain ⟨i, hi⟩ := List.getElem?_of_mem hn
  have hlt := (List.getElem?_eq_some_iff.1 hi).1
  exact ⟨xs[i]'(by omega), h i _ n (List.getElem?_eq_getElem _) hi⟩

theorem ints_openB {w : World} : OpensB Try.prog w 31 (Enc.int .i64).rd.slice (fun xs b => xs.length + 1 ≤ b) := fun h => by
  obtain ⟨xs, h1, bs, h2, h3, h4⟩ := OpensB.slice Try.underlying31 co_3 OpensB.int h
  refine ⟨xs, h1, ?_⟩
  have := sum_ones bs xs.length h2 fun x hx => by obtain ⟨_, h⟩ := each_get h2 h3 x hx; exact h
  omega
theorem edgesL_sum (to : List (List Int)) : (to.map fun l => l.length + 1).sum = to.length + edgesL to := by
  unfold edgesL
  induction to with
  | nil => rfl
  | cons l to ih => simp only [List.map_cons, List.sum_cons, List.length_cons, ih]; omega
theorem intss_openB {w : World} : OpensB Try.prog w 22 (Enc.int .i64).rd.slice.slice (fun xs b => xs.length + edgesL xs + 1 ≤ b) := fun h => by
  obtain ⟨xs, h1, bs, h2, h3, h4⟩ := OpensB.slice Try.underlying22 co_31 ints_openB h
  refine ⟨xs, h1, ?_⟩
  have := sum_ge (xs.map fun l => l.length + 1) bs (by simp [h2]) fun i x n hx hn => by
    simp only [List.getElem?_map] at hx
    cases hq : xs[i]? with
    | none => rw [hq] at hx; cases hx
    | some l => rw [hq] at hx; cases hx; exact h3 i l n hq hn
  rw [edgesL_sum] at this
  omega

section
variable {w : World} {H : Type} {enc : TypeId × Value → H} {base : Nat} {spare : Nat → Bool} {held : Bool} {v : Value} {d : DataW H} {ps : List MemPlace} {a : Option Addr} {n c : Nat}
theorem ints_arg (hv : v = .slice a n c) (h : DataW.Trod enc Try.prog w base spare held 31 v d ps) : ∃ xs, SlR (Enc.int .i64).rd (hp w) v xs := by
  obtain ⟨fuel, hf⟩ := h
  obtain ⟨xs, ⟨v', e, g⟩, G⟩ := ints_openB hf
  subst hv
  simp [Value.cells] at e
  subst e
  exact ⟨xs, g⟩
theorem intss_arg (hv : v = .slice a n c) (h : DataW.Trod enc Try.prog w base spare held 22 v d ps) : ∃ xs, SlR (Enc.int .i64).rd.slice (hp w) v xs ∧ xs.length + edgesL xs + 1 ≤ Rows.uptoBulk d := by
  obtain ⟨fuel, hf⟩ := h
  obtain ⟨xs, ⟨v', e, g⟩, G⟩ := intss_openB hf
  subst hv
  simp [Value.cells] at e
  subst e
  exact ⟨xs, g, G⟩
/-- how long a list can be -/
theorem ints_len {ts : List TypeId} {ds : List (DataW H)} (hz : (DataW.weightsEach Try.prog ts ds).all (· ≤ reachBytes) = true) {j : Nat} (htj : ts[j]? = some 31) (hdj : ds[j]? = some d) {xs : List Int} (hs : SlR (Enc.int .i64).rd (hp w) v xs)
    (hv : v = .slice a n c) (h : DataW.Trod enc Try.prog w base spare held 31 v d ps) : (xs.length + 2) * 8 ≤ 140737488355328 := by
  obtain ⟨fuel, hf⟩ := h
  obtain ⟨a', c', e, _⟩ := hs
  subst hv
  rcases DataW.trod_slice Try.underlying31 hf with ⟨h1, h2⟩ | ⟨a2, len, cap, elems, rest, n', _, h1, h2, _, hle, _, hlen, hel, _⟩
  · simp [Value.cells] at h1
    rw [h1.2.1] at e
    simp at e
    omega
  · simp [Value.cells] at h1
    have hd : d = .slice (elems.map (·.1)) (rest.map (·.1)) := congrArg Prod.fst h2
    subst hd
    have := sized_slice hz htj hdj Try.underlying31
    rw [by_3] at this
    simp only [List.length_map] at this
    have hn : xs.length = n := by simp only [Value.slice.injEq] at e; exact e.2.1.symm
    have hn2 : n = len := h1.2.1
    simp only [reachBytes] at this
    omega
end
end Go.Proofs.Ytifpejpeophlbaa
