/- The laws' argument, opened. -/
import Derived.Test.YtjjfehdlmdhhmaaDoorGV7
import Derived.Test.YtjjfehdlmdhhmaaDoorRows
import Derived.Test.YtjjfehdlmdhhmaaDoorGL6
section
/- The laws' argument, opened. -/
namespace Go.Proofs.YtjjfehdlmdhhmaaDoor
open Go.Sep Go.ChangeShapes Go.WideShapes Go.ChangeAt Go.RowKit
set_option linter.unusedSimpArgs false
set_option linter.unusedVariables false
theorem co_3 : Tryd.prog.cellsOf 3 = 1 := by kernel_rfl
theorem co_9 : Tryd.prog.cellsOf 9 = 1 := by kernel_rfl
theorem co_22 : Tryd.prog.cellsOf 22 = 1 := by kernel_rfl
theorem co_23 : Tryd.prog.cellsOf 23 = 1 := by kernel_rfl
theorem co_52 : Tryd.prog.cellsOf 52 = 1 := by kernel_rfl
theorem co_54 : Tryd.prog.cellsOf 54 = 3 := by kernel_rfl
theorem co_56 : Tryd.prog.cellsOf 56 = 4 := by kernel_rfl
theorem co_67 : Tryd.prog.cellsOf 67 = 4 := by kernel_rfl
theorem co_25 : Tryd.prog.cellsOf 25 = 5 := by kernel_rfl
theorem by_3 : 8 ≤ Tryd.prog.bytesOf 3 := of_decide_eq_true (by kernel_rfl)
theorem by_67 : 8 ≤ Tryd.prog.bytesOf 67 := of_decide_eq_true (by kernel_rfl)
theorem by_56 : 8 ≤ Tryd.prog.bytesOf 56 := of_decide_eq_true (by kernel_rfl)
section
variable {P : Program} {w : World} {t : TypeId}
theorem partAt {A : Type} {E : Rd A} {G : A → Prop} {fs : Array Field} (ht : P.underlying t = some (.struct fs))
    {H : Type} {enc : TypeId × Value → H} {base : Nat} {spare : Nat → Bool} {held : Bool} {fuel : Nat} {cs : List Value} {x : DataW H × List MemPlace} (h : DataW.trod enc P w base spare held fuel t cs = some x)
    (hw : ∀ m ∈ x.1.weights P t, m ≤ reachBytes) (i k c : Nat) (ft : TypeId) {f : Field} (hf : fs[i]? = some f) (hk : f.offset = k) (hft : f.type = ft) (hc : P.cellsOf ft = c) (HE : OpensW P w ft E G) : ∃ a, E.rel (hp w) a ((cs.drop k).take c) ∧ G a := by
  subst hft
  have := OpensW.part ht h hw hf HE
  rw [hk, hc] at this
  exact this
theorem cells_len {fs : Array Field} (ht : P.underlying t = some (.struct fs))
    {H : Type} {enc : TypeId × Value → H} {base : Nat} {spare : Nat → Bool} {held : Bool} {fuel : Nat} {cs : List Value} {x : DataW H × List MemPlace} (h : DataW.trod enc P w base spare held fuel t cs = some x) : cs.length = P.cellsOf t := by
  obtain ⟨_, _, _, _, h1, _⟩ := DataW.trod_struct ht h
  exact h1
end
theorem int_open {w : World} : OpensW Tryd.prog w 3 rdI (fun n => (Lit.int .i64 n).wf = true) := OpensW.of (Opens.int Tryd.underlying3)
theorem ints_open {w : World} : OpensW Tryd.prog w 22 rdI.slice (fun xs => xs.length ≤ 17592186044416 ∧ ∀ x ∈ xs, (Lit.int .i64 x).wf = true) := OpensW.slice Tryd.underlying22 co_3 by_3 int_open
theorem ins_open {w : World} : OpensW Tryd.prog w 67 rdIns (fun x => x.args.length ≤ 17592186044416) := fun {H enc base spare held fuel cs x} h hw => by
  have hl := cells_len Tryd.underlying67 h
  rw [co_67] at hl
  obtain ⟨a0, e0, _⟩ := partAt Tryd.underlying67 h hw 0 0 1 3 rfl rfl rfl co_3 int_open
  obtain ⟨a1, e1, _⟩ := partAt Tryd.underlying67 h hw 1 1 1 3 rfl rfl rfl co_3 int_open
  obtain ⟨a2, e2, _⟩ := partAt Tryd.underlying67 h hw 2 2 1 3 rfl rfl rfl co_3 int_open
  obtain ⟨a3, ⟨u, e3, hu⟩, h3, _⟩ := partAt Tryd.underlying67 h hw 3 3 1 22 rfl rfl rfl co_22 ints_open
  clear h hw
  match cs, hl with
  | [c0, c1, c2, c3], _ =>
    have g0 : [c0] = [Value.int .i64 a0] := e0
    have g1 : [c1] = [Value.int .i64 a1] := e1
    have g2 : [c2] = [Value.int .i64 a2] := e2
    have g3 : [c3] = [u] := e3
    simp only [List.cons.injEq, and_true] at g0 g1 g2 g3
    subst g0 g1 g2 g3
    exact ⟨⟨a0, a1, a2, a3⟩, ⟨_, rfl, hu⟩, h3⟩
theorem inss_open {w : World} : OpensW Tryd.prog w 52 rdIns.slice (fun xs => xs.length ≤ 17592186044416 ∧ ∀ x ∈ xs, x.args.length ≤ 17592186044416) := OpensW.slice Tryd.underlying52 co_67 by_67 ins_open
def rdTerm : Rd (Int × Int × List Int) where
  sz := 3
  rel h x cs := ∃ v, cs = [.int .i64 x.1, .int .i64 x.2.1, v] ∧ SlR rdI h v x.2.2
  len := by rintro h x cs ⟨v, rfl, _⟩; rfl
  mono := by rintro h g x cs hs ⟨v, rfl, hv⟩; exact ⟨v, rfl, hv.mono hs⟩
theorem term_open {w : World} : OpensW Tryd.prog w 54 rdTerm (fun x => x.2.2.length ≤ 17592186044416) := fun {H enc base spare held fuel cs x} h hw => by
  have hl := cells_len Tryd.underlying54 h
  rw [co_54] at hl
  obtain ⟨a0, e0, _⟩ := partAt Tryd.underlying54 h hw 0 0 1 3 rfl rfl rfl co_3 int_open
  obtain ⟨a1, e1, _⟩ := partAt Tryd.underlying54 h hw 1 1 1 3 rfl rfl rfl co_3 int_open
  obtain ⟨a2, ⟨u, e2, hu⟩, h3, _⟩ := partAt Tryd.underlying54 h hw 2 2 1 22 rfl rfl rfl co_22 ints_open
  clear h hw
  match cs, hl with
  | [c0, c1, c2], _ =>
    have g0 : [c0] = [Value.int .i64 a0] := e0
    have g1 : [c1] = [Value.int .i64 a1] := e1
    have g2 : [c2] = [u] := e2
    simp only [List.cons.injEq, and_true] at g0 g1 g2
    subst g0 g1 g2
    exact ⟨(a0, a1, a2), ⟨_, rfl, hu⟩, h3⟩
def wideB (b : LBlk) : Prop := b.to.length ≤ 17592186044416 ∧ b.body.length ≤ 17592186044416 ∧ ∀ x ∈ b.body, x.args.length ≤ 17592186044416
theorem blk_open {w : World} : OpensW Tryd.prog w 56 rdBlk wideB := fun {H enc base spare held fuel cs x} h hw => by
  have hl := cells_len Tryd.underlying56 h
  rw [co_56] at hl
  obtain ⟨a0, ⟨u, e0, hu⟩, h0, h1⟩ := partAt Tryd.underlying56 h hw 0 0 1 52 rfl rfl rfl co_52 inss_open
  obtain ⟨⟨k, v, to⟩, ⟨tv, e1, ht⟩, h2⟩ := partAt Tryd.underlying56 h hw 1 1 3 54 rfl rfl rfl co_54 term_open
  clear h hw
  match cs, hl with
  | [c0, c1, c2, c3], _ =>
    have g0 : [c0] = [u] := e0
    have g1 : [c1, c2, c3] = [Value.int .i64 k, Value.int .i64 v, tv] := e1
    simp only [List.cons.injEq, and_true] at g0 g1
    obtain ⟨g1, g2, g3⟩ := g1
    subst g0 g1 g2 g3
    exact ⟨⟨a0, k, v, to⟩, ⟨_, _, rfl, hu, ht⟩, h2, h0, h1⟩
theorem blks_open {w : World} : OpensW Tryd.prog w 23 rdBlk.slice (fun xs => xs.length ≤ 17592186044416 ∧ ∀ x ∈ xs, wideB x) := OpensW.slice Tryd.underlying23 co_56 by_56 blk_open
theorem fun_open {w : World} : OpensW Tryd.prog w 25 rdFun WideF := fun {H enc base spare held fuel cs x} h hw => by
  have hl := cells_len Tryd.underlying25 h
  rw [co_25] at hl
  obtain ⟨a0, e0, h0⟩ := partAt Tryd.underlying25 h hw 0 0 1 9 rfl rfl rfl co_9 (OpensW.str und_9)
  obtain ⟨a1, ⟨u, e1, hu⟩, h1, _⟩ := partAt Tryd.underlying25 h hw 1 1 1 22 rfl rfl rfl co_22 ints_open
  obtain ⟨a2, e2, _⟩ := partAt Tryd.underlying25 h hw 2 2 1 3 rfl rfl rfl co_3 int_open
  obtain ⟨a3, e3, _⟩ := partAt Tryd.underlying25 h hw 3 3 1 3 rfl rfl rfl co_3 int_open
  obtain ⟨a4, ⟨v, e4, hv⟩, h4, h5⟩ := partAt Tryd.underlying25 h hw 4 4 1 23 rfl rfl rfl co_23 blks_open
  clear h hw
  match cs, hl with
  | [c0, c1, c2, c3, c4], _ =>
    have g0 : [c0] = [Value.string a0] := e0
    have g1 : [c1] = [u] := e1
    have g2 : [c2] = [Value.int .i64 a2] := e2
    have g3 : [c3] = [Value.int .i64 a3] := e3
    have g4 : [c4] = [v] := e4
    simp only [List.cons.injEq, and_true] at g0 g1 g2 g3 g4
    subst g0 g1 g2 g3 g4
    exact ⟨⟨a0, a1, a2, a3, a4⟩, ⟨_, _, rfl, hu, hv⟩, h0, h1, h4, fun b hb => (h5 b hb).1, fun b hb => (h5 b hb).2.1, fun b hb => (h5 b hb).2.2⟩
theorem weights_nth {H : Type} {ts : List TypeId} {ds : List (DataW H)} (h : (DataW.weightsEach Tryd.prog ts ds).all (· ≤ reachBytes) = true) (j : Nat) {t : TypeId} {d : DataW H} (ht : ts[j]? = some t) (hd : ds[j]? = some d) : ∀ m ∈ d.weights Tryd.prog t, m ≤ reachBytes := fun m hm => by
  have := List.all_eq_true.1 h m (DataW.weights_mem_each (j := j) ht hd m hm)
  simpa using this
end Go.Proofs.YtjjfehdlmdhhmaaDoor
end
