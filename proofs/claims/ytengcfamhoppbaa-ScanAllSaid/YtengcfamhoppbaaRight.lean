/- right, of the document's own answer: are the intervals such ones? -/
import Derived.Test.YtengcfamhoppbaaLaw0
namespace Go.Proofs.Ytengcfamhoppbaa
set_option linter.unusedSimpArgs false
set_option linter.unusedVariables false
open Go.Sep
attribute [local irreducible] blk slA mp mpF

def bad0 (x : Iv) : Prop := x.r < 0 ∨ x.r ≥ 262144 ∨ x.t < x.f
instance (x : Iv) : Decidable (bad0 x) := by unfold bad0; infer_instance
def badP2 (p x : Iv) : Prop := p.f > x.f ∨ p.f = x.f ∧ p.r ≥ x.r
instance (p x : Iv) : Decidable (badP2 p x) := by unfold badP2; infer_instance
def prevBad2 : Option Iv → Iv → Bool
  | some p, x => decide (badP2 p x)
  | none, _ => false
def rightGo (prev : Option Iv) (done : List Iv) : List Iv → Bool
  | [] => true
  | x :: xs => if bad0 x then false else if prevBad2 prev x then false else if done.any (fun y => decide (y.r = x.r)) then false else rightGo (some x) (done ++ [x]) xs
def rightL (xs : List Iv) : Bool := rightGo none [] xs

set_option maxRecDepth 100000 in
theorem right_ok (hR : Heap) (v : Value) (xs : List Iv) (hl : SlR encIv.rd hR v xs) (hlen : xs.length ≤ 1000000) :
    Tri Try.prog hR 22 #[v] [] fun u Γ' => u = .bool (rightL xs) ∧ Γ' = [] := by
  refine Tri.of (args := [v]) Try.func22 rfl Try.ntmps22 (by simp) ?_
  refine WP.seq ?_
  refine WP.plain cf0 rfl ?_
  refine Run.mv rfl rfl rfl rfl ?_
  refine Run.nil ?_
  refine thn_next ?_
  refine WP.seqMeet (α := Unit) (fun _ => rightL xs = true) (fun _ => []) (fun _ => []) ?_ ?_
  · refine WP.seq ?_
    refine WP.plain cf0 rfl ?_
    refine Run.mv rfl rfl rfl rfl ?_
    refine Run.nil ?_
    refine thn_next ?_
    refine WP.block ?_
    refine WP.loop (α := Nat) (fun i => i ≤ xs.length ∧ rightL xs = rightGo (prevOf xs i) (xs.take i) (xs.drop i)) (fun i => [(0, v), (3, .int .i64 (i : Int))]) (fun i => []) (fun i => xs.length - i)
      0 ⟨Nat.zero_le _, rfl⟩ ⟨rfl, rfl, trivial⟩ (ent.refl _) ?_
    rintro i ⟨hi, hw⟩
    refine WP.seq ?_
    refine WP.seq ?_
    refine WP.plain cf0 rfl ?_
    refine Run.mv rfl rfl rfl rfl ?_
    refine Run.mv rfl rfl rfl rfl ?_
    refine Run.lenR rfl rfl sl_22 rfl rfl (by assumption) ?_
    refine Run.int2 rfl rfl rfl rfl rfl rfl ?_
    refine Run.nil ?_
    refine thn_next ?_
    refine WP.ite rfl (fun hlt => ?_) (fun hge => ?_)
    · refine WP.skip ?_; refine thn_next ?_
      have hlt' : i < xs.length := by omega
      have hdec : xs.length - (i + 1) < xs.length - i := by omega
      obtain ⟨x, gx⟩ : ∃ x, xs[i]? = some x := ⟨_, List.getElem?_eq_getElem hlt'⟩
      have gx' : xs[(i : Int).toNat]? = some x := gx
      have hdrop : xs.drop i = x :: xs.drop (i + 1) := by rw [List.drop_eq_getElem_cons hlt']; congr 1; rw [List.getElem?_eq_getElem hlt'] at gx; cases gx; rfl
      have htake : xs.take (i + 1) = xs.take i ++ [x] := by rw [List.take_add_one, gx]; rfl
      refine WP.seq ?_
      refine WP.block ?_
      refine WP.seq ?_
      refine WP.plain cf0 rfl ?_
      refine Run.mv rfl rfl rfl rfl ?_
      refine Run.mv rfl rfl rfl rfl ?_
      refine Run.idxR rfl rfl rfl sl_22 rfl rfl (by assumption) (by rfl) (by first | omega | (simp <;> omega)) (by first | omega | (simp <;> omega)) ?_
      refine Run.loadRagg rfl rfl ag_35 rfl rfl (by first | assumption | exact SlR.row (by assumption) (by assumption)) (by rfl) ?_
      refine Run.alloc rfl zr_35 rfl rfl rfl ?_
      intro b4
      refine Run.storeB 0 rfl rfl rfl rfl ag_35 rfl rfl rfl rfl rfl ?_
      refine Run.nil ?_
      refine thn_next ?_
      refine WP.via (Γ' := [blk b4 (encIv.cells x) 35]) (ent.refl _) ?_
      refine WP.seq ?_
      refine WP.seqCut [(0, v), (3, .int .i64 (i : Int)), (4, .pointer (some ⟨b4, 0, none⟩)), (30, .bool (decide (bad0 x)))] [blk b4 (encIv.cells x) 35] ?_ ?_
      · refine WP.plain cf0 rfl ?_
        all_goals (first | refine Run.fieldAddr rfl rfl fo_35_0 rfl rfl ?_)
        all_goals (first | refine Run.loadB 0 rfl rfl ag_3 rfl rfl rfl rfl rfl ?_)
        all_goals (first | refine Run.int2 rfl rfl rfl rfl rfl rfl ?_)
        all_goals (first | refine Run.tt (by first | assumption | omega) ?_ | refine Run.ff (by first | assumption | omega) ?_ | refine Run.split (fun hc18 => ?_) (fun hc18 => ?_) | refine Run.splitB (fun hc18 => ?_) (fun hc18 => ?_) | skip)
        all_goals (first | refine Run.mv rfl rfl rfl rfl ?_)
        all_goals (first | refine Run.not rfl rfl ?_ | refine Run.fieldAddr rfl rfl fo_35_0 rfl rfl ?_)
        all_goals (first | refine Run.not rfl rfl ?_ | refine Run.loadB 0 rfl rfl ag_3 rfl rfl rfl rfl rfl ?_)
        all_goals (first | refine Run.not rfl rfl ?_ | refine Run.int2 rfl rfl rfl rfl rfl rfl ?_)
        all_goals (first | refine Run.tt (by first | assumption | omega) ?_ | refine Run.ff (by first | assumption | omega) ?_ | refine Run.split (fun hc22 => ?_) (fun hc22 => ?_) | refine Run.splitB (fun hc22 => ?_) (fun hc22 => ?_) | skip)
        all_goals (first | refine Run.pick rfl rfl rfl rfl rfl ?_)
        all_goals (first | refine Run.mv rfl rfl rfl rfl ?_)
        all_goals (first | refine Run.not rfl rfl ?_ | refine Run.fieldAddr rfl rfl fo_35_2 rfl rfl ?_)
        all_goals (first | refine Run.not rfl rfl ?_ | refine Run.loadB 0 rfl rfl ag_3 rfl rfl rfl rfl rfl ?_)
        all_goals (first | refine Run.not rfl rfl ?_ | refine Run.fieldAddr rfl rfl fo_35_1 rfl rfl ?_)
        all_goals (first | refine Run.not rfl rfl ?_ | refine Run.loadB 0 rfl rfl ag_3 rfl rfl rfl rfl rfl ?_)
        all_goals (first | refine Run.not rfl rfl ?_ | refine Run.int2 rfl rfl rfl rfl rfl rfl ?_)
        all_goals (first | refine Run.pick rfl rfl rfl rfl rfl ?_)
        all_goals (refine Run.nil ?_)
        all_goals refine thn_next ⟨⟨rfl, rfl, rfl, ?_, trivial⟩, ent.refl _⟩
        all_goals simp [Env.get, bad0, *]
      refine WP.ite rfl (fun hbad => ?_) (fun hok => ?_)
      · refine WP.seq ?_
        refine WP.plain cf0 rfl ?_
        refine Run.mv rfl rfl rfl rfl ?_
        refine Run.nil ?_
        refine thn_next ?_
        refine WP.via (pick_only [] _) ?_
        refine WP.ret ?_; refine thn_ret ?_; refine blk_ret ?_; refine thn_ret ?_; refine thn_ret ?_; refine blk_ret ?_; refine thn_ret ?_
        exact retT [2] _ rfl rfl ⟨by rw [hw, hdrop, rightGo, if_pos hbad]; rfl, rfl⟩
      refine WP.skip ?_; refine thn_next ?_
      refine WP.seq ?_
      refine WP.seqCut [(0, v), (3, .int .i64 (i : Int)), (4, .pointer (some ⟨b4, 0, none⟩)), (65, .bool (prevBad2 (prevOf xs i) x))] [blk b4 (encIv.cells x) 35] ?_ ?_
      · by_cases hi0 : i = 0
        · have hneg : ¬ (i : Int) > 0 := by omega
          refine WP.drawn0 cf0 mixed rfl (by kernel_rfl) ?_
          all_goals (first | refine Run.mv rfl rfl rfl rfl ?_)
          all_goals (first | refine Run.int2 rfl rfl rfl rfl rfl rfl ?_)
          all_goals (first | refine Run.tt (by first | assumption | omega) ?_ | refine Run.ff (by first | assumption | omega) ?_ | refine Run.split (fun hc32 => ?_) (fun hc32 => ?_) | refine Run.splitB (fun hc32 => ?_) (fun hc32 => ?_) | skip)
          all_goals (first | refine Run.mv rfl rfl rfl rfl ?_)
          all_goals (first | refine Run.not rfl rfl ?_ | refine Run.mv rfl rfl rfl rfl ?_)
          all_goals (first | refine Run.not rfl rfl ?_ | refine Run.mv rfl rfl rfl rfl ?_)
          all_goals (first | refine Run.not rfl rfl ?_ | refine Run.sub64 rfl rfl rfl rfl rfl (by first | omega | (simp <;> omega)) (by first | omega | (simp <;> omega)) ?_)
          all_goals (first | refine Run.not rfl rfl ?_ | refine Run.idxO 0 rfl rfl rfl sl_22 rfl rfl rfl rfl (by first | omega | (simp <;> omega)) (by first | omega | (simp <;> omega)) ?_ | refine Run.idxO 1 rfl rfl rfl sl_22 rfl rfl rfl rfl (by first | omega | (simp <;> omega)) (by first | omega | (simp <;> omega)) ?_ | refine Run.idxO 2 rfl rfl rfl sl_22 rfl rfl rfl rfl (by first | omega | (simp <;> omega)) (by first | omega | (simp <;> omega)) ?_ | refine Run.idxO 3 rfl rfl rfl sl_22 rfl rfl rfl rfl (by first | omega | (simp <;> omega)) (by first | omega | (simp <;> omega)) ?_ | refine Run.idxO 4 rfl rfl rfl sl_22 rfl rfl rfl rfl (by first | omega | (simp <;> omega)) (by first | omega | (simp <;> omega)) ?_ | refine Run.idxO 5 rfl rfl rfl sl_22 rfl rfl rfl rfl (by first | omega | (simp <;> omega)) (by first | omega | (simp <;> omega)) ?_ | refine Run.idxR rfl rfl rfl sl_22 rfl rfl (by assumption) (by rfl) (by first | omega | (simp <;> omega)) (by first | omega | (simp <;> omega)) ?_)
          all_goals (first | refine Run.not rfl rfl ?_ | refine Run.fieldAddr rfl rfl fo_35_1 rfl rfl ?_)
          all_goals (first | refine Run.not rfl rfl ?_ | refine Run.loadB 0 rfl rfl ag_3 rfl rfl rfl rfl rfl ?_ | refine Run.loadO 0 _ 0 rfl rfl ag_3 rfl rfl rfl rfl (by assumption) rfl ?_ | refine Run.loadO 0 _ _ rfl rfl ag_3 rfl rfl rfl rfl (by assumption) rfl ?_ | refine Run.loadB 1 rfl rfl ag_3 rfl rfl rfl rfl rfl ?_ | refine Run.loadO 1 _ 0 rfl rfl ag_3 rfl rfl rfl rfl (by assumption) rfl ?_ | refine Run.loadO 1 _ _ rfl rfl ag_3 rfl rfl rfl rfl (by assumption) rfl ?_ | refine Run.loadB 2 rfl rfl ag_3 rfl rfl rfl rfl rfl ?_ | refine Run.loadO 2 _ 0 rfl rfl ag_3 rfl rfl rfl rfl (by assumption) rfl ?_ | refine Run.loadO 2 _ _ rfl rfl ag_3 rfl rfl rfl rfl (by assumption) rfl ?_ | refine Run.loadB 3 rfl rfl ag_3 rfl rfl rfl rfl rfl ?_ | refine Run.loadO 3 _ 0 rfl rfl ag_3 rfl rfl rfl rfl (by assumption) rfl ?_ | refine Run.loadO 3 _ _ rfl rfl ag_3 rfl rfl rfl rfl (by assumption) rfl ?_ | refine Run.loadB 4 rfl rfl ag_3 rfl rfl rfl rfl rfl ?_ | refine Run.loadO 4 _ 0 rfl rfl ag_3 rfl rfl rfl rfl (by assumption) rfl ?_ | refine Run.loadO 4 _ _ rfl rfl ag_3 rfl rfl rfl rfl (by assumption) rfl ?_ | refine Run.loadB 5 rfl rfl ag_3 rfl rfl rfl rfl rfl ?_ | refine Run.loadO 5 _ 0 rfl rfl ag_3 rfl rfl rfl rfl (by assumption) rfl ?_ | refine Run.loadO 5 _ _ rfl rfl ag_3 rfl rfl rfl rfl (by assumption) rfl ?_ | refine Run.loadR rfl rfl ag_3 rfl rfl (by first | assumption | exact SlR.cell0 (by assumption) (by assumption) rfl | exact SlR.cell (by assumption) (by assumption) rfl) ?_)
          all_goals (first | refine Run.not rfl rfl ?_ | refine Run.fieldAddr rfl rfl fo_35_1 rfl rfl ?_)
          all_goals (first | refine Run.not rfl rfl ?_ | refine Run.loadB 0 rfl rfl ag_3 rfl rfl rfl rfl rfl ?_ | refine Run.loadO 0 _ 0 rfl rfl ag_3 rfl rfl rfl rfl (by assumption) rfl ?_ | refine Run.loadO 0 _ _ rfl rfl ag_3 rfl rfl rfl rfl (by assumption) rfl ?_ | refine Run.loadB 1 rfl rfl ag_3 rfl rfl rfl rfl rfl ?_ | refine Run.loadO 1 _ 0 rfl rfl ag_3 rfl rfl rfl rfl (by assumption) rfl ?_ | refine Run.loadO 1 _ _ rfl rfl ag_3 rfl rfl rfl rfl (by assumption) rfl ?_ | refine Run.loadB 2 rfl rfl ag_3 rfl rfl rfl rfl rfl ?_ | refine Run.loadO 2 _ 0 rfl rfl ag_3 rfl rfl rfl rfl (by assumption) rfl ?_ | refine Run.loadO 2 _ _ rfl rfl ag_3 rfl rfl rfl rfl (by assumption) rfl ?_ | refine Run.loadB 3 rfl rfl ag_3 rfl rfl rfl rfl rfl ?_ | refine Run.loadO 3 _ 0 rfl rfl ag_3 rfl rfl rfl rfl (by assumption) rfl ?_ | refine Run.loadO 3 _ _ rfl rfl ag_3 rfl rfl rfl rfl (by assumption) rfl ?_ | refine Run.loadB 4 rfl rfl ag_3 rfl rfl rfl rfl rfl ?_ | refine Run.loadO 4 _ 0 rfl rfl ag_3 rfl rfl rfl rfl (by assumption) rfl ?_ | refine Run.loadO 4 _ _ rfl rfl ag_3 rfl rfl rfl rfl (by assumption) rfl ?_ | refine Run.loadB 5 rfl rfl ag_3 rfl rfl rfl rfl rfl ?_ | refine Run.loadO 5 _ 0 rfl rfl ag_3 rfl rfl rfl rfl (by assumption) rfl ?_ | refine Run.loadO 5 _ _ rfl rfl ag_3 rfl rfl rfl rfl (by assumption) rfl ?_ | refine Run.loadR rfl rfl ag_3 rfl rfl (by first | assumption | exact SlR.cell0 (by assumption) (by assumption) rfl | exact SlR.cell (by assumption) (by assumption) rfl) ?_)
          all_goals (first | refine Run.not rfl rfl ?_ | refine Run.int2 rfl rfl rfl rfl rfl rfl ?_)
          all_goals (first | refine Run.tt (by first | assumption | omega) ?_ | refine Run.ff (by first | assumption | omega) ?_ | refine Run.split (fun hc42 => ?_) (fun hc42 => ?_) | refine Run.splitB (fun hc42 => ?_) (fun hc42 => ?_) | skip)
          all_goals (first | refine Run.not rfl rfl ?_ | refine Run.mv rfl rfl rfl rfl ?_)
          all_goals (first | refine Run.not rfl rfl ?_ | refine Run.mv rfl rfl rfl rfl ?_)
          all_goals (first | refine Run.not rfl rfl ?_ | refine Run.mv rfl rfl rfl rfl ?_)
          all_goals (first | refine Run.not rfl rfl ?_ | refine Run.sub64 rfl rfl rfl rfl rfl (by first | omega | (simp <;> omega)) (by first | omega | (simp <;> omega)) ?_)
          all_goals (first | refine Run.not rfl rfl ?_ | refine Run.idxO 0 rfl rfl rfl sl_22 rfl rfl rfl rfl (by first | omega | (simp <;> omega)) (by first | omega | (simp <;> omega)) ?_ | refine Run.idxO 1 rfl rfl rfl sl_22 rfl rfl rfl rfl (by first | omega | (simp <;> omega)) (by first | omega | (simp <;> omega)) ?_ | refine Run.idxO 2 rfl rfl rfl sl_22 rfl rfl rfl rfl (by first | omega | (simp <;> omega)) (by first | omega | (simp <;> omega)) ?_ | refine Run.idxO 3 rfl rfl rfl sl_22 rfl rfl rfl rfl (by first | omega | (simp <;> omega)) (by first | omega | (simp <;> omega)) ?_ | refine Run.idxO 4 rfl rfl rfl sl_22 rfl rfl rfl rfl (by first | omega | (simp <;> omega)) (by first | omega | (simp <;> omega)) ?_ | refine Run.idxO 5 rfl rfl rfl sl_22 rfl rfl rfl rfl (by first | omega | (simp <;> omega)) (by first | omega | (simp <;> omega)) ?_ | refine Run.idxR rfl rfl rfl sl_22 rfl rfl (by assumption) (by rfl) (by first | omega | (simp <;> omega)) (by first | omega | (simp <;> omega)) ?_)
          all_goals (first | refine Run.not rfl rfl ?_ | refine Run.fieldAddr rfl rfl fo_35_1 rfl rfl ?_)
          all_goals (first | refine Run.not rfl rfl ?_ | refine Run.loadB 0 rfl rfl ag_3 rfl rfl rfl rfl rfl ?_ | refine Run.loadO 0 _ 0 rfl rfl ag_3 rfl rfl rfl rfl (by assumption) rfl ?_ | refine Run.loadO 0 _ _ rfl rfl ag_3 rfl rfl rfl rfl (by assumption) rfl ?_ | refine Run.loadB 1 rfl rfl ag_3 rfl rfl rfl rfl rfl ?_ | refine Run.loadO 1 _ 0 rfl rfl ag_3 rfl rfl rfl rfl (by assumption) rfl ?_ | refine Run.loadO 1 _ _ rfl rfl ag_3 rfl rfl rfl rfl (by assumption) rfl ?_ | refine Run.loadB 2 rfl rfl ag_3 rfl rfl rfl rfl rfl ?_ | refine Run.loadO 2 _ 0 rfl rfl ag_3 rfl rfl rfl rfl (by assumption) rfl ?_ | refine Run.loadO 2 _ _ rfl rfl ag_3 rfl rfl rfl rfl (by assumption) rfl ?_ | refine Run.loadB 3 rfl rfl ag_3 rfl rfl rfl rfl rfl ?_ | refine Run.loadO 3 _ 0 rfl rfl ag_3 rfl rfl rfl rfl (by assumption) rfl ?_ | refine Run.loadO 3 _ _ rfl rfl ag_3 rfl rfl rfl rfl (by assumption) rfl ?_ | refine Run.loadB 4 rfl rfl ag_3 rfl rfl rfl rfl rfl ?_ | refine Run.loadO 4 _ 0 rfl rfl ag_3 rfl rfl rfl rfl (by assumption) rfl ?_ | refine Run.loadO 4 _ _ rfl rfl ag_3 rfl rfl rfl rfl (by assumption) rfl ?_ | refine Run.loadB 5 rfl rfl ag_3 rfl rfl rfl rfl rfl ?_ | refine Run.loadO 5 _ 0 rfl rfl ag_3 rfl rfl rfl rfl (by assumption) rfl ?_ | refine Run.loadO 5 _ _ rfl rfl ag_3 rfl rfl rfl rfl (by assumption) rfl ?_ | refine Run.loadR rfl rfl ag_3 rfl rfl (by first | assumption | exact SlR.cell0 (by assumption) (by assumption) rfl | exact SlR.cell (by assumption) (by assumption) rfl) ?_)
          all_goals (first | refine Run.not rfl rfl ?_ | refine Run.fieldAddr rfl rfl fo_35_1 rfl rfl ?_)
          all_goals (first | refine Run.not rfl rfl ?_ | refine Run.loadB 0 rfl rfl ag_3 rfl rfl rfl rfl rfl ?_ | refine Run.loadO 0 _ 0 rfl rfl ag_3 rfl rfl rfl rfl (by assumption) rfl ?_ | refine Run.loadO 0 _ _ rfl rfl ag_3 rfl rfl rfl rfl (by assumption) rfl ?_ | refine Run.loadB 1 rfl rfl ag_3 rfl rfl rfl rfl rfl ?_ | refine Run.loadO 1 _ 0 rfl rfl ag_3 rfl rfl rfl rfl (by assumption) rfl ?_ | refine Run.loadO 1 _ _ rfl rfl ag_3 rfl rfl rfl rfl (by assumption) rfl ?_ | refine Run.loadB 2 rfl rfl ag_3 rfl rfl rfl rfl rfl ?_ | refine Run.loadO 2 _ 0 rfl rfl ag_3 rfl rfl rfl rfl (by assumption) rfl ?_ | refine Run.loadO 2 _ _ rfl rfl ag_3 rfl rfl rfl rfl (by assumption) rfl ?_ | refine Run.loadB 3 rfl rfl ag_3 rfl rfl rfl rfl rfl ?_ | refine Run.loadO 3 _ 0 rfl rfl ag_3 rfl rfl rfl rfl (by assumption) rfl ?_ | refine Run.loadO 3 _ _ rfl rfl ag_3 rfl rfl rfl rfl (by assumption) rfl ?_ | refine Run.loadB 4 rfl rfl ag_3 rfl rfl rfl rfl rfl ?_ | refine Run.loadO 4 _ 0 rfl rfl ag_3 rfl rfl rfl rfl (by assumption) rfl ?_ | refine Run.loadO 4 _ _ rfl rfl ag_3 rfl rfl rfl rfl (by assumption) rfl ?_ | refine Run.loadB 5 rfl rfl ag_3 rfl rfl rfl rfl rfl ?_ | refine Run.loadO 5 _ 0 rfl rfl ag_3 rfl rfl rfl rfl (by assumption) rfl ?_ | refine Run.loadO 5 _ _ rfl rfl ag_3 rfl rfl rfl rfl (by assumption) rfl ?_ | refine Run.loadR rfl rfl ag_3 rfl rfl (by first | assumption | exact SlR.cell0 (by assumption) (by assumption) rfl | exact SlR.cell (by assumption) (by assumption) rfl) ?_)
          all_goals (first | refine Run.not rfl rfl ?_ | refine Run.int2 rfl rfl rfl rfl rfl rfl ?_)
          all_goals (first | refine Run.tt (by first | assumption | omega) ?_ | refine Run.ff (by first | assumption | omega) ?_ | refine Run.split (fun hc52 => ?_) (fun hc52 => ?_) | refine Run.splitB (fun hc52 => ?_) (fun hc52 => ?_) | skip)
          all_goals (first | refine Run.not rfl rfl ?_ | refine Run.mv rfl rfl rfl rfl ?_)
          all_goals (first | refine Run.not rfl rfl ?_ | refine Run.mv rfl rfl rfl rfl ?_)
          all_goals (first | refine Run.not rfl rfl ?_ | refine Run.mv rfl rfl rfl rfl ?_)
          all_goals (first | refine Run.not rfl rfl ?_ | refine Run.sub64 rfl rfl rfl rfl rfl (by first | omega | (simp <;> omega)) (by first | omega | (simp <;> omega)) ?_)
          all_goals (first | refine Run.not rfl rfl ?_ | refine Run.idxO 0 rfl rfl rfl sl_22 rfl rfl rfl rfl (by first | omega | (simp <;> omega)) (by first | omega | (simp <;> omega)) ?_ | refine Run.idxO 1 rfl rfl rfl sl_22 rfl rfl rfl rfl (by first | omega | (simp <;> omega)) (by first | omega | (simp <;> omega)) ?_ | refine Run.idxO 2 rfl rfl rfl sl_22 rfl rfl rfl rfl (by first | omega | (simp <;> omega)) (by first | omega | (simp <;> omega)) ?_ | refine Run.idxO 3 rfl rfl rfl sl_22 rfl rfl rfl rfl (by first | omega | (simp <;> omega)) (by first | omega | (simp <;> omega)) ?_ | refine Run.idxO 4 rfl rfl rfl sl_22 rfl rfl rfl rfl (by first | omega | (simp <;> omega)) (by first | omega | (simp <;> omega)) ?_ | refine Run.idxO 5 rfl rfl rfl sl_22 rfl rfl rfl rfl (by first | omega | (simp <;> omega)) (by first | omega | (simp <;> omega)) ?_ | refine Run.idxR rfl rfl rfl sl_22 rfl rfl (by assumption) (by rfl) (by first | omega | (simp <;> omega)) (by first | omega | (simp <;> omega)) ?_)
          all_goals (first | refine Run.not rfl rfl ?_ | refine Run.fieldAddr rfl rfl fo_35_0 rfl rfl ?_)
          all_goals (first | refine Run.not rfl rfl ?_ | refine Run.loadB 0 rfl rfl ag_3 rfl rfl rfl rfl rfl ?_ | refine Run.loadO 0 _ 0 rfl rfl ag_3 rfl rfl rfl rfl (by assumption) rfl ?_ | refine Run.loadO 0 _ _ rfl rfl ag_3 rfl rfl rfl rfl (by assumption) rfl ?_ | refine Run.loadB 1 rfl rfl ag_3 rfl rfl rfl rfl rfl ?_ | refine Run.loadO 1 _ 0 rfl rfl ag_3 rfl rfl rfl rfl (by assumption) rfl ?_ | refine Run.loadO 1 _ _ rfl rfl ag_3 rfl rfl rfl rfl (by assumption) rfl ?_ | refine Run.loadB 2 rfl rfl ag_3 rfl rfl rfl rfl rfl ?_ | refine Run.loadO 2 _ 0 rfl rfl ag_3 rfl rfl rfl rfl (by assumption) rfl ?_ | refine Run.loadO 2 _ _ rfl rfl ag_3 rfl rfl rfl rfl (by assumption) rfl ?_ | refine Run.loadB 3 rfl rfl ag_3 rfl rfl rfl rfl rfl ?_ | refine Run.loadO 3 _ 0 rfl rfl ag_3 rfl rfl rfl rfl (by assumption) rfl ?_ | refine Run.loadO 3 _ _ rfl rfl ag_3 rfl rfl rfl rfl (by assumption) rfl ?_ | refine Run.loadB 4 rfl rfl ag_3 rfl rfl rfl rfl rfl ?_ | refine Run.loadO 4 _ 0 rfl rfl ag_3 rfl rfl rfl rfl (by assumption) rfl ?_ | refine Run.loadO 4 _ _ rfl rfl ag_3 rfl rfl rfl rfl (by assumption) rfl ?_ | refine Run.loadB 5 rfl rfl ag_3 rfl rfl rfl rfl rfl ?_ | refine Run.loadO 5 _ 0 rfl rfl ag_3 rfl rfl rfl rfl (by assumption) rfl ?_ | refine Run.loadO 5 _ _ rfl rfl ag_3 rfl rfl rfl rfl (by assumption) rfl ?_ | refine Run.loadR rfl rfl ag_3 rfl rfl (by first | assumption | exact SlR.cell0 (by assumption) (by assumption) rfl | exact SlR.cell (by assumption) (by assumption) rfl) ?_)
          all_goals (first | refine Run.not rfl rfl ?_ | refine Run.fieldAddr rfl rfl fo_35_0 rfl rfl ?_)
          all_goals (first | refine Run.not rfl rfl ?_ | refine Run.loadB 0 rfl rfl ag_3 rfl rfl rfl rfl rfl ?_ | refine Run.loadO 0 _ 0 rfl rfl ag_3 rfl rfl rfl rfl (by assumption) rfl ?_ | refine Run.loadO 0 _ _ rfl rfl ag_3 rfl rfl rfl rfl (by assumption) rfl ?_ | refine Run.loadB 1 rfl rfl ag_3 rfl rfl rfl rfl rfl ?_ | refine Run.loadO 1 _ 0 rfl rfl ag_3 rfl rfl rfl rfl (by assumption) rfl ?_ | refine Run.loadO 1 _ _ rfl rfl ag_3 rfl rfl rfl rfl (by assumption) rfl ?_ | refine Run.loadB 2 rfl rfl ag_3 rfl rfl rfl rfl rfl ?_ | refine Run.loadO 2 _ 0 rfl rfl ag_3 rfl rfl rfl rfl (by assumption) rfl ?_ | refine Run.loadO 2 _ _ rfl rfl ag_3 rfl rfl rfl rfl (by assumption) rfl ?_ | refine Run.loadB 3 rfl rfl ag_3 rfl rfl rfl rfl rfl ?_ | refine Run.loadO 3 _ 0 rfl rfl ag_3 rfl rfl rfl rfl (by assumption) rfl ?_ | refine Run.loadO 3 _ _ rfl rfl ag_3 rfl rfl rfl rfl (by assumption) rfl ?_ | refine Run.loadB 4 rfl rfl ag_3 rfl rfl rfl rfl rfl ?_ | refine Run.loadO 4 _ 0 rfl rfl ag_3 rfl rfl rfl rfl (by assumption) rfl ?_ | refine Run.loadO 4 _ _ rfl rfl ag_3 rfl rfl rfl rfl (by assumption) rfl ?_ | refine Run.loadB 5 rfl rfl ag_3 rfl rfl rfl rfl rfl ?_ | refine Run.loadO 5 _ 0 rfl rfl ag_3 rfl rfl rfl rfl (by assumption) rfl ?_ | refine Run.loadO 5 _ _ rfl rfl ag_3 rfl rfl rfl rfl (by assumption) rfl ?_ | refine Run.loadR rfl rfl ag_3 rfl rfl (by first | assumption | exact SlR.cell0 (by assumption) (by assumption) rfl | exact SlR.cell (by assumption) (by assumption) rfl) ?_)
          all_goals (first | refine Run.not rfl rfl ?_ | refine Run.int2 rfl rfl rfl rfl rfl rfl ?_)
          all_goals (first | refine Run.not rfl rfl ?_ | refine Run.pick rfl rfl rfl rfl rfl ?_)
          all_goals (first | refine Run.not rfl rfl ?_ | refine Run.pick rfl rfl rfl rfl rfl ?_)
          all_goals (first | refine Run.pick rfl rfl rfl rfl rfl ?_)
          all_goals (refine Run.nil ?_)
          refine thn_next ⟨⟨rfl, rfl, rfl, ?_, trivial⟩, ent.refl _⟩
          simp [Env.get, prevOf, hi0, prevBad2]
        · have hpos : (i : Int) > 0 := by omega
          obtain ⟨p, gp⟩ : ∃ p, xs[i - 1]? = some p := ⟨_, List.getElem?_eq_getElem (by omega)⟩
          have gp' : xs[((i : Int) - 1).toNat]? = some p := by rw [← gp]; congr 1; omega
          have hpv : prevOf xs i = some p := by simp [prevOf, hi0, gp]
          refine WP.drawn0 cf0 mixed rfl (by kernel_rfl) ?_
          all_goals (first | refine Run.mv rfl rfl rfl rfl ?_)
          all_goals (first | refine Run.int2 rfl rfl rfl rfl rfl rfl ?_)
          all_goals (first | refine Run.tt (by first | assumption | omega) ?_ | refine Run.ff (by first | assumption | omega) ?_ | refine Run.split (fun hc32 => ?_) (fun hc32 => ?_) | refine Run.splitB (fun hc32 => ?_) (fun hc32 => ?_) | skip)
          all_goals (first | refine Run.mv rfl rfl rfl rfl ?_)
          all_goals (first | refine Run.not rfl rfl ?_ | refine Run.mv rfl rfl rfl rfl ?_)
          all_goals (first | refine Run.not rfl rfl ?_ | refine Run.mv rfl rfl rfl rfl ?_)
          all_goals (first | refine Run.not rfl rfl ?_ | refine Run.sub64 rfl rfl rfl rfl rfl (by first | omega | (simp <;> omega)) (by first | omega | (simp <;> omega)) ?_)
          all_goals (first | refine Run.not rfl rfl ?_ | refine Run.idxR rfl rfl rfl sl_22 rfl rfl (by assumption) (by rfl) (by first | omega | (simp <;> omega)) (by first | omega | (simp <;> omega)) ?_)
          all_goals (first | refine Run.not rfl rfl ?_ | refine Run.fieldAddr rfl rfl fo_35_1 rfl rfl ?_)
          all_goals (first | refine Run.not rfl rfl ?_ | refine Run.loadR rfl rfl ag_3 rfl rfl (by first | assumption | exact SlR.cell0 (by assumption) (by assumption) rfl | exact SlR.cell (by assumption) (by assumption) rfl) ?_)
          all_goals (first | refine Run.not rfl rfl ?_ | refine Run.fieldAddr rfl rfl fo_35_1 rfl rfl ?_)
          all_goals (first | refine Run.not rfl rfl ?_ | refine Run.loadB 0 rfl rfl ag_3 rfl rfl rfl rfl rfl ?_)
          all_goals (first | refine Run.not rfl rfl ?_ | refine Run.int2 rfl rfl rfl rfl rfl rfl ?_)
          all_goals (first | refine Run.tt (by first | assumption | omega) ?_ | refine Run.ff (by first | assumption | omega) ?_ | refine Run.split (fun hc42 => ?_) (fun hc42 => ?_) | refine Run.splitB (fun hc42 => ?_) (fun hc42 => ?_) | skip)
          all_goals (first | refine Run.not rfl rfl ?_ | refine Run.mv rfl rfl rfl rfl ?_)
          all_goals (first | refine Run.not rfl rfl ?_ | refine Run.mv rfl rfl rfl rfl ?_)
          all_goals (first | refine Run.not rfl rfl ?_ | refine Run.mv rfl rfl rfl rfl ?_)
          all_goals (first | refine Run.not rfl rfl ?_ | refine Run.sub64 rfl rfl rfl rfl rfl (by first | omega | (simp <;> omega)) (by first | omega | (simp <;> omega)) ?_)
          all_goals (first | refine Run.not rfl rfl ?_ | refine Run.idxR rfl rfl rfl sl_22 rfl rfl (by assumption) (by rfl) (by first | omega | (simp <;> omega)) (by first | omega | (simp <;> omega)) ?_)
          all_goals (first | refine Run.not rfl rfl ?_ | refine Run.fieldAddr rfl rfl fo_35_1 rfl rfl ?_)
          all_goals (first | refine Run.not rfl rfl ?_ | refine Run.loadR rfl rfl ag_3 rfl rfl (by first | assumption | exact SlR.cell0 (by assumption) (by assumption) rfl | exact SlR.cell (by assumption) (by assumption) rfl) ?_)
          all_goals (first | refine Run.not rfl rfl ?_ | refine Run.fieldAddr rfl rfl fo_35_1 rfl rfl ?_)
          all_goals (first | refine Run.not rfl rfl ?_ | refine Run.loadB 0 rfl rfl ag_3 rfl rfl rfl rfl rfl ?_)
          all_goals (first | refine Run.not rfl rfl ?_ | refine Run.int2 rfl rfl rfl rfl rfl rfl ?_)
          all_goals (first | refine Run.tt (by first | assumption | omega) ?_ | refine Run.ff (by first | assumption | omega) ?_ | refine Run.split (fun hc52 => ?_) (fun hc52 => ?_) | refine Run.splitB (fun hc52 => ?_) (fun hc52 => ?_) | skip)
          all_goals (first | refine Run.not rfl rfl ?_ | refine Run.mv rfl rfl rfl rfl ?_)
          all_goals (first | refine Run.not rfl rfl ?_ | refine Run.mv rfl rfl rfl rfl ?_)
          all_goals (first | refine Run.not rfl rfl ?_ | refine Run.mv rfl rfl rfl rfl ?_)
          all_goals (first | refine Run.not rfl rfl ?_ | refine Run.sub64 rfl rfl rfl rfl rfl (by first | omega | (simp <;> omega)) (by first | omega | (simp <;> omega)) ?_)
          all_goals (first | refine Run.not rfl rfl ?_ | refine Run.idxR rfl rfl rfl sl_22 rfl rfl (by assumption) (by rfl) (by first | omega | (simp <;> omega)) (by first | omega | (simp <;> omega)) ?_)
          all_goals (first | refine Run.not rfl rfl ?_ | refine Run.fieldAddr rfl rfl fo_35_0 rfl rfl ?_)
          all_goals (first | refine Run.not rfl rfl ?_ | refine Run.loadR rfl rfl ag_3 rfl rfl (by first | assumption | exact SlR.cell0 (by assumption) (by assumption) rfl | exact SlR.cell (by assumption) (by assumption) rfl) ?_)
          all_goals (first | refine Run.not rfl rfl ?_ | refine Run.fieldAddr rfl rfl fo_35_0 rfl rfl ?_)
          all_goals (first | refine Run.not rfl rfl ?_ | refine Run.loadB 0 rfl rfl ag_3 rfl rfl rfl rfl rfl ?_)
          all_goals (first | refine Run.not rfl rfl ?_ | refine Run.int2 rfl rfl rfl rfl rfl rfl ?_)
          all_goals (first | refine Run.not rfl rfl ?_ | refine Run.pick rfl rfl rfl rfl rfl ?_)
          all_goals (first | refine Run.not rfl rfl ?_ | refine Run.pick rfl rfl rfl rfl rfl ?_)
          all_goals (first | refine Run.pick rfl rfl rfl rfl rfl ?_)
          all_goals (refine Run.nil ?_)
          all_goals refine thn_next ⟨⟨rfl, rfl, rfl, ?_, trivial⟩, ent.refl _⟩
          all_goals simp [Env.get, hpv, prevBad2, badP2, *]
      refine WP.cond (t := prevBad2 (prevOf xs i) x) rfl (fun hbad => ?_) (fun hgood => ?_)
      · refine WP.seq ?_
        refine WP.plain cf0 rfl ?_
        refine Run.mv rfl rfl rfl rfl ?_
        refine Run.nil ?_
        refine thn_next ?_
        refine WP.via (pick_only [] _) ?_
        refine WP.ret ?_; refine thn_ret ?_; refine blk_ret ?_; refine thn_ret ?_; refine thn_ret ?_; refine blk_ret ?_; refine thn_ret ?_
        exact retT [2] _ rfl rfl ⟨by rw [hw, hdrop, rightGo, if_neg hok, if_pos hbad]; rfl, rfl⟩
      refine WP.skip ?_; refine thn_next ?_
      refine WP.seq ?_
      refine WP.plain cf0 rfl ?_
      refine Run.mv rfl rfl rfl rfl ?_
      refine Run.nil ?_
      refine thn_next ?_
      refine WP.block ?_
      refine WP.loop (α := Nat) (fun j => j ≤ i ∧ (xs.take j).any (fun y => decide (y.r = x.r)) = false) (fun j => [(0, v), (3, .int .i64 (i : Int)), (4, .pointer (some ⟨b4, 0, none⟩)), (5, .int .i64 (j : Int))]) (fun j => [blk b4 (encIv.cells x) 35]) (fun j => i - j)
        0 ⟨Nat.zero_le _, by simp⟩ ⟨rfl, rfl, rfl, rfl, trivial⟩ (ent.refl _) ?_
      rintro j ⟨hj, hany⟩
      refine WP.seq ?_
      refine WP.seq ?_
      refine WP.plain cf0 rfl ?_
      refine Run.mv rfl rfl rfl rfl ?_
      refine Run.mv rfl rfl rfl rfl ?_
      refine Run.int2 rfl rfl rfl rfl rfl rfl ?_
      refine Run.nil ?_
      refine thn_next ?_
      refine WP.ite rfl (fun hlt2 => ?_) (fun hge2 => ?_)
      · refine WP.skip ?_; refine thn_next ?_
        have hjx : j < xs.length := by omega
        obtain ⟨y, gy⟩ : ∃ y, xs[j]? = some y := ⟨_, List.getElem?_eq_getElem hjx⟩
        have gy' : xs[(j : Int).toNat]? = some y := gy
        have hdec2 : i - (j + 1) < i - j := by omega
        have htj : xs.take (j + 1) = xs.take j ++ [y] := by rw [List.take_add_one, gy]; rfl
        refine WP.seq ?_
        refine WP.block ?_
        refine WP.seq ?_
        refine WP.drawn0 cf0 mixed rfl (by kernel_rfl) ?_
        refine Run.mv rfl rfl rfl rfl ?_
        refine Run.mv rfl rfl rfl rfl ?_
        refine Run.idxR rfl rfl rfl sl_22 rfl rfl (by assumption) (by rfl) (by first | omega | (simp <;> omega)) (by first | omega | (simp <;> omega)) ?_
        refine Run.fieldAddr rfl rfl fo_35_0 rfl rfl ?_
        refine Run.loadR rfl rfl ag_3 rfl rfl (SlR.cell0 hl gy' rfl) ?_
        refine Run.fieldAddr rfl rfl fo_35_0 rfl rfl ?_
        refine Run.loadB 0 rfl rfl ag_3 rfl rfl rfl rfl rfl ?_
        refine Run.int2 rfl rfl rfl rfl rfl rfl ?_
        refine Run.nil ?_
        refine thn_next ?_
        refine WP.ite rfl (fun hbad => ?_) (fun hne => ?_)
        · refine WP.seq ?_
          refine WP.plain cf0 rfl ?_
          refine Run.mv rfl rfl rfl rfl ?_
          refine Run.nil ?_
          refine thn_next ?_
          refine WP.via (pick_only [] _) ?_
          have ha : (xs.take i).any (fun y => decide (y.r = x.r)) = true := by
            rw [List.any_eq_true]
            refine ⟨y, ?_, by simpa using hbad⟩
            have : (xs.take i)[j]? = some y := by rw [List.getElem?_take, if_pos (by omega)]; exact gy
            exact List.mem_of_getElem? this
          refine WP.ret ?_; refine blk_ret ?_; refine thn_ret ?_; refine thn_ret ?_; refine blk_ret ?_; refine blk_ret ?_; refine thn_ret ?_; refine thn_ret ?_; refine blk_ret ?_; refine thn_ret ?_
          exact retT [2] _ rfl rfl ⟨by rw [hw, hdrop, rightGo, if_neg hok, hgood, if_pos ha]; rfl, rfl⟩
        · refine WP.skip ?_; refine blk_norm ?_; refine thn_next ?_
          refine WP.plain cf0 rfl ?_
          refine Run.mv rfl rfl rfl rfl ?_
          refine Run.add64 rfl rfl rfl rfl rfl (by first | omega | (simp <;> omega)) (by first | omega | (simp <;> omega)) ?_
          refine Run.mv rfl rfl rfl rfl ?_
          refine Run.nil ?_
          refine thn_next ⟨j + 1, ⟨by omega, ?_⟩, hdec2, ⟨rfl, rfl, rfl, by simp [Env.get], trivial⟩, ent.refl _⟩
          rw [htj, List.any_append, hany]; simpa using hne
      · refine WP.exit ?_; refine thn_exit ?_; refine thn_exit ?_; refine blk_hit ?_; refine blk_norm ?_; refine thn_next ?_
        have hji : j = i := by omega
        subst hji
        refine WP.plain cf0 rfl ?_
        refine Run.mv rfl rfl rfl rfl ?_
        refine Run.add64 rfl rfl rfl rfl rfl (by first | omega | (simp <;> omega)) (by first | omega | (simp <;> omega)) ?_
        refine Run.mv rfl rfl rfl rfl ?_
        refine Run.nil ?_
        refine thn_next ⟨j + 1, ⟨hlt', ?_⟩, hdec, ⟨rfl, by simp [Env.get], trivial⟩, pick_only [] _⟩
        have hp1 : prevOf xs (j + 1) = some x := by simp [prevOf, gx]
        rw [hw, hdrop, rightGo, if_neg hok, hgood, hany, hp1, htake]; rfl
    · refine WP.exit ?_; refine thn_exit ?_; refine thn_exit ?_; refine blk_hit ?_
      refine thn_next ⟨(), ?_, trivial, ent.refl _⟩
      rw [hw, List.drop_eq_nil_of_le (by omega)]; rfl
  rintro _ hw
  refine WP.seq ?_
  refine WP.plain cf0 rfl ?_
  refine Run.mv rfl rfl rfl rfl ?_
  refine Run.nil ?_
  refine thn_next ?_
  refine WP.ret ?_
  exact retT [2] _ rfl rfl ⟨by rw [hw]; rfl, rfl⟩
end Go.Proofs.Ytengcfamhoppbaa
