/- wrong: is a list of intervals none? -/
import Derived.Test.YtengcfamhoppbaaSteps
namespace Go.Proofs.Ytengcfamhoppbaa
set_option linter.unusedSimpArgs false
set_option linter.unusedVariables false
open Go.Sep
attribute [local irreducible] blk slA mp mpF

def badIv (seen : Int → Bool) (x : Iv) : Prop := x.r < 0 ∨ x.r ≥ 262144 ∨ x.t < x.f ∨ seen x.r = true
instance (seen : Int → Bool) (x : Iv) : Decidable (badIv seen x) := by unfold badIv; infer_instance
def badPrev (p x : Iv) : Prop := p.f > x.f ∨ p.f = x.f ∧ p.r > x.r
instance (p x : Iv) : Decidable (badPrev p x) := by unfold badPrev; infer_instance
def see (seen : Int → Bool) (r : Int) : Int → Bool := fun k => if k = r then true else seen k
def prevBad : Option Iv → Iv → Bool
  | some p, x => decide (badPrev p x)
  | none, _ => false
/-- from the i-th on -/
def wrongGo (prev : Option Iv) (seen : Int → Bool) : List Iv → Bool
  | [] => false
  | x :: xs => if badIv seen x then true else if prevBad prev x then true else wrongGo (some x) (see seen x.r) xs
def wrongL (xs : List Iv) : Bool := wrongGo none (fun _ => false) xs

def seenF (seen : Int → Bool) : Int → Option Value := fun k => if seen k then some (.int .i64 1) else none
theorem seenF_get (seen : Int → Bool) (k : Int) : (seenF seen k).getD (.int .i64 0) = .int .i64 (if seen k then 1 else 0) := by unfold seenF; split <;> rfl
theorem seenF_upd (seen : Int → Bool) (r : Int) : upd (seenF seen) r (.int .i64 1) = seenF (see seen r) := by
  funext k; unfold upd seenF see; by_cases h : k = r <;> simp [h]

def prevOf (xs : List Iv) (i : Nat) : Option Iv := if i = 0 then none else xs[i - 1]?

set_option maxRecDepth 100000 in
theorem wrong_ok (hR : Heap) (v : Value) (xs : List Iv) (hl : SlR encIv.rd hR v xs) (hlen : xs.length ≤ 1000000) :
    Tri Try.prog hR 19 #[v] [] fun u Γ' => u = .bool (wrongL xs) ∧ Γ' = [] := by
  refine Tri.of (args := [v]) Try.func19 rfl Try.ntmps19 (by simp) ?_
  refine WP.seq ?_
  refine WP.plain cf0 rfl ?_
  refine Run.mv rfl rfl rfl rfl ?_
  refine Run.nil ?_
  refine thn_next ?_
  refine WP.seq ?_
  refine WP.plain cf0 rfl ?_
  refine Run.makeMapF rfl rfl rfl ?_
  intro b6
  refine Run.mv rfl rfl rfl rfl ?_
  refine Run.nil ?_
  refine thn_next ?_
  refine WP.seqMeet (α := Unit) (fun _ => wrongL xs = false) (fun _ => []) (fun _ => []) ?_ ?_
  · refine WP.seq ?_
    refine WP.plain cf0 rfl ?_
    refine Run.mv rfl rfl rfl rfl ?_
    refine Run.lenR rfl rfl sl_22 rfl rfl (by assumption) ?_
    refine Run.mv rfl rfl rfl rfl ?_
    refine Run.nil ?_
    refine thn_next ?_
    refine WP.block ?_
    refine WP.loop (α := Nat × (Int → Bool)) (fun z => z.1 ≤ xs.length ∧ wrongL xs = wrongGo (prevOf xs z.1) z.2 (xs.drop z.1))
      (fun z => [(0, v), (3, .map (some b6)), (7, v), (8, .int .i64 (xs.length : Int)), (9, .int .i64 (z.1 : Int))]) (fun z => [mpF b6 (seenF z.2)]) (fun z => xs.length - z.1)
      (0, fun _ => false) ⟨Nat.zero_le _, rfl⟩ ⟨rfl, rfl, rfl, rfl, rfl, trivial⟩ ?_ ?_
    · have : seenF (fun _ => false) = fun _ => none := by funext k; simp [seenF]
      simp only [this]; exact pick_only [0] _
    · rintro ⟨i, seen⟩ ⟨hi, hw⟩
      simp only at hi hw ⊢
      refine WP.seq ?_
      refine WP.plain cf0 rfl ?_
      refine Run.int2 rfl rfl rfl rfl rfl rfl ?_
      refine Run.nil ?_
      refine thn_next ?_
      refine WP.seq ?_
      refine WP.ite rfl (fun hlt => ?_) (fun hge => ?_)
      · refine WP.skip ?_; refine thn_next ?_
        have hlt' : i < xs.length := by omega
        obtain ⟨x, gx⟩ : ∃ x, xs[i]? = some x := ⟨_, List.getElem?_eq_getElem hlt'⟩
        have hdec : xs.length - (i + 1) < xs.length - i := by omega
        have gx' : xs[(i : Int).toNat]? = some x := gx
        have hdrop : xs.drop i = x :: xs.drop (i + 1) := by rw [List.drop_eq_getElem_cons hlt']; congr 1; rw [List.getElem?_eq_getElem hlt'] at gx; cases gx; rfl
        refine WP.seq ?_
        refine WP.block ?_
        refine WP.seq ?_
        refine WP.plain cf0 rfl ?_
        refine Run.mv rfl rfl rfl rfl ?_
        refine Run.idxR rfl rfl rfl sl_22 rfl rfl (by assumption) (by rfl) (by first | omega | (simp <;> omega)) (by first | omega | (simp <;> omega)) ?_
        refine Run.loadRagg rfl rfl ag_35 rfl rfl (by first | assumption | exact SlR.row (by assumption) (by assumption)) (by rfl) ?_
        refine Run.alloc rfl zr_35 rfl rfl rfl ?_
        intro b5
        refine Run.mv rfl rfl rfl rfl ?_
        refine Run.storeB 1 rfl rfl rfl rfl ag_35 rfl rfl rfl rfl rfl ?_
        refine Run.nil ?_
        refine thn_next ?_
        refine WP.via (Γ' := [mpF b6 (seenF seen), blk b5 (encIv.cells x) 35]) (ent.refl _) ?_
        refine WP.seq ?_
        refine WP.seqCut [(0, v), (3, .map (some b6)), (4, .int .i64 (i : Int)), (5, .pointer (some ⟨b5, 0, none⟩)), (7, v), (8, .int .i64 (xs.length : Int)), (9, .int .i64 (i : Int)), (35, .bool (decide (badIv seen x)))] [mpF b6 (seenF seen), blk b5 (encIv.cells x) 35] ?_ ?_
        · refine WP.plain cf0 rfl ?_
          all_goals (first | refine Run.fieldAddr rfl rfl fo_35_0 rfl rfl ?_)
          all_goals (first | refine Run.loadB 1 rfl rfl ag_3 rfl rfl rfl rfl rfl ?_)
          all_goals (first | refine Run.int2 rfl rfl rfl rfl rfl rfl ?_)
          all_goals (first | refine Run.tt (by first | assumption | omega) ?_ | refine Run.ff (by first | assumption | omega) ?_ | refine Run.split (fun hc16 => ?_) (fun hc16 => ?_) | refine Run.splitB (fun hc16 => ?_) (fun hc16 => ?_) | skip)
          all_goals (first | refine Run.mv rfl rfl rfl rfl ?_)
          all_goals (first | refine Run.not rfl rfl ?_ | refine Run.fieldAddr rfl rfl fo_35_0 rfl rfl ?_)
          all_goals (first | refine Run.not rfl rfl ?_ | refine Run.loadB 1 rfl rfl ag_3 rfl rfl rfl rfl rfl ?_)
          all_goals (first | refine Run.not rfl rfl ?_ | refine Run.int2 rfl rfl rfl rfl rfl rfl ?_)
          all_goals (first | refine Run.tt (by first | assumption | omega) ?_ | refine Run.ff (by first | assumption | omega) ?_ | refine Run.split (fun hc20 => ?_) (fun hc20 => ?_) | refine Run.splitB (fun hc20 => ?_) (fun hc20 => ?_) | skip)
          all_goals (first | refine Run.pick rfl rfl rfl rfl rfl ?_)
          all_goals (first | refine Run.mv rfl rfl rfl rfl ?_)
          all_goals (first | refine Run.not rfl rfl ?_ | refine Run.fieldAddr rfl rfl fo_35_2 rfl rfl ?_)
          all_goals (first | refine Run.not rfl rfl ?_ | refine Run.loadB 1 rfl rfl ag_3 rfl rfl rfl rfl rfl ?_)
          all_goals (first | refine Run.not rfl rfl ?_ | refine Run.fieldAddr rfl rfl fo_35_1 rfl rfl ?_)
          all_goals (first | refine Run.not rfl rfl ?_ | refine Run.loadB 1 rfl rfl ag_3 rfl rfl rfl rfl rfl ?_)
          all_goals (first | refine Run.not rfl rfl ?_ | refine Run.int2 rfl rfl rfl rfl rfl rfl ?_)
          all_goals (first | refine Run.tt (by first | assumption | omega) ?_ | refine Run.ff (by first | assumption | omega) ?_ | refine Run.split (fun hc27 => ?_) (fun hc27 => ?_) | refine Run.splitB (fun hc27 => ?_) (fun hc27 => ?_) | skip)
          all_goals (first | refine Run.pick rfl rfl rfl rfl rfl ?_)
          all_goals (first | refine Run.mv rfl rfl rfl rfl ?_)
          all_goals (first | refine Run.not rfl rfl ?_ | refine Run.mv rfl rfl rfl rfl ?_)
          all_goals (first | refine Run.not rfl rfl ?_ | refine Run.fieldAddr rfl rfl fo_35_0 rfl rfl ?_)
          all_goals (first | refine Run.not rfl rfl ?_ | refine Run.loadB 1 rfl rfl ag_3 rfl rfl rfl rfl rfl ?_)
          all_goals (first | refine Run.not rfl rfl ?_ | refine Run.lookup 0 rfl rfl rfl mt_53 ui_3 zr_3 rfl rfl rfl ?_)
          all_goals (first | refine Run.eqv (seenF_get seen x.r) ?_ | skip)
          all_goals (first | refine Run.not rfl rfl ?_ | refine Run.int2 rfl rfl rfl rfl rfl rfl ?_)
          all_goals (first | refine Run.pick rfl rfl rfl rfl rfl ?_)
          all_goals (refine Run.nil ?_)
          all_goals refine thn_next ⟨⟨rfl, rfl, rfl, rfl, rfl, rfl, rfl, ?_, trivial⟩, ent.refl _⟩
          all_goals simp [Env.get, badIv, *]
          all_goals (split <;> simp_all)
        · refine WP.ite rfl (fun hbad => ?_) (fun hok => ?_)
          · refine WP.seq ?_
            refine WP.plain cf0 rfl ?_
            refine Run.mv rfl rfl rfl rfl ?_
            refine Run.nil ?_
            refine thn_next ?_
            refine WP.via (pick_only [] _) ?_
            refine WP.ret ?_; refine thn_ret ?_; refine blk_ret ?_; refine thn_ret ?_; refine thn_ret ?_; refine blk_ret ?_; refine thn_ret ?_
            exact retT [2] _ rfl rfl ⟨by rw [hw, hdrop, wrongGo, if_pos hbad]; rfl, rfl⟩
          · refine WP.skip ?_; refine thn_next ?_
            refine WP.seq ?_
            refine WP.seqCut [(0, v), (3, .map (some b6)), (5, .pointer (some ⟨b5, 0, none⟩)), (7, v), (8, .int .i64 (xs.length : Int)), (9, .int .i64 (i : Int)), (70, .bool (prevBad (prevOf xs i) x))] [mpF b6 (seenF seen), blk b5 (encIv.cells x) 35] ?_ ?_
            · by_cases hi0 : i = 0
              · have hneg : ¬ (i : Int) > 0 := by omega
                refine WP.drawn0 cf0 mixed rfl (by kernel_rfl) ?_
                all_goals (first | refine Run.mv rfl rfl rfl rfl ?_)
                all_goals (first | refine Run.int2 rfl rfl rfl rfl rfl rfl ?_)
                all_goals (first | refine Run.tt (by first | assumption | omega) ?_ | refine Run.ff (by first | assumption | omega) ?_ | refine Run.split (fun hc37 => ?_) (fun hc37 => ?_) | refine Run.splitB (fun hc37 => ?_) (fun hc37 => ?_) | skip)
                all_goals (first | refine Run.mv rfl rfl rfl rfl ?_)
                all_goals (first | refine Run.not rfl rfl ?_ | refine Run.mv rfl rfl rfl rfl ?_)
                all_goals (first | refine Run.not rfl rfl ?_ | refine Run.mv rfl rfl rfl rfl ?_)
                all_goals (first | refine Run.not rfl rfl ?_ | refine Run.sub64 rfl rfl rfl rfl rfl (by first | omega | (simp <;> omega)) (by first | omega | (simp <;> omega)) ?_)
                all_goals (first | refine Run.not rfl rfl ?_ | refine Run.idxO 0 rfl rfl rfl sl_22 rfl rfl rfl rfl (by first | omega | (simp <;> omega)) (by first | omega | (simp <;> omega)) ?_ | refine Run.idxO 1 rfl rfl rfl sl_22 rfl rfl rfl rfl (by first | omega | (simp <;> omega)) (by first | omega | (simp <;> omega)) ?_ | refine Run.idxO 2 rfl rfl rfl sl_22 rfl rfl rfl rfl (by first | omega | (simp <;> omega)) (by first | omega | (simp <;> omega)) ?_ | refine Run.idxO 3 rfl rfl rfl sl_22 rfl rfl rfl rfl (by first | omega | (simp <;> omega)) (by first | omega | (simp <;> omega)) ?_ | refine Run.idxO 4 rfl rfl rfl sl_22 rfl rfl rfl rfl (by first | omega | (simp <;> omega)) (by first | omega | (simp <;> omega)) ?_ | refine Run.idxO 5 rfl rfl rfl sl_22 rfl rfl rfl rfl (by first | omega | (simp <;> omega)) (by first | omega | (simp <;> omega)) ?_ | refine Run.idxR rfl rfl rfl sl_22 rfl rfl (by assumption) (by rfl) (by first | omega | (simp <;> omega)) (by first | omega | (simp <;> omega)) ?_)
                all_goals (first | refine Run.not rfl rfl ?_ | refine Run.fieldAddr rfl rfl fo_35_1 rfl rfl ?_)
                all_goals (first | refine Run.not rfl rfl ?_ | refine Run.loadB 0 rfl rfl ag_3 rfl rfl rfl rfl rfl ?_ | refine Run.loadO 0 _ 0 rfl rfl ag_3 rfl rfl rfl rfl (by assumption) rfl ?_ | refine Run.loadO 0 _ _ rfl rfl ag_3 rfl rfl rfl rfl (by assumption) rfl ?_ | refine Run.loadB 1 rfl rfl ag_3 rfl rfl rfl rfl rfl ?_ | refine Run.loadO 1 _ 0 rfl rfl ag_3 rfl rfl rfl rfl (by assumption) rfl ?_ | refine Run.loadO 1 _ _ rfl rfl ag_3 rfl rfl rfl rfl (by assumption) rfl ?_ | refine Run.loadB 2 rfl rfl ag_3 rfl rfl rfl rfl rfl ?_ | refine Run.loadO 2 _ 0 rfl rfl ag_3 rfl rfl rfl rfl (by assumption) rfl ?_ | refine Run.loadO 2 _ _ rfl rfl ag_3 rfl rfl rfl rfl (by assumption) rfl ?_ | refine Run.loadB 3 rfl rfl ag_3 rfl rfl rfl rfl rfl ?_ | refine Run.loadO 3 _ 0 rfl rfl ag_3 rfl rfl rfl rfl (by assumption) rfl ?_ | refine Run.loadO 3 _ _ rfl rfl ag_3 rfl rfl rfl rfl (by assumption) rfl ?_ | refine Run.loadB 4 rfl rfl ag_3 rfl rfl rfl rfl rfl ?_ | refine Run.loadO 4 _ 0 rfl rfl ag_3 rfl rfl rfl rfl (by assumption) rfl ?_ | refine Run.loadO 4 _ _ rfl rfl ag_3 rfl rfl rfl rfl (by assumption) rfl ?_ | refine Run.loadB 5 rfl rfl ag_3 rfl rfl rfl rfl rfl ?_ | refine Run.loadO 5 _ 0 rfl rfl ag_3 rfl rfl rfl rfl (by assumption) rfl ?_ | refine Run.loadO 5 _ _ rfl rfl ag_3 rfl rfl rfl rfl (by assumption) rfl ?_ | refine Run.loadR rfl rfl ag_3 rfl rfl (by first | assumption | exact SlR.cell0 (by assumption) (by assumption) rfl | exact SlR.cell (by assumption) (by assumption) rfl) ?_)
                all_goals (first | refine Run.not rfl rfl ?_ | refine Run.fieldAddr rfl rfl fo_35_1 rfl rfl ?_)
                all_goals (first | refine Run.not rfl rfl ?_ | refine Run.loadB 0 rfl rfl ag_3 rfl rfl rfl rfl rfl ?_ | refine Run.loadO 0 _ 0 rfl rfl ag_3 rfl rfl rfl rfl (by assumption) rfl ?_ | refine Run.loadO 0 _ _ rfl rfl ag_3 rfl rfl rfl rfl (by assumption) rfl ?_ | refine Run.loadB 1 rfl rfl ag_3 rfl rfl rfl rfl rfl ?_ | refine Run.loadO 1 _ 0 rfl rfl ag_3 rfl rfl rfl rfl (by assumption) rfl ?_ | refine Run.loadO 1 _ _ rfl rfl ag_3 rfl rfl rfl rfl (by assumption) rfl ?_ | refine Run.loadB 2 rfl rfl ag_3 rfl rfl rfl rfl rfl ?_ | refine Run.loadO 2 _ 0 rfl rfl ag_3 rfl rfl rfl rfl (by assumption) rfl ?_ | refine Run.loadO 2 _ _ rfl rfl ag_3 rfl rfl rfl rfl (by assumption) rfl ?_ | refine Run.loadB 3 rfl rfl ag_3 rfl rfl rfl rfl rfl ?_ | refine Run.loadO 3 _ 0 rfl rfl ag_3 rfl rfl rfl rfl (by assumption) rfl ?_ | refine Run.loadO 3 _ _ rfl rfl ag_3 rfl rfl rfl rfl (by assumption) rfl ?_ | refine Run.loadB 4 rfl rfl ag_3 rfl rfl rfl rfl rfl ?_ | refine Run.loadO 4 _ 0 rfl rfl ag_3 rfl rfl rfl rfl (by assumption) rfl ?_ | refine Run.loadO 4 _ _ rfl rfl ag_3 rfl rfl rfl rfl (by assumption) rfl ?_ | refine Run.loadB 5 rfl rfl ag_3 rfl rfl rfl rfl rfl ?_ | refine Run.loadO 5 _ 0 rfl rfl ag_3 rfl rfl rfl rfl (by assumption) rfl ?_ | refine Run.loadO 5 _ _ rfl rfl ag_3 rfl rfl rfl rfl (by assumption) rfl ?_ | refine Run.loadR rfl rfl ag_3 rfl rfl (by first | assumption | exact SlR.cell0 (by assumption) (by assumption) rfl | exact SlR.cell (by assumption) (by assumption) rfl) ?_)
                all_goals (first | refine Run.not rfl rfl ?_ | refine Run.int2 rfl rfl rfl rfl rfl rfl ?_)
                all_goals (first | refine Run.tt (by first | assumption | omega) ?_ | refine Run.ff (by first | assumption | omega) ?_ | refine Run.split (fun hc47 => ?_) (fun hc47 => ?_) | refine Run.splitB (fun hc47 => ?_) (fun hc47 => ?_) | skip)
                all_goals (first | refine Run.not rfl rfl ?_ | refine Run.mv rfl rfl rfl rfl ?_)
                all_goals (first | refine Run.not rfl rfl ?_ | refine Run.mv rfl rfl rfl rfl ?_)
                all_goals (first | refine Run.not rfl rfl ?_ | refine Run.mv rfl rfl rfl rfl ?_)
                all_goals (first | refine Run.not rfl rfl ?_ | refine Run.sub64 rfl rfl rfl rfl rfl (by first | omega | (simp <;> omega)) (by first | omega | (simp <;> omega)) ?_)
                all_goals (first | refine Run.not rfl rfl ?_ | refine Run.idxO 0 rfl rfl rfl sl_22 rfl rfl rfl rfl (by first | omega | (simp <;> omega)) (by first | omega | (simp <;> omega)) ?_ | refine Run.idxO 1 rfl rfl rfl sl_22 rfl rfl rfl rfl (by first | omega | (simp <;> omega)) (by first | omega | (simp <;> omega)) ?_ | refine Run.idxO 2 rfl rfl rfl sl_22 rfl rfl rfl rfl (by first | omega | (simp <;> omega)) (by first | omega | (simp <;> omega)) ?_ | refine Run.idxO 3 rfl rfl rfl sl_22 rfl rfl rfl rfl (by first | omega | (simp <;> omega)) (by first | omega | (simp <;> omega)) ?_ | refine Run.idxO 4 rfl rfl rfl sl_22 rfl rfl rfl rfl (by first | omega | (simp <;> omega)) (by first | omega | (simp <;> omega)) ?_ | refine Run.idxO 5 rfl rfl rfl sl_22 rfl rfl rfl rfl (by first | omega | (simp <;> omega)) (by first | omega | (simp <;> omega)) ?_ | refine Run.idxR rfl rfl rfl sl_22 rfl rfl (by assumption) (by rfl) (by first | omega | (simp <;> omega)) (by first | omega | (simp <;> omega)) ?_)
                all_goals (first | refine Run.not rfl rfl ?_ | refine Run.fieldAddr rfl rfl fo_35_1 rfl rfl ?_)
                all_goals (first | refine Run.not rfl rfl ?_ | refine Run.loadB 0 rfl rfl ag_3 rfl rfl rfl rfl rfl ?_ | refine Run.loadO 0 _ 0 rfl rfl ag_3 rfl rfl rfl rfl (by assumption) rfl ?_ | refine Run.loadO 0 _ _ rfl rfl ag_3 rfl rfl rfl rfl (by assumption) rfl ?_ | refine Run.loadB 1 rfl rfl ag_3 rfl rfl rfl rfl rfl ?_ | refine Run.loadO 1 _ 0 rfl rfl ag_3 rfl rfl rfl rfl (by assumption) rfl ?_ | refine Run.loadO 1 _ _ rfl rfl ag_3 rfl rfl rfl rfl (by assumption) rfl ?_ | refine Run.loadB 2 rfl rfl ag_3 rfl rfl rfl rfl rfl ?_ | refine Run.loadO 2 _ 0 rfl rfl ag_3 rfl rfl rfl rfl (by assumption) rfl ?_ | refine Run.loadO 2 _ _ rfl rfl ag_3 rfl rfl rfl rfl (by assumption) rfl ?_ | refine Run.loadB 3 rfl rfl ag_3 rfl rfl rfl rfl rfl ?_ | refine Run.loadO 3 _ 0 rfl rfl ag_3 rfl rfl rfl rfl (by assumption) rfl ?_ | refine Run.loadO 3 _ _ rfl rfl ag_3 rfl rfl rfl rfl (by assumption) rfl ?_ | refine Run.loadB 4 rfl rfl ag_3 rfl rfl rfl rfl rfl ?_ | refine Run.loadO 4 _ 0 rfl rfl ag_3 rfl rfl rfl rfl (by assumption) rfl ?_ | refine Run.loadO 4 _ _ rfl rfl ag_3 rfl rfl rfl rfl (by assumption) rfl ?_ | refine Run.loadB 5 rfl rfl ag_3 rfl rfl rfl rfl rfl ?_ | refine Run.loadO 5 _ 0 rfl rfl ag_3 rfl rfl rfl rfl (by assumption) rfl ?_ | refine Run.loadO 5 _ _ rfl rfl ag_3 rfl rfl rfl rfl (by assumption) rfl ?_ | refine Run.loadR rfl rfl ag_3 rfl rfl (by first | assumption | exact SlR.cell0 (by assumption) (by assumption) rfl | exact SlR.cell (by assumption) (by assumption) rfl) ?_)
                all_goals (first | refine Run.not rfl rfl ?_ | refine Run.fieldAddr rfl rfl fo_35_1 rfl rfl ?_)
                all_goals (first | refine Run.not rfl rfl ?_ | refine Run.loadB 0 rfl rfl ag_3 rfl rfl rfl rfl rfl ?_ | refine Run.loadO 0 _ 0 rfl rfl ag_3 rfl rfl rfl rfl (by assumption) rfl ?_ | refine Run.loadO 0 _ _ rfl rfl ag_3 rfl rfl rfl rfl (by assumption) rfl ?_ | refine Run.loadB 1 rfl rfl ag_3 rfl rfl rfl rfl rfl ?_ | refine Run.loadO 1 _ 0 rfl rfl ag_3 rfl rfl rfl rfl (by assumption) rfl ?_ | refine Run.loadO 1 _ _ rfl rfl ag_3 rfl rfl rfl rfl (by assumption) rfl ?_ | refine Run.loadB 2 rfl rfl ag_3 rfl rfl rfl rfl rfl ?_ | refine Run.loadO 2 _ 0 rfl rfl ag_3 rfl rfl rfl rfl (by assumption) rfl ?_ | refine Run.loadO 2 _ _ rfl rfl ag_3 rfl rfl rfl rfl (by assumption) rfl ?_ | refine Run.loadB 3 rfl rfl ag_3 rfl rfl rfl rfl rfl ?_ | refine Run.loadO 3 _ 0 rfl rfl ag_3 rfl rfl rfl rfl (by assumption) rfl ?_ | refine Run.loadO 3 _ _ rfl rfl ag_3 rfl rfl rfl rfl (by assumption) rfl ?_ | refine Run.loadB 4 rfl rfl ag_3 rfl rfl rfl rfl rfl ?_ | refine Run.loadO 4 _ 0 rfl rfl ag_3 rfl rfl rfl rfl (by assumption) rfl ?_ | refine Run.loadO 4 _ _ rfl rfl ag_3 rfl rfl rfl rfl (by assumption) rfl ?_ | refine Run.loadB 5 rfl rfl ag_3 rfl rfl rfl rfl rfl ?_ | refine Run.loadO 5 _ 0 rfl rfl ag_3 rfl rfl rfl rfl (by assumption) rfl ?_ | refine Run.loadO 5 _ _ rfl rfl ag_3 rfl rfl rfl rfl (by assumption) rfl ?_ | refine Run.loadR rfl rfl ag_3 rfl rfl (by first | assumption | exact SlR.cell0 (by assumption) (by assumption) rfl | exact SlR.cell (by assumption) (by assumption) rfl) ?_)
                all_goals (first | refine Run.not rfl rfl ?_ | refine Run.int2 rfl rfl rfl rfl rfl rfl ?_)
                all_goals (first | refine Run.tt (by first | assumption | omega) ?_ | refine Run.ff (by first | assumption | omega) ?_ | refine Run.split (fun hc57 => ?_) (fun hc57 => ?_) | refine Run.splitB (fun hc57 => ?_) (fun hc57 => ?_) | skip)
                all_goals (first | refine Run.not rfl rfl ?_ | refine Run.mv rfl rfl rfl rfl ?_)
                all_goals (first | refine Run.not rfl rfl ?_ | refine Run.mv rfl rfl rfl rfl ?_)
                all_goals (first | refine Run.not rfl rfl ?_ | refine Run.mv rfl rfl rfl rfl ?_)
                all_goals (first | refine Run.not rfl rfl ?_ | refine Run.sub64 rfl rfl rfl rfl rfl (by first | omega | (simp <;> omega)) (by first | omega | (simp <;> omega)) ?_)
                all_goals (first | refine Run.not rfl rfl ?_ | refine Run.idxO 0 rfl rfl rfl sl_22 rfl rfl rfl rfl (by first | omega | (simp <;> omega)) (by first | omega | (simp <;> omega)) ?_ | refine Run.idxO 1 rfl rfl rfl sl_22 rfl rfl rfl rfl (by first | omega | (simp <;> omega)) (by first | omega | (simp <;> omega)) ?_ | refine Run.idxO 2 rfl rfl rfl sl_22 rfl rfl rfl rfl (by first | omega | (simp <;> omega)) (by first | omega | (simp <;> omega)) ?_ | refine Run.idxO 3 rfl rfl rfl sl_22 rfl rfl rfl rfl (by first | omega | (simp <;> omega)) (by first | omega | (simp <;> omega)) ?_ | refine Run.idxO 4 rfl rfl rfl sl_22 rfl rfl rfl rfl (by first | omega | (simp <;> omega)) (by first | omega | (simp <;> omega)) ?_ | refine Run.idxO 5 rfl rfl rfl sl_22 rfl rfl rfl rfl (by first | omega | (simp <;> omega)) (by first | omega | (simp <;> omega)) ?_ | refine Run.idxR rfl rfl rfl sl_22 rfl rfl (by assumption) (by rfl) (by first | omega | (simp <;> omega)) (by first | omega | (simp <;> omega)) ?_)
                all_goals (first | refine Run.not rfl rfl ?_ | refine Run.fieldAddr rfl rfl fo_35_0 rfl rfl ?_)
                all_goals (first | refine Run.not rfl rfl ?_ | refine Run.loadB 0 rfl rfl ag_3 rfl rfl rfl rfl rfl ?_ | refine Run.loadO 0 _ 0 rfl rfl ag_3 rfl rfl rfl rfl (by assumption) rfl ?_ | refine Run.loadO 0 _ _ rfl rfl ag_3 rfl rfl rfl rfl (by assumption) rfl ?_ | refine Run.loadB 1 rfl rfl ag_3 rfl rfl rfl rfl rfl ?_ | refine Run.loadO 1 _ 0 rfl rfl ag_3 rfl rfl rfl rfl (by assumption) rfl ?_ | refine Run.loadO 1 _ _ rfl rfl ag_3 rfl rfl rfl rfl (by assumption) rfl ?_ | refine Run.loadB 2 rfl rfl ag_3 rfl rfl rfl rfl rfl ?_ | refine Run.loadO 2 _ 0 rfl rfl ag_3 rfl rfl rfl rfl (by assumption) rfl ?_ | refine Run.loadO 2 _ _ rfl rfl ag_3 rfl rfl rfl rfl (by assumption) rfl ?_ | refine Run.loadB 3 rfl rfl ag_3 rfl rfl rfl rfl rfl ?_ | refine Run.loadO 3 _ 0 rfl rfl ag_3 rfl rfl rfl rfl (by assumption) rfl ?_ | refine Run.loadO 3 _ _ rfl rfl ag_3 rfl rfl rfl rfl (by assumption) rfl ?_ | refine Run.loadB 4 rfl rfl ag_3 rfl rfl rfl rfl rfl ?_ | refine Run.loadO 4 _ 0 rfl rfl ag_3 rfl rfl rfl rfl (by assumption) rfl ?_ | refine Run.loadO 4 _ _ rfl rfl ag_3 rfl rfl rfl rfl (by assumption) rfl ?_ | refine Run.loadB 5 rfl rfl ag_3 rfl rfl rfl rfl rfl ?_ | refine Run.loadO 5 _ 0 rfl rfl ag_3 rfl rfl rfl rfl (by assumption) rfl ?_ | refine Run.loadO 5 _ _ rfl rfl ag_3 rfl rfl rfl rfl (by assumption) rfl ?_ | refine Run.loadR rfl rfl ag_3 rfl rfl (by first | assumption | exact SlR.cell0 (by assumption) (by assumption) rfl | exact SlR.cell (by assumption) (by assumption) rfl) ?_)
                all_goals (first | refine Run.not rfl rfl ?_ | refine Run.fieldAddr rfl rfl fo_35_0 rfl rfl ?_)
                all_goals (first | refine Run.not rfl rfl ?_ | refine Run.loadB 0 rfl rfl ag_3 rfl rfl rfl rfl rfl ?_ | refine Run.loadO 0 _ 0 rfl rfl ag_3 rfl rfl rfl rfl (by assumption) rfl ?_ | refine Run.loadO 0 _ _ rfl rfl ag_3 rfl rfl rfl rfl (by assumption) rfl ?_ | refine Run.loadB 1 rfl rfl ag_3 rfl rfl rfl rfl rfl ?_ | refine Run.loadO 1 _ 0 rfl rfl ag_3 rfl rfl rfl rfl (by assumption) rfl ?_ | refine Run.loadO 1 _ _ rfl rfl ag_3 rfl rfl rfl rfl (by assumption) rfl ?_ | refine Run.loadB 2 rfl rfl ag_3 rfl rfl rfl rfl rfl ?_ | refine Run.loadO 2 _ 0 rfl rfl ag_3 rfl rfl rfl rfl (by assumption) rfl ?_ | refine Run.loadO 2 _ _ rfl rfl ag_3 rfl rfl rfl rfl (by assumption) rfl ?_ | refine Run.loadB 3 rfl rfl ag_3 rfl rfl rfl rfl rfl ?_ | refine Run.loadO 3 _ 0 rfl rfl ag_3 rfl rfl rfl rfl (by assumption) rfl ?_ | refine Run.loadO 3 _ _ rfl rfl ag_3 rfl rfl rfl rfl (by assumption) rfl ?_ | refine Run.loadB 4 rfl rfl ag_3 rfl rfl rfl rfl rfl ?_ | refine Run.loadO 4 _ 0 rfl rfl ag_3 rfl rfl rfl rfl (by assumption) rfl ?_ | refine Run.loadO 4 _ _ rfl rfl ag_3 rfl rfl rfl rfl (by assumption) rfl ?_ | refine Run.loadB 5 rfl rfl ag_3 rfl rfl rfl rfl rfl ?_ | refine Run.loadO 5 _ 0 rfl rfl ag_3 rfl rfl rfl rfl (by assumption) rfl ?_ | refine Run.loadO 5 _ _ rfl rfl ag_3 rfl rfl rfl rfl (by assumption) rfl ?_ | refine Run.loadR rfl rfl ag_3 rfl rfl (by first | assumption | exact SlR.cell0 (by assumption) (by assumption) rfl | exact SlR.cell (by assumption) (by assumption) rfl) ?_)
                all_goals (first | refine Run.not rfl rfl ?_ | refine Run.int2 rfl rfl rfl rfl rfl rfl ?_)
                all_goals (first | refine Run.not rfl rfl ?_ | refine Run.pick rfl rfl rfl rfl rfl ?_)
                all_goals (first | refine Run.not rfl rfl ?_ | refine Run.pick rfl rfl rfl rfl rfl ?_)
                all_goals (first | refine Run.pick rfl rfl rfl rfl rfl ?_)
                all_goals (refine Run.nil ?_)
                refine thn_next ⟨⟨rfl, rfl, rfl, rfl, rfl, rfl, ?_, trivial⟩, ent.refl _⟩
                simp [Env.get, prevOf, hi0, prevBad]
              · have hpos : (i : Int) > 0 := by omega
                obtain ⟨p, gp⟩ : ∃ p, xs[i - 1]? = some p := ⟨_, List.getElem?_eq_getElem (by omega)⟩
                have gp' : xs[((i : Int) - 1).toNat]? = some p := by rw [← gp]; congr 1; omega
                have hpv : prevOf xs i = some p := by simp [prevOf, hi0, gp]
                refine WP.drawn0 cf0 mixed rfl (by kernel_rfl) ?_
                all_goals (first | refine Run.mv rfl rfl rfl rfl ?_)
                all_goals (first | refine Run.int2 rfl rfl rfl rfl rfl rfl ?_)
                all_goals (first | refine Run.tt (by first | assumption | omega) ?_ | refine Run.ff (by first | assumption | omega) ?_ | refine Run.split (fun hc37 => ?_) (fun hc37 => ?_) | refine Run.splitB (fun hc37 => ?_) (fun hc37 => ?_) | skip)
                all_goals (first | refine Run.mv rfl rfl rfl rfl ?_)
                all_goals (first | refine Run.not rfl rfl ?_ | refine Run.mv rfl rfl rfl rfl ?_)
                all_goals (first | refine Run.not rfl rfl ?_ | refine Run.mv rfl rfl rfl rfl ?_)
                all_goals (first | refine Run.not rfl rfl ?_ | refine Run.sub64 rfl rfl rfl rfl rfl (by first | omega | (simp <;> omega)) (by first | omega | (simp <;> omega)) ?_)
                all_goals (first | refine Run.not rfl rfl ?_ | refine Run.idxR rfl rfl rfl sl_22 rfl rfl (by assumption) (by rfl) (by first | omega | (simp <;> omega)) (by first | omega | (simp <;> omega)) ?_)
                all_goals (first | refine Run.not rfl rfl ?_ | refine Run.fieldAddr rfl rfl fo_35_1 rfl rfl ?_)
                all_goals (first | refine Run.not rfl rfl ?_ | refine Run.loadR rfl rfl ag_3 rfl rfl (by first | assumption | exact SlR.cell0 (by assumption) (by assumption) rfl | exact SlR.cell (by assumption) (by assumption) rfl) ?_)
                all_goals (first | refine Run.not rfl rfl ?_ | refine Run.fieldAddr rfl rfl fo_35_1 rfl rfl ?_)
                all_goals (first | refine Run.not rfl rfl ?_ | refine Run.loadB 1 rfl rfl ag_3 rfl rfl rfl rfl rfl ?_)
                all_goals (first | refine Run.not rfl rfl ?_ | refine Run.int2 rfl rfl rfl rfl rfl rfl ?_)
                all_goals (first | refine Run.tt (by first | assumption | omega) ?_ | refine Run.ff (by first | assumption | omega) ?_ | refine Run.split (fun hc47 => ?_) (fun hc47 => ?_) | refine Run.splitB (fun hc47 => ?_) (fun hc47 => ?_) | skip)
                all_goals (first | refine Run.not rfl rfl ?_ | refine Run.mv rfl rfl rfl rfl ?_)
                all_goals (first | refine Run.not rfl rfl ?_ | refine Run.mv rfl rfl rfl rfl ?_)
                all_goals (first | refine Run.not rfl rfl ?_ | refine Run.mv rfl rfl rfl rfl ?_)
                all_goals (first | refine Run.not rfl rfl ?_ | refine Run.sub64 rfl rfl rfl rfl rfl (by first | omega | (simp <;> omega)) (by first | omega | (simp <;> omega)) ?_)
                all_goals (first | refine Run.not rfl rfl ?_ | refine Run.idxR rfl rfl rfl sl_22 rfl rfl (by assumption) (by rfl) (by first | omega | (simp <;> omega)) (by first | omega | (simp <;> omega)) ?_)
                all_goals (first | refine Run.not rfl rfl ?_ | refine Run.fieldAddr rfl rfl fo_35_1 rfl rfl ?_)
                all_goals (first | refine Run.not rfl rfl ?_ | refine Run.loadR rfl rfl ag_3 rfl rfl (by first | assumption | exact SlR.cell0 (by assumption) (by assumption) rfl | exact SlR.cell (by assumption) (by assumption) rfl) ?_)
                all_goals (first | refine Run.not rfl rfl ?_ | refine Run.fieldAddr rfl rfl fo_35_1 rfl rfl ?_)
                all_goals (first | refine Run.not rfl rfl ?_ | refine Run.loadB 1 rfl rfl ag_3 rfl rfl rfl rfl rfl ?_)
                all_goals (first | refine Run.not rfl rfl ?_ | refine Run.int2 rfl rfl rfl rfl rfl rfl ?_)
                all_goals (first | refine Run.tt (by first | assumption | omega) ?_ | refine Run.ff (by first | assumption | omega) ?_ | refine Run.split (fun hc57 => ?_) (fun hc57 => ?_) | refine Run.splitB (fun hc57 => ?_) (fun hc57 => ?_) | skip)
                all_goals (first | refine Run.not rfl rfl ?_ | refine Run.mv rfl rfl rfl rfl ?_)
                all_goals (first | refine Run.not rfl rfl ?_ | refine Run.mv rfl rfl rfl rfl ?_)
                all_goals (first | refine Run.not rfl rfl ?_ | refine Run.mv rfl rfl rfl rfl ?_)
                all_goals (first | refine Run.not rfl rfl ?_ | refine Run.sub64 rfl rfl rfl rfl rfl (by first | omega | (simp <;> omega)) (by first | omega | (simp <;> omega)) ?_)
                all_goals (first | refine Run.not rfl rfl ?_ | refine Run.idxR rfl rfl rfl sl_22 rfl rfl (by assumption) (by rfl) (by first | omega | (simp <;> omega)) (by first | omega | (simp <;> omega)) ?_)
                all_goals (first | refine Run.not rfl rfl ?_ | refine Run.fieldAddr rfl rfl fo_35_0 rfl rfl ?_)
                all_goals (first | refine Run.not rfl rfl ?_ | refine Run.loadR rfl rfl ag_3 rfl rfl (by first | assumption | exact SlR.cell0 (by assumption) (by assumption) rfl | exact SlR.cell (by assumption) (by assumption) rfl) ?_)
                all_goals (first | refine Run.not rfl rfl ?_ | refine Run.fieldAddr rfl rfl fo_35_0 rfl rfl ?_)
                all_goals (first | refine Run.not rfl rfl ?_ | refine Run.loadB 1 rfl rfl ag_3 rfl rfl rfl rfl rfl ?_)
                all_goals (first | refine Run.not rfl rfl ?_ | refine Run.int2 rfl rfl rfl rfl rfl rfl ?_)
                all_goals (first | refine Run.not rfl rfl ?_ | refine Run.pick rfl rfl rfl rfl rfl ?_)
                all_goals (first | refine Run.not rfl rfl ?_ | refine Run.pick rfl rfl rfl rfl rfl ?_)
                all_goals (first | refine Run.pick rfl rfl rfl rfl rfl ?_)
                all_goals (refine Run.nil ?_)
                all_goals refine thn_next ⟨⟨rfl, rfl, rfl, rfl, rfl, rfl, ?_, trivial⟩, ent.refl _⟩
                all_goals simp [Env.get, hpv, prevBad, badPrev, *]
            · refine WP.cond (t := prevBad (prevOf xs i) x) rfl (fun hbad => ?_) (fun hgood => ?_)
              · refine WP.seq ?_
                refine WP.plain cf0 rfl ?_
                refine Run.mv rfl rfl rfl rfl ?_
                refine Run.nil ?_
                refine thn_next ?_
                refine WP.via (pick_only [] _) ?_
                refine WP.ret ?_; refine thn_ret ?_; refine blk_ret ?_; refine thn_ret ?_; refine thn_ret ?_; refine blk_ret ?_; refine thn_ret ?_
                exact retT [2] _ rfl rfl ⟨by rw [hw, hdrop, wrongGo, if_neg hok, if_pos hbad]; rfl, rfl⟩
              · refine WP.skip ?_; refine thn_next ?_
                refine WP.plain cf0 rfl ?_
                refine Run.mv rfl rfl rfl rfl ?_
                refine Run.fieldAddr rfl rfl fo_35_0 rfl rfl ?_
                refine Run.loadB 1 rfl rfl ag_3 rfl rfl rfl rfl rfl ?_
                refine Run.mapUpdate 0 rfl rfl rfl rfl mt_53 ui_3 rfl rfl ?_
                refine Run.nil ?_
                rw [seenF_upd]
                refine blk_norm ?_; refine thn_next ?_
                refine WP.plain cf0 rfl ?_
                refine Run.add64 rfl rfl rfl rfl rfl (by first | omega | (simp <;> omega)) (by first | omega | (simp <;> omega)) ?_
                refine Run.mv rfl rfl rfl rfl ?_
                refine Run.nil ?_
                refine thn_next ⟨(i + 1, see seen x.r), ⟨hlt', ?_⟩, hdec, ⟨rfl, rfl, rfl, rfl, ?_, trivial⟩, pick_only [0] _⟩
                · have hp1 : prevOf xs (i + 1) = some x := by simp [prevOf, gx]
                  simp only; rw [hw, hdrop, wrongGo, if_neg hok, hgood, hp1]; rfl
                · simp [Env.get]
      · refine WP.exit ?_; refine thn_exit ?_; refine thn_exit ?_; refine blk_hit ?_
        refine thn_next ⟨(), ?_, trivial, fun _ _ => trivial⟩
        rw [hw, List.drop_eq_nil_of_le (by omega)]; rfl
  · rintro _ hw
    refine WP.seq ?_
    refine WP.plain cf0 rfl ?_
    refine Run.mv rfl rfl rfl rfl ?_
    refine Run.nil ?_
    refine thn_next ?_
    refine WP.ret ?_
    exact retT [2] _ rfl rfl ⟨by rw [hw]; rfl, rfl⟩
end Go.Proofs.Ytengcfamhoppbaa
