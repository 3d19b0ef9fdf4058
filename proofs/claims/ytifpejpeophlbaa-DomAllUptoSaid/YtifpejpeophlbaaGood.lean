/- Whether all numbers are blocks', walked: the program's, the document's and the law's own; two lists of truth compared; how many ways. -/
import Derived.Test.YtifpejpeophlbaaDfs
namespace Go.Proofs.Ytifpejpeophlbaa
open Go.Sep
set_option linter.unusedSimpArgs false
set_option linter.unusedVariables false
attribute [local irreducible] blk slA mp mpF

def okB (n : Nat) (c : Int) : Prop := 0 ≤ c ∧ c < n
def GoodI (to : List (List Int)) : Prop := 0 < to.length ∧ ∀ l ∈ to, ∀ c ∈ l, okB to.length c
instance (n : Nat) (c : Int) : Decidable (okB n c) := by unfold okB; infer_instance
instance (to : List (List Int)) : Decidable (GoodI to) := by unfold GoodI; infer_instance

theorem GoodI.nat {to : List (List Int)} (h : GoodI to) : ∃ tn : Gr, to = tn.map toI ∧ GoodN tn := by
  have key : ∀ l : List Int, (∀ c ∈ l, okB to.length c) → ∃ m : List Nat, l = toI m ∧ ∀ c ∈ m, c < to.length := fun l => by
    induction l with
    | nil => exact fun _ => ⟨[], rfl, by simp⟩
    | cons c l ih =>
      intro hc
      obtain ⟨m, e, hm⟩ := ih fun x hx => hc x (by simp [hx])
      obtain ⟨h1, h2⟩ := hc c (by simp)
      refine ⟨c.toNat :: m, ?_, fun x hx => ?_⟩
      · rw [e]; simp only [toI, List.map_cons]; congr 1; omega
      · rcases List.mem_cons.1 hx with rfl | hx
        · omega
        · exact hm x hx
  have key2 : ∀ k : List (List Int), (∀ l ∈ k, ∀ c ∈ l, okB to.length c) → ∃ m : Gr, k = m.map toI ∧ ∀ l ∈ m, ∀ c ∈ l, c < to.length := fun k => by
    induction k with
    | nil => exact fun _ => ⟨[], rfl, by simp⟩
    | cons l k ih =>
      intro hc
      obtain ⟨m, e, hm⟩ := ih fun x hx => hc x (by simp [hx])
      obtain ⟨l', e', hl⟩ := key l (hc l (by simp))
      exact ⟨l' :: m, by rw [e, e']; rfl, fun x hx => by
        rcases List.mem_cons.1 hx with rfl | hx
        · exact hl
        · exact hm x hx⟩
  obtain ⟨tn, e, h2⟩ := key2 to h.2
  have : tn.length = to.length := by rw [e]; simp
  exact ⟨tn, e, ⟨by rw [this]; exact h.1, by rw [this]; exact h2⟩⟩

theorem mem_take_succ {A : Type} {l : List A} {i : Nat} {x y : A} (hy : l[i]? = some y) (h : x ∈ l.take (i + 1)) : x ∈ l.take i ∨ x = y := by
  rw [List.take_add_one, hy] at h; simpa using h
theorem take_all {A : Type} {l : List A} {i : Nat} (h : ¬ i < l.length) {x : A} (hx : x ∈ l) : x ∈ l.take i := by
  rw [List.take_of_length_le (by omega)]; exact hx

theorem good_ok (hR : Heap) (v : Value) (to : List (List Int)) (hl : SlR (Enc.int .i64).rd.slice hR v to) (hlen : to.length ≤ 1000000000000) (hrow : ∀ l ∈ to, l.length ≤ 1000000000000) :
    Tri Try.prog hR 25 #[v] [] fun u Γ' => u = .bool (decide (GoodI to)) ∧ Γ' = [] := by
  refine Tri.of (args := [v]) Try.func25 rfl Try.ntmps25 (by simp) ?_
  refine WP.seq ?_
  refine WP.plain cf0 rfl ?_
  refine Run.mv rfl rfl rfl rfl ?_
  refine Run.nil ?_
  refine thn_next ?_
  refine WP.seqMeet (α := Unit) (fun _ => ∀ l ∈ to, ∀ c ∈ l, okB to.length c) (fun _ => [(0, v)]) (fun _ => []) ?_ ?_
  · refine WP.seq ?_
    refine WP.plain cf0 rfl ?_
    refine Run.mv rfl rfl rfl rfl ?_
    refine Run.lenR rfl rfl sl_22 rfl rfl (by assumption) ?_
    refine Run.mv rfl rfl rfl rfl ?_
    refine Run.nil ?_
    refine thn_next ?_
    refine WP.block ?_
    refine WP.loop (α := Nat) (fun i => i ≤ to.length ∧ ∀ l ∈ to.take i, ∀ c ∈ l, okB to.length c) (fun i => [(0, v), (7, v), (8, .int .i64 (to.length : Int)), (9, .int .i64 (i : Int))]) (fun _ => []) (fun i => to.length - i)
      0 ⟨Nat.zero_le _, by simp⟩ ⟨rfl, rfl, rfl, rfl, trivial⟩ (ent.refl _) ?_
    rintro i ⟨hi, hI⟩
    refine WP.seq ?_
    refine WP.plain cf0 rfl ?_
    refine Run.int2 rfl rfl rfl rfl rfl rfl ?_
    refine Run.nil ?_
    refine thn_next ?_
    refine WP.seq ?_
    refine WP.ite rfl (fun hlt => ?_) (fun hge => ?_)
    · refine WP.skip ?_; refine thn_next ?_
      have hlt' : i < to.length := by omega
      obtain ⟨l, gl⟩ : ∃ x, to[i]? = some x := ⟨_, List.getElem?_eq_getElem hlt'⟩
      obtain ⟨u, gu, hu⟩ := hl.rowV gl
      have gu' : cellH hR (elemAddr v ((i : Int).toNat * 1)) u := gu
      have hll := hrow l (List.mem_of_getElem? gl)
      refine WP.seqMeet (α := Unit) (fun _ => ∀ c ∈ l, okB to.length c) (fun _ => [(0, v), (7, v), (8, .int .i64 (to.length : Int)), (9, .int .i64 (i : Int))]) (fun _ => []) ?_ ?_
      · refine WP.block ?_
        refine WP.seq ?_
        refine WP.plain cf0 rfl ?_
        refine Run.idxR rfl rfl rfl sl_22 rfl rfl (by assumption) (by rfl) (by first | omega | (simp <;> omega)) (by first | omega | (simp <;> omega)) ?_
        refine Run.loadR rfl rfl ag_31 rfl rfl (by first | assumption | exact SlR.cell0 (by assumption) (by assumption) rfl | exact SlR.cell (by assumption) (by assumption) rfl) ?_
        refine Run.mv rfl rfl rfl rfl ?_
        refine Run.nil ?_
        refine thn_next ?_
        refine WP.seq ?_
        refine WP.plain cf0 rfl ?_
        refine Run.mv rfl rfl rfl rfl ?_
        refine Run.lenR rfl rfl sl_31 rfl rfl hu ?_
        refine Run.mv rfl rfl rfl rfl ?_
        refine Run.nil ?_
        refine thn_next ?_
        refine WP.block ?_
        refine WP.loop (α := Nat) (fun k => k ≤ l.length ∧ ∀ c ∈ l.take k, okB to.length c) (fun k => [(0, v), (7, v), (8, .int .i64 (to.length : Int)), (9, .int .i64 (i : Int)), (13, u), (14, .int .i64 (l.length : Int)), (15, .int .i64 (k : Int))]) (fun _ => []) (fun k => l.length - k)
          0 ⟨Nat.zero_le _, by simp⟩ ⟨rfl, rfl, rfl, rfl, rfl, rfl, rfl, trivial⟩ (ent.refl _) ?_
        rintro k ⟨hk, hK⟩
        refine WP.seq ?_
        refine WP.plain cf0 rfl ?_
        refine Run.int2 rfl rfl rfl rfl rfl rfl ?_
        refine Run.nil ?_
        refine thn_next ?_
        refine WP.seq ?_
        refine WP.ite rfl (fun hlt2 => ?_) (fun hge2 => ?_)
        · refine WP.skip ?_; refine thn_next ?_
          have hlt2' : k < l.length := by omega
          obtain ⟨c, gc⟩ : ∃ x, l[k]? = some x := ⟨_, List.getElem?_eq_getElem hlt2'⟩
          have gc' : l[(k : Int).toNat]? = some c := gc
          refine WP.seq ?_
          refine WP.block ?_
          refine WP.seq ?_
          refine WP.plain cf0 rfl ?_
          refine Run.idxR rfl rfl rfl sl_31 rfl rfl hu (by rfl) (by omega) (by omega) ?_
          refine Run.loadR rfl rfl ag_3 rfl rfl (SlR.cell0 hu gc' rfl) ?_
          refine Run.mv rfl rfl rfl rfl ?_
          refine Run.nil ?_
          refine thn_next ?_
          refine WP.seqCut [(0, v), (7, v), (8, .int .i64 (to.length : Int)), (9, .int .i64 (i : Int)), (13, u), (14, .int .i64 (l.length : Int)), (15, .int .i64 (k : Int)), (26, .bool (decide (¬ okB to.length c)))] [] ?_ ?_
          · refine WP.plain cf0 rfl ?_
            all_goals (first | refine Run.mv rfl rfl rfl rfl ?_)
            all_goals (first | refine Run.int2 rfl rfl rfl rfl rfl rfl ?_)
            all_goals (first | refine Run.tt (by first | assumption | omega) ?_ | refine Run.ff (by first | assumption | omega) ?_ | refine Run.split (fun hc20 => ?_) (fun hc20 => ?_) | refine Run.splitB (fun hc20 => ?_) (fun hc20 => ?_) | skip)
            all_goals (first | refine Run.mv rfl rfl rfl rfl ?_)
            all_goals (first | refine Run.not rfl rfl ?_ | refine Run.mv rfl rfl rfl rfl ?_)
            all_goals (first | refine Run.not rfl rfl ?_ | refine Run.mv rfl rfl rfl rfl ?_)
            all_goals (first | refine Run.not rfl rfl ?_ | refine Run.lenR rfl rfl sl_22 rfl rfl hl ?_)
            all_goals (first | refine Run.not rfl rfl ?_ | refine Run.int2 rfl rfl rfl rfl rfl rfl ?_)
            all_goals (first | refine Run.pick rfl rfl rfl rfl rfl ?_)
            all_goals (refine Run.nil ?_)
            all_goals refine thn_next ⟨⟨rfl, rfl, rfl, rfl, rfl, rfl, rfl, ?_, trivial⟩, ent.refl _⟩
            all_goals simp [Env.get, okB]
            all_goals omega
          refine WP.ite rfl (fun hb => ?_) (fun hb => ?_)
          · refine WP.seq ?_
            refine WP.plain cf0 rfl ?_
            refine Run.mv rfl rfl rfl rfl ?_
            refine Run.nil ?_
            refine thn_next ?_
            refine WP.ret ?_; refine blk_ret ?_; refine thn_ret ?_; refine thn_ret ?_; refine blk_ret ?_; refine blk_ret ?_; refine thn_ret ?_; refine thn_ret ?_; refine blk_ret ?_; refine thn_ret ?_
            have hng : ¬ GoodI to := fun hg => hb (hg.2 l (List.mem_of_getElem? gl) c (List.mem_of_getElem? gc))
            exact retT [2] _ rfl rfl ⟨by rw [decide_eq_false hng]; rfl, rfl⟩
          · refine WP.skip ?_; refine blk_norm ?_; refine thn_next ?_
            refine WP.plain cf0 rfl ?_
            refine Run.add64 rfl rfl rfl rfl rfl (by first | omega | (simp <;> omega)) (by first | omega | (simp <;> omega)) ?_
            refine Run.mv rfl rfl rfl rfl ?_
            refine Run.nil ?_
            refine thn_next ⟨k + 1, ⟨hlt2', fun x hx => ?_⟩, by omega, ⟨rfl, rfl, rfl, rfl, rfl, rfl, by simp [Env.get], trivial⟩, ent.refl _⟩
            rcases mem_take_succ gc hx with hx | rfl
            · exact hK x hx
            · exact Classical.not_not.1 hb
        · refine WP.exit ?_; refine thn_exit ?_; refine thn_exit ?_; refine blk_hit ?_; refine blk_norm ?_
          refine thn_next ⟨(), fun c hc => hK c (take_all (by omega) hc), ⟨rfl, rfl, rfl, rfl, trivial⟩, ent.refl _⟩
      rintro _ hL
      refine WP.plain cf0 rfl ?_
      refine Run.add64 rfl rfl rfl rfl rfl (by first | omega | (simp <;> omega)) (by first | omega | (simp <;> omega)) ?_
      refine Run.mv rfl rfl rfl rfl ?_
      refine Run.nil ?_
      refine thn_next ⟨i + 1, ⟨hlt', fun x hx => ?_⟩, by omega, ⟨rfl, rfl, rfl, by simp [Env.get], trivial⟩, ent.refl _⟩
      rcases mem_take_succ gl hx with hx | rfl
      · exact hI x hx
      · exact hL
    · refine WP.exit ?_; refine thn_exit ?_; refine thn_exit ?_; refine blk_hit ?_
      refine thn_next ⟨(), fun l h2 => hI l (take_all (by omega) h2), ⟨rfl, trivial⟩, ent.refl _⟩
  rintro _ hall
  refine WP.seq ?_
  refine WP.plain cf0 rfl ?_
  refine Run.mv rfl rfl rfl rfl ?_
  refine Run.lenR rfl rfl sl_22 rfl rfl hl ?_
  refine Run.int2 rfl rfl rfl rfl rfl rfl ?_
  refine Run.mv rfl rfl rfl rfl ?_
  refine Run.nil ?_
  refine thn_next ?_
  refine WP.ret ?_
  refine retT [2] _ rfl rfl ⟨?_, rfl⟩
  have : GoodI to ↔ 0 < to.length := ⟨fun h => h.1, fun h => ⟨h, hall⟩⟩
  simp [tupV, this]

theorem refGood_ok (hR : Heap) (v : Value) (to : List (List Int)) (hl : SlR (Enc.int .i64).rd.slice hR v to) (hlen : to.length ≤ 1000000000000) (hrow : ∀ l ∈ to, l.length ≤ 1000000000000) :
    Tri Try.prog hR 27 #[v] [] fun u Γ' => u = .bool (decide (GoodI to)) ∧ Γ' = [] := by
  refine Tri.of (args := [v]) Try.func27 rfl Try.ntmps27 (by simp) ?_
  refine WP.seq ?_
  refine WP.plain cf0 rfl ?_
  refine Run.mv rfl rfl rfl rfl ?_
  refine Run.nil ?_
  refine thn_next ?_
  refine WP.seqMeet (α := Unit) (fun _ => ∀ l ∈ to, ∀ c ∈ l, okB to.length c) (fun _ => [(0, v)]) (fun _ => []) ?_ ?_
  · refine WP.seq ?_
    refine WP.plain cf0 rfl ?_
    refine Run.mv rfl rfl rfl rfl ?_
    refine Run.nil ?_
    refine thn_next ?_
    refine WP.block ?_
    refine WP.loop (α := Nat) (fun i => i ≤ to.length ∧ ∀ l ∈ to.take i, ∀ c ∈ l, okB to.length c) (fun i => [(0, v), (3, .int .i64 (i : Int))]) (fun _ => []) (fun i => to.length - i)
      0 ⟨Nat.zero_le _, by simp⟩ ⟨rfl, rfl, trivial⟩ (ent.refl _) ?_
    rintro i ⟨hi, hI⟩
    refine WP.seq ?_
    refine WP.seq ?_
    refine WP.plain cf0 rfl ?_
    refine Run.mv rfl rfl rfl rfl ?_
    refine Run.mv rfl rfl rfl rfl ?_
    refine Run.lenR rfl rfl sl_22 rfl rfl hl ?_
    refine Run.int2 rfl rfl rfl rfl rfl rfl ?_
    refine Run.nil ?_
    refine thn_next ?_
    refine WP.ite rfl (fun hlt => ?_) (fun hge => ?_)
    · refine WP.skip ?_; refine thn_next ?_
      have hlt' : i < to.length := by omega
      obtain ⟨l, gl⟩ : ∃ x, to[i]? = some x := ⟨_, List.getElem?_eq_getElem hlt'⟩
      obtain ⟨u, gu, hu⟩ := hl.rowV gl
      have gu' : cellH hR (elemAddr v ((i : Int).toNat * 1)) u := gu
      have hll := hrow l (List.mem_of_getElem? gl)
      refine WP.seqMeet (α := Unit) (fun _ => ∀ c ∈ l, okB to.length c) (fun _ => [(0, v), (3, .int .i64 (i : Int))]) (fun _ => []) ?_ ?_
      · refine WP.block ?_
        refine WP.seq ?_
        refine WP.plain cf0 rfl ?_
        refine Run.mv rfl rfl rfl rfl ?_
        refine Run.nil ?_
        refine thn_next ?_
        refine WP.block ?_
        refine WP.loop (α := Nat) (fun k => k ≤ l.length ∧ ∀ c ∈ l.take k, okB to.length c) (fun k => [(0, v), (3, .int .i64 (i : Int)), (4, .int .i64 (k : Int))]) (fun _ => []) (fun k => l.length - k)
          0 ⟨Nat.zero_le _, by simp⟩ ⟨rfl, rfl, rfl, trivial⟩ (ent.refl _) ?_
        rintro k ⟨hk, hK⟩
        refine WP.seq ?_
        refine WP.seq ?_
        refine WP.plain cf0 rfl ?_
        refine Run.mv rfl rfl rfl rfl ?_
        refine Run.mv rfl rfl rfl rfl ?_
        refine Run.mv rfl rfl rfl rfl ?_
        refine Run.idxR rfl rfl rfl sl_22 rfl rfl hl (by rfl) (by omega) (by omega) ?_
        refine Run.loadR rfl rfl ag_31 rfl rfl gu' ?_
        refine Run.lenR rfl rfl sl_31 rfl rfl hu ?_
        refine Run.int2 rfl rfl rfl rfl rfl rfl ?_
        refine Run.nil ?_
        refine thn_next ?_
        refine WP.ite rfl (fun hlt2 => ?_) (fun hge2 => ?_)
        · refine WP.skip ?_; refine thn_next ?_
          have hlt2' : k < l.length := by omega
          obtain ⟨c, gc⟩ : ∃ x, l[k]? = some x := ⟨_, List.getElem?_eq_getElem hlt2'⟩
          have gc' : l[(k : Int).toNat]? = some c := gc
          refine WP.seq ?_
          refine WP.block ?_
          refine WP.seqCut [(0, v), (3, .int .i64 (i : Int)), (4, .int .i64 (k : Int)), (39, .bool (decide (¬ okB to.length c)))] [] ?_ ?_
          · refine WP.plain cf0 rfl ?_
            all_goals (first | refine Run.mv rfl rfl rfl rfl ?_)
            all_goals (first | refine Run.mv rfl rfl rfl rfl ?_)
            all_goals (first | refine Run.idxR rfl rfl rfl sl_22 rfl rfl hl (by rfl) (by omega) (by omega) ?_)
            all_goals (first | refine Run.loadR rfl rfl ag_31 rfl rfl gu' ?_)
            all_goals (first | refine Run.mv rfl rfl rfl rfl ?_)
            all_goals (first | refine Run.idxR rfl rfl rfl sl_31 rfl rfl hu (by rfl) (by omega) (by omega) ?_)
            all_goals (first | refine Run.loadR rfl rfl ag_3 rfl rfl (SlR.cell0 hu gc' rfl) ?_)
            all_goals (first | refine Run.int2 rfl rfl rfl rfl rfl rfl ?_)
            all_goals (first | refine Run.tt (by first | assumption | omega) ?_ | refine Run.ff (by first | assumption | omega) ?_ | refine Run.split (fun hc27 => ?_) (fun hc27 => ?_) | refine Run.splitB (fun hc27 => ?_) (fun hc27 => ?_) | skip)
            all_goals (first | refine Run.mv rfl rfl rfl rfl ?_)
            all_goals (first | refine Run.not rfl rfl ?_ | refine Run.mv rfl rfl rfl rfl ?_)
            all_goals (first | refine Run.not rfl rfl ?_ | refine Run.mv rfl rfl rfl rfl ?_)
            all_goals (first | refine Run.not rfl rfl ?_ | refine Run.idxR rfl rfl rfl sl_22 rfl rfl hl (by rfl) (by omega) (by omega) ?_)
            all_goals (first | refine Run.not rfl rfl ?_ | refine Run.loadR rfl rfl ag_31 rfl rfl gu' ?_)
            all_goals (first | refine Run.not rfl rfl ?_ | refine Run.mv rfl rfl rfl rfl ?_)
            all_goals (first | refine Run.not rfl rfl ?_ | refine Run.idxR rfl rfl rfl sl_31 rfl rfl hu (by rfl) (by omega) (by omega) ?_)
            all_goals (first | refine Run.not rfl rfl ?_ | refine Run.loadR rfl rfl ag_3 rfl rfl (SlR.cell0 hu gc' rfl) ?_)
            all_goals (first | refine Run.not rfl rfl ?_ | refine Run.mv rfl rfl rfl rfl ?_)
            all_goals (first | refine Run.not rfl rfl ?_ | refine Run.lenR rfl rfl sl_22 rfl rfl hl ?_)
            all_goals (first | refine Run.not rfl rfl ?_ | refine Run.int2 rfl rfl rfl rfl rfl rfl ?_)
            all_goals (first | refine Run.pick rfl rfl rfl rfl rfl ?_)
            all_goals (refine Run.nil ?_)
            all_goals refine thn_next ⟨⟨rfl, rfl, rfl, ?_, trivial⟩, ent.refl _⟩
            all_goals simp [Env.get, okB]
            all_goals omega
          refine WP.ite rfl (fun hb => ?_) (fun hb => ?_)
          · refine WP.seq ?_
            refine WP.plain cf0 rfl ?_
            refine Run.mv rfl rfl rfl rfl ?_
            refine Run.nil ?_
            refine thn_next ?_
            refine WP.ret ?_; refine blk_ret ?_; refine thn_ret ?_; refine thn_ret ?_; refine blk_ret ?_; refine blk_ret ?_; refine thn_ret ?_; refine thn_ret ?_; refine blk_ret ?_; refine thn_ret ?_
            have hng : ¬ GoodI to := fun hg => hb (hg.2 l (List.mem_of_getElem? gl) c (List.mem_of_getElem? gc))
            exact retT [2] _ rfl rfl ⟨by rw [decide_eq_false hng]; rfl, rfl⟩
          · refine WP.skip ?_; refine blk_norm ?_; refine thn_next ?_
            refine WP.plain cf0 rfl ?_
            refine Run.mv rfl rfl rfl rfl ?_
            refine Run.add64 rfl rfl rfl rfl rfl (by first | omega | (simp <;> omega)) (by first | omega | (simp <;> omega)) ?_
            refine Run.mv rfl rfl rfl rfl ?_
            refine Run.nil ?_
            refine thn_next ⟨k + 1, ⟨hlt2', fun x hx => ?_⟩, by omega, ⟨rfl, rfl, by simp [Env.get], trivial⟩, ent.refl _⟩
            rcases mem_take_succ gc hx with hx | rfl
            · exact hK x hx
            · exact Classical.not_not.1 hb
        · refine WP.exit ?_; refine thn_exit ?_; refine thn_exit ?_; refine blk_hit ?_; refine blk_norm ?_
          refine thn_next ⟨(), fun c hc => hK c (take_all (by omega) hc), ⟨rfl, rfl, trivial⟩, ent.refl _⟩
      rintro _ hL
      refine WP.plain cf0 rfl ?_
      refine Run.mv rfl rfl rfl rfl ?_
      refine Run.add64 rfl rfl rfl rfl rfl (by first | omega | (simp <;> omega)) (by first | omega | (simp <;> omega)) ?_
      refine Run.mv rfl rfl rfl rfl ?_
      refine Run.nil ?_
      refine thn_next ⟨i + 1, ⟨hlt', fun x hx => ?_⟩, by omega, ⟨rfl, by simp [Env.get], trivial⟩, ent.refl _⟩
      rcases mem_take_succ gl hx with hx | rfl
      · exact hI x hx
      · exact hL
    · refine WP.exit ?_; refine thn_exit ?_; refine thn_exit ?_; refine blk_hit ?_
      refine thn_next ⟨(), fun l h2 => hI l (take_all (by omega) h2), ⟨rfl, trivial⟩, ent.refl _⟩
  rintro _ hall
  refine WP.seq ?_
  refine WP.plain cf0 rfl ?_
  refine Run.mv rfl rfl rfl rfl ?_
  refine Run.lenR rfl rfl sl_22 rfl rfl hl ?_
  refine Run.int2 rfl rfl rfl rfl rfl rfl ?_
  refine Run.mv rfl rfl rfl rfl ?_
  refine Run.nil ?_
  refine thn_next ?_
  refine WP.ret ?_
  refine retT [2] _ rfl rfl ⟨?_, rfl⟩
  have : GoodI to ↔ 0 < to.length := ⟨fun h => h.1, fun h => ⟨h, hall⟩⟩
  simp [tupV, this]

theorem lawGood_ok (hR : Heap) (v : Value) (to : List (List Int)) (hl : SlR (Enc.int .i64).rd.slice hR v to) (hlen : to.length ≤ 1000000000000) (hrow : ∀ l ∈ to, l.length ≤ 1000000000000) :
    Tri Try.prog hR 22 #[v] [] fun u Γ' => u = .bool (decide (GoodI to)) ∧ Γ' = [] := by
  refine Tri.of (args := [v]) Try.func22 rfl Try.ntmps22 (by simp) ?_
  refine WP.seq ?_
  refine WP.plain cf0 rfl ?_
  refine Run.mv rfl rfl rfl rfl ?_
  refine Run.nil ?_
  refine thn_next ?_
  refine WP.seqMeet (α := Unit) (fun _ => ∀ l ∈ to, ∀ c ∈ l, okB to.length c) (fun _ => [(0, v)]) (fun _ => []) ?_ ?_
  · refine WP.seq ?_
    refine WP.plain cf0 rfl ?_
    refine Run.mv rfl rfl rfl rfl ?_
    refine Run.nil ?_
    refine thn_next ?_
    refine WP.block ?_
    refine WP.loop (α := Nat) (fun i => i ≤ to.length ∧ ∀ l ∈ to.take i, ∀ c ∈ l, okB to.length c) (fun i => [(0, v), (3, .int .i64 (i : Int))]) (fun _ => []) (fun i => to.length - i)
      0 ⟨Nat.zero_le _, by simp⟩ ⟨rfl, rfl, trivial⟩ (ent.refl _) ?_
    rintro i ⟨hi, hI⟩
    refine WP.seq ?_
    refine WP.seq ?_
    refine WP.plain cf0 rfl ?_
    refine Run.mv rfl rfl rfl rfl ?_
    refine Run.mv rfl rfl rfl rfl ?_
    refine Run.lenR rfl rfl sl_22 rfl rfl hl ?_
    refine Run.int2 rfl rfl rfl rfl rfl rfl ?_
    refine Run.nil ?_
    refine thn_next ?_
    refine WP.ite rfl (fun hlt => ?_) (fun hge => ?_)
    · refine WP.skip ?_; refine thn_next ?_
      have hlt' : i < to.length := by omega
      obtain ⟨l, gl⟩ : ∃ x, to[i]? = some x := ⟨_, List.getElem?_eq_getElem hlt'⟩
      obtain ⟨u, gu, hu⟩ := hl.rowV gl
      have gu' : cellH hR (elemAddr v ((i : Int).toNat * 1)) u := gu
      have hll := hrow l (List.mem_of_getElem? gl)
      refine WP.seqMeet (α := Unit) (fun _ => ∀ c ∈ l, okB to.length c) (fun _ => [(0, v), (3, .int .i64 (i : Int))]) (fun _ => []) ?_ ?_
      · refine WP.block ?_
        refine WP.seq ?_
        refine WP.plain cf0 rfl ?_
        refine Run.mv rfl rfl rfl rfl ?_
        refine Run.nil ?_
        refine thn_next ?_
        refine WP.block ?_
        refine WP.loop (α := Nat) (fun k => k ≤ l.length ∧ ∀ c ∈ l.take k, okB to.length c) (fun k => [(0, v), (3, .int .i64 (i : Int)), (4, .int .i64 (k : Int))]) (fun _ => []) (fun k => l.length - k)
          0 ⟨Nat.zero_le _, by simp⟩ ⟨rfl, rfl, rfl, trivial⟩ (ent.refl _) ?_
        rintro k ⟨hk, hK⟩
        refine WP.seq ?_
        refine WP.seq ?_
        refine WP.plain cf0 rfl ?_
        refine Run.mv rfl rfl rfl rfl ?_
        refine Run.mv rfl rfl rfl rfl ?_
        refine Run.mv rfl rfl rfl rfl ?_
        refine Run.idxR rfl rfl rfl sl_22 rfl rfl hl (by rfl) (by omega) (by omega) ?_
        refine Run.loadR rfl rfl ag_31 rfl rfl gu' ?_
        refine Run.lenR rfl rfl sl_31 rfl rfl hu ?_
        refine Run.int2 rfl rfl rfl rfl rfl rfl ?_
        refine Run.nil ?_
        refine thn_next ?_
        refine WP.ite rfl (fun hlt2 => ?_) (fun hge2 => ?_)
        · refine WP.skip ?_; refine thn_next ?_
          have hlt2' : k < l.length := by omega
          obtain ⟨c, gc⟩ : ∃ x, l[k]? = some x := ⟨_, List.getElem?_eq_getElem hlt2'⟩
          have gc' : l[(k : Int).toNat]? = some c := gc
          refine WP.seq ?_
          refine WP.block ?_
          refine WP.seqCut [(0, v), (3, .int .i64 (i : Int)), (4, .int .i64 (k : Int)), (39, .bool (decide (¬ okB to.length c)))] [] ?_ ?_
          · refine WP.plain cf0 rfl ?_
            all_goals (first | refine Run.mv rfl rfl rfl rfl ?_)
            all_goals (first | refine Run.mv rfl rfl rfl rfl ?_)
            all_goals (first | refine Run.idxR rfl rfl rfl sl_22 rfl rfl hl (by rfl) (by omega) (by omega) ?_)
            all_goals (first | refine Run.loadR rfl rfl ag_31 rfl rfl gu' ?_)
            all_goals (first | refine Run.mv rfl rfl rfl rfl ?_)
            all_goals (first | refine Run.idxR rfl rfl rfl sl_31 rfl rfl hu (by rfl) (by omega) (by omega) ?_)
            all_goals (first | refine Run.loadR rfl rfl ag_3 rfl rfl (SlR.cell0 hu gc' rfl) ?_)
            all_goals (first | refine Run.int2 rfl rfl rfl rfl rfl rfl ?_)
            all_goals (first | refine Run.tt (by first | assumption | omega) ?_ | refine Run.ff (by first | assumption | omega) ?_ | refine Run.split (fun hc27 => ?_) (fun hc27 => ?_) | refine Run.splitB (fun hc27 => ?_) (fun hc27 => ?_) | skip)
            all_goals (first | refine Run.mv rfl rfl rfl rfl ?_)
            all_goals (first | refine Run.not rfl rfl ?_ | refine Run.mv rfl rfl rfl rfl ?_)
            all_goals (first | refine Run.not rfl rfl ?_ | refine Run.mv rfl rfl rfl rfl ?_)
            all_goals (first | refine Run.not rfl rfl ?_ | refine Run.idxR rfl rfl rfl sl_22 rfl rfl hl (by rfl) (by omega) (by omega) ?_)
            all_goals (first | refine Run.not rfl rfl ?_ | refine Run.loadR rfl rfl ag_31 rfl rfl gu' ?_)
            all_goals (first | refine Run.not rfl rfl ?_ | refine Run.mv rfl rfl rfl rfl ?_)
            all_goals (first | refine Run.not rfl rfl ?_ | refine Run.idxR rfl rfl rfl sl_31 rfl rfl hu (by rfl) (by omega) (by omega) ?_)
            all_goals (first | refine Run.not rfl rfl ?_ | refine Run.loadR rfl rfl ag_3 rfl rfl (SlR.cell0 hu gc' rfl) ?_)
            all_goals (first | refine Run.not rfl rfl ?_ | refine Run.mv rfl rfl rfl rfl ?_)
            all_goals (first | refine Run.not rfl rfl ?_ | refine Run.lenR rfl rfl sl_22 rfl rfl hl ?_)
            all_goals (first | refine Run.not rfl rfl ?_ | refine Run.int2 rfl rfl rfl rfl rfl rfl ?_)
            all_goals (first | refine Run.pick rfl rfl rfl rfl rfl ?_)
            all_goals (refine Run.nil ?_)
            all_goals refine thn_next ⟨⟨rfl, rfl, rfl, ?_, trivial⟩, ent.refl _⟩
            all_goals simp [Env.get, okB]
            all_goals omega
          refine WP.ite rfl (fun hb => ?_) (fun hb => ?_)
          · refine WP.seq ?_
            refine WP.plain cf0 rfl ?_
            refine Run.mv rfl rfl rfl rfl ?_
            refine Run.nil ?_
            refine thn_next ?_
            refine WP.ret ?_; refine blk_ret ?_; refine thn_ret ?_; refine thn_ret ?_; refine blk_ret ?_; refine blk_ret ?_; refine thn_ret ?_; refine thn_ret ?_; refine blk_ret ?_; refine thn_ret ?_
            have hng : ¬ GoodI to := fun hg => hb (hg.2 l (List.mem_of_getElem? gl) c (List.mem_of_getElem? gc))
            exact retT [2] _ rfl rfl ⟨by rw [decide_eq_false hng]; rfl, rfl⟩
          · refine WP.skip ?_; refine blk_norm ?_; refine thn_next ?_
            refine WP.plain cf0 rfl ?_
            refine Run.mv rfl rfl rfl rfl ?_
            refine Run.add64 rfl rfl rfl rfl rfl (by first | omega | (simp <;> omega)) (by first | omega | (simp <;> omega)) ?_
            refine Run.mv rfl rfl rfl rfl ?_
            refine Run.nil ?_
            refine thn_next ⟨k + 1, ⟨hlt2', fun x hx => ?_⟩, by omega, ⟨rfl, rfl, by simp [Env.get], trivial⟩, ent.refl _⟩
            rcases mem_take_succ gc hx with hx | rfl
            · exact hK x hx
            · exact Classical.not_not.1 hb
        · refine WP.exit ?_; refine thn_exit ?_; refine thn_exit ?_; refine blk_hit ?_; refine blk_norm ?_
          refine thn_next ⟨(), fun c hc => hK c (take_all (by omega) hc), ⟨rfl, rfl, trivial⟩, ent.refl _⟩
      rintro _ hL
      refine WP.plain cf0 rfl ?_
      refine Run.mv rfl rfl rfl rfl ?_
      refine Run.add64 rfl rfl rfl rfl rfl (by first | omega | (simp <;> omega)) (by first | omega | (simp <;> omega)) ?_
      refine Run.mv rfl rfl rfl rfl ?_
      refine Run.nil ?_
      refine thn_next ⟨i + 1, ⟨hlt', fun x hx => ?_⟩, by omega, ⟨rfl, by simp [Env.get], trivial⟩, ent.refl _⟩
      rcases mem_take_succ gl hx with hx | rfl
      · exact hI x hx
      · exact hL
    · refine WP.exit ?_; refine thn_exit ?_; refine thn_exit ?_; refine blk_hit ?_
      refine thn_next ⟨(), fun l h2 => hI l (take_all (by omega) h2), ⟨rfl, trivial⟩, ent.refl _⟩
  rintro _ hall
  refine WP.seq ?_
  refine WP.plain cf0 rfl ?_
  refine Run.mv rfl rfl rfl rfl ?_
  refine Run.lenR rfl rfl sl_22 rfl rfl hl ?_
  refine Run.int2 rfl rfl rfl rfl rfl rfl ?_
  refine Run.mv rfl rfl rfl rfl ?_
  refine Run.nil ?_
  refine thn_next ?_
  refine WP.ret ?_
  refine retT [2] _ rfl rfl ⟨?_, rfl⟩
  have : GoodI to ↔ 0 < to.length := ⟨fun h => h.1, fun h => ⟨h, hall⟩⟩
  simp [tupV, this]

theorem alike_ok (hR : Heap) (a b : Value) (xs ys : List Bool) (ha : SlR Enc.bool.rd hR a xs) (hb : SlR Enc.bool.rd hR b ys) (hlen : xs.length ≤ 1000000000000000000) (hlen2 : ys.length ≤ 1000000000000000000) :
    Tri Try.prog hR 15 #[a, b] [] fun u Γ' => u = .bool (decide (xs = ys)) ∧ Γ' = [] := by
  refine Tri.of (args := [a, b]) Try.func15 rfl Try.ntmps15 (by simp) ?_
  refine WP.seq ?_
  refine WP.plain cf0 rfl ?_
  refine Run.mv rfl rfl rfl rfl ?_
  refine Run.nil ?_
  refine thn_next ?_
  refine WP.seq ?_
  refine WP.seq ?_
  refine WP.plain cf0 rfl ?_
  refine Run.mv rfl rfl rfl rfl ?_
  refine Run.lenR rfl rfl sl_26 rfl rfl ha ?_
  refine Run.mv rfl rfl rfl rfl ?_
  refine Run.lenR rfl rfl sl_26 rfl rfl hb ?_
  refine Run.int2 rfl rfl rfl rfl rfl rfl ?_
  refine Run.nil ?_
  refine thn_next ?_
  refine WP.ite rfl (fun hne => ?_) (fun heq => ?_)
  · refine WP.seq ?_
    refine WP.plain cf0 rfl ?_
    refine Run.mv rfl rfl rfl rfl ?_
    refine Run.nil ?_
    refine thn_next ?_
    refine WP.ret ?_; refine thn_ret ?_
    have : xs ≠ ys := fun e => hne (by rw [e])
    exact retT [4] _ rfl rfl ⟨by rw [decide_eq_false this]; rfl, rfl⟩
  refine WP.skip ?_; refine thn_next ?_
  have hll : xs.length = ys.length := by omega
  refine WP.seqMeet (α := Unit) (fun _ => xs = ys) (fun _ => []) (fun _ => []) ?_ ?_
  · refine WP.seq ?_
    refine WP.plain cf0 rfl ?_
    refine Run.mv rfl rfl rfl rfl ?_
    refine Run.nil ?_
    refine thn_next ?_
    refine WP.block ?_
    refine WP.loop (α := Nat) (fun i => i ≤ xs.length ∧ (xs = ys ↔ xs.drop i = ys.drop i)) (fun i => [(0, a), (1, b), (5, .int .i64 (i : Int))]) (fun i => []) (fun i => xs.length - i)
      0 ⟨Nat.zero_le _, Iff.rfl⟩ ⟨rfl, rfl, rfl, trivial⟩ (ent.refl _) ?_
    rintro i ⟨hi, hiff⟩
    refine WP.seq ?_
    refine WP.seq ?_
    refine WP.plain cf0 rfl ?_
    refine Run.mv rfl rfl rfl rfl ?_
    refine Run.mv rfl rfl rfl rfl ?_
    refine Run.lenR rfl rfl sl_26 rfl rfl ha ?_
    refine Run.int2 rfl rfl rfl rfl rfl rfl ?_
    refine Run.nil ?_
    refine thn_next ?_
    refine WP.ite rfl (fun hlt => ?_) (fun hge => ?_)
    · refine WP.skip ?_; refine thn_next ?_
      have hlt' : i < xs.length := by omega
      have hlt2 : i < ys.length := by omega
      obtain ⟨x, gx⟩ : ∃ x, xs[i]? = some x := ⟨_, List.getElem?_eq_getElem hlt'⟩
      obtain ⟨y, gy⟩ : ∃ x, ys[i]? = some x := ⟨_, List.getElem?_eq_getElem hlt2⟩
      have gx' : xs[(i : Int).toNat]? = some x := gx
      have gy' : ys[(i : Int).toNat]? = some y := gy
      have hdx : xs.drop i = x :: xs.drop (i + 1) := by rw [List.drop_eq_getElem_cons hlt']; congr 1; rw [List.getElem?_eq_getElem hlt'] at gx; cases gx; rfl
      have hdy : ys.drop i = y :: ys.drop (i + 1) := by rw [List.drop_eq_getElem_cons hlt2]; congr 1; rw [List.getElem?_eq_getElem hlt2] at gy; cases gy; rfl
      refine WP.seq ?_
      refine WP.block ?_
      refine WP.seq ?_
      refine WP.drawn0 cf0 mixed rfl (by kernel_rfl) ?_
      refine Run.mv rfl rfl rfl rfl ?_
      refine Run.mv rfl rfl rfl rfl ?_
      refine Run.idxR rfl rfl rfl sl_26 rfl rfl ha (by rfl) (by omega) (by omega) ?_
      refine Run.loadR rfl rfl ag_4 rfl rfl (SlR.cell0 ha gx' rfl) ?_
      refine Run.mv rfl rfl rfl rfl ?_
      refine Run.mv rfl rfl rfl rfl ?_
      refine Run.idxR rfl rfl rfl sl_26 rfl rfl hb (by rfl) (by omega) (by omega) ?_
      refine Run.loadR rfl rfl ag_4 rfl rfl (SlR.cell0 hb gy' rfl) ?_
      refine Run.neB rfl rfl rfl Try.underlying4 rfl rfl ?_
      refine Run.nil ?_
      refine thn_next ?_
      refine WP.cond (t := !(x == y)) rfl (fun hxy => ?_) (fun hxy => ?_)
      · refine WP.seq ?_
        refine WP.plain cf0 rfl ?_
        refine Run.mv rfl rfl rfl rfl ?_
        refine Run.nil ?_
        refine thn_next ?_
        refine WP.ret ?_; refine blk_ret ?_; refine thn_ret ?_; refine thn_ret ?_; refine blk_ret ?_; refine thn_ret ?_
        have : xs ≠ ys := fun e => by rw [hiff, hdx, hdy] at e; simp at e; simp [e.1] at hxy
        exact retT [4] _ rfl rfl ⟨by rw [decide_eq_false this]; rfl, rfl⟩
      · refine WP.skip ?_; refine blk_norm ?_; refine thn_next ?_
        refine WP.plain cf0 rfl ?_
        refine Run.mv rfl rfl rfl rfl ?_
        refine Run.add64 rfl rfl rfl rfl rfl (by first | omega | (simp <;> omega)) (by first | omega | (simp <;> omega)) ?_
        refine Run.mv rfl rfl rfl rfl ?_
        refine Run.nil ?_
        refine thn_next ⟨i + 1, ⟨hlt', ?_⟩, by omega, ⟨rfl, rfl, by simp [Env.get], trivial⟩, ent.refl _⟩
        have : x = y := by simpa using hxy
        rw [hiff, hdx, hdy, this]; simp
    · refine WP.exit ?_; refine thn_exit ?_; refine thn_exit ?_; refine blk_hit ?_
      refine thn_next ⟨(), ?_, trivial, ent.refl _⟩
      rw [hiff, List.drop_eq_nil_of_le (by omega), List.drop_eq_nil_of_le (by omega)]
  rintro _ he
  refine WP.seq ?_
  refine WP.plain cf0 rfl ?_
  refine Run.mv rfl rfl rfl rfl ?_
  refine Run.nil ?_
  refine thn_next ?_
  refine WP.ret ?_
  exact retT [4] _ rfl rfl ⟨by rw [decide_eq_true he]; rfl, rfl⟩

def edgesL (to : List (List Int)) : Nat := (to.map List.length).sum
theorem edgesL_take {to : List (List Int)} {i : Nat} {l : List Int} (h : to[i]? = some l) : edgesL (to.take (i + 1)) = edgesL (to.take i) + l.length := by
  unfold edgesL; rw [List.take_add_one, h]; simp
theorem edgesL_le (to : List (List Int)) (i : Nat) : edgesL (to.take i) ≤ edgesL to := by
  conv => rhs; rw [← List.take_append_drop i to]
  unfold edgesL; rw [List.map_append, List.sum_append]; omega

theorem edges_ok (hR : Heap) (v : Value) (to : List (List Int)) (hl : SlR (Enc.int .i64).rd.slice hR v to) (hlen : to.length ≤ 1000000000000) (hsum : edgesL to ≤ 1000000000000000000) :
    Tri Try.prog hR 10 #[v] [] fun u Γ' => u = .int .i64 (edgesL to : Int) ∧ Γ' = [] := by
  refine Tri.of (args := [v]) Try.func10 rfl Try.ntmps10 (by simp) ?_
  refine WP.seq ?_
  refine WP.plain cf0 rfl ?_
  refine Run.mv rfl rfl rfl rfl ?_
  refine Run.nil ?_
  refine thn_next ?_
  refine WP.seq ?_
  refine WP.plain cf0 rfl ?_
  refine Run.mv rfl rfl rfl rfl ?_
  refine Run.nil ?_
  refine thn_next ?_
  refine WP.seqMeet (α := Unit) (fun _ => True) (fun _ => [(0, v), (3, .int .i64 (edgesL to : Int))]) (fun _ => []) ?_ ?_
  · refine WP.seq ?_
    refine WP.plain cf0 rfl ?_
    refine Run.mv rfl rfl rfl rfl ?_
    refine Run.nil ?_
    refine thn_next ?_
    refine WP.block ?_
    refine WP.loop (α := Nat) (fun i => i ≤ to.length) (fun i => [(0, v), (3, .int .i64 (edgesL (to.take i) : Int)), (4, .int .i64 (i : Int))]) (fun _ => []) (fun i => to.length - i)
      0 (Nat.zero_le _) ⟨rfl, rfl, rfl, trivial⟩ (ent.refl _) ?_
    rintro i hi
    refine WP.seq ?_
    refine WP.seq ?_
    refine WP.plain cf0 rfl ?_
    refine Run.mv rfl rfl rfl rfl ?_
    refine Run.mv rfl rfl rfl rfl ?_
    refine Run.lenR rfl rfl sl_22 rfl rfl (by assumption) ?_
    refine Run.int2 rfl rfl rfl rfl rfl rfl ?_
    refine Run.nil ?_
    refine thn_next ?_
    refine WP.ite rfl (fun hlt => ?_) (fun hge => ?_)
    · refine WP.skip ?_; refine thn_next ?_
      have hlt' : i < to.length := by omega
      obtain ⟨l, gl⟩ : ∃ x, to[i]? = some x := ⟨_, List.getElem?_eq_getElem hlt'⟩
      obtain ⟨u, gu, hu⟩ := hl.rowV gl
      have gu' : cellH hR (elemAddr v ((i : Int).toNat * 1)) u := gu
      have e1 := edgesL_take gl
      have e2 := edgesL_le to (i + 1)
      refine WP.seq ?_
      refine WP.block ?_
      refine WP.plain cf0 rfl ?_
      refine Run.mv rfl rfl rfl rfl ?_
      refine Run.mv rfl rfl rfl rfl ?_
      refine Run.mv rfl rfl rfl rfl ?_
      refine Run.idxR rfl rfl rfl sl_22 rfl rfl hl (by rfl) (by omega) (by omega) ?_
      refine Run.loadR rfl rfl ag_31 rfl rfl gu' ?_
      refine Run.lenR rfl rfl sl_31 rfl rfl hu ?_
      refine Run.add64 rfl rfl rfl rfl rfl (by first | omega | (simp <;> omega)) (by first | omega | (simp <;> omega)) ?_
      refine Run.mv rfl rfl rfl rfl ?_
      refine Run.nil ?_
      refine blk_norm ?_; refine thn_next ?_
      refine WP.plain cf0 rfl ?_
      refine Run.mv rfl rfl rfl rfl ?_
      refine Run.add64 rfl rfl rfl rfl rfl (by first | omega | (simp <;> omega)) (by first | omega | (simp <;> omega)) ?_
      refine Run.mv rfl rfl rfl rfl ?_
      refine Run.nil ?_
      refine thn_next ⟨i + 1, hlt', by omega, ⟨rfl, ?_, by simp [Env.get], trivial⟩, ent.refl _⟩
      simp only [e1, Int.natCast_add]; rfl
    · refine WP.exit ?_; refine thn_exit ?_; refine thn_exit ?_; refine blk_hit ?_
      refine thn_next ⟨(), trivial, ⟨rfl, ?_, trivial⟩, ent.refl _⟩
      rw [List.take_of_length_le (by omega)]; rfl
  rintro _ _
  refine WP.seq ?_
  refine WP.plain cf0 rfl ?_
  refine Run.mv rfl rfl rfl rfl ?_
  refine Run.mv rfl rfl rfl rfl ?_
  refine Run.nil ?_
  refine thn_next ?_
  refine WP.ret ?_
  exact retT [2] _ rfl rfl ⟨rfl, rfl⟩
end Go.Proofs.Ytifpejpeophlbaa
