/- ScanFew: there is no slot just where no more meet at once than there are registers. -/
import Derived.Test.YtengcfamhoppbaaPlainK
import Derived.Test.YtengcfamhoppbaaPlaces
import Derived.Test.YtengcfamhoppbaaS16
namespace Go.Proofs.Ytengcfamhoppbaa
open Go.Sep
set_option linter.unusedSimpArgs false
set_option linter.unusedVariables false
attribute [local irreducible] blk slA mp mpF

def holdAt (c : Int) (z : Iv) : Bool := decide (z.f ≤ c ∧ z.t ≥ c)
def mostUp (o l : List Iv) : Int := l.foldl (fun m x => max m ((o.countP (holdAt x.f) : Nat) : Int)) 0
theorem mostUp_snoc (o l : List Iv) (x : Iv) : mostUp o (l ++ [x]) = max (mostUp o l) ((o.countP (holdAt x.f) : Nat) : Int) := by unfold mostUp; rw [List.foldl_append]; rfl
theorem foldl_max_le (g : Iv → Int) (k : Int) : ∀ (l : List Iv) (m : Int), l.foldl (fun m x => max m (g x)) m ≤ k ↔ m ≤ k ∧ ∀ x ∈ l, g x ≤ k
  | [], m => by simp
  | y :: ys, m => by
    rw [List.foldl_cons, foldl_max_le g k ys]
    constructor
    · rintro ⟨h1, h2⟩
      refine ⟨by omega, fun x hx => ?_⟩
      rcases List.mem_cons.1 hx with rfl | hx
      · omega
      · exact h2 x hx
    · rintro ⟨h1, h2⟩
      have := h2 y (by simp)
      exact ⟨by omega, fun x hx => h2 x (by simp [hx])⟩
theorem mostUp_bd (o l : List Iv) : 0 ≤ mostUp o l ∧ mostUp o l ≤ o.length := by
  constructor
  · have := (foldl_max_le (fun x => ((o.countP (holdAt x.f) : Nat) : Int)) (mostUp o l) l 0).1 (Int.le_refl _)
    exact this.1
  · refine (foldl_max_le (fun x => ((o.countP (holdAt x.f) : Nat) : Int)) o.length l 0).2 ⟨by omega, fun x _ => ?_⟩
    have : o.countP (holdAt x.f) ≤ o.length := List.countP_le_length
    omega

theorem few_iff {regs : Nat} {o : List Iv} {out : List Loc} {n : Int} (h : SortedOk o) (k : K regs o out n) : n = 0 ↔ mostUp o o ≤ regs := by
  constructor
  · intro h0
    refine (foldl_max_le (fun x => ((o.countP (holdAt x.f) : Nat) : Int)) regs o 0).2 ⟨by omega, fun x _ => ?_⟩
    have h1 : ∀ z ∈ o, (locOf out z).k = 1 ∧ 0 ≤ (locOf out z).n ∧ (locOf out z).n < regs := fun z hz => by
      rcases k.rng z hz with g | g
      · exact g
      · omega
    have hnd : ((o.filter (holdAt x.f)).map fun z => (locOf out z).n).Nodup := by
      refine List.pairwise_map.2 ?_
      have hd : (o.filter (holdAt x.f)).Pairwise (fun a b => a.r ≠ b.r) := h.dis.sublist List.filter_sublist
      refine hd.imp_of_mem fun {a b} ha hb hab e => ?_
      obtain ⟨ha1, ha2⟩ := List.mem_filter.1 ha
      obtain ⟨hb1, hb2⟩ := List.mem_filter.1 hb
      have ha3 : a.f ≤ x.f ∧ a.t ≥ x.f := of_decide_eq_true ha2
      have hb3 : b.f ≤ x.f ∧ b.t ≥ x.f := of_decide_eq_true hb2
      have hloc : locOf out a = locOf out b := by
        have e1 := (h1 a ha1).1; have e2 := (h1 b hb1).1
        cases hp : locOf out a; cases hq : locOf out b
        rw [hp] at e1 e; rw [hq] at e2 e
        simp only at e1 e2 e
        rw [e1, e2, e]
      have := (k.sep a ha1 b hb1 hab hloc).2
      omega
    have hsub : ∀ v ∈ ((o.filter (holdAt x.f)).map fun z => (locOf out z).n), v ∈ iota regs := fun v hv => by
      obtain ⟨z, hz, rfl⟩ := List.mem_map.1 hv
      exact (iota_mem _ _).2 (h1 z (List.mem_filter.1 hz).1).2
    have := List.Nodup.length_le_of_subset hnd hsub
    rw [List.length_map, iota_len] at this
    rw [List.countP_eq_length_filter]
    omega
  · intro hm
    rcases Decidable.em (n = 0) with g | g
    · exact g
    · obtain ⟨x, hx, hc⟩ := k.few g
      have := ((foldl_max_le (fun x => ((o.countP (holdAt x.f) : Nat) : Int)) regs o 0).1 hm).2 x hx
      have e : o.countP (holdAt x.f) = o.countP (fun z => decide (z.f ≤ x.f ∧ z.t ≥ x.f)) := rfl
      omega

set_option maxRecDepth 100000 in
set_option maxHeartbeats 1000000 in
theorem few_ok (hR : Heap) (v : Value) (xs : List Iv) (regs : Int) (hl : SlR encIv.rd hR v xs) :
    Tri Try.prog hR 6 #[v, .int .i64 regs] [] fun u _ => u = .bool true := by
  refine Tri.of (args := [v, .int .i64 regs]) Try.func6 rfl Try.ntmps6 (by simp) ?_
  refine WP.seq ?_
  refine WP.plain cf0 rfl ?_
  refine Run.mv rfl rfl rfl rfl ?_
  refine Run.nil ?_
  refine thn_next ?_
  refine WP.seqCut [(0, v), (1, .int .i64 regs), (5, .bool true)] [] ?_ ?_
  · refine WP.plain cf0 rfl ?_
    refine Run.call (Δ := []) (Θ := []) rfl rfl rfl rfl ok_9 rfl rfl (ent.refl _) (alive_ok hR) ?_; rintro _ Γ1 rfl
    refine Run.mv rfl rfl rfl rfl ?_
    refine Run.nil ?_
    exact thn_next ⟨⟨rfl, rfl, rfl, trivial⟩, pick_only [] _⟩
  refine WP.seq ?_
  refine WP.seqCut [(0, v), (1, .int .i64 regs), (5, .bool true), (20, .bool (decide (regs < 1 ∨ regs > 8)))] [] ?_ ?_
  · refine WP.plain cf0 rfl ?_
    all_goals (first | refine Run.mv rfl rfl rfl rfl ?_)
    all_goals (first | refine Run.int2 rfl rfl rfl rfl rfl rfl ?_)
    all_goals (first | refine Run.tt (by first | assumption | omega) ?_ | refine Run.ff (by first | assumption | omega) ?_ | refine Run.split (fun hc16 => ?_) (fun hc16 => ?_) | refine Run.splitB (fun hc16 => ?_) (fun hc16 => ?_) | skip)
    all_goals (first | refine Run.mv rfl rfl rfl rfl ?_)
    all_goals (first | refine Run.mv rfl rfl rfl rfl ?_ | refine Run.not rfl rfl ?_)
    all_goals (first | refine Run.int2 rfl rfl rfl rfl rfl rfl ?_ | refine Run.not rfl rfl ?_)
    all_goals (first | refine Run.pick rfl rfl rfl rfl rfl ?_)
    all_goals (refine Run.nil ?_)
    all_goals refine thn_next ⟨⟨rfl, rfl, rfl, ?_, trivial⟩, ent.refl _⟩
    all_goals simp [Env.get, *]
  refine WP.ite rfl (fun h => ?_) (fun hregs => ?_)
  · refine WP.seq ?_
    refine WP.plain cf0 rfl ?_
    refine Run.mv rfl rfl rfl rfl ?_
    refine Run.mv rfl rfl rfl rfl ?_
    refine Run.nil ?_
    refine thn_next ?_
    refine WP.ret ?_; refine thn_ret ?_
    exact retT [4] _ rfl rfl rfl
  refine WP.skip ?_; refine thn_next ?_
  refine WP.seq ?_
  refine WP.plain cf0 rfl ?_
  refine Run.mv rfl rfl rfl rfl ?_
  refine Run.call (Δ := []) (Θ := []) rfl rfl rfl rfl ok_15 rfl rfl (ent.refl _) (sorted_ok hR v xs hl) ?_; rintro _ _ ⟨sv, o, rfl, rfl, hso, hol, hox⟩
  refine Run.mv rfl rfl rfl rfl ?_
  refine Run.nil ?_
  refine thn_next ?_
  have hsl : (scanL o regs).1.length ≤ 1000000 := scanL_len o regs
  have hsc : (scanL o regs).2.2 = 0 := scanL_good hregs hso
  have hK := scanL_K hregs hso
  have hfew := few_iff hso hK
  refine WP.seq ?_
  refine WP.plain cf0 rfl ?_
  refine Run.mv rfl rfl rfl rfl ?_
  refine Run.nil ?_
  refine thn_next ?_
  refine WP.seqMeet (α := Unit) (fun _ => True) (fun _ => [(1, .int .i64 regs), (5, .bool true), (6, sv.val), (7, .int .i64 (mostUp o o))]) (fun _ => [slA 35 encIv sv.val o]) ?_ ?_
  · refine WP.seq ?_
    refine WP.plain cf0 rfl ?_
    refine Run.mv rfl rfl rfl rfl ?_
    refine Run.nil ?_
    refine thn_next ?_
    refine WP.block ?_
    refine WP.loop (α := Nat) (fun i => i ≤ o.length)
      (fun i => [(1, .int .i64 regs), (5, .bool true), (6, sv.val), (7, .int .i64 (mostUp o (o.take i))), (8, .int .i64 (i : Int))]) (fun _ => [slA 35 encIv sv.val o]) (fun i => o.length - i)
      0 (Nat.zero_le _) ⟨rfl, rfl, rfl, rfl, rfl, trivial⟩ (ent.refl _) ?_
    intro i hi
    refine WP.seq ?_
    refine WP.seq ?_
    refine WP.plain cf0 rfl ?_
    refine Run.mv rfl rfl rfl rfl ?_
    refine Run.mv rfl rfl rfl rfl ?_
    refine Run.lenO 0 rfl rfl sl_22 rfl rfl rfl ?_
    refine Run.int2 rfl rfl rfl rfl rfl rfl ?_
    refine Run.nil ?_
    refine thn_next ?_
    refine WP.ite rfl (fun hlt => ?_) (fun hge => ?_)
    · refine WP.skip ?_; refine thn_next ?_
      have hlt' : i < o.length := by omega
      obtain ⟨x, gx⟩ : ∃ x, o[i]? = some x := ⟨_, List.getElem?_eq_getElem hlt'⟩
      have gx' : o[(i : Int).toNat]? = some x := gx
      have hdec : o.length - (i + 1) < o.length - i := by omega
      have htk : mostUp o (o.take (i + 1)) = max (mostUp o (o.take i)) ((o.countP (holdAt x.f) : Nat) : Int) := by
        rw [List.take_add_one, gx]; exact mostUp_snoc o _ x
      refine WP.seq ?_
      refine WP.block ?_
      refine WP.seq ?_
      refine WP.plain cf0 rfl ?_
      refine Run.mv rfl rfl rfl rfl ?_
      refine Run.nil ?_
      refine thn_next ?_
      refine WP.seqMeet (α := Unit) (fun _ => True) (fun _ => [(1, .int .i64 regs), (5, .bool true), (6, sv.val), (7, .int .i64 (mostUp o (o.take i))), (8, .int .i64 (i : Int)), (9, .int .i64 (o.countP (holdAt x.f) : Int))]) (fun _ => [slA 35 encIv sv.val o]) ?_ ?_
      · refine WP.seq ?_
        refine WP.plain cf0 rfl ?_
        refine Run.mv rfl rfl rfl rfl ?_
        refine Run.nil ?_
        refine thn_next ?_
        refine WP.block ?_
        refine WP.loop (α := Nat) (fun j => j ≤ o.length)
          (fun j => [(1, .int .i64 regs), (5, .bool true), (6, sv.val), (7, .int .i64 (mostUp o (o.take i))), (8, .int .i64 (i : Int)), (9, .int .i64 ((o.take j).countP (holdAt x.f) : Int)), (10, .int .i64 (j : Int))]) (fun _ => [slA 35 encIv sv.val o]) (fun j => o.length - j)
          0 (Nat.zero_le _) ⟨rfl, rfl, rfl, rfl, rfl, rfl, rfl, trivial⟩ (ent.refl _) ?_
        intro j hj
        have hcb : (o.take j).countP (holdAt x.f) ≤ j := Nat.le_trans List.countP_le_length (by rw [List.length_take]; omega)
        refine WP.seq ?_
        refine WP.seq ?_
        refine WP.plain cf0 rfl ?_
        refine Run.mv rfl rfl rfl rfl ?_
        refine Run.mv rfl rfl rfl rfl ?_
        refine Run.lenO 0 rfl rfl sl_22 rfl rfl rfl ?_
        refine Run.int2 rfl rfl rfl rfl rfl rfl ?_
        refine Run.nil ?_
        refine thn_next ?_
        refine WP.ite rfl (fun hjl => ?_) (fun hjl => ?_)
        · refine WP.skip ?_; refine thn_next ?_
          have hjl' : j < o.length := by omega
          obtain ⟨y, gy⟩ : ∃ y, o[j]? = some y := ⟨_, List.getElem?_eq_getElem hjl'⟩
          have gy' : o[(j : Int).toNat]? = some y := gy
          have hjd : o.length - (j + 1) < o.length - j := by omega
          have hck : (o.take (j + 1)).countP (holdAt x.f) = (o.take j).countP (holdAt x.f) + if y.f ≤ x.f ∧ y.t ≥ x.f then 1 else 0 := by
            rw [List.take_add_one, gy, List.countP_append]; simp [List.countP_cons, holdAt]
          refine WP.seq ?_
          refine WP.block ?_
          refine WP.seqCut [(1, .int .i64 regs), (5, .bool true), (6, sv.val), (7, .int .i64 (mostUp o (o.take i))), (8, .int .i64 (i : Int)), (9, .int .i64 ((o.take j).countP (holdAt x.f) : Int)), (10, .int .i64 (j : Int)), (59, .bool (decide (y.f ≤ x.f ∧ y.t ≥ x.f)))] [slA 35 encIv sv.val o] ?_ ?_
          · refine WP.drawn0 cf0 mixed rfl (by kernel_rfl) ?_
            all_goals (first | refine Run.mv rfl rfl rfl rfl ?_)
            all_goals (first | refine Run.mv rfl rfl rfl rfl ?_)
            all_goals (first | refine Run.idxO 0 rfl rfl rfl sl_22 rfl rfl rfl rfl (by first | omega | (simp <;> omega)) (by first | omega | (simp <;> omega)) ?_)
            all_goals (first | refine Run.fieldAddr rfl rfl fo_35_1 rfl rfl ?_)
            all_goals (first | refine Run.loadO 0 _ _ rfl rfl ag_3 rfl rfl rfl rfl (by assumption) rfl ?_)
            all_goals (first | refine Run.mv rfl rfl rfl rfl ?_)
            all_goals (first | refine Run.mv rfl rfl rfl rfl ?_)
            all_goals (first | refine Run.idxO 0 rfl rfl rfl sl_22 rfl rfl rfl rfl (by first | omega | (simp <;> omega)) (by first | omega | (simp <;> omega)) ?_)
            all_goals (first | refine Run.fieldAddr rfl rfl fo_35_1 rfl rfl ?_)
            all_goals (first | refine Run.loadO 0 _ _ rfl rfl ag_3 rfl rfl rfl rfl (by assumption) rfl ?_)
            all_goals (first | refine Run.int2 rfl rfl rfl rfl rfl rfl ?_)
            all_goals (first | refine Run.tt (by first | assumption | omega) ?_ | refine Run.ff (by first | assumption | omega) ?_ | refine Run.split (fun hc46 => ?_) (fun hc46 => ?_) | refine Run.splitB (fun hc46 => ?_) (fun hc46 => ?_) | skip)
            all_goals (first | refine Run.mv rfl rfl rfl rfl ?_)
            all_goals (first | refine Run.mv rfl rfl rfl rfl ?_ | refine Run.not rfl rfl ?_)
            all_goals (first | refine Run.mv rfl rfl rfl rfl ?_ | refine Run.not rfl rfl ?_)
            all_goals (first | refine Run.idxO 0 rfl rfl rfl sl_22 rfl rfl rfl rfl (by first | omega | (simp <;> omega)) (by first | omega | (simp <;> omega)) ?_ | refine Run.not rfl rfl ?_)
            all_goals (first | refine Run.fieldAddr rfl rfl fo_35_2 rfl rfl ?_ | refine Run.not rfl rfl ?_)
            all_goals (first | refine Run.loadO 0 _ _ rfl rfl ag_3 rfl rfl rfl rfl (by assumption) rfl ?_ | refine Run.not rfl rfl ?_)
            all_goals (first | refine Run.mv rfl rfl rfl rfl ?_ | refine Run.not rfl rfl ?_)
            all_goals (first | refine Run.mv rfl rfl rfl rfl ?_ | refine Run.not rfl rfl ?_)
            all_goals (first | refine Run.idxO 0 rfl rfl rfl sl_22 rfl rfl rfl rfl (by first | omega | (simp <;> omega)) (by first | omega | (simp <;> omega)) ?_ | refine Run.not rfl rfl ?_)
            all_goals (first | refine Run.fieldAddr rfl rfl fo_35_1 rfl rfl ?_ | refine Run.not rfl rfl ?_)
            all_goals (first | refine Run.loadO 0 _ _ rfl rfl ag_3 rfl rfl rfl rfl (by assumption) rfl ?_ | refine Run.not rfl rfl ?_)
            all_goals (first | refine Run.int2 rfl rfl rfl rfl rfl rfl ?_ | refine Run.not rfl rfl ?_)
            all_goals (first | refine Run.pick rfl rfl rfl rfl rfl ?_)
            all_goals (refine Run.nil ?_)
            all_goals refine thn_next ⟨⟨rfl, rfl, rfl, rfl, rfl, rfl, rfl, ?_, trivial⟩, ent.refl _⟩
            all_goals simp [Env.get, *]
          refine WP.ite rfl (fun h2 => ?_) (fun h2 => ?_)
          · refine WP.plain cf0 rfl ?_
            refine Run.mv rfl rfl rfl rfl ?_
            refine Run.add64 rfl rfl rfl rfl rfl (by first | omega | (simp <;> omega)) (by first | omega | (simp <;> omega)) ?_
            refine Run.mv rfl rfl rfl rfl ?_
            refine Run.nil ?_
            refine blk_norm ?_; refine thn_next ?_
            refine WP.plain cf0 rfl ?_
            refine Run.mv rfl rfl rfl rfl ?_
            refine Run.add64 rfl rfl rfl rfl rfl (by first | omega | (simp <;> omega)) (by first | omega | (simp <;> omega)) ?_
            refine Run.mv rfl rfl rfl rfl ?_
            refine Run.nil ?_
            refine thn_next ⟨j + 1, hjl', hjd, ⟨rfl, rfl, rfl, rfl, rfl, ?_, by simp [Env.get], trivial⟩, ent.refl _⟩
            rw [hck, if_pos h2]; rfl
          · refine WP.skip ?_; refine blk_norm ?_; refine thn_next ?_
            refine WP.plain cf0 rfl ?_
            refine Run.mv rfl rfl rfl rfl ?_
            refine Run.add64 rfl rfl rfl rfl rfl (by first | omega | (simp <;> omega)) (by first | omega | (simp <;> omega)) ?_
            refine Run.mv rfl rfl rfl rfl ?_
            refine Run.nil ?_
            refine thn_next ⟨j + 1, hjl', hjd, ⟨rfl, rfl, rfl, rfl, rfl, ?_, by simp [Env.get], trivial⟩, ent.refl _⟩
            rw [hck, if_neg h2]; rfl
        · refine WP.exit ?_; refine thn_exit ?_; refine thn_exit ?_; refine blk_hit ?_; refine thn_next ?_
          have : o.take j = o := List.take_of_length_le (by omega)
          refine ⟨(), trivial, ⟨rfl, rfl, rfl, rfl, rfl, ?_, trivial⟩, ent.refl _⟩
          show some (Value.int .i64 ((o.take j).countP (holdAt x.f) : Int)) = _
          rw [this]
      rintro _ _
      refine WP.plain cf0 rfl ?_
      refine Run.mv rfl rfl rfl rfl ?_
      refine Run.mv rfl rfl rfl rfl ?_
      refine Run.max2 rfl rfl rfl rfl rfl ?_
      refine Run.mv rfl rfl rfl rfl ?_
      refine Run.nil ?_
      refine blk_norm ?_; refine thn_next ?_
      refine WP.plain cf0 rfl ?_
      refine Run.mv rfl rfl rfl rfl ?_
      refine Run.add64 rfl rfl rfl rfl rfl (by first | omega | (simp <;> omega)) (by first | omega | (simp <;> omega)) ?_
      refine Run.mv rfl rfl rfl rfl ?_
      refine Run.nil ?_
      refine thn_next ⟨i + 1, hlt', hdec, ⟨rfl, rfl, rfl, ?_, by simp [Env.get], trivial⟩, ent.refl _⟩
      rw [htk]; rfl
    · refine WP.exit ?_; refine thn_exit ?_; refine thn_exit ?_; refine blk_hit ?_; refine thn_next ?_
      have : o.take i = o := List.take_of_length_le (by omega)
      refine ⟨(), trivial, ⟨rfl, rfl, rfl, ?_, trivial⟩, ent.refl _⟩
      show some (Value.int .i64 (mostUp o (o.take i))) = _
      rw [this]
  rintro _ _
  refine WP.seq ?_
  refine WP.plain cf0 rfl ?_
  refine Run.mv rfl rfl rfl rfl ?_
  refine Run.callLend (Δ := []) (Θ := [slA 35 encIv sv.val o]) (Ξ := []) rfl rfl rfl rfl ok_10 rfl rfl (ent.refl _) (fun g hg hd => lent_ok (un hR g) sv.val o (lent_at 0 rfl hg hd) (by omega)) ?_; rintro _ _ ⟨w, rfl, rfl⟩
  refine Run.mv rfl rfl rfl rfl ?_
  refine Run.callLend (Δ := []) (Θ := [slA 35 encIv w.val (o ++ [m71, m72])]) (Ξ := [slA 35 encIv sv.val o]) rfl rfl rfl rfl ok_11 rfl rfl (ent.refl _) (fun g hg hd => scan_ok (un hR g) _ o regs (lent_cut (lent_at 0 rfl hg hd)) (by omega)) ?_; rintro _ _ ⟨ov, rfl, rfl⟩
  refine Run.mv rfl rfl rfl rfl ?_
  refine Run.extract rfl rfl rfl rfl rfl ?_
  refine Run.extract rfl rfl rfl rfl rfl ?_
  refine Run.extract rfl rfl rfl rfl rfl ?_
  refine Run.mv rfl rfl rfl rfl ?_
  refine Run.mv rfl rfl rfl rfl ?_
  refine Run.mv rfl rfl rfl rfl ?_
  refine Run.nil ?_
  refine thn_next ?_
  refine WP.seq ?_
  have hb : (decide ((scanL o regs).2.1 = 0) == decide (mostUp o o ≤ regs)) = true := by
    have e : ((regs.toNat : Nat) : Int) = regs := by omega
    rw [e] at hfew
    by_cases h0 : (scanL o regs).2.1 = 0
    · rw [decide_eq_true h0, decide_eq_true (hfew.1 h0)]; rfl
    · rw [decide_eq_false h0, decide_eq_false fun h => h0 (hfew.2 h)]; rfl
  refine WP.plain cf0 rfl ?_
  refine Run.mv rfl rfl rfl rfl ?_
  refine Run.mv rfl rfl rfl rfl ?_
  refine Run.mv rfl rfl rfl rfl ?_
  refine Run.int2 rfl rfl rfl rfl rfl rfl ?_
  refine Run.tt hsc ?_
  refine Run.pick rfl rfl rfl rfl rfl ?_
  refine Run.mv rfl rfl rfl rfl ?_
  refine Run.mv rfl rfl rfl rfl ?_
  refine Run.int2 rfl rfl rfl rfl rfl rfl ?_
  refine Run.mv rfl rfl rfl rfl ?_
  refine Run.mv rfl rfl rfl rfl ?_
  refine Run.int2 rfl rfl rfl rfl rfl rfl ?_
  refine Run.eqB rfl rfl rfl Try.underlying4 rfl rfl ?_; refine Run.eqv (congrArg Value.bool hb) ?_
  refine Run.pick rfl rfl rfl rfl rfl ?_
  refine Run.mv rfl rfl rfl rfl ?_
  refine Run.nil ?_
  refine thn_next ?_
  refine WP.ret ?_
  exact retT [4] _ rfl rfl rfl
end Go.Proofs.Ytengcfamhoppbaa
