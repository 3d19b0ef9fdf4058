/- lent, stays, same, alive: what the laws hand in, hold and ask. -/
import Derived.Test.YtengcfamhoppbaaScan
namespace Go.Proofs.Ytengcfamhoppbaa
set_option linter.unusedSimpArgs false
set_option linter.unusedVariables false
open Go.Sep
attribute [local irreducible] blk slA mp mpF

def m71 : Iv := ⟨-71, 0, 0⟩
def m72 : Iv := ⟨-72, 0, 0⟩
def m73 : Iv := ⟨-73, 0, 0⟩

theorem lent_ok (hR : Heap) (v : Value) (xs : List Iv) (hl : SlR encIv.rd hR v xs) (hlen : xs.length ≤ 1000000) :
    Tri Try.prog hR 10 #[v] [] fun u Γ' => ∃ w : SV, u = (w.cut 3 0 xs.length).val ∧ Γ' = [slA 35 encIv w.val (xs ++ [m71, m72])] := by
  refine Tri.of (args := [v]) Try.func10 rfl Try.ntmps10 (by simp) ?_
  refine WP.seq ?_
  refine WP.plain cf0 rfl ?_
  refine Run.mv rfl rfl rfl rfl ?_
  refine Run.nil ?_
  refine thn_next ?_
  refine WP.seq ?_
  refine WP.via (slA_nil 35 encIv _) ?_
  refine WP.plain cf0 rfl ?_
  refine Run.mv rfl rfl rfl rfl ?_
  refine Run.append 0 rfl rfl rfl rfl rfl rfl sl_22 zr_35 rfl (src_ro hl) (by first | omega | (simp <;> omega)) (by first | omega | (simp <;> omega)) ?_
  intro sv5 hv5
  refine Run.build rfl bd_35 rfl rfl rfl rfl ?_
  refine Run.build rfl bd_35 rfl rfl rfl rfl ?_
  refine Run.buildSlice (E := encIv) rfl sl_22 zr_35 ([m71, m72]) rfl rfl rfl (by decide) rfl rfl ?_
  intro b8
  refine Run.append 0 rfl rfl rfl rfl rfl rfl sl_22 zr_35 rfl (src_own 1 rfl) (by first | omega | (simp <;> omega)) (by first | omega | (simp <;> omega)) ?_
  intro sv9 hv9
  refine Run.mv rfl rfl rfl rfl ?_
  refine Run.nil ?_
  refine thn_next ?_
  refine WP.via (Γ' := [slA 35 encIv sv9.val (xs ++ [m71, m72])]) (pick_only [0] _) ?_
  refine WP.know (slA_know 0 rfl) (fun hk => ?_)
  obtain ⟨hk1, hk2⟩ := hk
  simp only [List.length_append, List.length_cons, List.length_nil] at hk2
  refine WP.seq ?_
  refine WP.plain cf0 rfl ?_
  refine Run.mv rfl rfl rfl rfl ?_
  refine Run.mv rfl rfl rfl rfl ?_
  refine Run.lenR rfl rfl sl_22 rfl rfl (by assumption) ?_
  refine Run.sliceV (sv := sv9) rfl rfl sl_22 rfl rfl rfl rfl (by omega) (by omega) (by omega) ?_
  refine Run.mv rfl rfl rfl rfl ?_
  refine Run.nil ?_
  refine thn_next ?_
  refine WP.ret ?_
  exact retT [2] _ rfl rfl ⟨sv9, rfl, rfl⟩

theorem Iv.ext' {x y : Iv} (h1 : x.r = y.r) (h2 : x.f = y.f) (h3 : x.t = y.t) : x = y := by cases x; cases y; simp_all
theorem Loc.ext' {x y : Loc} (h1 : x.k = y.k) (h2 : x.n = y.n) : x = y := by cases x; cases y; simp_all
instance : DecidableEq Loc := fun x y => if h : x.k = y.k ∧ x.n = y.n then isTrue (Loc.ext' h.1 h.2) else isFalse (fun e => h (by subst e; exact ⟨rfl, rfl⟩))
theorem loc_eq (x y : Loc) : (!(decide (x.k = y.k) && (decide (x.n = y.n) && true))) = decide (x ≠ y) := by
  by_cases h : x = y
  · subst h; simp
  · have : ¬ (x.k = y.k ∧ x.n = y.n) := fun e => h (Loc.ext' e.1 e.2)
    simp [h]; omega

theorem stays_ok (hR : Heap) (v : Value) (xs : List Iv) (w : SV) (hl : SlR encIv.rd hR v xs) (hlen : xs.length ≤ 1000000) :
    Tri Try.prog hR 12 #[v, (w.cut 3 0 xs.length).val] [slA 35 encIv w.val (xs ++ [m71, m72])] fun u _ => u = .bool true := by
  refine Tri.of (args := [v, (w.cut 3 0 xs.length).val]) Try.func12 rfl Try.ntmps12 (by simp) ?_
  refine WP.know (slA_know 0 rfl) (fun hk => ?_)
  obtain ⟨hk1, hk2⟩ := hk
  simp only [List.length_append, List.length_cons, List.length_nil] at hk1 hk2
  have hc : (w.cut 3 0 xs.length).c = w.c := by simp [SV.cut]
  have hback : ((w.cut 3 0 xs.length).cut 3 0 ((xs.length : Int) + 2).toNat) = w := SV.cut_back (by rw [hk1]; omega)
  refine WP.seq ?_
  refine WP.plain cf0 rfl ?_
  refine Run.mv rfl rfl rfl rfl ?_
  refine Run.nil ?_
  refine thn_next ?_
  refine WP.seq ?_
  refine WP.plain cf0 rfl ?_
  refine Run.mv rfl rfl rfl rfl ?_
  refine Run.mv rfl rfl rfl rfl ?_
  refine Run.lenR rfl rfl sl_22 rfl rfl (by assumption) ?_
  refine Run.add64 rfl rfl rfl rfl rfl (by first | omega | (simp <;> omega)) (by first | omega | (simp <;> omega)) ?_
  refine Run.sliceV (sv := w.cut 3 0 xs.length) rfl rfl sl_22 rfl rfl rfl rfl (by omega) (by omega) (by rw [hc]; omega) ?_; refine Run.eqv (congrArg SV.val hback) ?_
  refine Run.mv rfl rfl rfl rfl ?_
  refine Run.nil ?_
  refine thn_next ?_
  have g1 : (xs ++ [m71, m72])[(xs.length : Int).toNat]? = some m71 := by simp
  have g2 : (xs ++ [m71, m72])[((xs.length : Int) + 1).toNat]? = some m72 := by
    have : ((xs.length : Int) + 1).toNat = xs.length + 1 := by omega
    rw [this]; simp
  refine WP.seqCut [(0, v), (5, w.val), (6, .bool true)] [slA 35 encIv w.val (xs ++ [m71, m72])] ?_ ?_
  · refine WP.plain cf0 rfl ?_
    refine Run.mv rfl rfl rfl rfl ?_
    refine Run.mv rfl rfl rfl rfl ?_
    refine Run.lenR rfl rfl sl_22 rfl rfl (by assumption) ?_
    refine Run.idxO 0 rfl rfl rfl sl_22 rfl rfl rfl rfl (by first | omega | (simp <;> omega)) (by first | omega | (simp <;> omega)) ?_
    refine Run.loadOagg 0 _ rfl rfl ag_35 rfl rfl rfl rfl rfl (by assumption) ?_
    refine Run.build rfl bd_35 rfl rfl rfl rfl ?_
    refine Run.eqS rfl rfl rfl is_35 nf_35 rfl rfl rfl rfl ?_
    refine Run.eqv (v' := .bool true) rfl ?_
    refine Run.mv rfl rfl rfl rfl ?_
    refine Run.mv rfl rfl rfl rfl ?_
    refine Run.mv rfl rfl rfl rfl ?_
    refine Run.lenR rfl rfl sl_22 rfl rfl (by assumption) ?_
    refine Run.add64 rfl rfl rfl rfl rfl (by first | omega | (simp <;> omega)) (by first | omega | (simp <;> omega)) ?_
    refine Run.idxO 0 rfl rfl rfl sl_22 rfl rfl rfl rfl (by first | omega | (simp <;> omega)) (by first | omega | (simp <;> omega)) ?_
    refine Run.loadOagg 0 _ rfl rfl ag_35 rfl rfl rfl rfl rfl (by assumption) ?_
    refine Run.build rfl bd_35 rfl rfl rfl rfl ?_
    refine Run.eqS rfl rfl rfl is_35 nf_35 rfl rfl rfl rfl ?_
    refine Run.eqv (v' := .bool true) rfl ?_
    refine Run.pick rfl rfl rfl rfl rfl ?_
    refine Run.mv rfl rfl rfl rfl ?_
    refine Run.nil ?_
    exact thn_next ⟨⟨rfl, rfl, rfl, trivial⟩, ent.refl _⟩
  refine WP.seqMeet (α := Unit) (fun _ => True) (fun _ => [(6, .bool true)]) (fun _ => []) ?_ ?_
  · refine WP.seq ?_
    refine WP.plain cf0 rfl ?_
    refine Run.mv rfl rfl rfl rfl ?_
    refine Run.nil ?_
    refine thn_next ?_
    refine WP.block ?_
    refine WP.loop (α := Nat) (fun i => i ≤ xs.length) (fun i => [(0, v), (5, w.val), (6, .bool true), (7, .int .i64 (i : Int))]) (fun i => [slA 35 encIv w.val (List.replicate i m73 ++ xs.drop i ++ [m71, m72])]) (fun i => xs.length - i)
      0 (Nat.zero_le _) ⟨rfl, rfl, rfl, rfl, trivial⟩ (by simp; exact ent.refl _) ?_
    intro i hi
    refine WP.seq ?_
    refine WP.seq ?_
    refine WP.plain cf0 rfl ?_
    refine Run.mv rfl rfl rfl rfl ?_
    refine Run.mv rfl rfl rfl rfl ?_
    refine Run.lenR rfl rfl sl_22 rfl rfl (by assumption) ?_
    refine Run.int2 rfl rfl rfl rfl rfl rfl ?_
    refine Run.nil ?_
    refine thn_next ?_
    refine WP.ite rfl (fun hlt => ?_) (fun hge => ?_)
    · refine WP.skip ?_; refine thn_next ?_
      have hlt' : i < xs.length := by omega
      obtain ⟨x, gx⟩ : ∃ x, xs[i]? = some x := ⟨_, List.getElem?_eq_getElem hlt'⟩
      have gx' : xs[(i : Int).toNat]? = some x := gx
      have gy' : (List.replicate i m73 ++ xs.drop i ++ [m71, m72])[(i : Int).toNat]? = some x := by
        rw [Int.toNat_natCast, List.append_assoc, List.getElem?_append_right (by simp), List.length_replicate, Nat.sub_self, List.getElem?_append_left (by simp; omega), List.getElem?_drop]; exact gx
      have hlen2 : (List.replicate i m73 ++ xs.drop i ++ [m71, m72]).length = xs.length + 2 := by simp; omega
      refine WP.seq ?_
      refine WP.block ?_
      refine WP.seq ?_
      refine WP.drawn0 cf0 mixed rfl (by kernel_rfl) ?_
      refine Run.mv rfl rfl rfl rfl ?_
      refine Run.mv rfl rfl rfl rfl ?_
      refine Run.mv rfl rfl rfl rfl ?_
      refine Run.mv rfl rfl rfl rfl ?_
      refine Run.idxO 0 rfl rfl rfl sl_22 rfl rfl rfl rfl (by omega) (by rw [hlen2]; omega) ?_
      refine Run.loadOagg 0 _ rfl rfl ag_35 rfl rfl rfl rfl rfl (by assumption) ?_
      refine Run.mv rfl rfl rfl rfl ?_
      refine Run.mv rfl rfl rfl rfl ?_
      refine Run.idxR rfl rfl rfl sl_22 rfl rfl (by assumption) (by rfl) (by first | omega | (simp <;> omega)) (by first | omega | (simp <;> omega)) ?_
      refine Run.loadRagg rfl rfl ag_35 rfl rfl (by first | assumption | exact SlR.row (by assumption) (by assumption)) (by rfl) ?_
      refine Run.eqS rfl rfl rfl is_35 nf_35 rfl rfl rfl rfl ?_; refine Run.eqv (v' := .bool true) (by simp) ?_
      refine Run.pick rfl rfl rfl rfl rfl ?_
      refine Run.mv rfl rfl rfl rfl ?_
      refine Run.nil ?_
      refine thn_next ?_
      refine WP.plain cf0 rfl ?_
      refine Run.mv rfl rfl rfl rfl ?_
      refine Run.mv rfl rfl rfl rfl ?_
      refine Run.build rfl bd_35 rfl rfl rfl rfl ?_
      refine Run.idxO 0 rfl rfl rfl sl_22 rfl rfl rfl rfl (by omega) (by rw [hlen2]; omega) ?_
      refine Run.storeO 0 _ 0 rfl rfl rfl rfl ag_35 rfl rfl rfl rfl (y' := m73) gy' rfl rfl ?_
      refine Run.nil ?_
      refine blk_norm ?_; refine thn_next ?_
      refine WP.plain cf0 rfl ?_
      refine Run.mv rfl rfl rfl rfl ?_
      refine Run.add64 rfl rfl rfl rfl rfl (by first | omega | (simp <;> omega)) (by first | omega | (simp <;> omega)) ?_
      refine Run.mv rfl rfl rfl rfl ?_
      refine Run.nil ?_
      refine thn_next ⟨i + 1, hlt', by omega, ⟨rfl, rfl, rfl, by simp [Env.get], trivial⟩, ?_⟩
      have e : (List.replicate i m73 ++ xs.drop i ++ [m71, m72]).set (i : Int).toNat m73 = List.replicate (i + 1) m73 ++ xs.drop (i + 1) ++ [m71, m72] := by
        rw [Int.toNat_natCast, List.replicate_succ', List.append_assoc, List.set_append_right _ _ (by simp), List.length_replicate, Nat.sub_self, List.drop_eq_getElem_cons hlt']
        simp only [List.cons_append, List.set_cons_zero, List.append_assoc, List.nil_append]
      rw [← e]; exact ent.refl _
    · refine WP.exit ?_; refine thn_exit ?_; refine thn_exit ?_; refine blk_hit ?_
      exact thn_next ⟨(), trivial, ⟨rfl, trivial⟩, fun _ _ => trivial⟩
  rintro _ _
  refine WP.seq ?_
  refine WP.plain cf0 rfl ?_
  refine Run.mv rfl rfl rfl rfl ?_
  refine Run.mv rfl rfl rfl rfl ?_
  refine Run.nil ?_
  refine thn_next ?_
  refine WP.ret ?_
  exact retT [4] _ rfl rfl rfl

theorem same_ok (hR : Heap) (a b : Value) (xs ys : List Loc) (ha : SlR encLoc.rd hR a xs) (hb : SlR encLoc.rd hR b ys) (hlen : xs.length ≤ 1000000) (hlen2 : ys.length ≤ 1000000) :
    Tri Try.prog hR 14 #[a, b] [] fun u Γ' => u = .bool (decide (xs = ys)) ∧ Γ' = [] := by
  refine Tri.of (args := [a, b]) Try.func14 rfl Try.ntmps14 (by simp) ?_
  refine WP.seq ?_
  refine WP.plain cf0 rfl ?_
  refine Run.mv rfl rfl rfl rfl ?_
  refine Run.nil ?_
  refine thn_next ?_
  refine WP.seq ?_
  refine WP.seq ?_
  refine WP.plain cf0 rfl ?_
  refine Run.mv rfl rfl rfl rfl ?_
  refine Run.lenR rfl rfl sl_25 rfl rfl ha ?_
  refine Run.mv rfl rfl rfl rfl ?_
  refine Run.lenR rfl rfl sl_25 rfl rfl hb ?_
  refine Run.int2 rfl rfl rfl rfl rfl rfl ?_
  refine Run.nil ?_
  refine thn_next ?_
  refine WP.ite rfl (fun hne => ?_) (fun heq => ?_)
  · refine WP.seq ?_
    refine WP.plain cf0 rfl ?_
    refine Run.mv rfl rfl rfl rfl ?_
    refine Run.nil ?_
    refine thn_next ?_
    refine WP.ret ?_; refine thn_ret ?_
    have : xs ≠ ys := fun e => hne (by rw [e])
    exact retT [4] _ rfl rfl ⟨by rw [decide_eq_false this]; rfl, rfl⟩
  refine WP.skip ?_; refine thn_next ?_
  have hll : xs.length = ys.length := by omega
  refine WP.seqMeet (α := Unit) (fun _ => xs = ys) (fun _ => []) (fun _ => []) ?_ ?_
  · refine WP.seq ?_
    refine WP.plain cf0 rfl ?_
    refine Run.mv rfl rfl rfl rfl ?_
    refine Run.nil ?_
    refine thn_next ?_
    refine WP.block ?_
    refine WP.loop (α := Nat) (fun i => i ≤ xs.length ∧ (xs = ys ↔ xs.drop i = ys.drop i)) (fun i => [(0, a), (1, b), (5, .int .i64 (i : Int))]) (fun i => []) (fun i => xs.length - i)
      0 ⟨Nat.zero_le _, Iff.rfl⟩ ⟨rfl, rfl, rfl, trivial⟩ (ent.refl _) ?_
    rintro i ⟨hi, hiff⟩
    refine WP.seq ?_
    refine WP.seq ?_
    refine WP.plain cf0 rfl ?_
    refine Run.mv rfl rfl rfl rfl ?_
    refine Run.mv rfl rfl rfl rfl ?_
    refine Run.lenR rfl rfl sl_25 rfl rfl ha ?_
    refine Run.int2 rfl rfl rfl rfl rfl rfl ?_
    refine Run.nil ?_
    refine thn_next ?_
    refine WP.ite rfl (fun hlt => ?_) (fun hge => ?_)
    · refine WP.skip ?_; refine thn_next ?_
      have hlt' : i < xs.length := by omega
      have hlt2 : i < ys.length := by omega
      obtain ⟨x, gx⟩ : ∃ x, xs[i]? = some x := ⟨_, List.getElem?_eq_getElem hlt'⟩
      obtain ⟨y, gy⟩ : ∃ x, ys[i]? = some x := ⟨_, List.getElem?_eq_getElem hlt2⟩
      have gx' : xs[(i : Int).toNat]? = some x := gx
      have gy' : ys[(i : Int).toNat]? = some y := gy
      have hdx : xs.drop i = x :: xs.drop (i + 1) := by rw [List.drop_eq_getElem_cons hlt']; congr 1; rw [List.getElem?_eq_getElem hlt'] at gx; cases gx; rfl
      have hdy : ys.drop i = y :: ys.drop (i + 1) := by rw [List.drop_eq_getElem_cons hlt2]; congr 1; rw [List.getElem?_eq_getElem hlt2] at gy; cases gy; rfl
      refine WP.seq ?_
      refine WP.block ?_
      refine WP.seq ?_
      refine WP.drawn0 cf0 mixed rfl (by kernel_rfl) ?_
      refine Run.mv rfl rfl rfl rfl ?_
      refine Run.mv rfl rfl rfl rfl ?_
      refine Run.idxR rfl rfl rfl sl_25 rfl rfl ha (by rfl) (by omega) (by omega) ?_
      refine Run.loadRagg rfl rfl ag_37 rfl rfl (SlR.row ha gx') (by rfl) ?_
      refine Run.mv rfl rfl rfl rfl ?_
      refine Run.mv rfl rfl rfl rfl ?_
      refine Run.idxR rfl rfl rfl sl_25 rfl rfl hb (by rfl) (by omega) (by omega) ?_
      refine Run.loadRagg rfl rfl ag_37 rfl rfl (SlR.row hb gy') (by rfl) ?_
      refine Run.neS rfl rfl rfl is_37 nf_37 rfl rfl rfl rfl ?_; refine Run.eqv (v' := .bool (decide (x ≠ y))) (by rw [loc_eq]) ?_
      refine Run.nil ?_
      refine thn_next ?_
      refine WP.ite rfl (fun hxy => ?_) (fun hxy => ?_)
      · refine WP.seq ?_
        refine WP.plain cf0 rfl ?_
        refine Run.mv rfl rfl rfl rfl ?_
        refine Run.nil ?_
        refine thn_next ?_
        refine WP.ret ?_; refine blk_ret ?_; refine thn_ret ?_; refine thn_ret ?_; refine blk_ret ?_; refine thn_ret ?_
        have : xs ≠ ys := fun e => by rw [hiff, hdx, hdy] at e; simp at e; exact hxy e.1
        exact retT [4] _ rfl rfl ⟨by rw [decide_eq_false this]; rfl, rfl⟩
      · refine WP.skip ?_; refine blk_norm ?_; refine thn_next ?_
        refine WP.plain cf0 rfl ?_
        refine Run.mv rfl rfl rfl rfl ?_
        refine Run.add64 rfl rfl rfl rfl rfl (by first | omega | (simp <;> omega)) (by first | omega | (simp <;> omega)) ?_
        refine Run.mv rfl rfl rfl rfl ?_
        refine Run.nil ?_
        refine thn_next ⟨i + 1, ⟨hlt', ?_⟩, by omega, ⟨rfl, rfl, by simp [Env.get], trivial⟩, ent.refl _⟩
        have : x = y := Decidable.not_not.1 hxy
        rw [hiff, hdx, hdy, this]; simp
    · refine WP.exit ?_; refine thn_exit ?_; refine thn_exit ?_; refine blk_hit ?_
      refine thn_next ⟨(), ?_, trivial, ent.refl _⟩
      rw [hiff, List.drop_eq_nil_of_le (by omega), List.drop_eq_nil_of_le (by omega)]
  rintro _ he
  refine WP.seq ?_
  refine WP.plain cf0 rfl ?_
  refine Run.mv rfl rfl rfl rfl ?_
  refine Run.nil ?_
  refine thn_next ?_
  refine WP.ret ?_
  exact retT [4] _ rfl rfl ⟨by rw [decide_eq_true he]; rfl, rfl⟩

theorem alive_scan : scanL [⟨0, 0, 4⟩, ⟨1, 4, 6⟩] 1 = ([⟨1, 0⟩, ⟨2, 0⟩], 1, 0) := by decide +kernel

theorem alive_ok (hR : Heap) : Tri Try.prog hR 9 #[] [] fun u _ => u = .bool true := by
  refine Tri.of (args := []) Try.func9 rfl Try.ntmps9 (by simp) ?_
  refine WP.seq ?_
  refine WP.plain cf0 rfl ?_
  refine Run.mv rfl rfl rfl rfl ?_
  refine Run.nil ?_
  refine thn_next ?_
  refine WP.seq ?_
  refine WP.plain cf0 rfl ?_
  refine Run.build rfl bd_35 rfl rfl rfl rfl ?_
  refine Run.build rfl bd_35 rfl rfl rfl rfl ?_
  refine Run.buildSlice (E := encIv) rfl sl_22 zr_35 ([⟨0, 0, 4⟩, ⟨1, 4, 6⟩]) rfl rfl rfl (by decide) rfl rfl ?_
  intro b7
  refine Run.callLend (Δ := []) (Θ := [slA 35 encIv (.slice (some ⟨b7, 0, none⟩) 2 2) [⟨0, 0, 4⟩, ⟨1, 4, 6⟩]]) (Ξ := []) rfl rfl rfl rfl ok_11 rfl rfl (ent.refl _) (fun g hg hd => scan_ok (un hR g) _ _ 1 (lent_at 0 rfl hg hd) (by simp)) ?_; rintro _ _ ⟨ov, rfl, rfl⟩; rw [alive_scan]
  refine Run.mv rfl rfl rfl rfl ?_
  refine Run.extract rfl rfl rfl rfl rfl ?_
  refine Run.extract rfl rfl rfl rfl rfl ?_
  refine Run.extract rfl rfl rfl rfl rfl ?_
  refine Run.mv rfl rfl rfl rfl ?_
  refine Run.mv rfl rfl rfl rfl ?_
  refine Run.mv rfl rfl rfl rfl ?_
  refine Run.nil ?_
  refine thn_next ?_
  refine WP.via (Γ' := [slA 37 encLoc ov.val [⟨1, 0⟩, ⟨2, 0⟩]]) (pick_only [0] _) ?_
  refine WP.seq ?_
  refine WP.plain cf0 rfl ?_
  refine Run.mv rfl rfl rfl rfl ?_
  refine Run.int2 rfl rfl rfl rfl rfl rfl ?_
  refine Run.tt rfl ?_
  refine Run.mv rfl rfl rfl rfl ?_
  refine Run.mv rfl rfl rfl rfl ?_
  refine Run.int2 rfl rfl rfl rfl rfl rfl ?_
  refine Run.tt rfl ?_
  refine Run.pick rfl rfl rfl rfl rfl ?_
  refine Run.mv rfl rfl rfl rfl ?_
  refine Run.mv rfl rfl rfl rfl ?_
  refine Run.build rfl bd_37 rfl rfl rfl rfl ?_
  refine Run.build rfl bd_37 rfl rfl rfl rfl ?_
  refine Run.buildSlice (E := encLoc) rfl sl_25 zr_37 ([⟨1, 0⟩, ⟨2, 0⟩]) rfl rfl rfl (by decide) rfl rfl ?_
  intro b22
  refine Run.callLend (Δ := []) (Θ := [slA 37 encLoc ov.val [⟨1, 0⟩, ⟨2, 0⟩], slA 37 encLoc (.slice (some ⟨b22, 0, none⟩) 2 2) [⟨1, 0⟩, ⟨2, 0⟩]]) (Ξ := []) rfl rfl rfl rfl ok_14 rfl rfl (ent.refl _) (fun g hg hd => same_ok (un hR g) _ _ _ _ (lent_at 0 rfl hg hd) (lent_at 1 rfl hg hd) (by simp) (by simp)) ?_; rintro _ _ ⟨rfl, rfl⟩
  refine Run.pick rfl rfl rfl rfl rfl ?_
  refine Run.mv rfl rfl rfl rfl ?_
  refine Run.nil ?_
  refine thn_next ?_
  refine WP.ret ?_
  exact retT [0] _ rfl rfl rfl
end Go.Proofs.Ytengcfamhoppbaa
