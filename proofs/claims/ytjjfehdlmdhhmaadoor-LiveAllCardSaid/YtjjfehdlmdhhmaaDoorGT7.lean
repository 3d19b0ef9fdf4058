/- The document's sets: back through an instruction, a block; a set's numbers; walked. -/
import Derived.Test.YtjjfehdlmdhhmaaDoorGL7
import Derived.Test.YtjjfehdlmdhhmaaDoorGT6
import Derived.Test.YtjjfehdlmdhhmaaDoorGT2
import Derived.Test.YtjjfehdlmdhhmaaDoorGL5
section
/- The document's sets: back through an instruction, a block; a set's numbers; walked. -/
namespace Go.Proofs.YtjjfehdlmdhhmaaDoor
open Go.Sep
set_option linter.unusedSimpArgs false
set_option linter.unusedVariables false
attribute [local irreducible] blk slA mp mpF rows rowsBut many
def argsL (S : List Bool) (rs : List Int) : List Bool := rs.foldl (fun S a => S.set a.toNat true) S
def backL (S : List Bool) (x : LIns) : List Bool := argsL (if 0 ≤ x.dst then S.set x.dst.toNat false else S) x.args
def startL (b : LBlk) (S : List Bool) : List Bool := b.body.reverse.foldl backL (if 0 ≤ b.value then S.set b.value.toNat true else S)
theorem argsL_len : ∀ (rs : List Int) (S : List Bool), (argsL S rs).length = S.length
  | [], _ => rfl
  | a :: rs, S => by unfold argsL; rw [List.foldl_cons]; have := argsL_len rs (S.set a.toNat true); unfold argsL at this; rw [this]; simp
theorem backL_len (S : List Bool) (x : LIns) : (backL S x).length = S.length := by unfold backL; rw [argsL_len]; split <;> simp
theorem backs_len : ∀ (xs : List LIns) (S : List Bool), (xs.foldl backL S).length = S.length
  | [], _ => rfl
  | x :: xs, S => by rw [List.foldl_cons, backs_len xs, backL_len]
theorem startL_len (b : LBlk) (S : List Bool) : (startL b S).length = S.length := by unfold startL; rw [backs_len]; split <;> simp
/-- the value of a register in a set -/
def atB (S : List Bool) (r : Int) : Bool := S.getD r.toNat false
theorem atB_set {S : List Bool} {a r : Int} {v : Bool} (a0 : 0 ≤ a) (a1 : a < (S.length : Int)) (r0 : 0 ≤ r) : atB (S.set a.toNat v) r = if a = r then v else atB S r := by
  unfold atB
  rw [List.getD_eq_getElem?_getD, List.getD_eq_getElem?_getD]
  split
  · rename_i e; subst e; rw [List.getElem?_set_self (by omega)]; rfl
  · rename_i e; rw [List.getElem?_set_ne (fun h => e (by omega))]
theorem argsL_at {r : Int} (r0 : 0 ≤ r) : ∀ (rs : List Int) (S : List Bool), (∀ a ∈ rs, 0 ≤ a ∧ a < (S.length : Int)) → atB (argsL S rs) r = (rs.contains r || atB S r)
  | [], S, _ => by simp [argsL]
  | a :: rs, S, h => by
    have e : argsL S (a :: rs) = argsL (S.set a.toNat true) rs := rfl
    rw [e, argsL_at r0 rs _ (fun x hx => by rw [List.length_set]; exact h x (by simp [hx])), atB_set (h a (by simp)).1 (h a (by simp)).2 r0, List.contains_cons]
    by_cases e2 : a = r
    · subst e2; simp
    · have e3 : (r == a) = false := by simp; exact fun h => e2 h.symm
      rw [if_neg e2, e3, Bool.false_or]
theorem startL_body {r : Int} (r0 : 0 ≤ r) : ∀ (xs : List LIns) (S : List Bool), (∀ x ∈ xs, OkI S.length x) → atB (xs.reverse.foldl backL S) r = needB r xs (atB S r)
  | [], S, _ => rfl
  | x :: xs, S, h => by
    have hx := h x (by simp)
    rw [List.reverse_cons, List.foldl_append, List.foldl_cons, List.foldl_nil]
    have hl : (xs.reverse.foldl backL S).length = S.length := backs_len _ _
    have ih := startL_body r0 xs S (fun y hy => h y (by simp [hy]))
    generalize xs.reverse.foldl backL S = S2 at hl ih ⊢
    unfold backL
    have hl0 : (if 0 ≤ x.dst then S2.set x.dst.toNat false else S2).length = S.length := by split <;> simp [hl]
    rw [argsL_at r0 _ _ (fun a ha => by rw [hl0]; exact hx.1 a ha), needB, ← ih]
    congr 1
    split
    · rename_i h0
      have := hx.2 h0
      rw [atB_set h0 (by omega) r0]
      by_cases e : x.dst = r <;> simp [e]
    · have : x.dst ≠ r := fun e => by omega
      simp [this]
theorem startL_at {r : Int} (r0 : 0 ≤ r) {b : LBlk} {S : List Bool} (h : ∀ x ∈ b.body, OkI S.length x) (hv : 0 ≤ b.value → b.value < (S.length : Int)) : atB (startL b S) r = needB r b.body (decide (b.value = r) || atB S r) := by
  unfold startL
  have hl0 : (if 0 ≤ b.value then S.set b.value.toNat true else S).length = S.length := by split <;> simp
  rw [startL_body r0 _ _ (fun x hx => by rw [hl0]; exact h x hx)]
  congr 1
  split
  · rename_i h0
    rw [atB_set h0 (hv h0) r0]
    by_cases e : b.value = r <;> simp [e]
  · have : b.value ≠ r := fun e => by omega
    simp [this]
def numsL : Nat → List Bool → List Int
  | _, [] => []
  | i, t :: S => if t = true then (i : Int) :: numsL (i + 1) S else numsL (i + 1) S
theorem numsL_eq {F : LFun} {p : Int → Prop} {S : List Bool} (hl : (S.length : Int) = F.regs) (h : ∀ r, 0 ≤ r → r < F.regs → (atB S r = true ↔ p r)) : numsL 0 S = listOf F p := by
  have mem : ∀ (S : List Bool) (i : Nat) (x : Int), x ∈ numsL i S ↔ ∃ j : Nat, x = ((i + j : Nat) : Int) ∧ S[j]? = some true := fun S => by
    induction S with
    | nil => intro i x; simp [numsL]
    | cons t S ih =>
      intro i x
      have hr : (∃ j : Nat, x = ((i + j : Nat) : Int) ∧ (t :: S)[j]? = some true) ↔ (x = (i : Int) ∧ t = true) ∨ ∃ j : Nat, x = ((i + 1 + j : Nat) : Int) ∧ S[j]? = some true := by
        constructor
        · rintro ⟨j, h1, h2⟩
          cases j with
          | zero => simp at h1 h2; exact .inl ⟨h1, h2⟩
          | succ j => exact .inr ⟨j, by omega, by simpa using h2⟩
        · rintro (⟨h1, h2⟩ | ⟨j, h1, h2⟩)
          · exact ⟨0, by simpa using h1, by simp [h2]⟩
          · exact ⟨j + 1, by omega, by simpa using h2⟩
      rw [hr, numsL]
      split
      · rename_i h; rw [List.mem_cons, ih]; simp [h]
      · rename_i h; rw [ih]; simp [h]
  have srt : ∀ (S : List Bool) (i : Nat), (numsL i S).Pairwise (· < ·) := fun S => by
    induction S with
    | nil => intro i; simp [numsL]
    | cons t S ih =>
      intro i
      rw [numsL]
      split
      · rw [List.pairwise_cons]
        refine ⟨fun x hx => ?_, ih (i + 1)⟩
        obtain ⟨j, rfl, _⟩ := (mem S (i + 1) x).1 hx
        omega
      · exact ih (i + 1)
  have hat : ∀ j : Nat, S[j]? = some true ↔ atB S (j : Int) = true := fun j => by
    unfold atB
    rw [List.getD_eq_getElem?_getD, Int.toNat_natCast]
    cases S[j]? <;> simp
  refine listOf_uniq (srt S 0) fun r => ?_
  rw [mem]
  constructor
  · rintro ⟨j, rfl, hj⟩
    have hlt := (List.getElem?_eq_some_iff.1 hj).1
    rw [Nat.zero_add]
    exact ⟨by omega, by omega, (h _ (by omega) (by omega)).1 ((hat j).1 hj)⟩
  · rintro ⟨r0, r1, hp⟩
    have e : ((r.toNat : Nat) : Int) = r := by omega
    refine ⟨r.toNat, by rw [Nat.zero_add]; exact e.symm, (hat _).2 ?_⟩
    rw [e]; exact (h r r0 r1).2 hp
set_option maxRecDepth 100000 in
theorem back_ok (hR : Heap) (tv xa : SV) (S : List Bool) (x : LIns) (hxa : SlR rdI hR xa.val x.args) (hx : OkI S.length x) (hl : x.args.length ≤ 1000000) :
    Tri Tryd.prog hR 85 #[tv.val, .agg ⟨[.int .i64 x.op, .int .i64 x.dst, .int .i64 x.imm, xa.val]⟩] [slA 4 Enc.bool tv.val S] fun _ Γ' => Γ' = [slA 4 Enc.bool tv.val (backL S x)] := by
  refine Tri.ent (Tri.of (args := [tv.val, .agg ⟨[.int .i64 x.op, .int .i64 x.dst, .int .i64 x.imm, xa.val]⟩]) Tryd.func85 rfl Tryd.ntmps85 (by simp) ?_)
  refine Zp ?_
  refine Run.box rfl rfl rfl rfl rfl ?_
  intro b3
  refine Ze ?_
  refine WP.sup (ρ' := [(0, tv.val), (3, .pointer (some ⟨b3, 0, none⟩))]) (Γ' := [slA 4 Enc.bool tv.val S, blk b3 [.int .i64 x.op, .int .i64 x.dst, .int .i64 x.imm, xa.val] 67]) (covers_get ⟨rfl, rfl, trivial⟩) ent.go ?_
  refine WP.meetK (α := Unit) (fun _ => True) (fun _ => []) (fun _ => [slA 4 Enc.bool tv.val (if 0 ≤ x.dst then S.set x.dst.toNat false else S), blk b3 [.int .i64 x.op, .int .i64 x.dst, .int .i64 x.imm, xa.val] 67]) ?_ ?_
  · refine Zp ?_
    refine Zf fo_67_1 ?_
    refine Zl 1 ag_3 ?_
    refine Zi ?_
    refine Ze ?_
    refine WP.ite rfl (fun h => ?_) (fun h => ?_)
    · have h0 : 0 ≤ x.dst := by omega
      have h1 := hx.2 h0
      obtain ⟨s, gs⟩ : ∃ s, S[x.dst.toNat]? = some s := ⟨_, List.getElem?_eq_getElem (by omega)⟩
      rw [if_pos h0]
      refine Zc ?_
      refine Zm ?_
      refine Zf fo_67_1 ?_
      refine Zl 1 ag_3 ?_
      refine Run.idxO 0 rfl rfl rfl sl_92 rfl rfl rfl rfl (by omega) (by omega) ?_
      refine Run.storeO 0 x.dst.toNat 0 (y' := false) rfl rfl rfl rfl ag_4 rfl rfl rfl rfl gs rfl rfl ?_
      refine Run.nil ?_
      exact thn_next ⟨(), trivial, ⟨(by repeat first | exact trivial | refine ⟨rfl, ?_⟩), rfl, rfl⟩, ent.go⟩
    · rw [if_neg (by omega)]
      refine WP.skip ?_
      exact thn_next ⟨(), trivial, ⟨(by repeat first | exact trivial | refine ⟨rfl, ?_⟩), rfl, rfl⟩, ent.go⟩
  rintro _ _
  unfold backL
  have hl0 : (if 0 ≤ x.dst then S.set x.dst.toNat false else S).length = S.length := by split <;> simp
  have hxs := hx.1
  rw [← hl0] at hxs
  generalize (if 0 ≤ x.dst then S.set x.dst.toNat false else S) = S1 at hxs ⊢
  refine Zp ?_
  refine Zm ?_
  refine Ze ?_
  refine WP.block ?_
  refine WP.loopK (α := Nat × List Bool) (fun z => z.1 ≤ x.args.length ∧ z.2.length = S1.length ∧ argsL z.2 (x.args.drop z.1) = argsL S1 x.args) (fun z => [(4, .int .i64 (z.1 : Int))]) (fun z => [slA 4 Enc.bool tv.val z.2, blk b3 [.int .i64 x.op, .int .i64 x.dst, .int .i64 x.imm, xa.val] 67]) (fun z => x.args.length - z.1) (0, S1) ⟨Nat.zero_le _, rfl, rfl⟩ ⟨(by repeat first | exact trivial | refine ⟨rfl, ?_⟩), rfl, rfl⟩ ent.go ?_
  rintro ⟨i, S2⟩ ⟨hi, hl2, hz⟩
  simp only at hi hl2 hz ⊢
  refine WP.seq ?_
  refine Zp ?_
  refine Zm ?_
  refine Zf fo_67_3 ?_
  refine Zl 1 ag_22 ?_
  refine Zh sl_22 hxa ?_
  refine Zi ?_
  refine Ze ?_
  refine WP.ite rfl (fun hlt => ?_) (fun hge => ?_)
  · refine Zb ?_
    obtain ⟨a, ga⟩ : ∃ y, x.args[i]? = some y := ⟨_, List.getElem?_eq_getElem (by omega)⟩
    obtain ⟨a0, a1⟩ := hxs a (List.mem_of_getElem? ga)
    obtain ⟨s, gs⟩ : ∃ s, S2[a.toNat]? = some s := ⟨_, List.getElem?_eq_getElem (by omega)⟩
    have hdr : x.args.drop i = a :: x.args.drop (i + 1) := by rw [List.drop_eq_getElem_cons (by omega)]; congr 1; rw [List.getElem?_eq_getElem (by omega)] at ga; exact Option.some.inj ga
    rw [hdr] at hz
    refine WP.seq ?_
    refine WP.block ?_
    refine Zc ?_
    refine Zm ?_
    refine Zf fo_67_3 ?_
    refine Zl 1 ag_22 ?_
    refine Zm ?_
    refine Zx sl_22 hxa ?_
    refine Zr ag_3 (SlR.cell0 hxa ga rfl) ?_
    refine Run.idxO 0 rfl rfl rfl sl_92 rfl rfl rfl rfl (by omega) (by omega) ?_
    refine Run.storeO 0 a.toNat 0 (y' := true) rfl rfl rfl rfl ag_4 rfl rfl rfl rfl gs rfl rfl ?_
    refine Run.nil ?_
    refine blk_norm ?_; refine thn_next ?_
    refine Zc ?_
    refine Zm ?_
    refine Za ?_
    refine Zm ?_
    refine Run.nil ?_
    exact thn_next ⟨(i + 1, S2.set a.toNat true), ⟨by simp only; omega, by simp [hl2], hz⟩, by simp only; omega, ⟨(by repeat first | exact trivial | refine ⟨rfl, ?_⟩), rfl, rfl⟩, ent.go⟩
  · refine Zj ?_
    have e : i = x.args.length := by omega
    subst e
    rw [List.drop_length] at hz
    refine retN [] [] rfl rfl ⟨_, ?_, rfl⟩
    rw [← hz]; exact ent.go
set_option maxRecDepth 100000 in
theorem start_ok (hR : Heap) (bu bt wv : SV) (b : LBlk) (W : List Bool) (hbu : SlR rdIns hR bu.val b.body) (hwv : SlR Enc.bool.rd hR wv.val W) (hb : ∀ x ∈ b.body, OkI W.length x) (hv : 0 ≤ b.value → b.value < (W.length : Int)) (hl : b.body.length ≤ 1000000) (hla : ∀ x ∈ b.body, x.args.length ≤ 1000000) (hwl : W.length ≤ 1000000) :
    Tri Tryd.prog hR 66 #[.agg ⟨[bu.val, .int .i64 b.kind, .int .i64 b.value, bt.val]⟩, wv.val] [] fun u Γ' => ∃ sv : SV, u = sv.val ∧ Γ' = [slA 4 Enc.bool sv.val (startL b W)] := by
  refine Tri.ent (Tri.of (args := [.agg ⟨[bu.val, .int .i64 b.kind, .int .i64 b.value, bt.val]⟩, wv.val]) Tryd.func66 rfl Tryd.ntmps66 (by simp) ?_)
  refine Zp ?_
  refine Run.box rfl rfl rfl rfl rfl ?_
  intro b2
  refine Zm ?_
  refine Ze ?_
  refine WP.via (Γ' := [blk b2 [bu.val, .int .i64 b.kind, .int .i64 b.value, bt.val] 56, slA 4 Enc.bool (.slice none 0 0) []]) (ent.trans ent.go (slA_nil 4 Enc.bool [blk b2 [bu.val, .int .i64 b.kind, .int .i64 b.value, bt.val] 56])) ?_
  refine Zp ?_
  refine Zm ?_
  refine Run.append 1 rfl rfl rfl rfl rfl rfl sl_92 zr_4 rfl (src_ro hwv) (by first | omega | (simp <;> omega)) (by first | omega | (simp <;> omega)) ?_
  intro sv8 hv8
  refine Zm ?_
  refine Ze ?_
  refine WP.sup (ρ' := [(2, .pointer (some ⟨b2, 0, none⟩)), (5, sv8.val)]) (Γ' := [blk b2 [bu.val, .int .i64 b.kind, .int .i64 b.value, bt.val] 56, slA 4 Enc.bool sv8.val W]) (covers_get ⟨rfl, rfl, trivial⟩) ent.go ?_
  refine WP.meetK (α := Unit) (fun _ => True) (fun _ => []) (fun _ => [blk b2 [bu.val, .int .i64 b.kind, .int .i64 b.value, bt.val] 56, slA 4 Enc.bool sv8.val (if 0 ≤ b.value then W.set b.value.toNat true else W)]) ?_ ?_
  · refine Zp ?_
    refine Zf fo_56_1 ?_
    refine Zf fo_54_1 ?_
    refine Zl 0 ag_3 ?_
    refine Zi ?_
    refine Ze ?_
    refine WP.ite rfl (fun h => ?_) (fun h => ?_)
    · have h0 : 0 ≤ b.value := by omega
      have h1 := hv h0
      obtain ⟨s, gs⟩ : ∃ s, W[b.value.toNat]? = some s := ⟨_, List.getElem?_eq_getElem (by omega)⟩
      rw [if_pos h0]
      refine Zc ?_
      refine Zm ?_
      refine Zf fo_56_1 ?_
      refine Zf fo_54_1 ?_
      refine Zl 0 ag_3 ?_
      refine Run.idxO 1 rfl rfl rfl sl_92 rfl rfl rfl rfl (by omega) (by omega) ?_
      refine Run.storeO 1 b.value.toNat 0 (y' := true) rfl rfl rfl rfl ag_4 rfl rfl rfl rfl gs rfl rfl ?_
      refine Run.nil ?_
      exact thn_next ⟨(), trivial, ⟨(by repeat first | exact trivial | refine ⟨rfl, ?_⟩), rfl, rfl⟩, ent.go⟩
    · rw [if_neg (by omega)]
      refine WP.skip ?_
      exact thn_next ⟨(), trivial, ⟨(by repeat first | exact trivial | refine ⟨rfl, ?_⟩), rfl, rfl⟩, ent.go⟩
  rintro _ _
  unfold startL
  have hl0 : (if 0 ≤ b.value then W.set b.value.toNat true else W).length = W.length := by split <;> simp
  generalize (if 0 ≤ b.value then W.set b.value.toNat true else W) = S1 at hl0 ⊢
  obtain ⟨cs, us, hcs⟩ := cs_of hbu
  refine WP.meetK (α := Unit) (fun _ => True) (fun _ => []) (fun _ => [blk b2 [bu.val, .int .i64 b.kind, .int .i64 b.value, bt.val] 56, slA 4 Enc.bool sv8.val (b.body.reverse.foldl backL S1)]) ?_ ?_
  · refine Zp ?_
    refine Zf fo_56_0 ?_
    refine Zl 0 ag_52 ?_
    refine Zh sl_52 hbu ?_
    refine Zs ?_
    refine Zm ?_
    refine Ze ?_
    refine WP.block ?_
    refine WP.loopK (α := Nat) (fun z => z ≤ b.body.length) (fun z => [(6, .int .i64 ((b.body.length : Int) - 1 - (z : Int)))]) (fun z => [blk b2 [bu.val, .int .i64 b.kind, .int .i64 b.value, bt.val] 56, slA 4 Enc.bool sv8.val ((b.body.reverse.take z).foldl backL S1)]) (fun z => b.body.length - z) 0 (Nat.zero_le _) ⟨⟨by simp [Env.get], trivial⟩, rfl, rfl⟩ ent.go ?_
    rintro i hi
    refine WP.seq ?_
    refine Zp ?_
    refine Zm ?_
    refine Zi ?_
    refine Ze ?_
    refine WP.ite rfl (fun hlt => ?_) (fun hge => ?_)
    · refine Zb ?_
      have hix : ((b.body.length : Int) - 1 - (i : Int)) = ((b.body.length - 1 - i : Nat) : Int) := by omega
      obtain ⟨x, gx⟩ : ∃ y, b.body[b.body.length - 1 - i]? = some y := ⟨_, List.getElem?_eq_getElem (by omega)⟩
      have htk : b.body.reverse.take (i + 1) = b.body.reverse.take i ++ [x] := by rw [List.take_add_one, List.getElem?_reverse (by omega), gx]; rfl
      obtain ⟨hxr, hxc, hxa⟩ := hcs _ x gx
      have hxm := List.mem_of_getElem? gx
      have hx1 := hb x hxm
      have hx2 := hla x hxm
      have hwl2 : ((b.body.reverse.take i).foldl backL S1).length = W.length := by rw [backs_len, hl0]
      rw [← hwl2] at hx1
      rw [hxc] at hxr
      generalize us (b.body.length - 1 - i) = xa at hxr hxa
      refine WP.seq ?_
      refine WP.block ?_
      refine Zc ?_
      refine Zm ?_
      refine Zf fo_56_0 ?_
      refine Zl 0 ag_52 ?_
      refine Zm ?_
      refine Zx sl_52 hbu ?_
      refine Run.loadRagg rfl rfl ag_67 rfl rfl (by rw [hix]; exact hxr) rfl ?_
      refine Run.call (Δ := [slA 4 Enc.bool sv8.val ((b.body.reverse.take i).foldl backL S1)]) (Θ := [blk b2 [bu.val, .int .i64 b.kind, .int .i64 b.value, bt.val] 56]) rfl rfl rfl rfl ok_85 rfl rfl ent.go (back_ok hR sv8 xa _ x hxa hx1 hx2) ?_; rintro _ _ rfl
      refine Run.nil ?_
      refine blk_norm ?_; refine thn_next ?_
      refine Zc ?_
      refine Zm ?_
      refine Zs ?_
      refine Zm ?_
      refine Run.nil ?_
      refine thn_next ⟨i + 1, by omega, by omega, ⟨⟨?_, trivial⟩, rfl, rfl⟩, ?_⟩
      · simp [Env.get]; omega
      · rw [htk, List.foldl_append, List.foldl_cons, List.foldl_nil]; exact ent.go
    · refine Zj ?_
      have e : i = b.body.length := by omega
      subst e
      refine thn_next ⟨(), trivial, ⟨(by repeat first | exact trivial | refine ⟨rfl, ?_⟩), rfl, rfl⟩, ?_⟩
      rw [List.take_of_length_le (by simp)]; exact ent.go
  rintro _ _
  refine Zp ?_
  refine Zm ?_
  refine Zm ?_
  refine Ze ?_
  refine WP.ret ?_
  exact retT [4] _ rfl rfl ⟨_, ent.go, sv8, rfl, rfl⟩
set_option maxRecDepth 100000 in
theorem refTold_ok (hR : Heap) (wv : SV) (W : List Bool) (hwv : SlR Enc.bool.rd hR wv.val W) (hwl : W.length ≤ 1000000) :
    Tri Tryd.prog hR 35 #[wv.val] [] fun u Γ' => ∃ sv : SV, u = sv.val ∧ Γ' = [slA 3 (Enc.int .i64) sv.val (numsL 0 W)] := by
  refine Tri.ent (Tri.of (args := [wv.val]) Tryd.func35 rfl Tryd.ntmps35 (by simp) ?_)
  refine Zp ?_
  refine Zm ?_
  refine Ze ?_
  refine Zp ?_
  refine Zm ?_
  refine Ze ?_
  refine WP.meetK (α := SV) (fun _ => True) (fun z => [(3, z.val)]) (fun z => [slA 3 (Enc.int .i64) z.val (numsL 0 W)]) ?_ ?_
  · refine Zp ?_
    refine Zm ?_
    refine Ze ?_
    refine WP.block ?_
    refine WP.loopK (α := Nat × SV × List Int) (fun z => z.1 ≤ W.length ∧ z.2.2.length ≤ z.1 ∧ z.2.2 ++ numsL z.1 (W.drop z.1) = numsL 0 W) (fun z => [(3, z.2.1.val), (4, .int .i64 (z.1 : Int))]) (fun z => [slA 3 (Enc.int .i64) z.2.1.val z.2.2]) (fun z => W.length - z.1) (0, ⟨none, 0, 0⟩, []) ⟨Nat.zero_le _, Nat.le_refl _, rfl⟩ ⟨(by repeat first | exact trivial | refine ⟨rfl, ?_⟩), rfl, rfl⟩ (slA_nil 3 (Enc.int .i64) _) ?_
    rintro ⟨i, sv, xs⟩ ⟨hi, hxl, hz⟩
    simp only at hi hxl hz ⊢
    refine WP.seq ?_
    refine Zp ?_
    refine Zm ?_
    refine Zm ?_
    refine Zh sl_92 hwv ?_
    refine Zi ?_
    refine Ze ?_
    refine WP.ite rfl (fun hlt => ?_) (fun hge => ?_)
    · refine Zb ?_
      obtain ⟨t, gt⟩ : ∃ y, W[i]? = some y := ⟨_, List.getElem?_eq_getElem (by omega)⟩
      have hdr : W.drop i = t :: W.drop (i + 1) := by rw [List.drop_eq_getElem_cons (by omega)]; congr 1; rw [List.getElem?_eq_getElem (by omega)] at gt; exact Option.some.inj gt
      rw [hdr, numsL] at hz
      refine WP.seq ?_
      refine WP.block ?_
      refine Zp ?_
      refine Zm ?_
      refine Zm ?_
      refine Zx sl_92 hwv ?_
      refine Zr ag_4 (SlR.cell0 hwv gt rfl) ?_
      refine Ze ?_
      cases t with
      | true =>
        rw [if_pos rfl] at hz
        refine Zyes ?_
        have h1l : [(i : Int)].length = 1 := rfl
        refine Zc ?_
        refine Zm ?_
        refine Zm ?_
        refine Run.buildSlice (E := (Enc.int .i64)) rfl sl_22 zr_3 ([(i : Int)]) rfl rfl rfl (by decide) rfl rfl ?_
        intro b17
        refine Run.append 0 rfl rfl rfl rfl rfl rfl sl_22 zr_3 rfl (src_own 1 rfl) (by first | omega | (simp <;> omega)) (by first | omega | (simp <;> omega)) ?_
        intro sv18 hv18
        refine Zm ?_
        refine Run.nil ?_
        refine blk_norm ?_; refine thn_next ?_
        refine Zc ?_
        refine Zm ?_
        refine Za ?_
        refine Zm ?_
        refine Run.nil ?_
        refine thn_next ⟨(i + 1, sv18, xs ++ [(i : Int)]), ⟨by simp only; omega, by simp; omega, by simp only; rw [← hz]; simp⟩, by simp only; omega, ⟨(by repeat first | exact trivial | refine ⟨rfl, ?_⟩), rfl, rfl⟩, ent.go⟩
      | false =>
        rw [if_neg (by decide)] at hz
        refine Zno ?_
        refine WP.skip ?_; refine blk_norm ?_; refine thn_next ?_
        refine Zc ?_
        refine Zm ?_
        refine Za ?_
        refine Zm ?_
        refine Run.nil ?_
        refine thn_next ⟨(i + 1, sv, xs), ⟨by simp only; omega, by simp only; omega, hz⟩, by simp only; omega, ⟨(by repeat first | exact trivial | refine ⟨rfl, ?_⟩), rfl, rfl⟩, ent.go⟩
    · refine Zj ?_
      have e : i = W.length := by omega
      subst e
      rw [List.drop_length, numsL, List.append_nil] at hz
      subst hz
      exact thn_next ⟨sv, trivial, ⟨(by repeat first | exact trivial | refine ⟨rfl, ?_⟩), rfl, rfl⟩, ent.go⟩
  rintro sv _
  refine Zp ?_
  refine Zm ?_
  refine Zm ?_
  refine Ze ?_
  refine WP.ret ?_
  exact retT [2] _ rfl rfl ⟨_, ent.go, sv, rfl, rfl⟩
end Go.Proofs.YtjjfehdlmdhhmaaDoor
end
section
/- The document's rounds over all blocks, in plain Lean. -/
namespace Go.Proofs.YtjjfehdlmdhhmaaDoor
open Go.Sep
set_option linter.unusedSimpArgs false
set_option linter.unusedVariables false
def subB (a b : List Bool) : Prop := ∀ r : Int, 0 ≤ r → atB a r = true → atB b r = true
def orL (b a : List Bool) : List Bool := List.zipWith (· || ·) b a
theorem orL_len {a b : List Bool} (h : b.length = a.length) : (orL b a).length = b.length := by unfold orL; simp [h]
theorem orL_at {a b : List Bool} (h : b.length = a.length) (r : Int) : atB (orL b a) r = (atB b r || atB a r) := by
  unfold atB orL
  rw [List.getD_eq_getElem?_getD, List.getD_eq_getElem?_getD, List.getD_eq_getElem?_getD, List.getElem?_zipWith]
  by_cases hlt : r.toNat < a.length
  · rw [List.getElem?_eq_getElem hlt, List.getElem?_eq_getElem (by omega : r.toNat < b.length)]; rfl
  · rw [List.getElem?_eq_none (by omega : a.length ≤ r.toNat), List.getElem?_eq_none (by omega : b.length ≤ r.toNat)]; rfl
def cntF (a : List Bool) : Nat := a.countP (fun t => !t)
theorem cntF_le : ∀ {a b : List Bool}, a.length = b.length → (∀ i : Nat, a[i]? = some true → b[i]? = some true) → cntF b ≤ cntF a ∧ (b ≠ a → cntF b < cntF a)
  | [], [], _, _ => ⟨Nat.le_refl _, fun h => absurd rfl h⟩
  | [], _ :: _, h, _ => by simp at h
  | _ :: _, [], h, _ => by simp at h
  | x :: a, y :: b, h, hs => by
    obtain ⟨h1, h2⟩ := cntF_le (a := a) (b := b) (by simpa using h) (fun i hi => by have := hs (i + 1) (by simpa using hi); simpa using this)
    have h0 := hs 0
    unfold cntF at *
    simp only [List.countP_cons]
    cases x <;> cases y <;> simp at h0 ⊢
    · refine ⟨h1, fun hne => h2 hne⟩
    · refine ⟨by omega, by omega⟩
    · refine ⟨h1, fun hne => h2 hne⟩
theorem subB_idx {a b : List Bool} (hs : subB a b) (i : Nat) (h : a[i]? = some true) : b[i]? = some true := by
  have h1 : atB a (i : Int) = true := by unfold atB; rw [List.getD_eq_getElem?_getD, Int.toNat_natCast, h]; rfl
  have h2 := hs i (by omega) h1
  unfold atB at h2
  rw [List.getD_eq_getElem?_getD, Int.toNat_natCast] at h2
  cases hb : b[i]? with
  | none => rw [hb] at h2; cases h2
  | some t => rw [hb] at h2; simp at h2; rw [h2]
def cntA (A : List (List Bool)) : Nat := (A.map cntF).sum
theorem cntA_set {A : List (List Bool)} {i : Nat} {a s : List Bool} (g : A[i]? = some a) : cntA (A.set i s) + cntF a = cntA A + cntF s := by
  unfold cntA
  rw [List.map_set]
  exact sum_set _ i (cntF s) (cntF a) (by rw [List.getElem?_map, g]; rfl)
structure SetI (F : LFun) (R : Nat) (A B : List (List Bool)) : Prop where
  la : A.length = F.blocks.length
  lb : B.length = F.blocks.length
  ra : ∀ w ∈ A, w.length = R
  rb : ∀ w ∈ B, w.length = R
  mono : ∀ (q : Nat) (blk : LBlk) (a b : List Bool), F.blocks[q]? = some blk → A[q]? = some a → B[q]? = some b → subB a (startL blk b)
  sa : ∀ (q : Nat) (a : List Bool) (r : Int), A[q]? = some a → 0 ≤ r → atB a r = true → LiveIn F r q
  sb : ∀ (q : Nat) (b : List Bool) (r : Int), B[q]? = some b → 0 ≤ r → atB b r = true → LiveOut F r q
/-- nothing is left to be done, from block i on -/
def ClosedFrom (F : LFun) (A B : List (List Bool)) (i : Nat) : Prop := ∀ (q : Nat) (blk : LBlk) (a b : List Bool), i ≤ q → F.blocks[q]? = some blk → A[q]? = some a → B[q]? = some b → startL blk b = a ∧ ∀ c ∈ blk.to, ∀ a', A[c.toNat]? = some a' → subB a' b
theorem SetI.new (F : LFun) (R : Nat) : SetI F R (List.replicate F.blocks.length (List.replicate R false)) (List.replicate F.blocks.length (List.replicate R false)) := by
  have hz : ∀ {q : Nat} {a : List Bool} {r : Int}, (List.replicate F.blocks.length (List.replicate R false))[q]? = some a → atB a r = true → False := fun h h2 => by
    have := List.mem_of_getElem? h; simp at this
    rw [this.2] at h2
    unfold atB at h2
    rw [List.getD_eq_getElem?_getD, List.getElem?_replicate] at h2
    split at h2 <;> simp at h2
  refine ⟨by simp, by simp, fun w hw => ?_, fun w hw => ?_, ?_, ?_, ?_⟩
  · simp at hw; rw [hw.2]; simp
  · simp at hw; rw [hw.2]; simp
  · exact fun q blk a b _ ha _ r _ h => (hz ha h).elim
  · exact fun q a r ha _ h => (hz ha h).elim
  · exact fun q a r ha _ h => (hz ha h).elim
section
variable {F : LFun} {R : Nat} {A B : List (List Bool)} (hG : RegsF F) (hR : (R : Int) = F.regs)
include hG hR
theorem start_at {i : Nat} {blk : LBlk} {b : List Bool} {r : Int} (gb : F.blocks[i]? = some blk) (hb : b.length = R) (r0 : 0 ≤ r) : atB (startL blk b) r = needB r blk.body (decide (blk.value = r) || atB b r) := by
  have hm := List.mem_of_getElem? gb
  exact startL_at r0 (fun x hx => ⟨fun a ha => by have := hG.args blk hm x hx a ha; omega, fun h => by have := hG.dst blk hm x hx h; omega⟩) (fun h => by have := hG.val blk hm h; omega)
theorem start_mono {i : Nat} {blk : LBlk} {b b' : List Bool} (gb : F.blocks[i]? = some blk) (hb : b.length = R) (hb' : b'.length = R) (h : subB b b') : subB (startL blk b) (startL blk b') := by
  intro r r0 hr
  rw [start_at hG hR gb hb r0] at hr
  rw [start_at hG hR gb hb' r0]
  refine needB_mono r _ _ _ (fun h2 => ?_) hr
  rw [Bool.or_eq_true] at h2 ⊢
  exact h2.imp id (h r r0)
theorem SetI.or {i : Nat} {blk : LBlk} {b a' : List Bool} {c : Int} (H : SetI F R A B) (gb : F.blocks[i]? = some blk) (gB : B[i]? = some b) (hc : c ∈ blk.to) (gA : A[c.toNat]? = some a') : SetI F R A (B.set i (orL b a')) := by
  have hlb := H.rb b (List.mem_of_getElem? gB)
  have hla := H.ra a' (List.mem_of_getElem? gA)
  have hlen : b.length = a'.length := by rw [hlb, hla]
  have hlt := (List.getElem?_eq_some_iff.1 gb).1
  refine ⟨H.la, by simp [H.lb], H.ra, fun w hw => ?_, ?_, H.sa, ?_⟩
  · rcases List.mem_or_eq_of_mem_set hw with h | h
    · exact H.rb w h
    · rw [h, orL_len hlen, hlb]
  · intro q blk' a b' hq ha hb'
    by_cases e : i = q
    · subst e
      rw [List.getElem?_set_self (by rw [H.lb]; exact hlt)] at hb'
      cases hb'
      intro r r0 hr
      refine start_mono hG hR hq hlb (by rw [orL_len hlen, hlb]) (fun r _ h => by rw [orL_at hlen, h, Bool.true_or]) r r0 (H.mono i blk' a b hq ha gB r r0 hr)
    · rw [List.getElem?_set_ne e] at hb'
      exact H.mono q blk' a b' hq ha hb'
  · intro q b' r hb' r0 hr
    by_cases e : i = q
    · subst e
      rw [List.getElem?_set_self (by rw [H.lb]; exact hlt)] at hb'
      cases hb'
      rw [orL_at hlen, Bool.or_eq_true] at hr
      rcases hr with hr | hr
      · exact H.sb i b r gB r0 hr
      · exact ⟨blk, c, gb, hc, H.sa _ a' r gA r0 hr⟩
    · rw [List.getElem?_set_ne e] at hb'
      exact H.sb q b' r hb' r0 hr
theorem SetI.put {i : Nat} {blk : LBlk} {a b : List Bool} (H : SetI F R A B) (gb : F.blocks[i]? = some blk) (gA : A[i]? = some a) (gB : B[i]? = some b) : SetI F R (A.set i (startL blk b)) B ∧ cntA (A.set i (startL blk b)) ≤ cntA A ∧ (startL blk b ≠ a → cntA (A.set i (startL blk b)) < cntA A) := by
  have hlb := H.rb b (List.mem_of_getElem? gB)
  have hla := H.ra a (List.mem_of_getElem? gA)
  have hlt := (List.getElem?_eq_some_iff.1 gb).1
  have hsl : (startL blk b).length = R := by rw [startL_len, hlb]
  obtain ⟨c1, c2⟩ := cntF_le (a := a) (b := startL blk b) (by rw [hla, hsl]) (subB_idx (H.mono i blk a b gb gA gB))
  have c3 := cntA_set (s := startL blk b) gA
  refine ⟨⟨by simp [H.la], H.lb, fun w hw => ?_, H.rb, ?_, ?_, H.sb⟩, by omega, fun h => by have := c2 h; omega⟩
  · rcases List.mem_or_eq_of_mem_set hw with h | h
    · exact H.ra w h
    · rw [h, hsl]
  · intro q blk' a' b' hq ha hb'
    by_cases e : i = q
    · subst e
      rw [List.getElem?_set_self (by rw [H.la]; exact hlt)] at ha
      cases ha
      rw [gb] at hq; cases hq
      rw [gB] at hb'; cases hb'
      exact fun r _ h => h
    · rw [List.getElem?_set_ne e] at ha
      exact H.mono q blk' a' b' hq ha hb'
  · intro q a' r ha r0 hr
    by_cases e : i = q
    · subst e
      rw [List.getElem?_set_self (by rw [H.la]; exact hlt)] at ha
      cases ha
      rw [start_at hG hR gb hlb r0] at hr
      exact live_step gb (fun h => H.sb i b r gB r0 h) hr
    · rw [List.getElem?_set_ne e] at ha
      exact H.sa q a' r ha r0 hr
theorem SetI.done (H : SetI F R A B) (hc : ClosedFrom F A B 0) :
    (∀ (q : Nat) (a : List Bool) (r : Int), A[q]? = some a → 0 ≤ r → (atB a r = true ↔ LiveIn F r q)) ∧ (∀ (q : Nat) (b : List Bool) (r : Int), B[q]? = some b → 0 ≤ r → (atB b r = true ↔ LiveOut F r q)) := by
  have key : ∀ r : Int, 0 ≤ r → (∀ i, LiveIn F r i → ∃ a, A[i]? = some a ∧ atB a r = true) ∧ (∀ i, LiveOut F r i → ∃ a, B[i]? = some a ∧ atB a r = true) := by
    intro r r0
    have h1 : ∀ (i : Nat) (b : LBlk) (c : Int), F.blocks[i]? = some b → c ∈ b.to → (∃ a, A[c.toNat]? = some a ∧ atB a r = true) → ∃ a, B[i]? = some a ∧ atB a r = true := by
      rintro i b c hb hcb ⟨a, ha, hbit⟩
      have hlt := (List.getElem?_eq_some_iff.1 hb).1
      obtain ⟨w, gw⟩ : ∃ w, B[i]? = some w := ⟨_, List.getElem?_eq_getElem (by rw [H.lb]; exact hlt)⟩
      obtain ⟨x, gx⟩ : ∃ w, A[i]? = some w := ⟨_, List.getElem?_eq_getElem (by rw [H.la]; exact hlt)⟩
      exact ⟨w, gw, (hc i b x w (Nat.zero_le _) hb gx gw).2 c hcb a ha r r0 hbit⟩
    have h2 : ∀ (i : Nat) (b : LBlk) (q : Bool), F.blocks[i]? = some b → (q = true → ∃ a, B[i]? = some a ∧ atB a r = true) → needB r b.body (decide (b.value = r) || q) = true → ∃ a, A[i]? = some a ∧ atB a r = true := by
      intro i b q hb hq hn
      have hlt := (List.getElem?_eq_some_iff.1 hb).1
      obtain ⟨w, gw⟩ : ∃ w, B[i]? = some w := ⟨_, List.getElem?_eq_getElem (by rw [H.lb]; exact hlt)⟩
      obtain ⟨a, ga⟩ : ∃ w, A[i]? = some w := ⟨_, List.getElem?_eq_getElem (by rw [H.la]; exact hlt)⟩
      refine ⟨a, ga, ?_⟩
      rw [← (hc i b a w (Nat.zero_le _) hb ga gw).1, start_at hG hR hb (H.rb w (List.mem_of_getElem? gw)) r0]
      refine needB_mono r _ _ _ (fun h3 => ?_) hn
      rw [Bool.or_eq_true] at h3 ⊢
      refine h3.imp id fun h4 => ?_
      obtain ⟨w', gw', hb'⟩ := hq h4
      rw [gw] at gw'; cases gw'; exact hb'
    exact ⟨fun i hi => live_sub (A := fun i => ∃ a, A[i]? = some a ∧ atB a r = true) (B := fun i => ∃ a, B[i]? = some a ∧ atB a r = true) h1 h2 i hi, fun i hi => liveOut_sub (A := fun i => ∃ a, A[i]? = some a ∧ atB a r = true) (B := fun i => ∃ a, B[i]? = some a ∧ atB a r = true) h1 h2 i hi⟩
  refine ⟨fun q a r ha r0 => ⟨H.sa q a r ha r0, fun hl => ?_⟩, fun q a r ha r0 => ⟨H.sb q a r ha r0, fun hl => ?_⟩⟩
  · obtain ⟨a', ha', hb⟩ := (key r r0).1 q hl
    rw [ha] at ha'; cases ha'; exact hb
  · obtain ⟨a', ha', hb⟩ := (key r r0).2 q hl
    rw [ha] at ha'; cases ha'; exact hb
end
/-- where a round stands: blocks from i on are done; c0: what was open at its beginning -/
structure RI (F : LFun) (R c0 : Nat) (A B : List (List Bool)) (more : Bool) (i : Nat) : Prop where
  si : SetI F R A B
  lt : more = true → cntA A < c0
  le : cntA A ≤ c0
  cl : more = false → ClosedFrom F A B i
theorem RI.step {F : LFun} {R c0 i : Nat} {A B : List (List Bool)} {more : Bool} {blk : LBlk} {a b : List Bool} (hG : RegsF F) (hR : (R : Int) = F.regs) (h1 : more = true → cntA A < c0) (h2 : cntA A ≤ c0)
    (hcl : more = false → ∀ (q : Nat) (blk : LBlk) (a b : List Bool), i + 1 ≤ q → F.blocks[q]? = some blk → A[q]? = some a → B[q]? = some b → startL blk b = a ∧ ∀ c ∈ blk.to, ∀ a', A[c.toNat]? = some a' → subB a' b)
    (H : SetI F R A B) (gb : F.blocks[i]? = some blk) (gA : A[i]? = some a) (gB : B[i]? = some b) (hto : ∀ c ∈ blk.to, ∀ a', A[c.toNat]? = some a' → subB a' b) :
    RI F R c0 (A.set i (startL blk b)) B (more || decide (startL blk b ≠ a)) i := by
  obtain ⟨s1, s2, s3⟩ := H.put hG hR gb gA gB
  refine ⟨s1, fun h => ?_, by omega, fun h => ?_⟩
  · rw [Bool.or_eq_true, decide_eq_true_eq] at h
    rcases h with h | h
    · have := h1 h; omega
    · have := s3 h; omega
  · rw [Bool.or_eq_false_iff, decide_eq_false_iff_not] at h
    have e : startL blk b = a := Classical.not_not.1 h.2
    rw [e, set_same gA]
    intro q blk' a' b' hq hb' ha' hbb'
    by_cases e2 : q = i
    · subst e2
      rw [gb] at hb'; cases hb'
      rw [gA] at ha'; cases ha'
      rw [gB] at hbb'; cases hbb'
      exact ⟨e, hto⟩
    · exact hcl h.1 q blk' a' b' (by omega) hb' ha' hbb'
end Go.Proofs.YtjjfehdlmdhhmaaDoor
end
section
/- The document's rounds over all blocks; walked. -/
namespace Go.Proofs.YtjjfehdlmdhhmaaDoor
open Go.Sep
set_option linter.unusedSimpArgs false
set_option linter.unusedVariables false
attribute [local irreducible] blk slA mp mpF rows rowsBut many
def fillG {X : Type} (z : List X) (b : Nat) (p : List (SV × List X)) : Prop := ∀ (i : Nat) (w : List X), (p.map Prod.snd)[i]? = some w → i < b → w = z
theorem fillG_step {X : Type} {z : List X} {b : Nat} {p : List (SV × List X)} {sv : SV} (H : fillG z b p) (hb : b < p.length) : fillG z (b + 1) (p.set b (sv, z)) := by
  intro i w hw hi
  rw [map_snd_set] at hw
  by_cases e : b = i
  · subst e; rw [List.getElem?_set_self (by simpa using hb)] at hw; cases hw; rfl
  · rw [List.getElem?_set_ne e] at hw
    exact H i w hw (by omega)
theorem fillG_all {X : Type} {z : List X} {p : List (SV × List X)} (H : fillG z p.length p) : p.map Prod.snd = List.replicate p.length z := by
  apply List.ext_getElem?
  intro i
  by_cases h : i < p.length
  · obtain ⟨w, gw⟩ : ∃ w, (p.map Prod.snd)[i]? = some w := ⟨_, List.getElem?_eq_getElem (by simpa using h)⟩
    rw [gw, H i w gw h, List.getElem?_replicate, if_pos h]
  · rw [List.getElem?_eq_none (by simpa using h), List.getElem?_eq_none (by simpa using h)]
theorem und_4 : Tryd.prog.underlying 4 = some .bool := by kernel_rfl
theorem or_next {b a : List Bool} {r : Nat} {x y : Bool} (hx : b[r]? = some x) (hy : a[r]? = some y) : (orL b a).take (r + 1) ++ b.drop (r + 1) = ((orL b a).take r ++ b.drop r).set r (x || y) ∧ ((orL b a).take r ++ b.drop r)[r]? = some x := by
  obtain ⟨h1, e1⟩ := List.getElem?_eq_some_iff.1 hx
  obtain ⟨h2, e2⟩ := List.getElem?_eq_some_iff.1 hy
  have hl : (orL b a).length = min b.length a.length := by unfold orL; simp
  have ho : (orL b a)[r]? = some (x || y) := by unfold orL; rw [List.getElem?_zipWith, hx, hy]
  have hd : b.drop r = x :: b.drop (r + 1) := by rw [List.drop_eq_getElem_cons h1, e1]
  have ht : ((orL b a).take r).length = r := by rw [List.length_take]; omega
  refine ⟨?_, ?_⟩
  · rw [List.take_add_one, ho, hd, List.set_append_right _ _ (by omega), ht]; simp
  · rw [List.getElem?_append_right (by omega), ht, hd]; simp
def SetsRes (F : LFun) (x : Value) (Γ' : List HProp) : Prop := ∃ (av bv : SV) (A B : List (SV × List Bool)), x = .tuple #[av.val, bv.val] ∧ SetI F F.regs.toNat (A.map Prod.snd) (B.map Prod.snd) ∧ ClosedFrom F (A.map Prod.snd) (B.map Prod.snd) 0 ∧
  Γ' = [slA 92 Enc.slice av.val (A.map Prod.fst), rows 4 Enc.bool A, slA 92 Enc.slice bv.val (B.map Prod.fst), rows 4 Enc.bool B]
set_option maxHeartbeats 4000000 in
set_option maxRecDepth 100000 in
theorem sets_ok (hR : Heap) (F : LFun) (su sv : SV) (hV : FunV hR F su sv) (hS : SmallF F) (hQ : FormQ F) :
    Tri Tryd.prog hR 34 #[.agg ⟨fcs F su sv⟩] [] (SetsRes F) := by
  refine Tri.ent (Tri.of (args := [.agg ⟨fcs F su sv⟩]) Tryd.func34 rfl Tryd.ntmps34 (by simp) ?_)
  have hv := hV.hv
  have hsb := hV.sb
  have hr0 := hQ.r0
  have hr1 := hQ.r1
  have hG := hQ.regs
  obtain ⟨R, hRR⟩ : ∃ R : Nat, (R : Int) = F.regs := ⟨F.regs.toNat, by omega⟩
  have eR : F.regs.toNat = R := by omega
  refine Zp ?_
  refine Run.box rfl rfl rfl rfl rfl ?_
  intro b1
  refine Zm ?_
  refine Zm ?_
  refine Ze ?_
  refine Zp ?_
  refine Zf fo_25_4 ?_
  refine Zl 0 ag_23 ?_
  refine Zh sl_23 hv ?_
  refine Zm ?_
  refine Ze ?_
  refine Zp ?_
  refine Zm ?_
  refine Run.makeSlice (E := Enc.slice) (nilS) rfl rfl rfl sl_88 zr_92 rfl rfl rfl (by first | omega | (simp <;> omega)) (by first | omega | (simp <;> omega)) (by first | omega | (simp <;> omega)) (by first | omega | (simp <;> omega)) ?_
  intro b19
  refine Zm ?_
  refine Ze ?_
  refine Zp ?_
  refine Zm ?_
  refine Run.makeSlice (E := Enc.slice) (nilS) rfl rfl rfl sl_88 zr_92 rfl rfl rfl (by first | omega | (simp <;> omega)) (by first | omega | (simp <;> omega)) (by first | omega | (simp <;> omega)) (by first | omega | (simp <;> omega)) ?_
  intro b21
  refine Zm ?_
  refine Ze ?_
  obtain ⟨av, hav⟩ : ∃ sv : SV, sv.val = .slice (some ⟨b19, 0, none⟩) F.blocks.length F.blocks.length := ⟨⟨some ⟨b19, 0, none⟩, F.blocks.length, F.blocks.length⟩, rfl⟩
  obtain ⟨bv, hbv⟩ : ∃ sv : SV, sv.val = .slice (some ⟨b21, 0, none⟩) F.blocks.length F.blocks.length := ⟨⟨some ⟨b21, 0, none⟩, F.blocks.length, F.blocks.length⟩, rfl⟩
  refine WP.sup (ρ' := [(1, .pointer (some ⟨b1, 0, none⟩)), (4, .int .i64 (F.blocks.length : Int)), (5, av.val), (6, bv.val)]) (Γ' := [blk b1 (fcs F su sv) 25, slA 92 Enc.slice av.val (List.replicate F.blocks.length nilS), rows 4 Enc.bool (List.replicate F.blocks.length (nilS, ([] : List Bool))), slA 92 Enc.slice bv.val (List.replicate F.blocks.length nilS), rows 4 Enc.bool (List.replicate F.blocks.length (nilS, ([] : List Bool)))]) (covers_get ⟨rfl, rfl, hav.symm ▸ rfl, hbv.symm ▸ rfl, trivial⟩) ?_ ?_
  · have h1 := rows_nils (T := 4) (E := Enc.bool) ([blk b1 (fcs F su sv) 25, slA 92 Enc.slice av.val (List.replicate F.blocks.length nilS), slA 92 Enc.slice bv.val (List.replicate F.blocks.length nilS)]) F.blocks.length
    have h2 := rows_nils (T := 4) (E := Enc.bool) (rows 4 Enc.bool (List.replicate F.blocks.length (nilS, ([] : List Bool))) :: [blk b1 (fcs F su sv) 25, slA 92 Enc.slice av.val (List.replicate F.blocks.length nilS), slA 92 Enc.slice bv.val (List.replicate F.blocks.length nilS)]) F.blocks.length
    refine ent.trans ?_ (h1.trans (h2.trans ent.go))
    rw [hav, hbv]; exact ent.go
  clear hav hbv
  refine WP.meetK (α := List (SV × List Bool) × List (SV × List Bool)) (fun z => z.1.length = F.blocks.length ∧ z.2.length = F.blocks.length ∧ fillG (List.replicate R false) F.blocks.length z.1 ∧ fillG (List.replicate R false) F.blocks.length z.2) (fun _ => []) (fun z => [blk b1 (fcs F su sv) 25, slA 92 Enc.slice av.val (z.1.map Prod.fst), rows 4 Enc.bool z.1, slA 92 Enc.slice bv.val (z.2.map Prod.fst), rows 4 Enc.bool z.2]) ?_ ?_
  · refine Zp ?_
    refine Zm ?_
    refine Ze ?_
    refine WP.block ?_
    refine WP.loopK (α := Nat × List (SV × List Bool) × List (SV × List Bool)) (fun z => z.1 ≤ F.blocks.length ∧ z.2.1.length = F.blocks.length ∧ z.2.2.length = F.blocks.length ∧ fillG (List.replicate R false) z.1 z.2.1 ∧ fillG (List.replicate R false) z.1 z.2.2) (fun z => [(7, .int .i64 (z.1 : Int))]) (fun z => [blk b1 (fcs F su sv) 25, slA 92 Enc.slice av.val (z.2.1.map Prod.fst), rows 4 Enc.bool z.2.1, slA 92 Enc.slice bv.val (z.2.2.map Prod.fst), rows 4 Enc.bool z.2.2]) (fun z => F.blocks.length - z.1) (0, List.replicate F.blocks.length (nilS, []), List.replicate F.blocks.length (nilS, [])) ⟨Nat.zero_le _, by simp, by simp, fun _ _ _ h => absurd h (Nat.not_lt_zero _), fun _ _ _ h => absurd h (Nat.not_lt_zero _)⟩ ⟨(by repeat first | exact trivial | refine ⟨rfl, ?_⟩), rfl, rfl⟩ ?_ ?_
    · simp only [List.map_replicate]; exact ent.go
    rintro ⟨b, A, B⟩ ⟨hb, hA, hB, hfA, hfB⟩
    simp only at hb hA hB hfA hfB ⊢
    refine WP.seq ?_
    refine Zp ?_
    refine Zm ?_
    refine Zm ?_
    refine Zi ?_
    refine Ze ?_
    refine WP.ite rfl (fun hlt => ?_) (fun hge => ?_)
    · refine Zb ?_
      obtain ⟨a0, ga0⟩ : ∃ y, (A.map Prod.fst)[b]? = some y := ⟨_, List.getElem?_eq_getElem (by simp; omega)⟩
      obtain ⟨b0, gb0⟩ : ∃ y, (B.map Prod.fst)[b]? = some y := ⟨_, List.getElem?_eq_getElem (by simp; omega)⟩
      refine WP.seq ?_
      refine WP.block ?_
      refine Zp ?_
      refine Zm ?_
      refine Zm ?_
      refine Zf fo_25_2 ?_
      refine Zl 0 ag_3 ?_
      refine Run.makeSlice (E := Enc.bool) (false) rfl rfl rfl sl_92 zr_4 rfl rfl rfl (by first | omega | (simp <;> omega)) (by first | omega | (simp <;> omega)) (by first | omega | (simp <;> omega)) (by first | omega | (simp <;> omega)) ?_
      intro b31
      refine Run.idxO 1 rfl rfl rfl sl_88 rfl rfl rfl rfl (by omega) (by simp; omega) ?_
      refine Run.storeO 1 b 0 (y' := (⟨some ⟨b31, 0, none⟩, F.regs.toNat, F.regs.toNat⟩ : SV)) rfl rfl rfl rfl ag_92 rfl rfl rfl rfl ga0 rfl rfl ?_
      refine Ze ?_
      refine Zc ?_
      refine Zm ?_
      refine Zm ?_
      refine Zf fo_25_2 ?_
      refine Zl 0 ag_3 ?_
      refine Run.makeSlice (E := Enc.bool) (false) rfl rfl rfl sl_92 zr_4 rfl rfl rfl (by first | omega | (simp <;> omega)) (by first | omega | (simp <;> omega)) (by first | omega | (simp <;> omega)) (by first | omega | (simp <;> omega)) ?_
      intro b37
      refine Run.idxO 3 rfl rfl rfl sl_88 rfl rfl rfl rfl (by omega) (by simp; omega) ?_
      refine Run.storeO 3 b 0 (y' := (⟨some ⟨b37, 0, none⟩, F.regs.toNat, F.regs.toNat⟩ : SV)) rfl rfl rfl rfl ag_92 rfl rfl rfl rfl gb0 rfl rfl ?_
      refine Run.nil ?_
      refine blk_norm ?_; refine thn_next ?_
      refine Zc ?_
      refine Zm ?_
      refine Za ?_
      refine Zm ?_
      refine Run.nil ?_
      have e1 : (A.map Prod.fst).set b (⟨some ⟨b31, 0, none⟩, F.regs.toNat, F.regs.toNat⟩ : SV) = (A.set b ((⟨some ⟨b31, 0, none⟩, F.regs.toNat, F.regs.toNat⟩ : SV), List.replicate R false)).map Prod.fst := by rw [List.map_set]
      have e2 : (B.map Prod.fst).set b (⟨some ⟨b37, 0, none⟩, F.regs.toNat, F.regs.toNat⟩ : SV) = (B.set b ((⟨some ⟨b37, 0, none⟩, F.regs.toNat, F.regs.toNat⟩ : SV), List.replicate R false)).map Prod.fst := by rw [List.map_set]
      refine thn_next ⟨(b + 1, A.set b ((⟨some ⟨b31, 0, none⟩, F.regs.toNat, F.regs.toNat⟩ : SV), List.replicate R false), B.set b ((⟨some ⟨b37, 0, none⟩, F.regs.toNat, F.regs.toNat⟩ : SV), List.replicate R false)), ⟨by simp only; omega, by simp [hA], by simp [hB], fillG_step hfA (by omega), fillG_step hfB (by omega)⟩, by simp only; omega, ⟨(by repeat first | exact trivial | refine ⟨rfl, ?_⟩), rfl, rfl⟩, ?_⟩
      simp only
      rw [← e1, ← e2, ← eR]
      refine ent.trans (Δ := rows 4 Enc.bool A :: slA 4 Enc.bool (⟨some ⟨b31, 0, none⟩, F.regs.toNat, F.regs.toNat⟩ : SV).val (List.replicate F.regs.toNat false) :: rows 4 Enc.bool B :: slA 4 Enc.bool (⟨some ⟨b37, 0, none⟩, F.regs.toNat, F.regs.toNat⟩ : SV).val (List.replicate F.regs.toNat false) :: [blk b1 (fcs F su sv) 25, slA 92 Enc.slice av.val ((A.map Prod.fst).set b (⟨some ⟨b31, 0, none⟩, F.regs.toNat, F.regs.toNat⟩ : SV)), slA 92 Enc.slice bv.val ((B.map Prod.fst).set b (⟨some ⟨b37, 0, none⟩, F.regs.toNat, F.regs.toNat⟩ : SV))]) ent.go ?_
      refine (rows_put (p := A) (i := b) (by omega) _).trans ?_
      refine ent.trans (Δ := rows 4 Enc.bool B :: slA 4 Enc.bool (⟨some ⟨b37, 0, none⟩, F.regs.toNat, F.regs.toNat⟩ : SV).val (List.replicate F.regs.toNat false) :: rows 4 Enc.bool (A.set b ((⟨some ⟨b31, 0, none⟩, F.regs.toNat, F.regs.toNat⟩ : SV), List.replicate F.regs.toNat false)) :: [blk b1 (fcs F su sv) 25, slA 92 Enc.slice av.val ((A.map Prod.fst).set b (⟨some ⟨b31, 0, none⟩, F.regs.toNat, F.regs.toNat⟩ : SV)), slA 92 Enc.slice bv.val ((B.map Prod.fst).set b (⟨some ⟨b37, 0, none⟩, F.regs.toNat, F.regs.toNat⟩ : SV))]) ent.go ?_
      exact (rows_put (p := B) (i := b) (by omega) _).trans ent.go
    · refine Zj ?_
      have e : b = F.blocks.length := by omega
      subst e
      exact thn_next ⟨(A, B), ⟨hA, hB, hfA, hfB⟩, ⟨(by repeat first | exact trivial | refine ⟨rfl, ?_⟩), rfl, rfl⟩, ent.go⟩
  rintro ⟨A, B⟩ ⟨hA, hB, hfA, hfB⟩
  simp only at hA hB hfA hfB ⊢
  have hSI : SetI F R (A.map Prod.snd) (B.map Prod.snd) := by
    have eA : A.map Prod.snd = List.replicate F.blocks.length (List.replicate R false) := by rw [← hA] at hfA ⊢; exact fillG_all hfA
    have eB : B.map Prod.snd = List.replicate F.blocks.length (List.replicate R false) := by rw [← hB] at hfB ⊢; exact fillG_all hfB
    rw [eA, eB]; exact SetI.new F R
  clear hfA hfB hA hB
  refine Zp ?_
  refine Zm ?_
  refine Ze ?_
  refine WP.sup (ρ' := [(8, .bool true), (1, .pointer (some ⟨b1, 0, none⟩)), (4, .int .i64 (F.blocks.length : Int)), (5, av.val), (6, bv.val)]) (Γ' := [blk b1 (fcs F su sv) 25, slA 92 Enc.slice av.val (A.map Prod.fst), rows 4 Enc.bool A, slA 92 Enc.slice bv.val (B.map Prod.fst), rows 4 Enc.bool B]) (Kp.sup (car := [(8, .bool true)]) (ρ := [(1, .pointer (some ⟨b1, 0, none⟩)), (4, .int .i64 (F.blocks.length : Int)), (5, av.val), (6, bv.val)]) ⟨(by repeat first | exact trivial | refine ⟨rfl, ?_⟩), rfl, rfl⟩) (ent.refl _) ?_
  refine WP.meetK (α := List (SV × List Bool) × List (SV × List Bool)) (fun z => SetI F R (z.1.map Prod.snd) (z.2.map Prod.snd) ∧ ClosedFrom F (z.1.map Prod.snd) (z.2.map Prod.snd) 0) (fun _ => [(8, .bool false)]) (fun z => [blk b1 (fcs F su sv) 25, slA 92 Enc.slice av.val (z.1.map Prod.fst), rows 4 Enc.bool z.1, slA 92 Enc.slice bv.val (z.2.map Prod.fst), rows 4 Enc.bool z.2]) ?_ ?_
  · refine WP.block ?_
    refine WP.loopK (α := Bool × List (SV × List Bool) × List (SV × List Bool)) (fun z => SetI F R (z.2.1.map Prod.snd) (z.2.2.map Prod.snd) ∧ (z.1 = false → ClosedFrom F (z.2.1.map Prod.snd) (z.2.2.map Prod.snd) 0)) (fun z => [(8, .bool z.1)]) (fun z => [blk b1 (fcs F su sv) 25, slA 92 Enc.slice av.val (z.2.1.map Prod.fst), rows 4 Enc.bool z.2.1, slA 92 Enc.slice bv.val (z.2.2.map Prod.fst), rows 4 Enc.bool z.2.2]) (fun z => 2 * cntA (z.2.1.map Prod.snd) + if z.1 = true then 1 else 0) (true, A, B) ⟨hSI, fun h => by cases h⟩ ⟨(by repeat first | exact trivial | refine ⟨rfl, ?_⟩), rfl, rfl⟩ ent.go ?_
    clear hSI A B
    rintro ⟨more, A, B⟩ ⟨hSI, hcl⟩
    simp only at hSI hcl ⊢
    refine WP.seq ?_
    refine Zp ?_
    refine Zm ?_
    refine Ze ?_
    cases more with
    | false =>
      refine Zno ?_
      refine Zj ?_
      exact thn_next ⟨(A, B), ⟨hSI, hcl rfl⟩, ⟨(by repeat first | exact trivial | refine ⟨rfl, ?_⟩), rfl, rfl⟩, ent.go⟩
    | true =>
      clear hcl
      refine Zyes ?_
      refine Zb ?_
      refine WP.block ?_
      refine Zp ?_
      refine Zm ?_
      refine Ze ?_
      refine Zp ?_
      refine Zm ?_
      refine Zs ?_
      refine Zm ?_
      refine Ze ?_
      refine WP.sup (ρ' := [(9, .int .i64 ((F.blocks.length : Int) - 1)), (8, .bool false), (8, .bool true), (1, .pointer (some ⟨b1, 0, none⟩)), (4, .int .i64 (F.blocks.length : Int)), (5, av.val), (6, bv.val)]) (Γ' := [blk b1 (fcs F su sv) 25, slA 92 Enc.slice av.val (A.map Prod.fst), rows 4 Enc.bool A, slA 92 Enc.slice bv.val (B.map Prod.fst), rows 4 Enc.bool B]) (Kp.sup (car := [(9, .int .i64 ((F.blocks.length : Int) - 1)), (8, .bool false)]) (ρ := [(8, .bool true), (1, .pointer (some ⟨b1, 0, none⟩)), (4, .int .i64 (F.blocks.length : Int)), (5, av.val), (6, bv.val)]) ⟨(by repeat first | exact trivial | refine ⟨rfl, ?_⟩), rfl, rfl⟩) (ent.refl _) ?_
      refine WP.block ?_
      obtain ⟨c0, hc0⟩ : ∃ c0, cntA (A.map Prod.snd) = c0 := ⟨_, rfl⟩
      refine WP.loopK (α := Nat × Bool × List (SV × List Bool) × List (SV × List Bool)) (fun z => z.1 ≤ F.blocks.length ∧ RI F R c0 (z.2.2.1.map Prod.snd) (z.2.2.2.map Prod.snd) z.2.1 (F.blocks.length - z.1)) (fun z => [(9, .int .i64 ((F.blocks.length : Int) - 1 - (z.1 : Int))), (8, .bool z.2.1)]) (fun z => [blk b1 (fcs F su sv) 25, slA 92 Enc.slice av.val (z.2.2.1.map Prod.fst), rows 4 Enc.bool z.2.2.1, slA 92 Enc.slice bv.val (z.2.2.2.map Prod.fst), rows 4 Enc.bool z.2.2.2]) (fun z => F.blocks.length - z.1) (0, false, A, B) ⟨Nat.zero_le _, hSI, fun h => (by cases h), by rw [← hc0]; exact Nat.le_refl _, fun _ q blk a b hq hb => by have := (List.getElem?_eq_some_iff.1 hb).1; simp only at hq; omega⟩ ⟨⟨by simp [Env.get], rfl, trivial⟩, rfl, rfl⟩ ent.go ?_
      clear hSI
      rintro ⟨j, more, A, B⟩ ⟨hj, hRI⟩
      simp only at hj hRI ⊢
      refine WP.seq ?_
      refine Zp ?_
      refine Zm ?_
      refine Zi ?_
      refine Ze ?_
      refine WP.ite rfl (fun hlt => ?_) (fun hge => ?_)
      · refine Zb ?_
        obtain ⟨i, hi⟩ : ∃ i : Nat, i = F.blocks.length - 1 - j := ⟨_, rfl⟩
        have hix : ((F.blocks.length : Int) - 1 - (j : Int)) = (i : Int) := by omega
        have hin : i < F.blocks.length := by omega
        have hji : F.blocks.length - j = i + 1 := by omega
        rw [hji] at hRI
        rw [hix]
        obtain ⟨bk, gb⟩ : ∃ y, F.blocks[i]? = some y := ⟨_, List.getElem?_eq_getElem hin⟩
        have hbm := List.mem_of_getElem? gb
        have hts := hS.tos bk hbm
        have hbs := hS.bodies bk hbm
        have has := hS.args bk hbm
        obtain ⟨_, ⟨bu0, bt0, rfl, hbu, hbt⟩, hrow⟩ := hv.at gb
        obtain ⟨bu, rfl, _, _⟩ := SlR.sv hbu
        obtain ⟨bt, rfl, _, _⟩ := SlR.sv hbt
        have r3 : cellH hR (((elemAddr sv.val (i * 4)).add 1).add 2) bt.val := by have := hrow 3 _ rfl; rw [add_plus]; exact this
        have hAl : A.length = F.blocks.length := by have := hRI.si.la; simpa using this
        have hBl : B.length = F.blocks.length := by have := hRI.si.lb; simpa using this
        obtain ⟨⟨sb, b0⟩, gB⟩ : ∃ y, B[i]? = some y := ⟨_, List.getElem?_eq_getElem (by omega)⟩
        have gB1 : (B.map Prod.fst)[i]? = some sb := by rw [List.getElem?_map, gB]; rfl
        have gB2 : (B.map Prod.snd)[i]? = some b0 := by rw [List.getElem?_map, gB]; rfl
        refine WP.seq ?_
        refine WP.block ?_
        refine Zp ?_
        refine Zf fo_25_4 ?_
        refine Zl 0 ag_23 ?_
        refine Zm ?_
        refine Zx sl_23 hv ?_
        refine Zf fo_56_1 ?_
        refine Zf fo_54_2 ?_
        refine Zr ag_22 r3 ?_
        refine Zm ?_
        refine Ze ?_
        refine WP.sup (ρ' := [(10, bt.val), (9, .int .i64 (i : Int)), (8, .bool more), (9, .int .i64 ((F.blocks.length : Int) - 1)), (8, .bool false), (8, .bool true), (1, .pointer (some ⟨b1, 0, none⟩)), (4, .int .i64 (F.blocks.length : Int)), (5, av.val), (6, bv.val)]) (Γ' := [blk b1 (fcs F su sv) 25, slA 92 Enc.slice av.val (A.map Prod.fst), rows 4 Enc.bool A, slA 92 Enc.slice bv.val (B.map Prod.fst), slA 4 Enc.bool sb.val b0, rowsBut 4 Enc.bool i B]) (Kp.sup (car := [(10, bt.val), (9, .int .i64 (i : Int)), (8, .bool more)]) (ρ := [(9, .int .i64 ((F.blocks.length : Int) - 1)), (8, .bool false), (8, .bool true), (1, .pointer (some ⟨b1, 0, none⟩)), (4, .int .i64 (F.blocks.length : Int)), (5, av.val), (6, bv.val)]) ⟨(by repeat first | exact trivial | refine ⟨rfl, ?_⟩), rfl, rfl⟩) ?_ ?_
        · refine ent.trans (Δ := rows 4 Enc.bool B :: [blk b1 (fcs F su sv) 25, slA 92 Enc.slice av.val (A.map Prod.fst), rows 4 Enc.bool A, slA 92 Enc.slice bv.val (B.map Prod.fst)]) ent.go ?_
          exact (rows_out gB _).trans ent.go
        -- all ways
        refine WP.meetK (α := List Bool) (fun b => SetI F R (A.map Prod.snd) ((B.map Prod.snd).set i b) ∧ ∀ c ∈ bk.to, ∀ a', (A.map Prod.snd)[c.toNat]? = some a' → subB a' b) (fun _ => []) (fun b => [blk b1 (fcs F su sv) 25, slA 92 Enc.slice av.val (A.map Prod.fst), rows 4 Enc.bool A, slA 92 Enc.slice bv.val (B.map Prod.fst), slA 4 Enc.bool sb.val b, rowsBut 4 Enc.bool i B]) ?_ ?_
        · refine Zp ?_
          refine Zm ?_
          refine Ze ?_
          refine WP.block ?_
          refine WP.loopK (α := Nat × List Bool) (fun z => z.1 ≤ bk.to.length ∧ SetI F R (A.map Prod.snd) ((B.map Prod.snd).set i z.2) ∧ ∀ c ∈ bk.to.take z.1, ∀ a', (A.map Prod.snd)[c.toNat]? = some a' → subB a' z.2) (fun z => [(11, .int .i64 (z.1 : Int))]) (fun z => [blk b1 (fcs F su sv) 25, slA 92 Enc.slice av.val (A.map Prod.fst), rows 4 Enc.bool A, slA 92 Enc.slice bv.val (B.map Prod.fst), slA 4 Enc.bool sb.val z.2, rowsBut 4 Enc.bool i B]) (fun z => bk.to.length - z.1) (0, b0) ⟨Nat.zero_le _, by rw [set_same gB2]; exact hRI.si, by simp⟩ ⟨(by repeat first | exact trivial | refine ⟨rfl, ?_⟩), rfl, rfl⟩ ent.go ?_
          rintro ⟨k, b⟩ ⟨hk, hSk, htk⟩
          simp only at hk hSk htk ⊢
          refine WP.seq ?_
          refine Zp ?_
          refine Zm ?_
          refine Zm ?_
          refine Zh sl_22 hbt ?_
          refine Zi ?_
          refine Ze ?_
          refine WP.ite rfl (fun hlt2 => ?_) (fun hge2 => ?_)
          · refine Zb ?_
            obtain ⟨c, gc⟩ : ∃ y, bk.to[k]? = some y := ⟨_, List.getElem?_eq_getElem (by omega)⟩
            have hcm := List.mem_of_getElem? gc
            obtain ⟨cn0, cn1⟩ := hQ.to bk hbm c hcm
            obtain ⟨⟨sa, a⟩, gA⟩ : ∃ y, A[c.toNat]? = some y := ⟨_, List.getElem?_eq_getElem (by omega)⟩
            have gA1 : (A.map Prod.fst)[c.toNat]? = some sa := by rw [List.getElem?_map, gA]; rfl
            have gA2 : (A.map Prod.snd)[c.toNat]? = some a := by rw [List.getElem?_map, gA]; rfl
            have gBk : ((B.map Prod.snd).set i b)[i]? = some b := List.getElem?_set_self (by simp; omega)
            have hal : a.length = R := hRI.si.ra a (List.mem_of_getElem? gA2)
            have hbl : b.length = R := hSk.rb b (List.mem_of_getElem? gBk)
            refine WP.seq ?_
            refine WP.block ?_
            refine Zp ?_
            refine Zm ?_
            refine Ze ?_
            refine WP.via (Γ' := [blk b1 (fcs F su sv) 25, slA 92 Enc.slice av.val (A.map Prod.fst), slA 4 Enc.bool sa.val a, rowsBut 4 Enc.bool c.toNat A, slA 92 Enc.slice bv.val (B.map Prod.fst), slA 4 Enc.bool sb.val b, rowsBut 4 Enc.bool i B]) ?_ ?_
            · refine ent.trans (Δ := rows 4 Enc.bool A :: [blk b1 (fcs F su sv) 25, slA 92 Enc.slice av.val (A.map Prod.fst), slA 92 Enc.slice bv.val (B.map Prod.fst), slA 4 Enc.bool sb.val b, rowsBut 4 Enc.bool i B]) ent.go ?_
              exact (rows_out gA _).trans ent.go
            refine WP.block ?_
            refine WP.loopK (α := Nat) (fun z => z ≤ R) (fun z => [(12, .int .i64 (z : Int))]) (fun z => [blk b1 (fcs F su sv) 25, slA 92 Enc.slice av.val (A.map Prod.fst), slA 4 Enc.bool sa.val a, rowsBut 4 Enc.bool c.toNat A, slA 92 Enc.slice bv.val (B.map Prod.fst), slA 4 Enc.bool sb.val ((orL b a).take z ++ b.drop z), rowsBut 4 Enc.bool i B]) (fun z => R - z) 0 (Nat.zero_le _) ⟨(by repeat first | exact trivial | refine ⟨rfl, ?_⟩), rfl, rfl⟩ ent.go ?_
            rintro r hr
            refine WP.seq ?_
            refine Zp ?_
            refine Zm ?_
            refine Zf fo_25_2 ?_
            refine Zl 0 ag_3 ?_
            refine Zi ?_
            refine Ze ?_
            refine WP.ite rfl (fun hlt3 => ?_) (fun hge3 => ?_)
            · refine Zb ?_
              obtain ⟨y, gy⟩ : ∃ y, a[r]? = some y := ⟨_, List.getElem?_eq_getElem (by omega)⟩
              obtain ⟨x, gx⟩ : ∃ y, b[r]? = some y := ⟨_, List.getElem?_eq_getElem (by omega)⟩
              obtain ⟨o1, o2⟩ := or_next gx gy
              have hol : ((orL b a).take r ++ b.drop r).length = R := by have := orL_len (a := a) (b := b) (by omega); simp; omega
              refine WP.seq ?_
              refine WP.block ?_
              refine Zp ?_
              iterate 3 refine Zm ?_
              refine Zx sl_22 hbt ?_
              refine Zr ag_3 (SlR.cell0 hbt gc rfl) ?_
              refine Run.idxO 1 rfl rfl rfl sl_88 rfl rfl rfl rfl (by omega) (by simp; omega) ?_
              refine Run.loadO 1 c.toNat 0 rfl rfl ag_92 rfl rfl rfl rfl gA1 rfl ?_
              refine Zm ?_
              refine Run.idxO 2 rfl rfl rfl sl_92 rfl rfl rfl rfl (by omega) (by omega) ?_
              refine Run.loadO 2 r 0 rfl rfl ag_4 rfl rfl rfl rfl gy rfl ?_
              refine Ze ?_
              cases y with
              | true =>
                refine Zyes ?_
                rw [Bool.or_true] at o1
                refine Zc ?_
                refine Zm ?_
                refine Zm ?_
                refine Run.idxO 4 rfl rfl rfl sl_88 rfl rfl rfl rfl (by omega) (by simp; omega) ?_
                refine Run.loadO 4 i 0 rfl rfl ag_92 rfl rfl rfl rfl gB1 rfl ?_
                refine Zm ?_
                refine Run.idxO 5 rfl rfl rfl sl_92 rfl rfl rfl rfl (by omega) (by rw [hol]; omega) ?_
                refine Run.storeO 5 r 0 (y' := true) rfl rfl rfl rfl ag_4 rfl rfl rfl rfl o2 rfl rfl ?_
                refine Run.nil ?_
                refine blk_norm ?_; refine thn_next ?_
                refine Zc ?_
                refine Zm ?_
                refine Za ?_
                refine Zm ?_
                refine Run.nil ?_
                refine thn_next ⟨r + 1, by omega, by omega, ⟨(by repeat first | exact trivial | refine ⟨rfl, ?_⟩), rfl, rfl⟩, ?_⟩
                rw [o1]; exact ent.gn
              | false =>
                refine Zno ?_
                rw [Bool.or_false, set_same o2] at o1
                refine WP.skip ?_; refine blk_norm ?_; refine thn_next ?_
                refine Zc ?_
                refine Zm ?_
                refine Za ?_
                refine Zm ?_
                refine Run.nil ?_
                refine thn_next ⟨r + 1, by omega, by omega, ⟨(by repeat first | exact trivial | refine ⟨rfl, ?_⟩), rfl, rfl⟩, ?_⟩
                rw [o1]; exact ent.gn
            · refine Zj ?_; refine blk_norm ?_; refine thn_next ?_
              have e : r = R := by omega
              subst e
              have e2 : (orL b a).take r ++ b.drop r = orL b a := by rw [List.take_of_length_le (by rw [orL_len (by omega)]; omega), List.drop_of_length_le (by omega), List.append_nil]
              refine Zc ?_
              refine Zm ?_
              refine Za ?_
              refine Zm ?_
              refine Run.nil ?_
              have hS2 := hSk.or hG hRR gb gBk hcm gA2
              rw [List.set_set] at hS2
              refine thn_next ⟨(k + 1, orL b a), ⟨by simp only; omega, hS2, ?_⟩, by simp only; omega, ⟨(by repeat first | exact trivial | refine ⟨rfl, ?_⟩), rfl, rfl⟩, ?_⟩
              · simp only
                rw [List.take_add_one, gc]
                intro c' hc' a' ha'
                rw [List.mem_append] at hc'
                rcases hc' with hc' | hc'
                · exact fun q q0 hq => by rw [orL_at (by omega), htk c' hc' a' ha' q q0 hq, Bool.true_or]
                · simp at hc'; subst hc'
                  rw [gA2] at ha'; cases ha'
                  exact fun q q0 hq => by rw [orL_at (by omega), hq, Bool.or_true]
              · simp only
                rw [e2]
                refine ent.trans (Δ := slA 4 Enc.bool sa.val a :: rowsBut 4 Enc.bool c.toNat A :: [blk b1 (fcs F su sv) 25, slA 92 Enc.slice av.val (A.map Prod.fst), slA 92 Enc.slice bv.val (B.map Prod.fst), slA 4 Enc.bool sb.val (orL b a), rowsBut 4 Enc.bool i B]) ent.go ?_
                refine (rows_in (p := A) (i := c.toNat) (by omega) _).trans ?_
                rw [set_same gA]
                exact ent.go
          · refine Zj ?_
            have e : k = bk.to.length := by omega
            subst e
            rw [List.take_length] at htk
            exact thn_next ⟨b, ⟨hSk, htk⟩, ⟨(by repeat first | exact trivial | refine ⟨rfl, ?_⟩), rfl, rfl⟩, ent.go⟩
        rintro b ⟨hSk, htk⟩
        have gBk : ((B.map Prod.snd).set i b)[i]? = some b := List.getElem?_set_self (by simp; omega)
        have hbl : b.length = R := hSk.rb b (List.mem_of_getElem? gBk)
        obtain ⟨⟨sa, a⟩, gA⟩ : ∃ y, A[i]? = some y := ⟨_, List.getElem?_eq_getElem (by omega)⟩
        have gA1 : (A.map Prod.fst)[i]? = some sa := by rw [List.getElem?_map, gA]; rfl
        have gA2 : (A.map Prod.snd)[i]? = some a := by rw [List.getElem?_map, gA]; rfl
        have hal : a.length = R := hRI.si.ra a (List.mem_of_getElem? gA2)
        have hstep := RI.step hG hRR hRI.lt hRI.le (fun hm q blk a' b' hq hb' ha' hbb' => by
          rw [List.getElem?_set_ne (by omega)] at hbb'
          exact hRI.cl hm q blk a' b' hq hb' ha' hbb') hSk gb gA2 gBk htk
        have hsl : (startL bk b).length = R := by rw [startL_len, hbl]
        refine WP.seq ?_
        refine WP.drawn0 cf0 mixed rfl (by kernel_rfl) ?_
        refine Zf fo_25_4 ?_
        refine Zl 0 ag_23 ?_
        refine Zm ?_
        refine Zx sl_23 hv ?_
        refine Run.loadRagg rfl rfl ag_56 rfl rfl hrow (by rfl) ?_
        refine Zm ?_
        refine Zm ?_
        refine Run.idxO 3 rfl rfl rfl sl_88 rfl rfl rfl rfl (by omega) (by simp; omega) ?_
        refine Run.loadO 3 i 0 rfl rfl ag_92 rfl rfl rfl rfl gB1 rfl ?_
        refine Run.callLend (Δ := []) (Θ := [slA 4 Enc.bool sb.val b]) (Ξ := [blk b1 (fcs F su sv) 25, slA 92 Enc.slice av.val (A.map Prod.fst), rows 4 Enc.bool A, slA 92 Enc.slice bv.val (B.map Prod.fst), rowsBut 4 Enc.bool i B]) rfl rfl rfl rfl ok_66 rfl rfl ent.go (fun g hg hd => start_ok (un hR g) bu bt sb bk b (hbu.mono (sub_un_left hR g)) (lent_at 0 rfl hg hd) (fun x hx => ⟨fun a ha => by have := hG.args bk hbm x hx a ha; omega, fun h => by have := hG.dst bk hbm x hx h; omega⟩) (fun h => by have := hG.val bk hbm h; omega) hbs has (by omega)) ?_; rintro _ _ ⟨ns, rfl, rfl⟩
        refine Zm ?_
        refine Ze ?_
        generalize startL bk b = s at hstep hsl ⊢
        refine WP.sup (ρ' := [(13, ns.val), (9, .int .i64 (i : Int)), (8, .bool more), (9, .int .i64 ((F.blocks.length : Int) - 1)), (8, .bool false), (8, .bool true), (1, .pointer (some ⟨b1, 0, none⟩)), (4, .int .i64 (F.blocks.length : Int)), (5, av.val), (6, bv.val)]) (Γ' := [blk b1 (fcs F su sv) 25, slA 92 Enc.slice av.val (A.map Prod.fst), slA 4 Enc.bool sa.val a, rowsBut 4 Enc.bool i A, slA 92 Enc.slice bv.val (B.map Prod.fst), slA 4 Enc.bool sb.val b, slA 4 Enc.bool ns.val s, rowsBut 4 Enc.bool i B]) (Kp.sup (car := [(13, ns.val), (9, .int .i64 (i : Int)), (8, .bool more)]) (ρ := [(9, .int .i64 ((F.blocks.length : Int) - 1)), (8, .bool false), (8, .bool true), (1, .pointer (some ⟨b1, 0, none⟩)), (4, .int .i64 (F.blocks.length : Int)), (5, av.val), (6, bv.val)]) ⟨(by repeat first | exact trivial | refine ⟨rfl, ?_⟩), rfl, rfl⟩) ?_ ?_
        · refine ent.trans (Δ := rows 4 Enc.bool A :: [blk b1 (fcs F su sv) 25, slA 92 Enc.slice av.val (A.map Prod.fst), slA 92 Enc.slice bv.val (B.map Prod.fst), slA 4 Enc.bool sb.val b, slA 4 Enc.bool ns.val s, rowsBut 4 Enc.bool i B]) ent.gn ?_
          exact (rows_out gA _).trans ent.go
        refine WP.meetK (α := Unit) (fun _ => True) (fun _ => [(8, .bool (more || decide (s ≠ a)))]) (fun _ => [blk b1 (fcs F su sv) 25, slA 92 Enc.slice av.val (A.map Prod.fst), slA 4 Enc.bool sa.val a, rowsBut 4 Enc.bool i A, slA 92 Enc.slice bv.val (B.map Prod.fst), slA 4 Enc.bool sb.val b, slA 4 Enc.bool ns.val s, rowsBut 4 Enc.bool i B]) ?_ ?_
        · refine Zp ?_
          refine Zm ?_
          refine Ze ?_
          refine WP.block ?_
          refine WP.loopK (α := Nat) (fun z => z ≤ R) (fun z => [(14, .int .i64 (z : Int)), (8, .bool (more || decide (s.take z ≠ a.take z)))]) (fun z => [blk b1 (fcs F su sv) 25, slA 92 Enc.slice av.val (A.map Prod.fst), slA 4 Enc.bool sa.val a, rowsBut 4 Enc.bool i A, slA 92 Enc.slice bv.val (B.map Prod.fst), slA 4 Enc.bool sb.val b, slA 4 Enc.bool ns.val s, rowsBut 4 Enc.bool i B]) (fun z => R - z) 0 (Nat.zero_le _) ⟨⟨rfl, by simp [Env.get]; rfl, trivial⟩, rfl, rfl⟩ (ent.refl _) ?_
          rintro r hr
          refine WP.seq ?_
          refine Zp ?_
          refine Zm ?_
          refine Zf fo_25_2 ?_
          refine Zl 0 ag_3 ?_
          refine Zi ?_
          refine Ze ?_
          refine WP.ite rfl (fun hlt3 => ?_) (fun hge3 => ?_)
          · refine Zb ?_
            obtain ⟨y, gy⟩ : ∃ y, a[r]? = some y := ⟨_, List.getElem?_eq_getElem (by omega)⟩
            obtain ⟨x, gx⟩ : ∃ y, s[r]? = some y := ⟨_, List.getElem?_eq_getElem (by omega)⟩
            have hne : decide (s.take (r + 1) ≠ a.take (r + 1)) = (decide (s.take r ≠ a.take r) || !(x == y)) := by
              rw [List.take_add_one, List.take_add_one, gx, gy]
              by_cases e1 : s.take r = a.take r
              · by_cases e2 : x = y
                · subst e2; simp [e1]
                · simp [e1, e2]
              · have : ¬ (s.take r ++ [x] = a.take r ++ [y]) := fun h => e1 (List.append_inj_left' h rfl)
                simp [e1, this]
            refine WP.seq ?_
            refine WP.block ?_
            refine WP.seq ?_
            refine WP.drawn0 cf0 mixed rfl (by kernel_rfl) ?_
            refine Zm ?_
            refine Zm ?_
            refine Run.idxO 6 rfl rfl rfl sl_92 rfl rfl rfl rfl (by omega) (by omega) ?_
            refine Run.loadO 6 r 0 rfl rfl ag_4 rfl rfl rfl rfl gx rfl ?_
            refine Zm ?_
            refine Zm ?_
            refine Run.idxO 1 rfl rfl rfl sl_88 rfl rfl rfl rfl (by omega) (by simp; omega) ?_
            refine Run.loadO 1 i 0 rfl rfl ag_92 rfl rfl rfl rfl gA1 rfl ?_
            refine Zm ?_
            refine Run.idxO 2 rfl rfl rfl sl_92 rfl rfl rfl rfl (by omega) (by omega) ?_
            refine Run.loadO 2 r 0 rfl rfl ag_4 rfl rfl rfl rfl gy rfl ?_
            refine Run.neB rfl rfl rfl und_4 rfl rfl ?_
            refine Ze ?_
            refine WP.cond (t := !(x == y)) rfl (fun hxy => ?_) (fun hxy => ?_)
            · refine Zc ?_
              refine Zm ?_
              refine Run.nil ?_
              refine blk_norm ?_; refine thn_next ?_
              refine Zc ?_
              refine Zm ?_
              refine Za ?_
              refine Zm ?_
              refine Run.nil ?_
              refine thn_next ⟨r + 1, by omega, by omega, ⟨⟨rfl, ?_, trivial⟩, rfl, rfl⟩, ent.refl _⟩
              rw [hne, hxy, Bool.or_true, Bool.or_true]; rfl
            · refine WP.skip ?_; refine blk_norm ?_; refine thn_next ?_
              refine Zc ?_
              refine Zm ?_
              refine Za ?_
              refine Zm ?_
              refine Run.nil ?_
              refine thn_next ⟨r + 1, by omega, by omega, ⟨⟨rfl, ?_, trivial⟩, rfl, rfl⟩, ent.refl _⟩
              rw [hne, hxy, Bool.or_false]; rfl
          · refine Zj ?_
            have e : r = R := by omega
            subst e
            refine thn_next ⟨(), trivial, ⟨⟨?_, trivial⟩, rfl, rfl⟩, ent.refl _⟩
            have e1 : s.take r = s := List.take_of_length_le (by omega)
            have e2 : a.take r = a := List.take_of_length_le (by omega)
            show some (Value.bool (more || decide (s.take r ≠ a.take r))) = _
            rw [e1, e2]
        rintro _ _
        refine Zc ?_
        iterate 3 refine Zm ?_
        refine Run.idxO 1 rfl rfl rfl sl_88 rfl rfl rfl rfl (by omega) (by simp; omega) ?_
        refine Run.storeO 1 i 0 (y' := ns) rfl rfl rfl rfl ag_92 rfl rfl rfl rfl gA1 rfl rfl ?_
        refine Run.nil ?_
        refine blk_norm ?_; refine thn_next ?_
        refine Zc ?_
        refine Zm ?_
        refine Zs ?_
        refine Zm ?_
        refine Run.nil ?_
        have e1 : (A.map Prod.fst).set i ns = (A.set i (ns, s)).map Prod.fst := by rw [List.map_set]
        have e2 : (B.set i (sb, b)).map Prod.fst = B.map Prod.fst := map_fst_set gB
        refine thn_next ⟨(j + 1, (more || decide (s ≠ a)), A.set i (ns, s), B.set i (sb, b)), ⟨by simp only; omega, ?_⟩, by simp only; omega, ⟨⟨?_, rfl, trivial⟩, rfl, rfl⟩, ?_⟩
        · simp only [map_snd_set]
          have : F.blocks.length - (j + 1) = i := by omega
          rw [this]; exact hstep
        · simp [Env.get]; omega
        · simp only
          rw [← e1, e2]
          refine ent.trans (Δ := slA 4 Enc.bool ns.val s :: rowsBut 4 Enc.bool i A :: slA 4 Enc.bool sb.val b :: rowsBut 4 Enc.bool i B :: [blk b1 (fcs F su sv) 25, slA 92 Enc.slice av.val ((A.map Prod.fst).set i ns), slA 92 Enc.slice bv.val (B.map Prod.fst)]) ent.gn ?_
          refine (rows_in (p := A) (i := i) (by omega) _).trans ?_
          refine ent.trans (Δ := slA 4 Enc.bool sb.val b :: rowsBut 4 Enc.bool i B :: rows 4 Enc.bool (A.set i (ns, s)) :: [blk b1 (fcs F su sv) 25, slA 92 Enc.slice av.val ((A.map Prod.fst).set i ns), slA 92 Enc.slice bv.val (B.map Prod.fst)]) ent.go ?_
          exact (rows_in (p := B) (i := i) (by omega) _).trans ent.go
      · refine Zj ?_; refine blk_norm ?_
        have e : j = F.blocks.length := by omega
        subst e
        rw [Nat.sub_self] at hRI
        refine thn_next ⟨(more, A, B), ⟨hRI.si, hRI.cl⟩, ?_, ⟨(by repeat first | exact trivial | refine ⟨rfl, ?_⟩), rfl, rfl⟩, ent.go⟩
        have h1 := hRI.lt
        have h2 := hRI.le
        simp only
        cases more with
        | false => simp; omega
        | true => have := h1 rfl; simp; omega
  rintro ⟨A, B⟩ ⟨hSI, hcl⟩
  simp only at hSI hcl ⊢
  refine Zp ?_
  iterate 4 refine Zm ?_
  refine Ze ?_
  refine WP.ret ?_
  exact retT [2, 3] _ rfl rfl ⟨_, ent.go, av, bv, A, B, rfl, by rw [eR]; exact hSI, hcl, rfl⟩
end Go.Proofs.YtjjfehdlmdhhmaaDoor
end
section
/- The document's answer: what is live; walked. -/
namespace Go.Proofs.YtjjfehdlmdhhmaaDoor
open Go.Sep
set_option linter.unusedSimpArgs false
set_option linter.unusedVariables false
attribute [local irreducible] blk slA mp mpF rows rowsBut many
set_option maxHeartbeats 1000000 in
set_option maxRecDepth 100000 in
theorem refLive_ok (hR : Heap) (F : LFun) (su sv : SV) (hV : FunV hR F su sv) (hS : SmallF F) :
    Tri Tryd.prog hR 13 #[.agg ⟨fcs F su sv⟩] [] (LiveRes F) := by
  refine Tri.ent (Tri.of (args := [.agg ⟨fcs F su sv⟩]) Tryd.func13 rfl Tryd.ntmps13 (by simp) ?_)
  have hv := hV.hv
  have hsb := hV.sb
  refine Zp ?_
  refine Run.box rfl rfl rfl rfl rfl ?_
  intro b1
  iterate 3 refine Zm ?_
  refine Ze ?_
  refine WP.sup (ρ' := [(1, .pointer (some ⟨b1, 0, none⟩)), (2, .slice none 0 0), (3, .slice none 0 0), (4, .int .i64 0)]) (Γ' := [blk b1 (fcs F su sv) 25]) (covers_get ⟨rfl, rfl, rfl, rfl, trivial⟩) ent.go ?_
  refine WP.seq ?_
  refine Zp ?_
  refine Run.loadBagg 0 rfl rfl ag_25 rfl rfl rfl rfl rfl ?_
  refine Run.call (Δ := []) (Θ := [blk b1 (fcs F su sv) 25]) rfl rfl rfl rfl ok_21 rfl rfl ent.go (refFormed_ok hR F su sv hV hS) ?_; rintro _ _ ⟨rfl, rfl⟩
  refine Run.bnotB rfl rfl rfl rfl ?_
  refine Ze ?_
  cases hform : formB F with
  | false =>
    refine Zyes ?_
    refine Zp ?_
    iterate 3 refine Zm ?_
    refine Ze ?_
    refine WP.ret ?_; refine thn_ret ?_
    exact retT [2, 3, 4] _ rfl rfl ⟨[], ent.go, .inl ⟨hform, rfl, rfl⟩⟩
  | true =>
  refine Zno ?_
  refine Zb ?_
  have hQ := formQ hform
  refine Zp ?_
  refine Run.loadBagg 0 rfl rfl ag_25 rfl rfl rfl rfl rfl ?_
  refine Run.call (Δ := []) (Θ := [blk b1 (fcs F su sv) 25]) rfl rfl rfl rfl ok_34 rfl rfl ent.go (sets_ok hR F su sv hV hS hQ) ?_; rintro _ _ ⟨av, bv, A, B, rfl, hSI, hcl, rfl⟩
  refine Zm ?_
  refine Run.extract rfl rfl rfl rfl rfl ?_
  refine Run.extract rfl rfl rfl rfl rfl ?_
  refine Zm ?_
  refine Zm ?_
  refine Ze ?_
  have hRR : ((F.regs.toNat : Nat) : Int) = F.regs := by have := hQ.r0; omega
  have hA : A.length = F.blocks.length := by have := hSI.la; simpa using this
  have hB : B.length = F.blocks.length := by have := hSI.lb; simpa using this
  have hr1 := hQ.r1
  obtain ⟨d1, d2⟩ := hSI.done hQ.regs hRR hcl
  have hah : ∀ {q : Nat} {a : List Bool}, (A.map Prod.snd)[q]? = some a → a.length ≤ 1000000 ∧ numsL 0 a = aheadOf F q := fun {q a} g => by
    have h1 := hSI.ra a (List.mem_of_getElem? g)
    exact ⟨by omega, numsL_eq (by rw [h1]; exact hRR) fun r r0 _ => d1 q a r g r0⟩
  have hbe : ∀ {q : Nat} {a : List Bool}, (B.map Prod.snd)[q]? = some a → a.length ≤ 1000000 ∧ numsL 0 a = behindOf F q := fun {q a} g => by
    have h1 := hSI.rb a (List.mem_of_getElem? g)
    exact ⟨by omega, numsL_eq (by rw [h1]; exact hRR) fun r r0 _ => d2 q a r g r0⟩
  clear hSI hcl d1 d2
  refine Zp ?_
  refine Zm ?_
  refine Zm ?_
  refine Ze ?_
  refine WP.sup (ρ' := [(1, .pointer (some ⟨b1, 0, none⟩)), (5, av.val), (6, bv.val), (7, .slice none 0 0), (8, .slice none 0 0)]) (Γ' := [blk b1 (fcs F su sv) 25, slA 92 Enc.slice av.val (A.map Prod.fst), rows 4 Enc.bool A, slA 92 Enc.slice bv.val (B.map Prod.fst), rows 4 Enc.bool B, slA 22 Enc.slice nilS.val [], rows 3 (Enc.int .i64) [], slA 22 Enc.slice nilS.val [], rows 3 (Enc.int .i64) []]) (covers_get ⟨rfl, rfl, rfl, rfl, rfl, trivial⟩) ?_ ?_
  · have h1 := slA_nil 22 Enc.slice [blk b1 (fcs F su sv) 25, slA 92 Enc.slice av.val (A.map Prod.fst), rows 4 Enc.bool A, slA 92 Enc.slice bv.val (B.map Prod.fst), rows 4 Enc.bool B]
    have h2 := slA_nil 22 Enc.slice ([blk b1 (fcs F su sv) 25, slA 92 Enc.slice av.val (A.map Prod.fst), rows 4 Enc.bool A, slA 92 Enc.slice bv.val (B.map Prod.fst), rows 4 Enc.bool B] ++ [slA 22 Enc.slice (.slice none 0 0) []])
    have h3 := rows_new (T := 3) (E := Enc.int .i64) (([blk b1 (fcs F su sv) 25, slA 92 Enc.slice av.val (A.map Prod.fst), rows 4 Enc.bool A, slA 92 Enc.slice bv.val (B.map Prod.fst), rows 4 Enc.bool B] ++ [slA 22 Enc.slice (.slice none 0 0) []]) ++ [slA 22 Enc.slice (.slice none 0 0) []])
    have h4 := rows_new (T := 3) (E := Enc.int .i64) (rows 3 (Enc.int .i64) [] :: (([blk b1 (fcs F su sv) 25, slA 92 Enc.slice av.val (A.map Prod.fst), rows 4 Enc.bool A, slA 92 Enc.slice bv.val (B.map Prod.fst), rows 4 Enc.bool B] ++ [slA 22 Enc.slice (.slice none 0 0) []]) ++ [slA 22 Enc.slice (.slice none 0 0) []]))
    exact ent.trans ent.go (h1.trans (h2.trans (h3.trans (h4.trans ent.go))))
  refine WP.meetK (α := SV × List (SV × List Int) × SV × List (SV × List Int)) (fun z => z.2.1.map Prod.snd = (List.range F.blocks.length).map (aheadOf F) ∧ z.2.2.2.map Prod.snd = (List.range F.blocks.length).map (behindOf F)) (fun z => [(7, z.1.val), (8, z.2.2.1.val)]) (fun z => [blk b1 (fcs F su sv) 25, slA 92 Enc.slice av.val (A.map Prod.fst), rows 4 Enc.bool A, slA 92 Enc.slice bv.val (B.map Prod.fst), rows 4 Enc.bool B, slA 22 Enc.slice z.1.val (z.2.1.map Prod.fst), rows 3 (Enc.int .i64) z.2.1, slA 22 Enc.slice z.2.2.1.val (z.2.2.2.map Prod.fst), rows 3 (Enc.int .i64) z.2.2.2]) ?_ ?_
  · refine Zp ?_
    refine Zm ?_
    refine Ze ?_
    refine WP.block ?_
    refine WP.loopK (α := Nat × SV × List (SV × List Int) × SV × List (SV × List Int)) (fun z => z.1 ≤ F.blocks.length ∧ z.2.2.1.map Prod.snd = (List.range z.1).map (aheadOf F) ∧ z.2.2.2.2.map Prod.snd = (List.range z.1).map (behindOf F)) (fun z => [(9, .int .i64 (z.1 : Int)), (7, z.2.1.val), (8, z.2.2.2.1.val)]) (fun z => [blk b1 (fcs F su sv) 25, slA 92 Enc.slice av.val (A.map Prod.fst), rows 4 Enc.bool A, slA 92 Enc.slice bv.val (B.map Prod.fst), rows 4 Enc.bool B, slA 22 Enc.slice z.2.1.val (z.2.2.1.map Prod.fst), rows 3 (Enc.int .i64) z.2.2.1, slA 22 Enc.slice z.2.2.2.1.val (z.2.2.2.2.map Prod.fst), rows 3 (Enc.int .i64) z.2.2.2.2]) (fun z => F.blocks.length - z.1) (0, nilS, [], nilS, []) ⟨Nat.zero_le _, rfl, rfl⟩ ⟨(by repeat first | exact trivial | refine ⟨rfl, ?_⟩), rfl, rfl⟩ ent.go ?_
    rintro ⟨i, o1, P, o2, Q⟩ ⟨hi, hP, hQ'⟩
    simp only at hi hP hQ' ⊢
    have hAm : (A.map Prod.fst).length = F.blocks.length := by simp [hA]
    refine WP.seq ?_
    refine Zp ?_
    refine Zm ?_
    refine Zm ?_
    refine Run.lenO 1 rfl rfl sl_88 rfl rfl rfl ?_
    refine Zi ?_
    refine Ze ?_
    refine WP.ite rfl (fun hlt => ?_) (fun hge => ?_)
    · refine Zb ?_
      have hin : i < F.blocks.length := by omega
      obtain ⟨⟨sa, a⟩, ga⟩ : ∃ y, A[i]? = some y := ⟨_, List.getElem?_eq_getElem (by omega)⟩
      obtain ⟨⟨sw, w⟩, gw⟩ : ∃ y, B[i]? = some y := ⟨_, List.getElem?_eq_getElem (by omega)⟩
      have ga1 : (A.map Prod.fst)[i]? = some sa := by rw [List.getElem?_map, ga]; rfl
      have ga2 : (A.map Prod.snd)[i]? = some a := by rw [List.getElem?_map, ga]; rfl
      have gw1 : (B.map Prod.fst)[i]? = some sw := by rw [List.getElem?_map, gw]; rfl
      have gw2 : (B.map Prod.snd)[i]? = some w := by rw [List.getElem?_map, gw]; rfl
      obtain ⟨la, ea⟩ := hah ga2
      obtain ⟨lw, eb⟩ := hbe gw2
      have hPl : P.length = i := by have := congrArg List.length hP; simpa using this
      have hQl : Q.length = i := by have := congrArg List.length hQ'; simpa using this
      refine WP.seq ?_
      refine WP.block ?_
      refine Zp ?_
      iterate 3 refine Zm ?_
      refine Run.idxO 1 rfl rfl rfl sl_88 rfl rfl rfl rfl (by omega) (by omega) ?_
      refine Run.loadO 1 i 0 rfl rfl ag_92 rfl rfl rfl rfl ga1 rfl ?_
      refine Run.callLend (Δ := []) (Θ := [rows 4 Enc.bool A]) (Ξ := [blk b1 (fcs F su sv) 25, slA 92 Enc.slice av.val (A.map Prod.fst), slA 92 Enc.slice bv.val (B.map Prod.fst), rows 4 Enc.bool B, slA 22 Enc.slice o1.val (P.map Prod.fst), rows 3 (Enc.int .i64) P, slA 22 Enc.slice o2.val (Q.map Prod.fst), rows 3 (Enc.int .i64) Q]) rfl rfl rfl rfl ok_35 rfl rfl ent.go (fun g hg hd => refTold_ok (un hR g) sa a (lent_row 0 rfl ga hg hd) la) ?_; rintro _ _ ⟨s1, rfl, rfl⟩
      refine Run.buildSlice (E := Enc.slice) rfl sl_30 zr_22 ([s1]) rfl rfl rfl (by decide) rfl rfl ?_
      intro b30
      refine Run.append 6 rfl rfl rfl rfl rfl rfl sl_30 zr_22 rfl (src_own 10 rfl) (by first | omega | (simp <;> omega)) (by first | omega | (simp <;> omega)) ?_
      intro sv31 hv31
      refine Zm ?_
      refine Ze ?_
      have e1 : (P.map Prod.fst) ++ [s1] = (P ++ [(s1, aheadOf F i)]).map Prod.fst := by simp
      rw [ea]
      refine WP.via (Γ' := [blk b1 (fcs F su sv) 25, slA 92 Enc.slice av.val (A.map Prod.fst), rows 4 Enc.bool A, slA 92 Enc.slice bv.val (B.map Prod.fst), rows 4 Enc.bool B, slA 22 Enc.slice sv31.val ((P ++ [(s1, aheadOf F i)]).map Prod.fst), rows 3 (Enc.int .i64) (P ++ [(s1, aheadOf F i)]), slA 22 Enc.slice o2.val (Q.map Prod.fst), rows 3 (Enc.int .i64) Q]) ?_ ?_
      · rw [← e1]
        refine ent.trans (Δ := rows 3 (Enc.int .i64) P :: slA 3 (Enc.int .i64) s1.val (aheadOf F i) :: [blk b1 (fcs F su sv) 25, slA 92 Enc.slice av.val (A.map Prod.fst), rows 4 Enc.bool A, slA 92 Enc.slice bv.val (B.map Prod.fst), rows 4 Enc.bool B, slA 22 Enc.slice sv31.val ((P.map Prod.fst) ++ [s1]), slA 22 Enc.slice o2.val (Q.map Prod.fst), rows 3 (Enc.int .i64) Q]) ent.gn ?_
        exact (rows_snoc _).trans ent.go
      refine Zc ?_
      iterate 3 refine Zm ?_
      refine Run.idxO 3 rfl rfl rfl sl_88 rfl rfl rfl rfl (by omega) (by simp; omega) ?_
      refine Run.loadO 3 i 0 rfl rfl ag_92 rfl rfl rfl rfl gw1 rfl ?_
      refine Run.callLend (Δ := []) (Θ := [rows 4 Enc.bool B]) (Ξ := [blk b1 (fcs F su sv) 25, slA 92 Enc.slice av.val (A.map Prod.fst), rows 4 Enc.bool A, slA 92 Enc.slice bv.val (B.map Prod.fst), slA 22 Enc.slice sv31.val ((P ++ [(s1, aheadOf F i)]).map Prod.fst), rows 3 (Enc.int .i64) (P ++ [(s1, aheadOf F i)]), slA 22 Enc.slice o2.val (Q.map Prod.fst), rows 3 (Enc.int .i64) Q]) rfl rfl rfl rfl ok_35 rfl rfl ent.go (fun g hg hd => refTold_ok (un hR g) sw w (lent_row 0 rfl gw hg hd) lw) ?_; rintro _ _ ⟨s2, rfl, rfl⟩
      refine Run.buildSlice (E := Enc.slice) rfl sl_30 zr_22 ([s2]) rfl rfl rfl (by decide) rfl rfl ?_
      intro b38
      refine Run.append 8 rfl rfl rfl rfl rfl rfl sl_30 zr_22 rfl (src_own 10 rfl) (by first | omega | (simp <;> omega)) (by first | omega | (simp <;> omega)) ?_
      intro sv39 hv39
      refine Zm ?_
      refine Run.nil ?_
      refine blk_norm ?_; refine thn_next ?_
      refine Zc ?_
      refine Zm ?_
      refine Za ?_
      refine Zm ?_
      refine Run.nil ?_
      have e2 : (Q.map Prod.fst) ++ [s2] = (Q ++ [(s2, behindOf F i)]).map Prod.fst := by simp
      refine thn_next ⟨(i + 1, sv31, P ++ [(s1, aheadOf F i)], sv39, Q ++ [(s2, behindOf F i)]), ⟨by simp only; omega, by rw [range_map_succ, ← hP]; simp, by rw [range_map_succ, ← hQ']; simp⟩, by simp only; omega, ⟨(by repeat first | exact trivial | refine ⟨rfl, ?_⟩), rfl, rfl⟩, ?_⟩
      simp only
      rw [← e2, eb]
      refine ent.trans (Δ := rows 3 (Enc.int .i64) Q :: slA 3 (Enc.int .i64) s2.val (behindOf F i) :: [blk b1 (fcs F su sv) 25, slA 92 Enc.slice av.val (A.map Prod.fst), rows 4 Enc.bool A, slA 92 Enc.slice bv.val (B.map Prod.fst), rows 4 Enc.bool B, slA 22 Enc.slice sv31.val ((P ++ [(s1, aheadOf F i)]).map Prod.fst), rows 3 (Enc.int .i64) (P ++ [(s1, aheadOf F i)]), slA 22 Enc.slice sv39.val ((Q.map Prod.fst) ++ [s2])]) ent.gn ?_
      exact (rows_snoc _).trans ent.go
    · refine Zj ?_
      have e : i = F.blocks.length := by omega
      subst e
      exact thn_next ⟨(o1, P, o2, Q), ⟨hP, hQ'⟩, ⟨(by repeat first | exact trivial | refine ⟨rfl, ?_⟩), rfl, rfl⟩, ent.go⟩
  rintro ⟨o1, P, o2, Q⟩ ⟨hP, hQ'⟩
  simp only at hP hQ' ⊢
  refine Zp ?_
  iterate 5 refine Zm ?_
  refine Ze ?_
  refine WP.ret ?_
  exact retT [2, 3, 4] _ rfl rfl ⟨_, ent.go, .inr ⟨hform, o1, o2, P, Q, rfl, hP, hQ', rfl⟩⟩
end Go.Proofs.YtjjfehdlmdhhmaaDoor
end
