/- Rows of words: a bit put in, a bit taken out; walked. -/
import Derived.Test.YtjjfehdlmdhhmaaDoorGL7
import Derived.Test.YtjjfehdlmdhhmaaDoorGT1
import Derived.Test.YtjjfehdlmdhhmaaDoorGL5
import Derived.Lib.TrailingZeros
import Derived.Test.YtjjfehdlmdhhmaaDoorGT2
section
/- Rows of words: a bit put in, a bit taken out; walked. -/
namespace Go.Proofs.YtjjfehdlmdhhmaaDoor
open Go.Sep
set_option linter.unusedSimpArgs false
set_option linter.unusedVariables false
attribute [local irreducible] blk slA mp mpF rows rowsBut many
theorem shr6 (n : Nat) : shiftR .shr .i64 (n : Int) 6 = some (.int .i64 ((n / 64 : Nat) : Int)) := by
  show some (Value.int .i64 (Int.fdiv (n : Int) 64)) = _
  rw [Int.fdiv_eq_ediv_of_nonneg _ (by decide)]; rfl
theorem and63 (n : Nat) (h : n < 4611686018427387904) : intOpR .and .i64 (n : Int) 63 = some (.int .i64 ((n % 64 : Nat) : Int)) := by
  have e1 : BitVec.ofInt 64 (n : Int) = BitVec.ofNat 64 n := by simp
  have e2 : BitVec.ofInt 64 (63 : Int) = BitVec.ofNat 64 63 := rfl
  show some (Value.int .i64 (IntKind.i64.wrap ((BitVec.ofInt 64 (n : Int) &&& BitVec.ofInt 64 (63 : Int)).toNat : Int))) = _
  rw [e1, e2, BitVec.toNat_and, BitVec.toNat_ofNat, BitVec.toNat_ofNat, Nat.mod_eq_of_lt (by omega : n < 2 ^ 64), Nat.mod_eq_of_lt (by decide : 63 < 2 ^ 64)]
  have e3 : n &&& 63 = n % 64 := Nat.and_two_pow_sub_one_eq_mod n 6
  rw [e3, wrapI (by omega) (by omega)]
theorem shl1 (m : Nat) (h : m < 64) : shiftR .shl .u64 1 (m : Int) = some (.int .u64 ((1#64 <<< m).toNat : Int)) := by
  have hb : ¬ ((m : Int) < 0) := by omega
  unfold shiftR
  rw [if_neg hb]
  have hmin : min (m : Int).toNat IntKind.u64.bits = m := by simp [IntKind.bits]; omega
  simp only [hmin]
  have hp : 2 ^ m < 18446744073709551616 := Nat.pow_lt_pow_right (by decide) (by omega : m < 64)
  have e : (1 : Int) * 2 ^ m = ((2 ^ m : Nat) : Int) := by simp
  rw [e, wrap_u64 hp]
  have : (1#64 <<< m).toNat = 2 ^ m := by
    rw [BitVec.toNat_shiftLeft]; simp [Nat.shiftLeft_eq]; exact hp
  rw [this]
abbrev setB (w : BitVec 64) (m : Nat) : BitVec 64 := w ||| (1#64 <<< m)
abbrev clrB (w : BitVec 64) (m : Nat) : BitVec 64 := w &&& ~~~ (1#64 <<< m)
/-- bit n -/
def bitW (ws : List (BitVec 64)) (n : Nat) : Bool := match ws[n / 64]? with | some w => w.getLsbD (n % 64) | none => false
def putW (ws : List (BitVec 64)) (n : Nat) : List (BitVec 64) := match ws[n / 64]? with | some w => ws.set (n / 64) (setB w (n % 64)) | none => ws
def dropW (ws : List (BitVec 64)) (n : Nat) : List (BitVec 64) := match ws[n / 64]? with | some w => ws.set (n / 64) (clrB w (n % 64)) | none => ws
set_option maxRecDepth 100000 in
theorem put_ok (hR : Heap) (sv : SV) (ws : List (BitVec 64)) (n : Nat) (hn : n < 64 * ws.length) (hl : ws.length ≤ 1000000) :
    Tri Tryd.prog hR 81 #[sv.val, .int .i64 (n : Int)] [slA 134 Enc.u64 sv.val ws] fun _ Γ' => Γ' = [slA 134 Enc.u64 sv.val (putW ws n)] := by
  refine Tri.of (args := [sv.val, .int .i64 (n : Int)]) Tryd.func81 rfl Tryd.ntmps81 (by simp) ?_
  obtain ⟨w, gw⟩ : ∃ w, ws[n / 64]? = some w := ⟨_, List.getElem?_eq_getElem (by omega)⟩
  have gw' : ws[((n / 64 : Nat) : Int).toNat]? = some w := gw
  have hlt : n / 64 < ws.length := by omega
  have ep : putW ws n = ws.set (n / 64) (setB w (n % 64)) := by unfold putW; rw [gw]
  have h63 := and63 n (by omega)
  have h6 := shr6 n
  have h1 := shl1 (n % 64) (by omega)
  have ho := or_u64 w (1#64 <<< (n % 64))
  rw [ep]
  refine WP.drawn0 cf0 mixed rfl (by kernel_rfl) ?_
  refine Zm ?_
  refine Zm ?_
  refine Run.shift rfl rfl rfl h6 rfl rfl ?_
  refine Run.idxO 0 rfl rfl rfl sl_84 rfl rfl rfl rfl (by omega) (by omega) ?_
  refine Run.loadO 0 (n / 64) 0 rfl rfl ag_134 rfl rfl rfl rfl gw rfl ?_
  refine Zm ?_
  refine Run.int2 rfl rfl rfl h63 rfl rfl ?_
  refine Run.shift rfl rfl rfl h1 rfl rfl ?_
  refine Run.int2 rfl rfl rfl ho rfl rfl ?_
  refine Run.idxO 0 rfl rfl rfl sl_84 rfl rfl rfl rfl (by omega) (by omega) ?_
  refine Run.storeO 0 (n / 64) 0 (y' := setB w (n % 64)) rfl rfl rfl rfl ag_134 rfl rfl rfl rfl gw rfl rfl ?_
  refine Run.nil ?_
  exact retN [] [] rfl rfl rfl
set_option maxRecDepth 100000 in
theorem drop_ok (hR : Heap) (sv : SV) (ws : List (BitVec 64)) (n : Nat) (hn : n < 64 * ws.length) (hl : ws.length ≤ 1000000) :
    Tri Tryd.prog hR 83 #[sv.val, .int .i64 (n : Int)] [slA 134 Enc.u64 sv.val ws] fun _ Γ' => Γ' = [slA 134 Enc.u64 sv.val (dropW ws n)] := by
  refine Tri.of (args := [sv.val, .int .i64 (n : Int)]) Tryd.func83 rfl Tryd.ntmps83 (by simp) ?_
  obtain ⟨w, gw⟩ : ∃ w, ws[n / 64]? = some w := ⟨_, List.getElem?_eq_getElem (by omega)⟩
  have gw' : ws[((n / 64 : Nat) : Int).toNat]? = some w := gw
  have hlt : n / 64 < ws.length := by omega
  have ep : dropW ws n = ws.set (n / 64) (clrB w (n % 64)) := by unfold dropW; rw [gw]
  have h63 := and63 n (by omega)
  have h6 := shr6 n
  have h1 := shl1 (n % 64) (by omega)
  have ho := andNot_u64 w (1#64 <<< (n % 64))
  rw [ep]
  refine WP.drawn0 cf0 mixed rfl (by kernel_rfl) ?_
  refine Zm ?_
  refine Zm ?_
  refine Run.shift rfl rfl rfl h6 rfl rfl ?_
  refine Run.idxO 0 rfl rfl rfl sl_84 rfl rfl rfl rfl (by omega) (by omega) ?_
  refine Run.loadO 0 (n / 64) 0 rfl rfl ag_134 rfl rfl rfl rfl gw rfl ?_
  refine Zm ?_
  refine Run.int2 rfl rfl rfl h63 rfl rfl ?_
  refine Run.shift rfl rfl rfl h1 rfl rfl ?_
  refine Run.int2 rfl rfl rfl ho rfl rfl ?_
  refine Run.idxO 0 rfl rfl rfl sl_84 rfl rfl rfl rfl (by omega) (by omega) ?_
  refine Run.storeO 0 (n / 64) 0 (y' := clrB w (n % 64)) rfl rfl rfl rfl ag_134 rfl rfl rfl rfl gw rfl rfl ?_
  refine Run.nil ?_
  exact retN [] [] rfl rfl rfl
end Go.Proofs.YtjjfehdlmdhhmaaDoor
end
section
/- A row of words joined to another one; walked. -/
namespace Go.Proofs.YtjjfehdlmdhhmaaDoor
open Go.Sep
set_option linter.unusedSimpArgs false
set_option linter.unusedVariables false
attribute [local irreducible] blk slA mp mpF rows rowsBut many
def joinW (ws vs : List (BitVec 64)) : List (BitVec 64) := List.zipWith (· ||| ·) ws vs
theorem or_new (r w : BitVec 64) : (w &&& ~~~ r ≠ 0#64) ↔ (BitVec.or r w ≠ r) := by
  have key : (w &&& ~~~ r = 0#64) ↔ (r ||| w = r) := by
    constructor
    · intro e
      apply BitVec.eq_of_getLsbD_eq
      intro i hi
      have h : (w &&& ~~~ r).getLsbD i = (0#64).getLsbD i := by rw [e]
      rw [BitVec.getLsbD_and, BitVec.getLsbD_not] at h
      rw [BitVec.getLsbD_or]
      simp [hi] at h
      cases h1 : r.getLsbD i <;> cases h2 : w.getLsbD i <;> simp_all
    · intro e
      apply BitVec.eq_of_getLsbD_eq
      intro i hi
      have h : (r ||| w).getLsbD i = r.getLsbD i := by rw [e]
      rw [BitVec.getLsbD_or] at h
      rw [BitVec.getLsbD_and, BitVec.getLsbD_not]
      cases h1 : r.getLsbD i <;> cases h2 : w.getLsbD i <;> simp_all
  exact ⟨fun h e => h (key.2 e), fun h e => h (key.1 e)⟩
theorem set_same {A : Type} {l : List A} {i : Nat} {x : A} (h : l[i]? = some x) : l.set i x = l := by
  apply List.ext_getElem?
  intro k
  by_cases e : i = k
  · subst e; rw [List.getElem?_set_self (List.getElem?_eq_some_iff.1 h).1, h]
  · rw [List.getElem?_set_ne e]
set_option maxRecDepth 100000 in
theorem join_ok (hR : Heap) (sv : SV) (ws vs : List (BitVec 64)) (o : Value) (hv : SlR Enc.u64.rd hR o vs) (hlen : ws.length = vs.length) (hl : ws.length ≤ 1000000) :
    Tri Tryd.prog hR 64 #[sv.val, o] [slA 134 Enc.u64 sv.val ws] fun u Γ' => u = .bool (decide (joinW ws vs ≠ ws)) ∧ Γ' = [slA 134 Enc.u64 sv.val (joinW ws vs)] := by
  refine Tri.of (args := [sv.val, o]) Tryd.func64 rfl Tryd.ntmps64 (by simp) ?_
  refine Zp ?_
  refine Zm ?_
  refine Ze ?_
  refine Zp ?_
  refine Zm ?_
  refine Ze ?_
  refine WP.seqMeet (α := Unit) (fun _ => True) (fun _ => [(5, .bool (decide (joinW ws vs ≠ ws)))]) (fun _ => [slA 134 Enc.u64 sv.val (joinW ws vs)]) ?_ ?_
  · refine Zp ?_
    refine Zm ?_
    refine Zh sl_84 hv ?_
    refine Zm ?_
    refine Ze ?_
    refine WP.block ?_
    refine WP.loop (α := Nat × List (BitVec 64)) (fun z => z.1 ≤ vs.length ∧ z.2.length = ws.length ∧ (∀ k r w, k < z.1 → ws[k]? = some r → vs[k]? = some w → z.2[k]? = some (BitVec.or r w)) ∧ ∀ k, z.1 ≤ k → z.2[k]? = ws[k]?) (fun z => [(0, sv.val), (5, .bool (decide (z.2 ≠ ws))), (8, o), (9, .int .i64 (vs.length : Int)), (10, .int .i64 (z.1 : Int))])
      (fun z => [slA 134 Enc.u64 sv.val z.2]) (fun z => vs.length - z.1) (0, ws) ⟨Nat.zero_le _, rfl, fun k r w h => by simp at h, fun _ _ => rfl⟩ ⟨rfl, by (show some (Value.bool false) = _); simp, rfl, rfl, rfl, trivial⟩ (ent.refl _) ?_
    rintro ⟨i, cs⟩ ⟨hi, hcl, hk, hk2⟩
    simp only at hi hcl hk hk2 ⊢
    refine Zp ?_
    refine Zi ?_
    refine Ze ?_
    refine WP.seq ?_
    refine WP.ite rfl (fun hlt => ?_) (fun hge => ?_)
    · refine Zb ?_
      have hiv : i < vs.length := by omega
      obtain ⟨w, gw⟩ : ∃ w, vs[(i : Int).toNat]? = some w := ⟨_, List.getElem?_eq_getElem hiv⟩
      have gw' : vs[i]? = some w := gw
      obtain ⟨r, gr⟩ : ∃ w, ws[i]? = some w := ⟨_, List.getElem?_eq_getElem (by omega)⟩
      have gc : cs[i]? = some r := by rw [hk2 i (Nat.le_refl _)]; exact gr
      have hor := or_u64 r w
      have han := andNot_u64 w r
      have hne := neq_u64 (w &&& ~~~ r)
      have hmore : (cs.set i (BitVec.or r w) ≠ ws) ↔ (cs ≠ ws ∨ w &&& ~~~ r ≠ 0#64) := by
        rw [or_new]
        constructor
        · intro h
          by_cases e : BitVec.or r w = r
          · left; intro e2; apply h; rw [e, e2, set_same gr]
          · exact .inr e
        · rintro (h | h) e
          · apply h
            apply List.ext_getElem?
            intro k
            by_cases ek : k = i
            · subst ek; rw [gc, gr]
            · rw [← e, List.getElem?_set_ne (Ne.symm ek)]
          · apply h
            have this : (cs.set i (BitVec.or r w))[i]? = ws[i]? := by rw [e]
            rw [List.getElem?_set_self (by omega), gr] at this
            exact Option.some.inj this
      refine WP.seq ?_
      refine WP.block ?_
      refine Zp ?_
      refine Zm ?_
      refine Zx sl_84 hv ?_
      refine Zr ag_134 (SlR.cell0 hv gw rfl) ?_
      refine Zm ?_
      refine Zm ?_
      refine Ze ?_
      refine WP.seqCut [(0, sv.val), (5, .bool (decide (cs.set i (BitVec.or r w) ≠ ws))), (6, .int .i64 (i : Int)), (7, .int .u64 (w.toNat : Int)), (8, o), (9, .int .i64 (vs.length : Int)), (10, .int .i64 (i : Int))] [slA 134 Enc.u64 sv.val cs] ?_ ?_
      · by_cases hcs : cs = ws
        · have hd : decide (cs ≠ ws) = false := by simp [hcs]
          rw [hd]
          have hd2 : decide (cs.set i (BitVec.or r w) ≠ ws) = decide (w &&& ~~~ r ≠ 0#64) := decide_eq_decide.2 (hmore.trans ⟨fun h => h.resolve_left (fun h => h hcs), .inr⟩)
          rw [hd2]
          refine Zc ?_
          all_goals (first | refine Zm ?_)
          all_goals (first | refine Zm ?_)
          all_goals (first | refine Zv ?_ | refine Zm ?_)
          all_goals (first | refine Zv ?_ | refine Zm ?_)
          all_goals (first | refine Zv ?_ | refine Zm ?_)
          all_goals (first | refine Zv ?_ | refine Run.idxO 0 rfl rfl rfl sl_84 rfl rfl rfl rfl (by omega) (by omega) ?_)
          all_goals (first | refine Zv ?_ | refine Run.loadO 0 i 0 rfl rfl ag_134 rfl rfl rfl rfl gc rfl ?_)
          all_goals (first | refine Zv ?_ | refine Run.int2 rfl rfl rfl han rfl rfl ?_)
          all_goals (first | refine Zv ?_ | refine Run.int2 rfl rfl rfl hne rfl rfl ?_)
          all_goals (first | refine Run.tt (by first | assumption | omega) ?_ | refine Run.ff (by first | assumption | omega) ?_ | refine Run.split (fun hc23 => ?_) (fun hc23 => ?_) | refine Run.splitB (fun hc23 => ?_) (fun hc23 => ?_) | skip)
          all_goals (first | refine Zq ?_)
          all_goals (first | refine Zm ?_)
          all_goals (refine Run.nil ?_)
          all_goals exact thn_next ⟨⟨rfl, (by simp [Env.get, *]), rfl, rfl, rfl, rfl, rfl, trivial⟩, ent.refl _⟩
        · have hd : decide (cs ≠ ws) = true := by simp [hcs]
          rw [hd]
          have hd2 : decide (cs.set i (BitVec.or r w) ≠ ws) = true := decide_eq_true (hmore.2 (.inl hcs))
          rw [hd2]
          refine Zc ?_
          all_goals (first | refine Zm ?_)
          all_goals (first | refine Zm ?_)
          all_goals (first | refine Zv ?_ | refine Zm ?_)
          all_goals (first | refine Zv ?_ | refine Zm ?_)
          all_goals (first | refine Zv ?_ | refine Zm ?_)
          all_goals (first | refine Zv ?_ | refine Run.idxO 0 rfl rfl rfl sl_84 rfl rfl rfl rfl (by omega) (by omega) ?_)
          all_goals (first | refine Zv ?_ | refine Run.loadO 0 i 0 rfl rfl ag_134 rfl rfl rfl rfl gc rfl ?_)
          all_goals (first | refine Zv ?_ | refine Run.int2 rfl rfl rfl han rfl rfl ?_)
          all_goals (first | refine Zv ?_ | refine Run.int2 rfl rfl rfl hne rfl rfl ?_)
          all_goals (first | refine Run.tt (by first | assumption | omega) ?_ | refine Run.ff (by first | assumption | omega) ?_ | refine Run.split (fun hc23 => ?_) (fun hc23 => ?_) | refine Run.splitB (fun hc23 => ?_) (fun hc23 => ?_) | skip)
          all_goals (first | refine Zq ?_)
          all_goals (first | refine Zm ?_)
          all_goals (refine Run.nil ?_)
          all_goals exact thn_next ⟨⟨rfl, rfl, rfl, rfl, rfl, rfl, rfl, trivial⟩, ent.refl _⟩
      refine Zc ?_
      refine Zm ?_
      refine Zm ?_
      refine Run.idxO 0 rfl rfl rfl sl_84 rfl rfl rfl rfl (by omega) (by omega) ?_
      refine Run.loadO 0 i 0 rfl rfl ag_134 rfl rfl rfl rfl gc rfl ?_
      refine Zm ?_
      refine Run.int2 rfl rfl rfl hor rfl rfl ?_
      refine Run.idxO 0 rfl rfl rfl sl_84 rfl rfl rfl rfl (by omega) (by omega) ?_
      refine Run.storeO 0 i 0 (y' := BitVec.or r w) rfl rfl rfl rfl ag_134 rfl rfl rfl rfl gc rfl rfl ?_
      refine Run.nil ?_
      refine blk_norm ?_; refine thn_next ?_
      refine Zc ?_
      refine Za ?_
      refine Zm ?_
      refine Run.nil ?_
      refine thn_next ⟨(i + 1, cs.set i (BitVec.or r w)), ⟨hiv, by simp [hcl], fun k r' w' h1 h2 h3 => ?_, fun k h => ?_⟩, by simp only; omega, ⟨rfl, rfl, rfl, rfl, rfl, trivial⟩, ent.refl _⟩
      · by_cases e : k = i
        · subst e
          rw [gr] at h2; cases h2
          rw [gw'] at h3; cases h3
          rw [List.getElem?_set_self (by omega)]
        · rw [List.getElem?_set_ne (Ne.symm e)]; exact hk k r' w' (by simp only at h1; omega) h2 h3
      · simp only at h ⊢
        rw [List.getElem?_set_ne (by omega)]; exact hk2 k (by omega)
    · refine Zj ?_
      have e : cs = joinW ws vs := by
        apply List.ext_getElem?
        intro k
        unfold joinW
        by_cases hkl : k < ws.length
        · have g1 : ws[k]? = some ws[k] := List.getElem?_eq_getElem hkl
          have g2 : vs[k]? = some (vs[k]'(by omega)) := List.getElem?_eq_getElem (by omega)
          rw [hk k _ _ (by omega) g1 g2, List.getElem?_zipWith, g1, g2]; rfl
        · rw [List.getElem?_eq_none (by omega), List.getElem?_eq_none (by simp; omega)]
      subst e
      exact thn_next ⟨(), trivial, ⟨rfl, trivial⟩, ent.refl _⟩
  rintro _ _
  refine Zp ?_
  refine Zm ?_
  refine Zm ?_
  refine Ze ?_
  refine WP.ret ?_
  exact retT [4] _ rfl rfl ⟨rfl, rfl⟩
end Go.Proofs.YtjjfehdlmdhhmaaDoor
end
section
/- Trailing zeros by the table; walked. -/
namespace Go.Proofs.YtjjfehdlmdhhmaaDoor
open Go.Sep
set_option linter.unusedSimpArgs false
set_option linter.unusedVariables false
attribute [local irreducible] blk slA mp mpF rows rowsBut many
/-- the table lies where it is read -/
def TabH (h : Heap) : Prop := ∀ i, i < 64 → cellH h ⟨0, i, none⟩ (.int .u8 ((Lib.deBruijn64tab.getD i 0 : Nat) : Int))
theorem TabH.mono {h g : Heap} (hs : Sub h g) (H : TabH h) : TabH g := fun i hi => by
  obtain ⟨c, T, fz, h1, h2, h3⟩ := H i hi
  exact ⟨c, T, fz, hs _ _ h1, h2, h3⟩
theorem und_5 : Tryd.prog.underlying 5 = some (.int .u8) := by kernel_rfl
theorem und_3 : Tryd.prog.underlying 3 = some (.int .i64) := by kernel_rfl
theorem and_nat {a b : Nat} (ha : a < 18446744073709551616) (hb : b < 18446744073709551616) : intOpR .and .u64 (a : Int) (b : Int) = some (.int .u64 ((a &&& b : Nat) : Int)) := by
  have h := and_u64 (BitVec.ofNat 64 a) (BitVec.ofNat 64 b)
  rw [BitVec.toNat_and, BitVec.toNat_ofNat, BitVec.toNat_ofNat, Nat.mod_eq_of_lt ha, Nat.mod_eq_of_lt hb] at h
  exact h
theorem neg_nat {a : Nat} (h0 : a ≠ 0) (ha : a < 18446744073709551616) : IntKind.u64.wrap (0 - (a : Int)) = ((18446744073709551616 - a : Nat) : Int) := by
  unfold IntKind.wrap
  simp only [IntKind.bits, IntKind.signed, Bool.false_and, Bool.false_eq_true, if_false]
  first | done | omega
theorem mul_nat (a b : Nat) (c : Int) (hc : c = (b : Int)) : intOpR .mul .u64 (a : Int) c = some (.int .u64 ((a * b % 18446744073709551616 : Nat) : Int)) := by
  subst hc
  have h : intOpR .mul .u64 (a : Int) (b : Int) = some (.int .u64 (IntKind.u64.wrap ((a : Int) * (b : Int)))) := by simp only [intOpR]
  rw [h]
  have h2 : IntKind.u64.wrap ((a : Int) * (b : Int)) = ((a * b % 18446744073709551616 : Nat) : Int) := by
    unfold IntKind.wrap
    simp only [IntKind.bits, IntKind.signed, Bool.false_and, Bool.false_eq_true, if_false]
    rw [← Int.natCast_mul]
    generalize a * b = c
    omega
  rw [h2]
theorem shr58 (n : Nat) : shiftR .shr .u64 (n : Int) 58 = some (.int .u64 ((n / 288230376151711744 : Nat) : Int)) := by
  have hp : (2 : Int) ^ 58 = 288230376151711744 := by simp
  have hmin : min (58 : Int).toNat IntKind.u64.bits = 58 := by decide
  unfold shiftR
  rw [if_neg (by decide)]
  simp only [hmin, hp]
  rw [Int.fdiv_eq_ediv_of_nonneg _ (by decide), Int.natCast_ediv]
  simp
/-- what the steps reckon -/
theorem tz_steps {x : Nat} (h0 : x ≠ 0) (hx : x < 18446744073709551616) : ∃ y b m q : Nat, IntKind.u64.wrap (0 - (x : Int)) = (y : Int) ∧ intOpR .and .u64 (x : Int) (y : Int) = some (.int .u64 (b : Int)) ∧
    intOpR .mul .u64 (b : Int) 285870213051353865 = some (.int .u64 (m : Int)) ∧ shiftR .shr .u64 (m : Int) 58 = some (.int .u64 (q : Int)) ∧ q < 64 ∧ Lib.deBruijn64tab.getD q 0 = Lib.ctz 64 x ∧ Lib.ctz 64 x < 64 := by
  obtain ⟨hlow, hk⟩ := Lib.lowest_bit 64 x h0 (by omega)
  obtain ⟨hd1, hd2⟩ := Lib.deBruijn64_at (Lib.ctz 64 x) hk
  have e64 : (2 : Nat) ^ 64 = 18446744073709551616 := by decide
  rw [e64] at hlow
  refine ⟨18446744073709551616 - x, 2 ^ Lib.ctz 64 x, _, _, neg_nat h0 hx, ?_, mul_nat _ 285870213051353865 _ (by simp), shr58 _, hd1, hd2, hk⟩
  rw [← hlow]
  exact and_nat hx (by omega)
set_option maxRecDepth 100000 in
theorem tz_ok (hR : Heap) (hT : TabH hR) (x : Nat) (h0 : x ≠ 0) (hx : x < 18446744073709551616) :
    Tri Tryd.prog hR 84 #[.int .u64 (x : Int)] [] fun u Γ' => u = .int .i64 ((Lib.ctz 64 x : Nat) : Int) ∧ Γ' = [] := by
  refine Tri.of (args := [.int .u64 (x : Int)]) Tryd.func84 rfl Tryd.ntmps84 (by simp) ?_
  obtain ⟨y, b, m, q, hneg, hand, hmul, hshr, hd1, hd2, hk⟩ := tz_steps h0 hx
  generalize Lib.ctz 64 x = t at hd2 hk
  have hcell := hT q hd1
  rw [hd2] at hcell
  have hcell' : cellH hR ((⟨0, 0, none⟩ : Addr).add ((q : Int).toNat * 1)) (.int .u8 (t : Int)) := by
    have e : (⟨0, 0, none⟩ : Addr).add ((q : Int).toNat * 1) = ⟨0, q, none⟩ := by unfold Addr.add; by_cases hq0 : q = 0 <;> simp [hq0]
    rw [e]; exact hcell
  refine Zp ?_
  refine Zm ?_
  refine Ze ?_
  refine WP.seq ?_
  refine Zp ?_
  refine Zm ?_
  refine Zi ?_
  refine Ze ?_
  refine WP.ite rfl (fun h => absurd h (by omega)) (fun _ => ?_)
  refine Zb ?_
  refine WP.seqCut [(2, .int .i64 (t : Int))] [] ?_ ?_
  · refine Zc ?_
    refine Zm ?_
    refine Zm ?_
    refine Run.neg rfl rfl rfl rfl ?_; rw [hneg]
    refine Run.int2 rfl rfl rfl hand rfl rfl ?_
    refine Run.int2 rfl rfl rfl hmul rfl rfl ?_
    refine Run.shift rfl rfl rfl hshr rfl rfl ?_
    refine Run.idxArr rfl rfl rfl ar_144 rfl rfl (by omega) (by omega) ?_
    refine Zr ag_5 hcell' ?_
    refine Run.conv rfl rfl und_5 und_3 rfl rfl ?_
    refine Zm ?_
    refine Run.nil ?_
    refine thn_next ⟨⟨?_, trivial⟩, ent.refl _⟩
    show some (Value.int .i64 (IntKind.i64.wrap (t : Int))) = _
    rw [wrapI (by omega) (by omega)]
  refine WP.ret ?_
  exact retT [2] _ rfl rfl ⟨rfl, rfl⟩
end Go.Proofs.YtjjfehdlmdhhmaaDoor
end
section
/- The numbers of a row's bits, rising; walked. -/
namespace Go.Proofs.YtjjfehdlmdhhmaaDoor
open Go.Sep
set_option linter.unusedSimpArgs false
set_option linter.unusedVariables false
attribute [local irreducible] blk slA mp mpF rows rowsBut many
/-- the places of a word's bits -/
def bitsN (x : Nat) : List Nat := if h : x = 0 then [] else Lib.ctz 64 x :: bitsN (x &&& (x - 1))
termination_by x
decreasing_by have := Nat.and_le_right (n := x) (m := x - 1); omega
theorem bitsN_zero : bitsN 0 = [] := by rw [bitsN]; simp
theorem bitsN_pos {x : Nat} (h : x ≠ 0) : bitsN x = Lib.ctz 64 x :: bitsN (x &&& (x - 1)) := by rw [bitsN]; simp [h]
theorem and_pred (k m : Nat) : (2 ^ k * (2 * m + 1)) &&& (2 ^ k * (2 * m + 1) - 1) = 2 ^ (k + 1) * m := by
  have hp : 0 < 2 ^ k := Nat.pow_pos (by decide)
  have e : 2 ^ k * (2 * m + 1) - 1 = 2 ^ k * (2 * m) + (2 ^ k - 1) := by rw [Nat.mul_add, Nat.mul_one]; omega
  rw [e]
  apply Nat.eq_of_testBit_eq
  intro i
  rw [Nat.testBit_and]
  by_cases hik : i < k
  · have h1 : (2 ^ k * (2 * m + 1)).testBit i = false := by rw [Nat.mul_comm, Nat.testBit_mul_two_pow]; simp; omega
    have h2 : (2 ^ (k + 1) * m).testBit i = false := by rw [Nat.mul_comm, Nat.testBit_mul_two_pow]; simp; omega
    rw [h1, h2]; rfl
  · obtain ⟨j, rfl⟩ : ∃ j, i = k + j := ⟨i - k, by omega⟩
    have h1 : (2 ^ k * (2 * m + 1)).testBit (k + j) = (2 * m + 1).testBit j := by rw [Nat.mul_comm, Nat.testBit_mul_two_pow]; simp
    have h3 : (2 ^ k * (2 * m) + (2 ^ k - 1)).testBit (k + j) = (2 * m).testBit j := by
      rw [Nat.testBit_two_pow_mul_add _ (by omega)]; simp; intro h; omega
    have e2 : 2 ^ (k + 1) * m = 2 ^ k * (2 * m) := by rw [Nat.pow_succ, Nat.mul_assoc]
    have h2 : (2 ^ (k + 1) * m).testBit (k + j) = (2 * m).testBit j := by rw [e2, Nat.mul_comm, Nat.testBit_mul_two_pow]; simp
    rw [h1, h2, h3]
    cases j with
    | zero => simp [Nat.testBit_zero]
    | succ j =>
      rw [Nat.testBit_succ, Nat.testBit_succ]
      have a1 : (2 * m + 1) / 2 = m := by omega
      have a2 : 2 * m / 2 = m := by omega
      rw [a1, a2]; simp
theorem bitsN_len : ∀ (m j : Nat), 2 ^ j * m < 18446744073709551616 → j ≤ 64 → (bitsN (2 ^ j * m)).length ≤ 64 - j := by
  intro m
  induction m using Nat.strongRecOn with
  | _ m ih =>
    intro j h hj
    by_cases hm : m = 0
    · subst hm; rw [Nat.mul_zero, bitsN_zero]; simp
    have hp : 0 < 2 ^ j := Nat.pow_pos (by decide)
    have hx : 2 ^ j * m ≠ 0 := by have := Nat.mul_pos hp (Nat.pos_of_ne_zero hm); omega
    obtain ⟨m2, e, hk⟩ := Lib.ctzFrom_spec 64 m (Nat.pos_of_ne_zero hm) (by have : m ≤ 2 ^ j * m := Nat.le_mul_of_pos_left _ hp; omega)
    rw [bitsN_pos hx]
    generalize Lib.ctzFrom 64 m = s at e hk
    have e2 : 2 ^ j * m = 2 ^ (j + s) * (2 * m2 + 1) := by rw [e, Nat.pow_add, Nat.mul_assoc]
    have hjs : j + s < 64 := by
      apply Nat.lt_of_not_le
      intro hle
      have h1 : 2 ^ 64 ≤ 2 ^ (j + s) := Nat.pow_le_pow_right (by decide) hle
      have h2 : 2 ^ (j + s) ≤ 2 ^ (j + s) * (2 * m2 + 1) := Nat.le_mul_of_pos_right _ (by omega)
      omega
    have hm2 : m2 < m := by
      rw [e]
      have : 2 * m2 + 1 ≤ 2 ^ s * (2 * m2 + 1) := Nat.le_mul_of_pos_left _ (Nat.pow_pos (by decide))
      omega
    rw [e2, and_pred, List.length_cons]
    have hle : 2 ^ (j + s + 1) * m2 ≤ 2 ^ (j + s) * (2 * m2 + 1) := by rw [Nat.pow_succ, Nat.mul_assoc]; exact Nat.mul_le_mul_left _ (by omega)
    have := ih m2 hm2 (j + s + 1) (by omega) (by omega)
    omega
theorem bitsN_len64 {x : Nat} (h : x < 18446744073709551616) : (bitsN x).length ≤ 64 := by
  have := bitsN_len x 0 (by simpa using h) (by omega)
  simpa using this
/-- all rows' bits, from word i on -/
def listW : Nat → List (BitVec 64) → List Int
  | _, [] => []
  | i, w :: ws => (bitsN w.toNat).map (fun t => ((64 * i + t : Nat) : Int)) ++ listW (i + 1) ws
theorem listW_len : ∀ (ws : List (BitVec 64)) (i : Nat), (listW i ws).length ≤ 64 * ws.length
  | [], _ => by simp [listW]
  | w :: ws, i => by
    have h1 := bitsN_len64 w.isLt
    have h2 := listW_len ws (i + 1)
    simp [listW]; omega
set_option maxRecDepth 100000 in
theorem list_ok (hR : Heap) (hT : TabH hR) (v : Value) (ws : List (BitVec 64)) (hv : SlR Enc.u64.rd hR v ws) (hl : ws.length ≤ 1000000) :
    Tri Tryd.prog hR 65 #[v] [] fun u Γ' => ∃ sv : SV, u = sv.val ∧ sv.n = (listW 0 ws).length ∧ Γ' = [slA 3 (Enc.int .i64) sv.val (listW 0 ws)] := by
  refine Tri.of (args := [v]) Tryd.func65 rfl Tryd.ntmps65 (by simp) ?_
  refine Zp ?_
  refine Zm ?_
  refine Ze ?_
  refine Zp ?_
  refine Zm ?_
  refine Ze ?_
  refine WP.seqMeet (α := SV) (fun sv => sv.n = (listW 0 ws).length) (fun sv => [(3, sv.val)]) (fun sv => [slA 3 (Enc.int .i64) sv.val (listW 0 ws)]) ?_ ?_
  · refine Zp ?_
    refine Zm ?_
    refine Zh sl_84 hv ?_
    refine Zm ?_
    refine Ze ?_
    refine WP.block ?_
    refine WP.loop (α := Nat × SV × List Int) (fun z => z.1 ≤ ws.length ∧ z.2.1.n = z.2.2.length ∧ z.2.2 ++ listW z.1 (ws.drop z.1) = listW 0 ws) (fun z => [(0, v), (3, z.2.1.val), (6, v), (7, .int .i64 (ws.length : Int)), (8, .int .i64 (z.1 : Int))])
      (fun z => [slA 3 (Enc.int .i64) z.2.1.val z.2.2]) (fun z => ws.length - z.1) (0, ⟨none, 0, 0⟩, []) ⟨Nat.zero_le _, rfl, by simp⟩ ⟨rfl, rfl, rfl, rfl, rfl, trivial⟩ (slA_nil 3 (Enc.int .i64) _) ?_
    rintro ⟨i, out, xs⟩ ⟨hi, hon, hxs⟩
    simp only at hi hon hxs ⊢
    refine Zp ?_
    refine Zi ?_
    refine Ze ?_
    refine WP.seq ?_
    refine WP.ite rfl (fun hlt => ?_) (fun hge => ?_)
    · refine Zb ?_
      have hiw : i < ws.length := by omega
      obtain ⟨w, gw⟩ : ∃ w, ws[(i : Int).toNat]? = some w := ⟨_, List.getElem?_eq_getElem hiw⟩
      have gw' : ws[i]? = some w := gw
      have hdr : ws.drop i = w :: ws.drop (i + 1) := by rw [List.drop_eq_getElem_cons hiw]; congr 1; rw [List.getElem?_eq_getElem hiw] at gw'; exact Option.some.inj gw'
      rw [hdr, listW] at hxs
      have htot := congrArg List.length hxs
      have hlen := listW_len ws 0
      refine WP.seqMeet (α := SV) (fun z => z.n = (xs ++ (bitsN w.toNat).map (fun t => ((64 * i + t : Nat) : Int))).length) (fun z => [(0, v), (3, z.val), (6, v), (7, .int .i64 (ws.length : Int)), (8, .int .i64 (i : Int))])
        (fun z => [slA 3 (Enc.int .i64) z.val (xs ++ (bitsN w.toNat).map (fun t => ((64 * i + t : Nat) : Int)))]) ?_ ?_
      · refine WP.block ?_
        refine Zp ?_
        refine Zm ?_
        refine Zx sl_84 hv ?_
        refine Zr ag_134 (SlR.cell0 hv gw rfl) ?_
        refine Zm ?_
        refine Zm ?_
        refine Ze ?_
        refine WP.block ?_
        refine WP.loop (α := Nat × SV × List Int) (fun z => z.1 < 18446744073709551616 ∧ z.2.1.n = z.2.2.length ∧ z.2.2 ++ (bitsN z.1).map (fun t => ((64 * i + t : Nat) : Int)) = xs ++ (bitsN w.toNat).map (fun t => ((64 * i + t : Nat) : Int))) (fun z => [(0, v), (3, z.2.1.val), (4, .int .i64 (i : Int)), (5, .int .u64 (z.1 : Int)), (6, v), (7, .int .i64 (ws.length : Int)), (8, .int .i64 (i : Int))])
          (fun z => [slA 3 (Enc.int .i64) z.2.1.val z.2.2]) (fun z => z.1) (w.toNat, out, xs) ⟨w.isLt, hon, rfl⟩ ⟨rfl, rfl, rfl, rfl, rfl, rfl, rfl, trivial⟩ (ent.refl _) ?_
        rintro ⟨x, o2, ys⟩ ⟨hx, hon2, hys⟩
        simp only at hx hon2 hys ⊢
        refine WP.seq ?_
        refine Zp ?_
        refine Zm ?_
        refine Zi ?_
        refine Ze ?_
        refine WP.ite rfl (fun hne => ?_) (fun heq => ?_)
        · refine Zb ?_
          have hx0 : x ≠ 0 := by omega
          rw [bitsN_pos hx0] at hys
          have htot2 := congrArg List.length hys
          simp only [List.length_append, List.length_map, List.length_cons] at htot2 htot
          obtain ⟨y, hy, hand, hlt2⟩ : ∃ y : Nat, IntKind.u64.wrap ((x : Int) - 1) = (y : Int) ∧ intOpR .and .u64 (x : Int) (y : Int) = some (.int .u64 ((x &&& (x - 1) : Nat) : Int)) ∧ (x &&& (x - 1)) < x := by
            refine ⟨x - 1, ?_, and_nat hx (by omega), by have := Nat.and_le_right (n := x) (m := x - 1); omega⟩
            have e : ((x : Int) - 1) = ((x - 1 : Nat) : Int) := by omega
            rw [e, wrap_u64 (by omega)]
          have hsub : intOpR .sub .u64 (x : Int) 1 = some (.int .u64 (y : Int)) := by rw [← hy]; simp only [intOpR]
          generalize hnx : x &&& (x - 1) = nx at hand hlt2 hys
          have htl : Lib.ctz 64 x < 64 := (tz_steps hx0 hx).choose_spec.choose_spec.choose_spec.choose_spec.2.2.2.2.2.2
          generalize htz : Lib.ctz 64 x = tz at hys htl
          refine WP.seq ?_
          refine WP.block ?_
          refine Zc ?_
          refine Zm ?_
          refine Zm ?_
          refine Zu ?_
          refine Zm ?_
          refine Run.call (Δ := []) (Θ := [slA 3 (Enc.int .i64) o2.val ys]) rfl rfl rfl rfl ok_84 rfl rfl (ent.refl _) (tz_ok hR hT x hx0 hx) ?_; rintro _ _ ⟨rfl, rfl⟩; rw [htz]
          refine Za ?_
          refine Run.buildSlice (E := (Enc.int .i64)) rfl sl_22 zr_3 ([64 * (i : Int) + (tz : Int)]) rfl rfl rfl (by decide) rfl rfl ?_
          intro b25
          refine Run.append 0 rfl rfl rfl rfl rfl rfl sl_22 zr_3 rfl (src_own 1 rfl) (by first | omega | (simp <;> omega)) (by first | omega | (simp <;> omega)) ?_
          intro sv26 hv26
          refine Zm ?_
          refine Run.nil ?_
          refine blk_norm ?_; refine thn_next ?_
          refine Zc ?_
          refine Zm ?_
          refine Zm ?_
          refine Run.int2 rfl rfl rfl hsub rfl rfl ?_
          refine Run.int2 rfl rfl rfl hand rfl rfl ?_
          refine Zm ?_
          refine Run.nil ?_
          refine thn_next ⟨(nx, sv26, ys ++ [64 * (i : Int) + (tz : Int)]), ⟨by simp only; omega, by simp only; rw [hv26]; simp, ?_⟩, hlt2, ⟨rfl, rfl, rfl, rfl, rfl, rfl, rfl, trivial⟩, pick_only [0] _⟩
          simp only
          rw [← hys]; simp
        · have hx0 : x = 0 := by omega
          subst hx0
          rw [bitsN_zero, List.map_nil, List.append_nil] at hys
          subst hys
          refine Zj ?_; refine blk_norm ?_
          exact thn_next ⟨o2, hon2, ⟨rfl, rfl, rfl, rfl, rfl, trivial⟩, ent.refl _⟩
      rintro o3 ho3
      refine Zc ?_
      refine Za ?_
      refine Zm ?_
      refine Run.nil ?_
      refine thn_next ⟨(i + 1, o3, xs ++ (bitsN w.toNat).map (fun t => ((64 * i + t : Nat) : Int))), ⟨hiw, ho3, by simp only; rw [← hxs]; simp⟩, by simp only; omega, ⟨rfl, rfl, rfl, rfl, rfl, trivial⟩, ent.refl _⟩
    · refine Zj ?_
      have e : i = ws.length := by omega
      subst e
      rw [List.drop_length, listW, List.append_nil] at hxs
      subst hxs
      exact thn_next ⟨out, hon, ⟨rfl, trivial⟩, ent.refl _⟩
  rintro sv hsv
  refine Zp ?_
  refine Zm ?_
  refine Zm ?_
  refine Ze ?_
  refine WP.ret ?_
  exact retT [2] _ rfl rfl ⟨sv, rfl, hsv, rfl⟩
end Go.Proofs.YtjjfehdlmdhhmaaDoor
end
section
/- The registers of a row; walked. -/
namespace Go.Proofs.YtjjfehdlmdhhmaaDoor
open Go.Sep
set_option linter.unusedSimpArgs false
set_option linter.unusedVariables false
attribute [local irreducible] blk slA mp mpF rows rowsBut many
def nameOf (names : List Int) (t : Int) : Int := names.getD t.toNat 0
set_option maxRecDepth 100000 in
theorem told_ok (hR : Heap) (hT : TabH hR) (p : Addr) (nv : Value) (names : List Int) (v : Value) (ws : List (BitVec 64)) (c2 : cellH hR (p.add 2) nv) (hn : SlR rdI hR nv names) (hv : SlR Enc.u64.rd hR v ws) (hl : ws.length ≤ 1000000) (hin : ∀ t ∈ listW 0 ws, 0 ≤ t ∧ t < (names.length : Int)) (hnl : names.length ≤ 1000000) :
    Tri Tryd.prog hR 33 #[.pointer (some p), v] [] fun u Γ' => ∃ sv : SV, u = sv.val ∧ sv.n = (listW 0 ws).length ∧ Γ' = [slA 3 (Enc.int .i64) sv.val ((listW 0 ws).map (nameOf names))] := by
  refine Tri.of (args := [.pointer (some p), v]) Tryd.func33 rfl Tryd.ntmps33 (by simp) ?_
  refine Zp ?_
  refine Zm ?_
  refine Ze ?_
  refine Zp ?_
  refine Zm ?_
  refine Run.call (Δ := []) (Θ := []) rfl rfl rfl rfl ok_65 rfl rfl (ent.refl _) (list_ok hR hT v ws hv hl) ?_; rintro _ _ ⟨sv, rfl, hsn, rfl⟩
  refine Zm ?_
  refine Ze ?_
  have hll := listW_len ws 0
  generalize listW 0 ws = L at hin hsn hll
  refine WP.seqMeet (α := Unit) (fun _ => True) (fun _ => [(5, sv.val)]) (fun _ => [slA 3 (Enc.int .i64) sv.val (L.map (nameOf names))]) ?_ ?_
  · refine Zp ?_
    refine Zm ?_
    refine Run.lenO 0 rfl rfl sl_22 rfl rfl rfl ?_
    refine Zm ?_
    refine Ze ?_
    refine WP.block ?_
    refine WP.loop (α := Nat × List Int) (fun z => z.1 ≤ L.length ∧ z.2.length = L.length ∧ (∀ k, k < z.1 → z.2[k]? = (L.map (nameOf names))[k]?) ∧ ∀ k, z.1 ≤ k → z.2[k]? = L[k]?) (fun z => [(0, .pointer (some p)), (5, sv.val), (10, sv.val), (11, .int .i64 (L.length : Int)), (12, .int .i64 (z.1 : Int))])
      (fun z => [slA 3 (Enc.int .i64) sv.val z.2]) (fun z => L.length - z.1) (0, L) ⟨Nat.zero_le _, rfl, fun k h => by simp at h, fun _ _ => rfl⟩ ⟨rfl, rfl, rfl, rfl, rfl, trivial⟩ (ent.refl _) ?_
    rintro ⟨i, ys⟩ ⟨hi, hyl, hk, hk2⟩
    simp only at hi hyl hk hk2 ⊢
    refine Zp ?_
    refine Zi ?_
    refine Ze ?_
    refine WP.seq ?_
    refine WP.ite rfl (fun hlt => ?_) (fun hge => ?_)
    · refine Zb ?_
      have hiL : i < L.length := by omega
      obtain ⟨t, gt⟩ : ∃ t, L[i]? = some t := ⟨_, List.getElem?_eq_getElem hiL⟩
      have gy : ys[i]? = some t := by rw [hk2 i (Nat.le_refl _)]; exact gt
      obtain ⟨ht0, ht1⟩ := hin t (List.mem_of_getElem? gt)
      obtain ⟨nm, gn⟩ : ∃ nm, names[t.toNat]? = some nm := ⟨_, List.getElem?_eq_getElem (by omega)⟩
      have hnm : nameOf names t = nm := by unfold nameOf; rw [List.getD_eq_getElem?_getD, gn]; rfl
      refine WP.seq ?_
      refine WP.block ?_
      refine Zp ?_
      refine Zm ?_
      refine Run.idxO 0 rfl rfl rfl sl_22 rfl rfl rfl rfl (by omega) (by omega) ?_
      refine Run.loadO 0 i 0 rfl rfl ag_3 rfl rfl rfl rfl gy rfl ?_
      refine Zm ?_
      refine Zm ?_
      refine Ze ?_
      refine Zc ?_
      iterate 3 refine Zm ?_
      refine Zn ?_
      refine Zf fo_87_2 ?_
      refine Zr ag_22 c2 ?_
      refine Zm ?_
      refine Zx sl_22 hn ?_
      refine Zr ag_3 (SlR.cell0 hn gn rfl) ?_
      refine Run.idxO 0 rfl rfl rfl sl_22 rfl rfl rfl rfl (by omega) (by omega) ?_
      refine Run.storeO 0 i 0 (y' := nm) rfl rfl rfl rfl ag_3 rfl rfl rfl rfl gy rfl rfl ?_
      refine Run.nil ?_
      refine blk_norm ?_; refine thn_next ?_
      refine Zc ?_
      refine Za ?_
      refine Zm ?_
      refine Run.nil ?_
      refine thn_next ⟨(i + 1, ys.set i nm), ⟨hiL, by simp [hyl], fun k h => ?_, fun k h => ?_⟩, by simp only; omega, ⟨rfl, rfl, rfl, rfl, rfl, trivial⟩, ent.refl _⟩
      · simp only at h ⊢
        by_cases e : k = i
        · subst e; rw [List.getElem?_set_self (by omega), List.getElem?_map, gt]; simp [hnm]
        · rw [List.getElem?_set_ne (Ne.symm e)]; exact hk k (by omega)
      · simp only at h ⊢
        rw [List.getElem?_set_ne (by omega)]; exact hk2 k (by omega)
    · refine Zj ?_
      have e : ys = L.map (nameOf names) := by
        apply List.ext_getElem?
        intro k
        by_cases hkl : k < L.length
        · exact hk k (by omega)
        · rw [List.getElem?_eq_none (by omega), List.getElem?_eq_none (by simp; omega)]
      subst e
      exact thn_next ⟨(), trivial, ⟨rfl, trivial⟩, ent.refl _⟩
  rintro _ _
  refine Zp ?_
  refine Zm ?_
  refine Zm ?_
  refine Ze ?_
  refine WP.ret ?_
  exact retT [4] _ rfl rfl ⟨sv, rfl, hsn, rfl⟩
end Go.Proofs.YtjjfehdlmdhhmaaDoor
end
section
/- A register is read: is it wanted from another block? Walked. -/
namespace Go.Proofs.YtjjfehdlmdhhmaaDoor
open Go.Sep
set_option linter.unusedSimpArgs false
set_option linter.unusedVariables false
attribute [local irreducible] blk slA mp mpF rows rowsBut many
/-- what a read of register r does to the marks -/
def markR (S I : List Int) (i r : Int) : List Int := if S[r.toNat]? = some (i + 1) then I else I.set r.toNat 1
theorem markR_len (S I : List Int) (i r : Int) : (markR S I i r).length = I.length := by unfold markR; split <;> simp
set_option maxRecDepth 100000 in
theorem read_ok (hR : Heap) (bs bi bw wb : Nat) (sv iv : SV) (fp nv av bv : Value) (S I : List Int) (i r : Int) (h0 : 0 ≤ r) (h1 : r < (S.length : Int)) (hl : I.length = S.length) (hi0 : 0 ≤ i) (hi1 : i ≤ 1000000) :
    Tri Tryd.prog hR 79 #[.int .i64 r, .pointer (some ⟨bs, 0, none⟩), .pointer (some ⟨bi, 0, none⟩), .pointer (some ⟨bw, 0, none⟩)] [blk bs [sv.val] 22, blk bi [.int .i64 i] 3, blk bw [.pointer (some ⟨wb, 0, none⟩)] 80, blk wb [fp, iv.val, nv, av, bv] 87, slA 3 (Enc.int .i64) sv.val S, slA 3 (Enc.int .i64) iv.val I] fun _ Γ' => Γ' = [blk bs [sv.val] 22, blk bi [.int .i64 i] 3, blk bw [.pointer (some ⟨wb, 0, none⟩)] 80, blk wb [fp, iv.val, nv, av, bv] 87, slA 3 (Enc.int .i64) sv.val S, slA 3 (Enc.int .i64) iv.val (markR S I i r)] := by
  refine Tri.of (args := [.int .i64 r, .pointer (some ⟨bs, 0, none⟩), .pointer (some ⟨bi, 0, none⟩), .pointer (some ⟨bw, 0, none⟩)]) Tryd.func79 rfl Tryd.ntmps79 (by simp) ?_
  obtain ⟨s, gs⟩ : ∃ s, S[r.toNat]? = some s := ⟨_, List.getElem?_eq_getElem (by omega)⟩
  obtain ⟨x, gx⟩ : ∃ s, I[r.toNat]? = some s := ⟨_, List.getElem?_eq_getElem (by omega)⟩
  refine WP.seq ?_
  refine WP.drawn0 cf0 mixed rfl (by kernel_rfl) ?_
  refine Zl 0 ag_22 ?_
  refine Zm ?_
  refine Run.idxO 4 rfl rfl rfl sl_22 rfl rfl rfl rfl (by omega) (by omega) ?_
  refine Run.loadO 4 r.toNat 0 rfl rfl ag_3 rfl rfl rfl rfl gs rfl ?_
  refine Zl 1 ag_3 ?_
  refine Za ?_
  refine Zi ?_
  refine Ze ?_
  refine WP.ite rfl (fun hne => ?_) (fun heq => ?_)
  · refine Zc ?_
    refine Zl 2 ag_80 ?_
    refine Zn ?_
    refine Zf fo_87_1 ?_
    refine Zl 3 ag_22 ?_
    refine Zm ?_
    refine Run.idxO 5 rfl rfl rfl sl_22 rfl rfl rfl rfl (by omega) (by omega) ?_
    refine Run.storeO 5 r.toNat 0 (y' := (1 : Int)) rfl rfl rfl rfl ag_3 rfl rfl rfl rfl gx rfl rfl ?_
    refine Run.nil ?_
    have e : markR S I i r = I.set r.toNat 1 := by unfold markR; rw [gs, if_neg (by intro h; cases h; exact hne rfl)]
    rw [e]
    exact retN [] [] rfl rfl rfl
  · refine WP.skip ?_
    have hs : s = i + 1 := by omega
    have e : markR S I i r = I := by unfold markR; rw [gs, if_pos (by rw [hs])]
    rw [e]
    exact retN [] [] rfl rfl rfl
end Go.Proofs.YtjjfehdlmdhhmaaDoor
end
section
/- What 'wanted' reckons, in plain Lean. -/
namespace Go.Proofs.YtjjfehdlmdhhmaaDoor
open Go.Sep
set_option linter.unusedSimpArgs false
set_option linter.unusedVariables false
/-- the blocks in which registers were set last, and the marks -/
abbrev SI := List Int × List Int
def argsW (i : Int) (z : SI) (rs : List Int) : SI := (z.1, rs.foldl (fun I r => markR z.1 I i r) z.2)
def insW (i : Int) (z : SI) (x : LIns) : SI := (if 0 ≤ x.dst then z.1.set x.dst.toNat (i + 1) else z.1, (argsW i z x.args).2)
def bodyW (i : Int) (z : SI) (xs : List LIns) : SI := xs.foldl (insW i) z
def blkW (i : Int) (z : SI) (b : LBlk) : SI := (fun y : SI => (y.1, if 0 ≤ b.value then markR y.1 y.2 i b.value else y.2)) (bodyW i z b.body)
def blksW : Nat → SI → List LBlk → SI
  | _, z, [] => z
  | i, z, b :: bs => blksW (i + 1) (blkW (i : Int) z b) bs
theorem args_len (i : Int) (S : List Int) : ∀ (rs I : List Int), (rs.foldl (fun I r => markR S I i r) I).length = I.length
  | [], _ => rfl
  | a :: rs, I => by rw [List.foldl_cons, args_len i S rs, markR_len]
theorem insW_len (i : Int) (z : SI) (x : LIns) : (insW i z x).1.length = z.1.length ∧ (insW i z x).2.length = z.2.length := by
  refine ⟨?_, args_len i z.1 x.args z.2⟩
  unfold insW; simp only; split <;> simp
theorem bodyW_len (i : Int) : ∀ (xs : List LIns) (z : SI), (bodyW i z xs).1.length = z.1.length ∧ (bodyW i z xs).2.length = z.2.length
  | [], _ => ⟨rfl, rfl⟩
  | x :: xs, z => by
    have h1 := bodyW_len i xs (insW i z x)
    have h2 := insW_len i z x
    unfold bodyW at *
    rw [List.foldl_cons]
    exact ⟨h1.1.trans h2.1, h1.2.trans h2.2⟩
theorem blkW_len (i : Int) (z : SI) (b : LBlk) : (blkW i z b).1.length = z.1.length ∧ (blkW i z b).2.length = z.2.length := by
  have h := bodyW_len i b.body z
  refine ⟨h.1, ?_⟩
  unfold blkW; simp only
  split
  · rw [markR_len]; exact h.2
  · exact h.2
theorem blksW_len : ∀ (bs : List LBlk) (i : Nat) (z : SI), (blksW i z bs).1.length = z.1.length ∧ (blksW i z bs).2.length = z.2.length
  | [], _, _ => ⟨rfl, rfl⟩
  | b :: bs, i, z => by
    have h1 := blksW_len bs (i + 1) (blkW (i : Int) z b)
    have h2 := blkW_len (i : Int) z b
    exact ⟨h1.1.trans h2.1, h1.2.trans h2.2⟩
/-- the names, and the indexes of registers: of the marks -/
def namesW : Nat → List Int → List Int
  | _, [] => []
  | r, m :: ms => if m = 1 then (r : Int) :: namesW (r + 1) ms else namesW (r + 1) ms
def indexW : Nat → List Int → List Int
  | _, [] => []
  | k, m :: ms => if m = 1 then ((k + 1 : Nat) : Int) :: indexW (k + 1) ms else m :: indexW k ms
end Go.Proofs.YtjjfehdlmdhhmaaDoor
end
