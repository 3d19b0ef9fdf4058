/- Lists held against each other; walked. -/
import Derived.Test.YtjjfehdlmdhhmaaDoorGL7
import Derived.Test.YtjjfehdlmdhhmaaDoorGT8
import Derived.Test.YtjjfehdlmdhhmaaDoorGT9
section
/- Lists held against each other; walked. -/
namespace Go.Proofs.YtjjfehdlmdhhmaaDoor
open Go.Sep
set_option linter.unusedSimpArgs false
set_option linter.unusedVariables false
attribute [local irreducible] blk slA mp mpF rows rowsBut many
instance : DecidableEq Iv := fun x y => by
  obtain ⟨a, b, c⟩ := x
  obtain ⟨d, e, f⟩ := y
  exact decidable_of_iff (a = d ∧ b = e ∧ c = f) (by simp)
theorem eqI_iv (x y : Iv) : eqInts [.int .i64 x.reg, .int .i64 x.fr, .int .i64 x.to] [.int .i64 y.reg, .int .i64 y.fr, .int .i64 y.to] = some (decide (x = y)) := by
  obtain ⟨a, b, c⟩ := x
  obtain ⟨d, e, f⟩ := y
  simp only [eqInts, Bool.and_true, Iv.mk.injEq]
  congr 1
  by_cases h1 : a = d <;> by_cases h2 : b = e <;> by_cases h3 : c = f <;> simp [h1, h2, h3]
set_option maxRecDepth 100000 in
theorem sameInts_ok (hR : Heap) (v w : Value) (xs ys : List Int) (hx : SlR rdI hR v xs) (hy : SlR rdI hR w ys) (hl : xs.length ≤ 10000000000000) : Tri Tryd.prog hR 36 #[v, w] [] fun u Γ' => u = .bool (decide (xs = ys)) ∧ Γ' = [] := by
  refine Tri.ent (Tri.of (args := [v, w]) Tryd.func36 rfl Tryd.ntmps36 (by simp) ?_)
  refine Zp ?_
  refine Zm ?_
  refine Ze ?_
  refine WP.seq ?_
  refine Zp ?_
  refine Zm ?_
  refine Zh sl_22 hx ?_
  refine Zm ?_
  refine Zh sl_22 hy ?_
  refine Zi ?_
  refine Ze ?_
  refine WP.ite rfl (fun h => ?_) (fun h => ?_)
  · have e : decide (xs = ys) = false := decide_eq_false fun e => by subst e; exact h rfl
    refine Zp ?_
    refine Zm ?_
    refine Ze ?_
    refine WP.ret ?_; refine thn_ret ?_
    exact retT [4] _ rfl rfl ⟨[], ent.go, by rw [e]; rfl, rfl⟩
  refine Zb ?_
  have hlen : ys.length = xs.length := by omega
  refine WP.meetK (α := Unit) (fun _ => xs = ys) (fun _ => []) (fun _ => []) ?_ ?_
  · refine Zp ?_
    refine Zm ?_
    refine Ze ?_
    refine WP.block ?_
    refine WP.loopK (α := Nat) (fun z => z ≤ xs.length ∧ xs.take z = ys.take z) (fun z => [(5, .int .i64 (z : Int))]) (fun z => []) (fun z => xs.length - z) 0 ⟨Nat.zero_le _, rfl⟩ ⟨(by repeat first | exact trivial | refine ⟨rfl, ?_⟩), rfl, rfl⟩ (ent.refl _) ?_
    rintro i ⟨hi, hk⟩
    refine WP.seq ?_
    refine Zp ?_
    refine Zm ?_
    refine Zm ?_
    refine Zh sl_22 hx ?_
    refine Zi ?_
    refine Ze ?_
    refine WP.ite rfl (fun hlt => ?_) (fun hge => ?_)
    · refine Zb ?_
      obtain ⟨x, gx⟩ : ∃ y, xs[i]? = some y := ⟨_, List.getElem?_eq_getElem (by omega)⟩
      obtain ⟨y, gy⟩ : ∃ y, ys[i]? = some y := ⟨_, List.getElem?_eq_getElem (by omega)⟩
      have hxe : xs = ys → x = y := fun e => by subst e; rw [gx] at gy; cases gy; rfl
      refine WP.seq ?_
      refine WP.block ?_
      refine WP.seq ?_
      refine WP.drawn0 cf0 mixed rfl (by kernel_rfl) ?_
      refine Zm ?_
      refine Zm ?_
      refine Zx sl_22 hx ?_
      refine Zr ag_3 (SlR.cell0 hx gx rfl) ?_
      refine Zm ?_
      refine Zm ?_
      refine Zx sl_22 hy ?_
      refine Zr ag_3 (SlR.cell0 hy gy rfl) ?_
      refine Zi ?_
      refine Ze ?_
      refine WP.ite rfl (fun hn => ?_) (fun hn => ?_)
      · have e : decide (xs = ys) = false := decide_eq_false fun e => hn (hxe e)
        refine Zp ?_
        refine Zm ?_
        refine Ze ?_
        refine WP.ret ?_; refine blk_ret ?_; refine thn_ret ?_; refine thn_ret ?_; refine blk_ret ?_; refine thn_ret ?_
        exact retT [4] _ rfl rfl ⟨[], ent.go, by rw [e]; rfl, rfl⟩
      · have he : x = y := by first | exact hn | exact Classical.not_not.1 hn
        refine WP.skip ?_; refine blk_norm ?_; refine thn_next ?_
        refine Zc ?_
        refine Zm ?_
        refine Za ?_
        refine Zm ?_
        refine Run.nil ?_
        exact thn_next ⟨i + 1, ⟨by omega, by rw [List.take_add_one, List.take_add_one, gx, gy, hk, he]⟩, by omega, ⟨(by repeat first | exact trivial | refine ⟨rfl, ?_⟩), rfl, rfl⟩, ent.go⟩
    · refine Zj ?_
      refine thn_next ⟨(), ?_, ⟨(by repeat first | exact trivial | refine ⟨rfl, ?_⟩), rfl, rfl⟩, ent.go⟩
      rw [List.take_of_length_le (by omega), List.take_of_length_le (by omega)] at hk
      exact hk
  rintro _ hk
  refine Zp ?_
  refine Zm ?_
  refine Ze ?_
  refine WP.ret ?_
  exact retT [4] _ rfl rfl ⟨[], ent.go, by rw [decide_eq_true hk]; rfl, rfl⟩
set_option maxRecDepth 100000 in
theorem sameLists_ok (hR : Heap) (v w : Value) (xs ys : List (List Int)) (hx : SlR rdI.slice hR v xs) (hy : SlR rdI.slice hR w ys) (hl : xs.length ≤ 10000000000000) (hsm : ∀ x ∈ xs, x.length ≤ 10000000000000) : Tri Tryd.prog hR 14 #[v, w] [] fun u Γ' => u = .bool (decide (xs = ys)) ∧ Γ' = [] := by
  refine Tri.ent (Tri.of (args := [v, w]) Tryd.func14 rfl Tryd.ntmps14 (by simp) ?_)
  refine Zp ?_
  refine Zm ?_
  refine Ze ?_
  refine WP.seq ?_
  refine Zp ?_
  refine Zm ?_
  refine Zh sl_30 hx ?_
  refine Zm ?_
  refine Zh sl_30 hy ?_
  refine Zi ?_
  refine Ze ?_
  refine WP.ite rfl (fun h => ?_) (fun h => ?_)
  · have e : decide (xs = ys) = false := decide_eq_false fun e => by subst e; exact h rfl
    refine Zp ?_
    refine Zm ?_
    refine Ze ?_
    refine WP.ret ?_; refine thn_ret ?_
    exact retT [4] _ rfl rfl ⟨[], ent.go, by rw [e]; rfl, rfl⟩
  refine Zb ?_
  have hlen : ys.length = xs.length := by omega
  refine WP.meetK (α := Unit) (fun _ => xs = ys) (fun _ => []) (fun _ => []) ?_ ?_
  · refine Zp ?_
    refine Zm ?_
    refine Ze ?_
    refine WP.block ?_
    refine WP.loopK (α := Nat) (fun z => z ≤ xs.length ∧ xs.take z = ys.take z) (fun z => [(5, .int .i64 (z : Int))]) (fun z => []) (fun z => xs.length - z) 0 ⟨Nat.zero_le _, rfl⟩ ⟨(by repeat first | exact trivial | refine ⟨rfl, ?_⟩), rfl, rfl⟩ (ent.refl _) ?_
    rintro i ⟨hi, hk⟩
    refine WP.seq ?_
    refine Zp ?_
    refine Zm ?_
    refine Zm ?_
    refine Zh sl_30 hx ?_
    refine Zi ?_
    refine Ze ?_
    refine WP.ite rfl (fun hlt => ?_) (fun hge => ?_)
    · refine Zb ?_
      obtain ⟨x, gx⟩ : ∃ y, xs[i]? = some y := ⟨_, List.getElem?_eq_getElem (by omega)⟩
      obtain ⟨y, gy⟩ : ∃ y, ys[i]? = some y := ⟨_, List.getElem?_eq_getElem (by omega)⟩
      have hxe : xs = ys → x = y := fun e => by subst e; rw [gx] at gy; cases gy; rfl
      refine WP.seq ?_
      refine WP.block ?_
      refine WP.seq ?_
      obtain ⟨ux, cux, hux⟩ := hx.rowV gx
      obtain ⟨uy, cuy, huy⟩ := hy.rowV gy
      have hxl := hsm x (List.mem_of_getElem? gx)
      refine WP.drawn0 cf0 mixed rfl (by kernel_rfl) ?_
      refine Zm ?_
      refine Zm ?_
      refine Zx sl_30 hx ?_
      refine Zr ag_22 cux ?_
      refine Zm ?_
      refine Zm ?_
      refine Zx sl_30 hy ?_
      refine Zr ag_22 cuy ?_
      refine Run.call (Δ := []) (Θ := []) rfl rfl rfl rfl ok_36 rfl rfl ent.go (sameInts_ok hR ux uy x y hux huy hxl) ?_; rintro _ _ ⟨rfl, rfl⟩
      refine Run.bnot rfl rfl rfl rfl ?_
      refine Ze ?_
      refine WP.ite (p := ¬ x = y) rfl (fun hn => ?_) (fun hn => ?_)
      · have e : decide (xs = ys) = false := decide_eq_false fun e => hn (hxe e)
        refine Zp ?_
        refine Zm ?_
        refine Ze ?_
        refine WP.ret ?_; refine blk_ret ?_; refine thn_ret ?_; refine thn_ret ?_; refine blk_ret ?_; refine thn_ret ?_
        exact retT [4] _ rfl rfl ⟨[], ent.go, by rw [e]; rfl, rfl⟩
      · have he : x = y := by first | exact hn | exact Classical.not_not.1 hn
        refine WP.skip ?_; refine blk_norm ?_; refine thn_next ?_
        refine Zc ?_
        refine Zm ?_
        refine Za ?_
        refine Zm ?_
        refine Run.nil ?_
        exact thn_next ⟨i + 1, ⟨by omega, by rw [List.take_add_one, List.take_add_one, gx, gy, hk, he]⟩, by omega, ⟨(by repeat first | exact trivial | refine ⟨rfl, ?_⟩), rfl, rfl⟩, ent.go⟩
    · refine Zj ?_
      refine thn_next ⟨(), ?_, ⟨(by repeat first | exact trivial | refine ⟨rfl, ?_⟩), rfl, rfl⟩, ent.go⟩
      rw [List.take_of_length_le (by omega), List.take_of_length_le (by omega)] at hk
      exact hk
  rintro _ hk
  refine Zp ?_
  refine Zm ?_
  refine Ze ?_
  refine WP.ret ?_
  exact retT [4] _ rfl rfl ⟨[], ent.go, by rw [decide_eq_true hk]; rfl, rfl⟩
set_option maxRecDepth 100000 in
theorem sameSpans_ok (hR : Heap) (v w : Value) (xs ys : List Iv) (hx : SlR encIv.rd hR v xs) (hy : SlR encIv.rd hR w ys) (hl : xs.length ≤ 10000000000000) : Tri Tryd.prog hR 19 #[v, w] [] fun u Γ' => u = .bool (decide (xs = ys)) ∧ Γ' = [] := by
  refine Tri.ent (Tri.of (args := [v, w]) Tryd.func19 rfl Tryd.ntmps19 (by simp) ?_)
  refine Zp ?_
  refine Zm ?_
  refine Ze ?_
  refine WP.seq ?_
  refine Zp ?_
  refine Zm ?_
  refine Zh sl_44 hx ?_
  refine Zm ?_
  refine Zh sl_44 hy ?_
  refine Zi ?_
  refine Ze ?_
  refine WP.ite rfl (fun h => ?_) (fun h => ?_)
  · have e : decide (xs = ys) = false := decide_eq_false fun e => by subst e; exact h rfl
    refine Zp ?_
    refine Zm ?_
    refine Ze ?_
    refine WP.ret ?_; refine thn_ret ?_
    exact retT [4] _ rfl rfl ⟨[], ent.go, by rw [e]; rfl, rfl⟩
  refine Zb ?_
  have hlen : ys.length = xs.length := by omega
  refine WP.meetK (α := Unit) (fun _ => xs = ys) (fun _ => []) (fun _ => []) ?_ ?_
  · refine Zp ?_
    refine Zm ?_
    refine Ze ?_
    refine WP.block ?_
    refine WP.loopK (α := Nat) (fun z => z ≤ xs.length ∧ xs.take z = ys.take z) (fun z => [(5, .int .i64 (z : Int))]) (fun z => []) (fun z => xs.length - z) 0 ⟨Nat.zero_le _, rfl⟩ ⟨(by repeat first | exact trivial | refine ⟨rfl, ?_⟩), rfl, rfl⟩ (ent.refl _) ?_
    rintro i ⟨hi, hk⟩
    refine WP.seq ?_
    refine Zp ?_
    refine Zm ?_
    refine Zm ?_
    refine Zh sl_44 hx ?_
    refine Zi ?_
    refine Ze ?_
    refine WP.ite rfl (fun hlt => ?_) (fun hge => ?_)
    · refine Zb ?_
      obtain ⟨x, gx⟩ : ∃ y, xs[i]? = some y := ⟨_, List.getElem?_eq_getElem (by omega)⟩
      obtain ⟨y, gy⟩ : ∃ y, ys[i]? = some y := ⟨_, List.getElem?_eq_getElem (by omega)⟩
      have hxe : xs = ys → x = y := fun e => by subst e; rw [gx] at gy; cases gy; rfl
      refine WP.seq ?_
      refine WP.block ?_
      refine WP.seq ?_
      refine WP.drawn0 cf0 mixed rfl (by kernel_rfl) ?_
      refine Zm ?_
      refine Zm ?_
      refine Zx sl_44 hx ?_
      refine Run.loadRagg rfl rfl ag_62 rfl rfl (SlR.row hx gx) rfl ?_
      refine Zm ?_
      refine Zm ?_
      refine Zx sl_44 hy ?_
      refine Run.loadRagg rfl rfl ag_62 rfl rfl (SlR.row hy gy) rfl ?_
      refine Run.neS rfl rfl rfl is_62 nf_62 (eqI_iv x y) rfl rfl rfl ?_
      refine Ze ?_
      refine WP.cond (t := !decide (x = y)) rfl (fun hn => ?_) (fun hn => ?_) <;> simp only [Bool.not_eq_true', decide_eq_false_iff_not, Bool.not_eq_false', decide_eq_true_eq] at hn
      · have e : decide (xs = ys) = false := decide_eq_false fun e => hn (hxe e)
        refine Zp ?_
        refine Zm ?_
        refine Ze ?_
        refine WP.ret ?_; refine blk_ret ?_; refine thn_ret ?_; refine thn_ret ?_; refine blk_ret ?_; refine thn_ret ?_
        exact retT [4] _ rfl rfl ⟨[], ent.go, by rw [e]; rfl, rfl⟩
      · have he : x = y := by first | exact hn | exact Classical.not_not.1 hn
        refine WP.skip ?_; refine blk_norm ?_; refine thn_next ?_
        refine Zc ?_
        refine Zm ?_
        refine Za ?_
        refine Zm ?_
        refine Run.nil ?_
        exact thn_next ⟨i + 1, ⟨by omega, by rw [List.take_add_one, List.take_add_one, gx, gy, hk, he]⟩, by omega, ⟨(by repeat first | exact trivial | refine ⟨rfl, ?_⟩), rfl, rfl⟩, ent.go⟩
    · refine Zj ?_
      refine thn_next ⟨(), ?_, ⟨(by repeat first | exact trivial | refine ⟨rfl, ?_⟩), rfl, rfl⟩, ent.go⟩
      rw [List.take_of_length_le (by omega), List.take_of_length_le (by omega)] at hk
      exact hk
  rintro _ hk
  refine Zp ?_
  refine Zm ?_
  refine Ze ?_
  refine WP.ret ?_
  exact retT [4] _ rfl rfl ⟨[], ent.go, by rw [decide_eq_true hk]; rfl, rfl⟩
end Go.Proofs.YtjjfehdlmdhhmaaDoor
end
section
/- Functions that the laws build: raw structs and what they read as; the small one of alive; plain. -/
namespace Go.Proofs.YtjjfehdlmdhhmaaDoor
open Go.Sep
set_option linter.unusedSimpArgs false
set_option linter.unusedVariables false
abbrev RIns := Int × Int × Int × SV
abbrev RBlk := SV × Int × Int × SV
def encIns : Enc RIns := ⟨4, fun x => [.int .i64 x.1, .int .i64 x.2.1, .int .i64 x.2.2.1, x.2.2.2.val], fun _ => rfl, fun _ => rfl⟩
def encBlk : Enc RBlk := ⟨4, fun x => [x.1.val, .int .i64 x.2.1, .int .i64 x.2.2.1, x.2.2.2.val], fun _ => rfl, fun _ => rfl⟩
theorem ins_read {h : Heap} {v : Value} {rs : List RIns} {xs : List LIns} (H : SlR encIns.rd h v rs) (hl : xs.length = rs.length) (he : ∀ (i : Nat) (r : RIns) (x : LIns), rs[i]? = some r → xs[i]? = some x → r.1 = x.op ∧ r.2.1 = x.dst ∧ r.2.2.1 = x.imm ∧ SlR rdI h r.2.2.2.val x.args) : SlR rdIns h v xs :=
  SlR.turn (E := encIns.rd) (F := rdIns) (H := H) hl rfl fun i r x hr hx cs hc => by
    obtain ⟨h1, h2, h3, h4⟩ := he i r x hr hx
    refine ⟨r.2.2.2.val, ?_, h4⟩
    rw [← h1, ← h2, ← h3]; exact hc
theorem blk_read {h : Heap} {v : Value} {rs : List RBlk} {xs : List LBlk} (H : SlR encBlk.rd h v rs) (hl : xs.length = rs.length) (he : ∀ (i : Nat) (r : RBlk) (x : LBlk), rs[i]? = some r → xs[i]? = some x → SlR rdIns h r.1.val x.body ∧ r.2.1 = x.kind ∧ r.2.2.1 = x.value ∧ SlR rdI h r.2.2.2.val x.to) : SlR rdBlk h v xs :=
  SlR.turn (E := encBlk.rd) (F := rdBlk) (H := H) hl rfl fun i r x hr hx cs hc => by
    obtain ⟨h1, h2, h3, h4⟩ := he i r x hr hx
    refine ⟨r.1.val, r.2.2.2.val, ?_, h1, h4⟩
    rw [← h2, ← h3]; exact hc
theorem nil_read {A : Type} (E : Rd A) (h : Heap) : SlR E h nilS.val [] := ⟨none, 0, rfl, Nat.le_refl _, fun h => absurd rfl h⟩
def aliveF : LFun := ⟨⟨#[102]⟩, [], 2, 0, [⟨[⟨1, 1, 7, []⟩], 1, -1, [1]⟩, ⟨[⟨26, -1, 0, [1]⟩], 3, -1, []⟩]⟩
theorem aliveF_form : formB aliveF = true := by decide
theorem aliveF_small : SmallF aliveF := ⟨by decide, by decide, by decide⟩
theorem alive_blk {i : Nat} {b : LBlk} (h : aliveF.blocks[i]? = some b) : (i = 0 ∧ b = ⟨[⟨1, 1, 7, []⟩], 1, -1, [1]⟩) ∨ (i = 1 ∧ b = ⟨[⟨26, -1, 0, [1]⟩], 3, -1, []⟩) := by
  match i, h with
  | 0, h => simp [aliveF] at h; exact .inl ⟨rfl, h.symm⟩
  | 1, h => simp [aliveF] at h; exact .inr ⟨rfl, h.symm⟩
  | i + 2, h => simp [aliveF] at h
theorem alive_zero : (∀ i, ¬ LiveIn aliveF 0 i) ∧ ∀ i, ¬ LiveOut aliveF 0 i := by
  have h2 : ∀ (i : Nat) (b : LBlk) (q : Bool), aliveF.blocks[i]? = some b → (q = true → False) → needB 0 b.body (decide (b.value = 0) || q) = true → False := by
    intro i b q hb hq hn
    have : q = false := by cases q <;> simp_all
    subst this
    rcases alive_blk hb with ⟨_, rfl⟩ | ⟨_, rfl⟩ <;> simp [needB] at hn
  exact ⟨fun i h => live_sub (A := fun _ => False) (B := fun _ => False) (fun _ _ _ _ _ h => h) h2 i h, fun i h => liveOut_sub (A := fun _ => False) (B := fun _ => False) (fun _ _ _ _ _ h => h) h2 i h⟩
theorem alive_one : (∀ i, LiveIn aliveF 1 i ↔ i = 1) ∧ ∀ i, LiveOut aliveF 1 i ↔ i = 0 := by
  have h1 : ∀ (i : Nat) (b : LBlk) (c : Int), aliveF.blocks[i]? = some b → c ∈ b.to → c.toNat = 1 → i = 0 := by
    intro i b c hb hc _
    rcases alive_blk hb with ⟨h, _⟩ | ⟨_, rfl⟩
    · exact h
    · simp at hc
  have h2 : ∀ (i : Nat) (b : LBlk) (q : Bool), aliveF.blocks[i]? = some b → (q = true → i = 0) → needB 1 b.body (decide (b.value = 1) || q) = true → i = 1 := by
    intro i b q hb hq hn
    rcases alive_blk hb with ⟨_, rfl⟩ | ⟨h, _⟩
    · simp [needB] at hn
    · exact h
  have h3 : LiveIn aliveF 1 1 := .here (b := ⟨[⟨26, -1, 0, [1]⟩], 3, -1, []⟩) rfl rfl
  refine ⟨fun i => ⟨fun h => live_sub (A := fun i => i = 1) (B := fun i => i = 0) h1 h2 i h, fun h => by subst h; exact h3⟩, fun i => ⟨fun h => liveOut_sub (A := fun i => i = 1) (B := fun i => i = 0) h1 h2 i h, fun h => by subst h; exact ⟨⟨[⟨1, 1, 7, []⟩], 1, -1, [1]⟩, 1, rfl, by simp, h3⟩⟩⟩
theorem two {r : Int} : (0 ≤ r ∧ r < aliveF.regs) ↔ r = 0 ∨ r = 1 := by show (0 ≤ r ∧ r < 2) ↔ _; omega
theorem alive_list {p : Int → Prop} (h0 : ¬ p 0) : (p 1 → listOf aliveF p = [1]) ∧ (¬ p 1 → listOf aliveF p = []) := by
  refine ⟨fun h1 => (listOf_uniq (by simp) fun r => ?_).symm, fun h1 => (listOf_uniq (by simp) fun r => ?_).symm⟩
  · rw [← and_assoc, two]
    constructor
    · intro h; simp at h; subst h; exact ⟨.inr rfl, h1⟩
    · rintro ⟨rfl | rfl, h⟩
      · exact absurd h h0
      · simp
  · rw [← and_assoc, two]
    constructor
    · intro h; simp at h
    · rintro ⟨rfl | rfl, h⟩
      · exact absurd h h0
      · exact absurd h h1
theorem alive_lists : aheadOf aliveF 0 = [] ∧ aheadOf aliveF 1 = [1] ∧ behindOf aliveF 0 = [1] ∧ behindOf aliveF 1 = [] := by
  refine ⟨(alive_list (alive_zero.1 0)).2 ?_, (alive_list (alive_zero.1 1)).1 ?_, (alive_list (alive_zero.2 0)).1 ?_, (alive_list (alive_zero.2 1)).2 ?_⟩
  · rw [alive_one.1]; decide
  · rw [alive_one.1]
  · rw [alive_one.2]
  · rw [alive_one.2]; decide
theorem alive_spans : (spansF aliveF [0, 1]).filter keepB = [⟨1, 3, 6⟩] := by
  obtain ⟨h1, h2, h3, h4⟩ := alive_lists
  have e : spansF aliveF [0, 1] = lineS aliveF 0 [⟨-1, 0, 0⟩, ⟨-1, 0, 0⟩] [0, 1] := rfl
  rw [e]
  have e0 : aliveF.blocks[(0 : Int).toNat]? = some ⟨[⟨1, 1, 7, []⟩], 1, -1, [1]⟩ := rfl
  have e1 : aliveF.blocks[(1 : Int).toNat]? = some ⟨[⟨26, -1, 0, [1]⟩], 3, -1, []⟩ := rfl
  rw [lineS, e0]
  simp only
  rw [lineS, e1]
  simp only
  rw [lineS]
  have t0 : (0 : Int).toNat = 0 := rfl
  have t1 : (1 : Int).toNat = 1 := rfl
  rw [t0, t1, h1, h2, h3, h4]
  decide
theorem alive_line : lineB [0, 1] 2 = true := by
  have e : sortI [0, 1] = [0, 1] := List.mergeSort_of_pairwise (by simp)
  unfold lineB
  rw [e]
  decide
end Go.Proofs.YtjjfehdlmdhhmaaDoor
end
section
/- The laws' own small function: what is live of it is told; walked. -/
namespace Go.Proofs.YtjjfehdlmdhhmaaDoor
open Go.Sep
set_option linter.unusedSimpArgs false
set_option linter.unusedVariables false
attribute [local irreducible] blk slA mp mpF rows rowsBut many
theorem alive_fun {hR g : Heap} {Θ : List HProp} {b8 b9 b12 b14 b17 : Nat} (h8 : Θ[0]? = some (slA 67 encIns (⟨some ⟨b8, 0, none⟩, 1, 1⟩ : SV).val [((1, 1, 7, nilS) : RIns)])) (h9 : Θ[1]? = some (slA 3 (Enc.int .i64) (⟨some ⟨b9, 0, none⟩, 1, 1⟩ : SV).val [1])) (h12 : Θ[2]? = some (slA 3 (Enc.int .i64) (⟨some ⟨b12, 0, none⟩, 1, 1⟩ : SV).val [1])) (h14 : Θ[3]? = some (slA 67 encIns (⟨some ⟨b14, 0, none⟩, 1, 1⟩ : SV).val [((26, -1, 0, ⟨some ⟨b12, 0, none⟩, 1, 1⟩) : RIns)])) (h17 : Θ[4]? = some (slA 56 encBlk (⟨some ⟨b17, 0, none⟩, 2, 2⟩ : SV).val [((⟨some ⟨b8, 0, none⟩, 1, 1⟩, 1, -1, ⟨some ⟨b9, 0, none⟩, 1, 1⟩) : RBlk), ((⟨some ⟨b14, 0, none⟩, 1, 1⟩, 3, -1, nilS) : RBlk)])) (hg : sat Θ g) (hd : Disj hR g) :
    FunV (un hR g) aliveF nilS ⟨some ⟨b17, 0, none⟩, 2, 2⟩ := by
  refine ⟨nil_read _ _, ?_, by decide, by decide⟩
  refine blk_read (lent_at 4 h17 hg hd) rfl fun i r x hr hx => ?_
  have l8 := lent_at 0 h8 hg hd
  have l9 := lent_at 1 h9 hg hd
  have l12 := lent_at 2 h12 hg hd
  have l14 := lent_at 3 h14 hg hd
  match i, hr, hx with
  | 0, hr, hx =>
    simp [aliveF] at hr hx; subst hr hx
    refine ⟨ins_read l8 rfl fun j r x hr hx => ?_, rfl, rfl, l9⟩
    match j, hr, hx with
    | 0, hr, hx => simp at hr hx; subst hr hx; exact ⟨rfl, rfl, rfl, nil_read _ _⟩
    | j + 1, hr, hx => simp at hr
  | 1, hr, hx =>
    simp [aliveF] at hr hx; subst hr hx
    refine ⟨ins_read l14 rfl fun j r x hr hx => ?_, rfl, rfl, nil_read _ _⟩
    match j, hr, hx with
    | 0, hr, hx => simp at hr hx; subst hr hx; exact ⟨rfl, rfl, rfl, l12⟩
    | j + 1, hr, hx => simp at hr
  | i + 2, hr, hx => simp at hr
theorem alive_live {x : Value} {Γ : List HProp} (h : LiveRes aliveF x Γ) : ∃ (o1 o2 : SV) (P Q : List (SV × List Int)), x = .tuple #[o1.val, o2.val, .int .i64 0] ∧ P.map Prod.snd = [[], [1]] ∧ Q.map Prod.snd = [[1], []] ∧ Γ = [slA 22 Enc.slice o1.val (P.map Prod.fst), rows 3 (Enc.int .i64) P, slA 22 Enc.slice o2.val (Q.map Prod.fst), rows 3 (Enc.int .i64) Q] := by
  rcases h with h | ⟨_, o1, o2, P, Q, h1, h2, h3, h4⟩
  · have := h.1; rw [aliveF_form] at this; cases this
  · refine ⟨o1, o2, P, Q, h1, ?_, ?_, h4⟩
    · rw [h2]; show [aheadOf aliveF 0, aheadOf aliveF 1] = _; rw [alive_lists.1, alive_lists.2.1]
    · rw [h3]; show [behindOf aliveF 0, behindOf aliveF 1] = _; rw [alive_lists.2.2.1, alive_lists.2.2.2]
theorem alive_iv {x : Value} {Γ : List HProp} (h : IvRes aliveF [0, 1] x Γ) : ∃ ov : SV, x = .tuple #[ov.val, .int .i64 0] ∧ Γ = [slA 62 encIv ov.val [⟨1, 3, 6⟩]] := by
  rcases h with h | h | ⟨_, _, sv, ys, h1, h2, _, h4⟩
  · have := h.1; rw [aliveF_form] at this; cases this
  · have := h.2.1; rw [show aliveF.blocks.length = 2 from rfl, alive_line] at this; cases this
  · rw [alive_spans] at h2
    have e : ys = [⟨1, 3, 6⟩] := List.perm_singleton.1 h2
    subst e
    exact ⟨sv, h1, h4⟩
/-- lists of lists, as they are answered -/
theorem lit_read {hR g : Heap} {Θ : List HProp} {v : Value} {us : List SV} {xs : List (List Int)} (k : Nat) (hk : Θ[k]? = some (slA 22 Enc.slice v us)) (hl : xs.length = us.length) (hg : sat Θ g) (hd : Disj hR g)
    (he : ∀ (i : Nat) (u : SV) (x : List Int), us[i]? = some u → xs[i]? = some x → SlR rdI (un hR g) u.val x) : SlR rdI.slice (un hR g) v xs :=
  SlR.turn (E := Enc.slice.rd) (F := rdI.slice) (H := lent_at k hk hg hd) hl rfl fun i u x hu hx cs hc => ⟨u.val, hc, he i u x hu hx⟩
set_option maxHeartbeats 1000000 in
set_option maxRecDepth 100000 in
theorem alive_ok (hR : Heap) (hT : TabH hR) : Tri Tryd.prog hR 9 #[] [] fun u Γ' => u = .bool true ∧ Γ' = [] := by
  refine Tri.ent (Tri.of (args := []) Tryd.func9 rfl Tryd.ntmps9 (by simp) ?_)
  refine Zp ?_
  refine Zm ?_
  refine Ze ?_
  refine Zp ?_
  refine Run.build rfl bd_67 rfl rfl rfl rfl ?_
  refine Run.buildSlice (E := encIns) rfl sl_52 zr_67 ([((1, 1, 7, nilS) : RIns)]) rfl rfl rfl (by decide) rfl rfl ?_
  intro b8
  refine Run.buildSlice (E := (Enc.int .i64)) rfl sl_22 zr_3 ([1]) rfl rfl rfl (by decide) rfl rfl ?_
  intro b9
  refine Run.build rfl bd_54 rfl rfl rfl rfl ?_
  refine Run.build rfl bd_56 rfl rfl rfl rfl ?_
  refine Run.buildSlice (E := (Enc.int .i64)) rfl sl_22 zr_3 ([1]) rfl rfl rfl (by decide) rfl rfl ?_
  intro b12
  refine Run.build rfl bd_67 rfl rfl rfl rfl ?_
  refine Run.buildSlice (E := encIns) rfl sl_52 zr_67 ([((26, -1, 0, ⟨some ⟨b12, 0, none⟩, 1, 1⟩) : RIns)]) rfl rfl rfl (by decide) rfl rfl ?_
  intro b14
  refine Run.build rfl bd_54 rfl rfl rfl rfl ?_
  refine Run.build rfl bd_56 rfl rfl rfl rfl ?_
  refine Run.buildSlice (E := encBlk) rfl sl_23 zr_56 ([((⟨some ⟨b8, 0, none⟩, 1, 1⟩, 1, -1, ⟨some ⟨b9, 0, none⟩, 1, 1⟩) : RBlk), ((⟨some ⟨b14, 0, none⟩, 1, 1⟩, 3, -1, nilS) : RBlk)]) rfl rfl rfl (by decide) rfl rfl ?_
  intro b17
  refine Run.build rfl bd_25 rfl rfl rfl rfl ?_
  refine Run.alloc rfl zr_25 rfl rfl rfl ?_
  intro b1
  refine Run.storeB 5 rfl rfl rfl rfl ag_25 rfl rfl rfl rfl rfl ?_
  refine Ze ?_
  refine WP.sup (ρ' := [(1, .pointer (some ⟨b1, 0, none⟩))]) (Γ' := [slA 67 encIns (⟨some ⟨b8, 0, none⟩, 1, 1⟩ : SV).val [((1, 1, 7, nilS) : RIns)], slA 3 (Enc.int .i64) (⟨some ⟨b9, 0, none⟩, 1, 1⟩ : SV).val [1], slA 3 (Enc.int .i64) (⟨some ⟨b12, 0, none⟩, 1, 1⟩ : SV).val [1], slA 67 encIns (⟨some ⟨b14, 0, none⟩, 1, 1⟩ : SV).val [((26, -1, 0, ⟨some ⟨b12, 0, none⟩, 1, 1⟩) : RIns)], slA 56 encBlk (⟨some ⟨b17, 0, none⟩, 2, 2⟩ : SV).val [((⟨some ⟨b8, 0, none⟩, 1, 1⟩, 1, -1, ⟨some ⟨b9, 0, none⟩, 1, 1⟩) : RBlk), ((⟨some ⟨b14, 0, none⟩, 1, 1⟩, 3, -1, nilS) : RBlk)], blk b1 (fcs aliveF nilS ⟨some ⟨b17, 0, none⟩, 2, 2⟩) 25]) (covers_get ⟨rfl, trivial⟩) ent.gn ?_
  refine Zp ?_
  refine Run.loadBagg 5 rfl rfl ag_25 rfl rfl rfl rfl rfl ?_
  refine Run.callLend (Δ := []) (Θ := [slA 67 encIns (⟨some ⟨b8, 0, none⟩, 1, 1⟩ : SV).val [((1, 1, 7, nilS) : RIns)], slA 3 (Enc.int .i64) (⟨some ⟨b9, 0, none⟩, 1, 1⟩ : SV).val [1], slA 3 (Enc.int .i64) (⟨some ⟨b12, 0, none⟩, 1, 1⟩ : SV).val [1], slA 67 encIns (⟨some ⟨b14, 0, none⟩, 1, 1⟩ : SV).val [((26, -1, 0, ⟨some ⟨b12, 0, none⟩, 1, 1⟩) : RIns)], slA 56 encBlk (⟨some ⟨b17, 0, none⟩, 2, 2⟩ : SV).val [((⟨some ⟨b8, 0, none⟩, 1, 1⟩, 1, -1, ⟨some ⟨b9, 0, none⟩, 1, 1⟩) : RBlk), ((⟨some ⟨b14, 0, none⟩, 1, 1⟩, 3, -1, nilS) : RBlk)], blk b1 (fcs aliveF nilS ⟨some ⟨b17, 0, none⟩, 2, 2⟩) 25]) (Ξ := []) rfl rfl rfl rfl ok_12 rfl rfl ent.go (fun g hg hd => live_ok (un hR g) (hT.mono (sub_un_left hR g)) aliveF nilS ⟨some ⟨b17, 0, none⟩, 2, 2⟩ (alive_fun rfl rfl rfl rfl rfl hg hd) aliveF_small) ?_; rintro _ _ hres; obtain ⟨o1, o2, P, Q, rfl, eP, eQ, rfl⟩ := alive_live hres
  refine Zm ?_
  refine Run.extract rfl rfl rfl rfl rfl ?_
  refine Run.extract rfl rfl rfl rfl rfl ?_
  refine Run.extract rfl rfl rfl rfl rfl ?_
  iterate 3 refine Zm ?_
  refine Ze ?_
  refine WP.sup (ρ' := [(1, .pointer (some ⟨b1, 0, none⟩)), (2, o1.val), (3, o2.val), (4, .int .i64 0)]) (Γ' := [slA 67 encIns (⟨some ⟨b8, 0, none⟩, 1, 1⟩ : SV).val [((1, 1, 7, nilS) : RIns)], slA 3 (Enc.int .i64) (⟨some ⟨b9, 0, none⟩, 1, 1⟩ : SV).val [1], slA 3 (Enc.int .i64) (⟨some ⟨b12, 0, none⟩, 1, 1⟩ : SV).val [1], slA 67 encIns (⟨some ⟨b14, 0, none⟩, 1, 1⟩ : SV).val [((26, -1, 0, ⟨some ⟨b12, 0, none⟩, 1, 1⟩) : RIns)], slA 56 encBlk (⟨some ⟨b17, 0, none⟩, 2, 2⟩ : SV).val [((⟨some ⟨b8, 0, none⟩, 1, 1⟩, 1, -1, ⟨some ⟨b9, 0, none⟩, 1, 1⟩) : RBlk), ((⟨some ⟨b14, 0, none⟩, 1, 1⟩, 3, -1, nilS) : RBlk)], blk b1 (fcs aliveF nilS ⟨some ⟨b17, 0, none⟩, 2, 2⟩) 25, slA 22 Enc.slice o1.val (P.map Prod.fst), rows 3 (Enc.int .i64) P, slA 22 Enc.slice o2.val (Q.map Prod.fst), rows 3 (Enc.int .i64) Q]) (covers_get ⟨rfl, rfl, rfl, rfl, trivial⟩) ent.gn ?_
  refine Zp ?_
  refine Run.loadBagg 5 rfl rfl ag_25 rfl rfl rfl rfl rfl ?_
  refine Run.buildSlice (E := (Enc.int .i64)) rfl sl_22 zr_3 ([0, 1]) rfl rfl rfl (by decide) rfl rfl ?_
  intro b27
  refine Run.callLend (Δ := []) (Θ := [slA 67 encIns (⟨some ⟨b8, 0, none⟩, 1, 1⟩ : SV).val [((1, 1, 7, nilS) : RIns)], slA 3 (Enc.int .i64) (⟨some ⟨b9, 0, none⟩, 1, 1⟩ : SV).val [1], slA 3 (Enc.int .i64) (⟨some ⟨b12, 0, none⟩, 1, 1⟩ : SV).val [1], slA 67 encIns (⟨some ⟨b14, 0, none⟩, 1, 1⟩ : SV).val [((26, -1, 0, ⟨some ⟨b12, 0, none⟩, 1, 1⟩) : RIns)], slA 56 encBlk (⟨some ⟨b17, 0, none⟩, 2, 2⟩ : SV).val [((⟨some ⟨b8, 0, none⟩, 1, 1⟩, 1, -1, ⟨some ⟨b9, 0, none⟩, 1, 1⟩) : RBlk), ((⟨some ⟨b14, 0, none⟩, 1, 1⟩, 3, -1, nilS) : RBlk)], blk b1 (fcs aliveF nilS ⟨some ⟨b17, 0, none⟩, 2, 2⟩) 25, slA 3 (Enc.int .i64) (⟨some ⟨b27, 0, none⟩, 2, 2⟩ : SV).val [0, 1]]) (Ξ := [slA 22 Enc.slice o1.val (P.map Prod.fst), rows 3 (Enc.int .i64) P, slA 22 Enc.slice o2.val (Q.map Prod.fst), rows 3 (Enc.int .i64) Q]) rfl rfl rfl rfl ok_17 rfl rfl ent.go (fun g hg hd => intervals_ok 20 (fun hR sv xs h1 h2 h3 => sortStable20_ok hR sv xs h1 h2 h3) (un hR g) (hT.mono (sub_un_left hR g)) aliveF nilS ⟨some ⟨b17, 0, none⟩, 2, 2⟩ ⟨some ⟨b27, 0, none⟩, 2, 2⟩ [0, 1] (alive_fun rfl rfl rfl rfl rfl hg hd) aliveF_small (lent_at 6 rfl hg hd) (by decide) (fun _ => by decide)) ?_; rintro _ _ hres; obtain ⟨ov, rfl, rfl⟩ := alive_iv hres
  refine Zm ?_
  refine Run.extract rfl rfl rfl rfl rfl ?_
  refine Run.extract rfl rfl rfl rfl rfl ?_
  refine Zm ?_
  refine Zm ?_
  refine Ze ?_
  refine WP.sup (ρ' := [(2, o1.val), (3, o2.val), (4, .int .i64 0), (5, ov.val), (6, .int .i64 0)]) (Γ' := [slA 22 Enc.slice o1.val (P.map Prod.fst), rows 3 (Enc.int .i64) P, slA 22 Enc.slice o2.val (Q.map Prod.fst), rows 3 (Enc.int .i64) Q, slA 62 encIv ov.val [⟨1, 3, 6⟩]]) (covers_get ⟨rfl, rfl, rfl, rfl, rfl, trivial⟩) ent.gn ?_
  refine Zp ?_
  refine Zm ?_
  refine Zi ?_
  refine Run.tt rfl ?_
  refine Zm ?_
  refine Zm ?_
  refine Zi ?_
  refine Run.tt rfl ?_
  refine Zq ?_
  refine Zm ?_
  refine Zm ?_
  refine Run.buildSlice (E := (Enc.int .i64)) rfl sl_22 zr_3 ([1]) rfl rfl rfl (by decide) rfl rfl ?_
  intro b39
  refine Run.buildSlice (E := Enc.slice) rfl sl_30 zr_22 ([nilS, (⟨some ⟨b39, 0, none⟩, 1, 1⟩ : SV)]) rfl rfl rfl (by decide) rfl rfl ?_
  intro b40
  refine Run.callLend (Δ := []) (Θ := [slA 22 Enc.slice o1.val (P.map Prod.fst), rows 3 (Enc.int .i64) P, slA 22 Enc.slice o2.val (Q.map Prod.fst), rows 3 (Enc.int .i64) Q, slA 62 encIv ov.val [⟨1, 3, 6⟩], slA 3 (Enc.int .i64) (⟨some ⟨b39, 0, none⟩, 1, 1⟩ : SV).val [1], slA 22 Enc.slice (⟨some ⟨b40, 0, none⟩, 2, 2⟩ : SV).val [nilS, ⟨some ⟨b39, 0, none⟩, 1, 1⟩]]) (Ξ := []) rfl rfl rfl rfl ok_14 rfl rfl ent.go (fun g hg hd => sameLists_ok (un hR g) o1.val _ [[], [1]] [[], [1]] (by have := lent_rows 0 1 rfl rfl hg hd; rw [eP] at this; exact this) (lit_read 6 rfl rfl hg hd (fun i u x hu hx => by (match i, hu, hx with | 0, hu, hx => (simp at hu hx; subst hu hx; exact nil_read _ _) | 1, hu, hx => (simp at hu hx; subst hu hx; exact lent_at 5 rfl hg hd) | i + 2, hu, hx => simp at hu))) (by decide) (by decide)) ?_; rintro _ _ ⟨rfl, rfl⟩; refine Run.tt rfl ?_
  refine Zq ?_
  refine Zm ?_
  refine Zm ?_
  refine Run.buildSlice (E := (Enc.int .i64)) rfl sl_22 zr_3 ([1]) rfl rfl rfl (by decide) rfl rfl ?_
  intro b45
  refine Run.buildSlice (E := Enc.slice) rfl sl_30 zr_22 ([(⟨some ⟨b45, 0, none⟩, 1, 1⟩ : SV), nilS]) rfl rfl rfl (by decide) rfl rfl ?_
  intro b46
  refine Run.callLend (Δ := []) (Θ := [slA 22 Enc.slice o1.val (P.map Prod.fst), rows 3 (Enc.int .i64) P, slA 22 Enc.slice o2.val (Q.map Prod.fst), rows 3 (Enc.int .i64) Q, slA 62 encIv ov.val [⟨1, 3, 6⟩], slA 3 (Enc.int .i64) (⟨some ⟨b39, 0, none⟩, 1, 1⟩ : SV).val [1], slA 22 Enc.slice (⟨some ⟨b40, 0, none⟩, 2, 2⟩ : SV).val [nilS, ⟨some ⟨b39, 0, none⟩, 1, 1⟩], slA 3 (Enc.int .i64) (⟨some ⟨b45, 0, none⟩, 1, 1⟩ : SV).val [1], slA 22 Enc.slice (⟨some ⟨b46, 0, none⟩, 2, 2⟩ : SV).val [⟨some ⟨b45, 0, none⟩, 1, 1⟩, nilS]]) (Ξ := []) rfl rfl rfl rfl ok_14 rfl rfl ent.go (fun g hg hd => sameLists_ok (un hR g) o2.val _ [[1], []] [[1], []] (by have := lent_rows 2 3 rfl rfl hg hd; rw [eQ] at this; exact this) (lit_read 8 rfl rfl hg hd (fun i u x hu hx => by (match i, hu, hx with | 0, hu, hx => (simp at hu hx; subst hu hx; exact lent_at 7 rfl hg hd) | 1, hu, hx => (simp at hu hx; subst hu hx; exact nil_read _ _) | i + 2, hu, hx => simp at hu))) (by decide) (by decide)) ?_; rintro _ _ ⟨rfl, rfl⟩; refine Run.tt rfl ?_
  refine Zq ?_
  refine Zm ?_
  refine Zm ?_
  refine Run.build rfl bd_62 rfl rfl rfl rfl ?_
  refine Run.buildSlice (E := encIv) rfl sl_44 zr_62 ([(⟨1, 3, 6⟩ : Iv)]) rfl rfl rfl (by decide) rfl rfl ?_
  intro b52
  refine Run.callLend (Δ := []) (Θ := [slA 22 Enc.slice o1.val (P.map Prod.fst), rows 3 (Enc.int .i64) P, slA 22 Enc.slice o2.val (Q.map Prod.fst), rows 3 (Enc.int .i64) Q, slA 62 encIv ov.val [⟨1, 3, 6⟩], slA 3 (Enc.int .i64) (⟨some ⟨b39, 0, none⟩, 1, 1⟩ : SV).val [1], slA 22 Enc.slice (⟨some ⟨b40, 0, none⟩, 2, 2⟩ : SV).val [nilS, ⟨some ⟨b39, 0, none⟩, 1, 1⟩], slA 3 (Enc.int .i64) (⟨some ⟨b45, 0, none⟩, 1, 1⟩ : SV).val [1], slA 22 Enc.slice (⟨some ⟨b46, 0, none⟩, 2, 2⟩ : SV).val [⟨some ⟨b45, 0, none⟩, 1, 1⟩, nilS], slA 62 encIv (⟨some ⟨b52, 0, none⟩, 1, 1⟩ : SV).val [⟨1, 3, 6⟩]]) (Ξ := []) rfl rfl rfl rfl ok_19 rfl rfl ent.go (fun g hg hd => sameSpans_ok (un hR g) ov.val _ [⟨1, 3, 6⟩] [⟨1, 3, 6⟩] (lent_at 4 rfl hg hd) (lent_at 9 rfl hg hd) (by decide)) ?_; rintro _ _ ⟨rfl, rfl⟩; refine Run.tt rfl ?_
  refine Zq ?_
  refine Zm ?_
  refine Ze ?_
  refine WP.ret ?_
  exact retT [0] _ rfl rfl ⟨[], ent.go, rfl, rfl⟩
end Go.Proofs.YtjjfehdlmdhhmaaDoor
end
