/- The laws' lists with marks behind them: room, kept; walked. -/
import Derived.Test.YtjjfehdlmdhhmaaDoorGL7
import Derived.Test.YtjjfehdlmdhhmaaDoorGU1
import Derived.Test.YtjjfehdlmdhhmaaDoorGL6
section
/- The laws' lists with marks behind them: room, kept; walked. -/
namespace Go.Proofs.YtjjfehdlmdhhmaaDoor
open Go.Sep
set_option linter.unusedSimpArgs false
set_option linter.unusedVariables false
attribute [local irreducible] blk slA mp mpF rows rowsBut many
theorem roomT_ok (hR : Heap) (v : Value) (xs : List Int) (hl : SlR rdI hR v xs) (hlen : xs.length ≤ 17592186043904) :
    Tri Tryd.prog hR 16 #[v] [] fun u Γ' => ∃ w : SV, u = (w.cut 1 0 xs.length).val ∧ Γ' = [slA 3 (Enc.int .i64) w.val (xs ++ [-71, -72])] := by
  refine Tri.ent (Tri.of (args := [v]) Tryd.func16 rfl Tryd.ntmps16 (by simp) ?_)
  refine Zp ?_
  refine Zm ?_
  refine Ze ?_
  refine WP.seq ?_
  refine WP.via (slA_nil 3 (Enc.int .i64) _) ?_
  refine Zc ?_
  refine Zm ?_
  refine Run.append 0 rfl rfl rfl rfl rfl rfl sl_22 zr_3 rfl (src_ro hl) (by first | omega | (simp <;> omega)) (by first | omega | (simp <;> omega)) ?_
  intro sv5 hv5
  refine Run.buildSlice (E := (Enc.int .i64)) rfl sl_22 zr_3 ([-71, -72]) rfl rfl rfl (by decide) rfl rfl ?_
  intro b6
  refine Run.append 0 rfl rfl rfl rfl rfl rfl sl_22 zr_3 rfl (src_own 1 rfl) (by first | omega | (simp <;> omega)) (by first | omega | (simp <;> omega)) ?_
  intro sv7 hv7
  refine Zm ?_
  refine Ze ?_
  refine WP.via (Γ' := [slA 3 (Enc.int .i64) sv7.val (xs ++ [-71, -72])]) ent.gn ?_
  refine WP.know (slA_know 0 rfl) (fun hk => ?_)
  obtain ⟨hk1, hk2⟩ := hk
  simp only [List.length_append, List.length_cons, List.length_nil] at hk2
  refine Zp ?_
  refine Zm ?_
  refine Zm ?_
  refine Zh sl_22 hl ?_
  refine Run.sliceV (sv := sv7) rfl rfl sl_22 rfl rfl rfl rfl (by omega) (by omega) (by omega) ?_
  refine Zm ?_
  refine Ze ?_
  refine WP.ret ?_
  exact retT [2] _ rfl rfl ⟨_, ent.go, sv7, rfl, rfl⟩
theorem room_ok (hR : Heap) (v : Value) (xs : List Int) (hl : SlR rdI hR v xs) (hlen : xs.length ≤ 1000000) :
    Tri Tryd.prog hR 16 #[v] [] fun u Γ' => ∃ w : SV, u = (w.cut 1 0 xs.length).val ∧ Γ' = [slA 3 (Enc.int .i64) w.val (xs ++ [-71, -72])] := roomT_ok hR v xs hl (by omega)
end Go.Proofs.YtjjfehdlmdhhmaaDoor
end
section
/- A function as it is handed in: a copy of all of it, each list with marks behind its end: what is owned of it, and what is read of it. -/
namespace Go.Proofs.YtjjfehdlmdhhmaaDoor
open Go.Sep
set_option linter.unusedSimpArgs false
set_option linter.unusedVariables false
attribute [local irreducible] blk slA mp mpF
abbrev RFun := LFun × SV × SV
def encFun : Enc RFun := ⟨5, fun x => fcs x.1 x.2.1 x.2.2, fun _ => rfl, fun _ => rfl⟩
def mIns : RIns := (-71, 0, 0, nilS)
def mBlk : RBlk := (nilS, -71, 0, nilS)
def markF : LFun := ⟨⟨#[109, 97, 114, 107]⟩, [], 0, 0, []⟩
def mFun : RFun := (markF, nilS, nilS)
def rowsA (ws : List SV) (xs : List LIns) : List (SV × List Int) := List.zipWith (fun w x => (w, x.args ++ [-71, -72])) ws xs
def rawA (ws : List SV) (xs : List LIns) : List RIns := List.zipWith (fun w x => (x.op, x.dst, x.imm, w.cut 1 0 x.args.length)) ws xs
def bodyP (u : SV) (xs : List LIns) : HProp := fun h => ∃ (w : SV) (ws : List SV), u = w.cut 4 0 xs.length ∧ ws.length = xs.length ∧ sat [slA 67 encIns w.val (rawA ws xs ++ [mIns]), rows 3 (Enc.int .i64) (rowsA ws xs)] h
def blkP (r : RBlk) (b : LBlk) : HProp := fun h => ∃ w : SV, r = (r.1, b.kind, b.value, w.cut 1 0 b.to.length) ∧ sat [slA 3 (Enc.int .i64) w.val (b.to ++ [-71, -72]), bodyP r.1 b.body] h
def funP (r : RFun) (F : LFun) : HProp := fun h => ∃ (wp w : SV) (rs : List RBlk), r = (F, wp.cut 1 0 F.params.length, w.cut 4 0 F.blocks.length) ∧ rs.length = F.blocks.length ∧
  sat [slA 3 (Enc.int .i64) wp.val (F.params ++ [-71, -72]), slA 56 encBlk w.val (rs ++ [mBlk]), many (List.zipWith blkP rs F.blocks)] h
def leaseP (b : Nat) (Fs : List LFun) : HProp := fun h => ∃ (w : SV) (ys : List RFun) (m : Int), ys.length = Fs.length ∧ sat [blk b [(w.cut 5 0 Fs.length).val, .int .i64 m] 38, slA 25 encFun w.val (ys ++ [mFun]), many (List.zipWith funP ys Fs)] h
theorem zipWith_snoc {A B C : Type} (f : A → B → C) {ws : List A} {xs : List B} {w : A} {x : B} (h : xs[ws.length]? = some x) : List.zipWith f (ws ++ [w]) xs = List.zipWith f ws xs ++ [f w x] := by
  induction ws generalizing xs with
  | nil => cases xs with
    | nil => simp at h
    | cons y ys => simp at h; subst h; simp
  | cons v vs ih => cases xs with
    | nil => simp at h
    | cons y ys => simp only [List.length_cons, List.getElem?_cons_succ] at h; simp only [List.cons_append, List.zipWith_cons_cons, ih h]
theorem rowsA_snoc {ws : List SV} {xs : List LIns} {x : LIns} (w : SV) (h : xs[ws.length]? = some x) : rowsA (ws ++ [w]) xs = rowsA ws xs ++ [(w, x.args ++ [-71, -72])] := zipWith_snoc _ h
theorem rawA_snoc {ws : List SV} {xs : List LIns} {x : LIns} (w : SV) (h : xs[ws.length]? = some x) : rawA (ws ++ [w]) xs = rawA ws xs ++ [(x.op, x.dst, x.imm, w.cut 1 0 x.args.length)] := zipWith_snoc _ h
theorem many_snoc (Θ : List HProp) (A : HProp) (Γ : List HProp) : ent (many Θ :: A :: Γ) (many (Θ ++ [A]) :: Γ) := by
  have h1 := many_out Θ (A :: Γ)
  have h2 := many_in (Θ ++ [A]) Γ
  rw [List.append_assoc] at h2
  exact h1.trans h2
theorem ent.pack {Θ : List HProp} {C : HProp} (H : ∀ h, sat Θ h → C h) (Γ : List HProp) : ent (Θ ++ Γ) (C :: Γ) := fun h hs => by
  obtain ⟨h1, h2, g1, g2, hd, e⟩ := sat_append.1 hs
  exact ⟨h1, h2, H _ g1, g2, hd, e⟩
/-! ### What is read -/
def InsR (h : Heap) (r : RIns) (x : LIns) : Prop := ∃ wa : SV, r = (x.op, x.dst, x.imm, wa.cut 1 0 x.args.length) ∧ SlR rdI h wa.val (x.args ++ [-71, -72])
def BodyR (h : Heap) (u : SV) (xs : List LIns) : Prop := ∃ (w : SV) (rs : List RIns), u = w.cut 4 0 xs.length ∧ rs.length = xs.length ∧ SlR encIns.rd h w.val (rs ++ [mIns]) ∧ ∀ (i : Nat) (r : RIns) (x : LIns), rs[i]? = some r → xs[i]? = some x → InsR h r x
def BlkR (h : Heap) (r : RBlk) (b : LBlk) : Prop := ∃ w : SV, r = (r.1, b.kind, b.value, w.cut 1 0 b.to.length) ∧ SlR rdI h w.val (b.to ++ [-71, -72]) ∧ BodyR h r.1 b.body
def FunR (h : Heap) (r : RFun) (F : LFun) : Prop := ∃ (wp w : SV) (rs : List RBlk), r = (F, wp.cut 1 0 F.params.length, w.cut 4 0 F.blocks.length) ∧ SlR rdI h wp.val (F.params ++ [-71, -72]) ∧ rs.length = F.blocks.length ∧ SlR encBlk.rd h w.val (rs ++ [mBlk]) ∧
  ∀ (i : Nat) (r : RBlk) (b : LBlk), rs[i]? = some r → F.blocks[i]? = some b → BlkR h r b
theorem sat_at {Γ : List HProp} {h H : Heap} (k : Nat) {A : HProp} (hs : sat Γ h) (hk : Γ[k]? = some A) (hS : Sub h H) : ∃ g, A g ∧ Sub g H := by
  obtain ⟨h1, h2, g1, hd, e, _⟩ := sat_get hs hk
  subst e
  exact ⟨h1, g1, (sub_un_left h1 h2).trans hS⟩
theorem zip_get {A B C : Type} (f : A → B → C) {ws : List A} {xs : List B} {i : Nat} {w : A} {x : B} (h1 : ws[i]? = some w) (h2 : xs[i]? = some x) : (List.zipWith f ws xs)[i]? = some (f w x) := by
  rw [List.getElem?_zipWith, h1, h2]
theorem zip_get_inv {A B C : Type} (f : A → B → C) {ws : List A} {xs : List B} {i : Nat} {z : C} (h : (List.zipWith f ws xs)[i]? = some z) : ∃ w x, ws[i]? = some w ∧ xs[i]? = some x ∧ f w x = z := by
  rw [List.getElem?_zipWith] at h
  split at h
  · rename_i a b h1 h2; exact ⟨a, b, h1, h2, by simpa using h⟩
  · cases h
/-! ### What is cut -/
theorem cut_read {A : Type} {F : Rd A} {h : Heap} {w : SV} {xs ms : List A} {sz : Nat} (hz : F.sz = sz) (H : SlR F h w.val (xs ++ ms)) : SlR F h (w.cut sz 0 xs.length).val xs := by
  subst hz
  have := SlR_cut H (lo := 0) (hi := xs.length) (Nat.zero_le _) (by simp)
  simpa [cutV_val] using this
theorem InsR.read {h : Heap} {r : RIns} {x : LIns} (H : InsR h r x) : r.1 = x.op ∧ r.2.1 = x.dst ∧ r.2.2.1 = x.imm ∧ SlR rdI h r.2.2.2.val x.args := by
  obtain ⟨wa, rfl, H⟩ := H
  exact ⟨rfl, rfl, rfl, cut_read rfl H⟩
theorem BodyR.read {h : Heap} {u : SV} {xs : List LIns} (H : BodyR h u xs) : SlR rdIns h u.val xs := by
  obtain ⟨w, rs, rfl, hl, H, G⟩ := H
  refine ins_read (rs := rs) ?_ hl.symm fun i r x hr hx => (G i r x hr hx).read
  rw [← hl]; exact cut_read rfl H
theorem FunR.read {h : Heap} {r : RFun} {F : LFun} (H : FunR h r F) (h1 : F.params.length ≤ 1000000) (h2 : F.blocks.length ≤ 1000000) : r.1 = F ∧ FunV h F r.2.1 r.2.2 := by
  obtain ⟨wp, w, rs, rfl, hp, hl, H, G⟩ := H
  refine ⟨rfl, cut_read rfl hp, ?_, h1, h2⟩
  refine blk_read (rs := rs) ?_ hl.symm fun i r b hr hb => ?_
  · rw [← hl]; exact cut_read rfl H
  · obtain ⟨w, e, hw, hB⟩ := G i r b hr hb
    obtain ⟨r1, r2, r3, r4⟩ := r
    simp only [Prod.mk.injEq, true_and] at e
    obtain ⟨rfl, rfl, rfl⟩ := e
    exact ⟨hB.read, rfl, rfl, cut_read rfl hw⟩
end Go.Proofs.YtjjfehdlmdhhmaaDoor
end
section
/- lent: a copy of all that is handed in, with marks; walked. -/
namespace Go.Proofs.YtjjfehdlmdhhmaaDoor
open Go.Sep
set_option linter.unusedSimpArgs false
set_option linter.unusedVariables false
attribute [local irreducible] blk slA mp mpF rows rowsBut many
/-- what a copy asks of a function -/
structure FitV (h : Heap) (F : LFun) (su sv : SV) : Prop where
  v : FunV h F su sv
  s : SmallF F
theorem rawA_len {ws : List SV} {xs : List LIns} (h : ws.length ≤ xs.length) : (rawA ws xs).length = ws.length := by simp [rawA]; omega
theorem body_pack (Γ : List HProp) {w : SV} {ws : List SV} {xs : List LIns} (h : ws.length = xs.length) : ent (slA 67 encIns w.val (rawA ws xs ++ [mIns]) :: rows 3 (Enc.int .i64) (rowsA ws xs) :: Γ) (bodyP (w.cut 4 0 xs.length) xs :: Γ) :=
  ent.pack (Θ := [slA 67 encIns w.val (rawA ws xs ++ [mIns]), rows 3 (Enc.int .i64) (rowsA ws xs)]) (fun g hg => ⟨w, ws, rfl, h, hg⟩) Γ
theorem blk_pack (Γ : List HProp) {w u : SV} {b : LBlk} : ent (slA 3 (Enc.int .i64) w.val (b.to ++ [-71, -72]) :: bodyP u b.body :: Γ) (blkP (u, b.kind, b.value, w.cut 1 0 b.to.length) b :: Γ) :=
  ent.pack (Θ := [slA 3 (Enc.int .i64) w.val (b.to ++ [-71, -72]), bodyP u b.body]) (fun g hg => ⟨w, rfl, hg⟩) Γ
theorem fun_pack (Γ : List HProp) {wp w : SV} {rs : List RBlk} {F : LFun} (h : rs.length = F.blocks.length) : ent (slA 3 (Enc.int .i64) wp.val (F.params ++ [-71, -72]) :: slA 56 encBlk w.val (rs ++ [mBlk]) :: many (List.zipWith blkP rs F.blocks) :: Γ) (funP (F, wp.cut 1 0 F.params.length, w.cut 4 0 F.blocks.length) F :: Γ) :=
  ent.pack (Θ := [slA 3 (Enc.int .i64) wp.val (F.params ++ [-71, -72]), slA 56 encBlk w.val (rs ++ [mBlk]), many (List.zipWith blkP rs F.blocks)]) (fun g hg => ⟨wp, w, rs, rfl, h, hg⟩) Γ
theorem lease_pack (Γ : List HProp) {b : Nat} {w : SV} {ys : List RFun} {Fs : List LFun} {m : Int} (h : ys.length = Fs.length) : ent (blk b [(w.cut 5 0 Fs.length).val, .int .i64 m] 38 :: slA 25 encFun w.val (ys ++ [mFun]) :: many (List.zipWith funP ys Fs) :: Γ) (leaseP b Fs :: Γ) :=
  ent.pack (Θ := [blk b [(w.cut 5 0 Fs.length).val, .int .i64 m] 38, slA 25 encFun w.val (ys ++ [mFun]), many (List.zipWith funP ys Fs)]) (fun g hg => ⟨w, ys, m, h, hg⟩) Γ
set_option maxHeartbeats 2000000 in
set_option maxRecDepth 100000 in
theorem lent_ok (hR : Heap) (fv : SV) (m : Int) (raws : List RFun) (Fs : List LFun) (hl : SlR encFun.rd hR fv.val raws) (hlen : raws.length = Fs.length) (hn : Fs.length ≤ 1000) (hF : ∀ (i : Nat) (r : RFun) (F : LFun), raws[i]? = some r → Fs[i]? = some F → r.1 = F ∧ FitV hR F r.2.1 r.2.2) :
    Tri Tryd.prog hR 30 #[.agg ⟨[fv.val, .int .i64 m]⟩] [] fun u Γ' => ∃ b : Nat, u = .pointer (some ⟨b, 0, none⟩) ∧ Γ' = [leaseP b Fs] := by
  refine Tri.ent (Tri.of (args := [.agg ⟨[fv.val, .int .i64 m]⟩]) Tryd.func30 rfl Tryd.ntmps30 (by simp) ?_)
  refine Zp ?_
  refine Run.box rfl rfl rfl rfl rfl ?_
  intro b1
  refine Zm ?_
  refine Ze ?_
  refine Zp ?_
  refine Run.build rfl bd_38 rfl rfl rfl rfl ?_
  refine Run.box rfl rfl rfl rfl rfl ?_
  intro b13
  refine Zm ?_
  refine Ze ?_
  refine WP.sup (ρ' := [(1, .pointer (some ⟨b1, 0, none⟩)), (3, .pointer (some ⟨b13, 0, none⟩))]) (Γ' := [blk b1 [fv.val, .int .i64 m] 36, blk b13 [nilS.val, .int .i64 0] 38, slA 25 encFun nilS.val [], many (List.zipWith funP [] Fs)]) (covers_get ⟨rfl, rfl, trivial⟩) ?_ ?_
  · refine ent.trans (Δ := [blk b1 [fv.val, .int .i64 m] 36, blk b13 [nilS.val, .int .i64 0] 38]) ent.gn ?_
    exact (slA_nil 25 encFun _).trans ((many_in [] _).trans ent.go)
  refine WP.meetK (α := SV × List RFun) (fun z => z.2.length = Fs.length) (fun z => []) (fun z => [blk b1 [fv.val, .int .i64 m] 36, blk b13 [z.1.val, .int .i64 0] 38, slA 25 encFun z.1.val z.2, many (List.zipWith funP z.2 Fs)]) ?_ ?_
  · refine Zp ?_
    refine Zm ?_
    refine Ze ?_
    refine WP.block ?_
    refine WP.loopK (α := Nat × SV × List RFun) (fun z => z.1 ≤ Fs.length ∧ z.2.2.length = z.1) (fun z => [(4, .int .i64 (z.1 : Int))]) (fun z => [blk b1 [fv.val, .int .i64 m] 36, blk b13 [z.2.1.val, .int .i64 0] 38, slA 25 encFun z.2.1.val z.2.2, many (List.zipWith funP z.2.2 Fs)]) (fun z => Fs.length - z.1) (0, nilS, []) ⟨Nat.zero_le _, rfl⟩ ⟨(by repeat first | exact trivial | refine ⟨rfl, ?_⟩), rfl, rfl⟩ ent.go ?_
    rintro ⟨i, lw, ys⟩ ⟨hi, hys⟩
    simp only at hi hys ⊢
    refine WP.seq ?_
    refine Zp ?_
    refine Zm ?_
    refine Zf fo_36_0 ?_
    refine Zl 0 ag_34 ?_
    refine Zh sl_34 hl ?_
    refine Zi ?_
    refine Ze ?_
    refine WP.ite rfl (fun hlt => ?_) (fun hge => ?_)
    · refine Zb ?_
      obtain ⟨F', hFi⟩ : ∃ y, Fs[i]? = some y := ⟨_, List.getElem?_eq_getElem (by omega)⟩
      obtain ⟨⟨F, su, sv⟩, gr⟩ : ∃ y, raws[i]? = some y := ⟨_, List.getElem?_eq_getElem (by omega)⟩
      obtain ⟨e, hFV⟩ := hF i _ _ gr hFi
      simp only at e hFV
      subst e
      have gr' : raws[(i : Int).toNat]? = some ((F, su, sv) : RFun) := gr
      have hv := hFV.v.hv
      have hp := hFV.v.hu
      have hps := hFV.v.sp
      have hbs := hFV.v.sb
      have hS := hFV.s
      refine WP.seq ?_
      refine WP.block ?_
      refine Zp ?_
      refine Zf fo_36_0 ?_
      refine Zl 0 ag_34 ?_
      refine Zm ?_
      refine Zx sl_34 hl ?_
      refine Run.loadRagg rfl rfl ag_25 rfl rfl (SlR.row hl gr') rfl ?_
      refine Run.alloc rfl zr_25 rfl rfl rfl ?_
      intro b5
      refine Run.storeB 4 rfl rfl rfl rfl ag_25 rfl rfl rfl rfl rfl ?_
      refine Ze ?_
      refine WP.sup (ρ' := [(5, .pointer (some ⟨b5, 0, none⟩)), (4, .int .i64 (i : Int)), (4, .int .i64 0), (1, .pointer (some ⟨b1, 0, none⟩)), (3, .pointer (some ⟨b13, 0, none⟩))]) (Γ' := [blk b1 [fv.val, .int .i64 m] 36, blk b13 [lw.val, .int .i64 0] 38, slA 25 encFun lw.val ys, many (List.zipWith funP ys Fs), blk b5 (fcs F su sv) 25]) (Kp.sup (car := [(5, .pointer (some ⟨b5, 0, none⟩)), (4, .int .i64 (i : Int))]) (ρ := [(4, .int .i64 0), (1, .pointer (some ⟨b1, 0, none⟩)), (3, .pointer (some ⟨b13, 0, none⟩))]) ⟨(by repeat first | exact trivial | refine ⟨rfl, ?_⟩), rfl, rfl⟩) ent.gn ?_
      refine WP.via (Γ' := [blk b1 [fv.val, .int .i64 m] 36, blk b13 [lw.val, .int .i64 0] 38, slA 25 encFun lw.val ys, many (List.zipWith funP ys Fs)] ++ [blk b5 (fcs F su sv) 25]) (ent.refl _) ?_
      refine WP.seq ?_
      refine WP.drawnF cfF [0, 1, 2, 3, 4, 5, 6, 7, 8, 9, 10] [11] ([blk b5 (fcs F su sv) 25]) mixed rfl rfl (by kernel_rfl) (fun gF hgF hdF => ?_)
      refine Zf fo_25_0 ?_
      refine Run.loadF rfl rfl ag_9 rfl rfl (lent_blk (v := .string F.name) 0 0 rfl rfl hgF hdF) ?_
      refine Zf fo_25_1 ?_
      refine Run.loadF rfl rfl ag_22 rfl rfl (lent_blk (v := su.val) 0 1 rfl rfl hgF hdF) ?_
      refine Run.call (Δ := []) (Θ := [blk b1 [fv.val, .int .i64 m] 36, blk b13 [lw.val, .int .i64 0] 38, slA 25 encFun lw.val ys, many (List.zipWith funP ys Fs)]) rfl rfl rfl rfl ok_16 rfl rfl ent.go (room_ok (un hR gF) su.val F.params (hp.mono (sub_un_left hR gF)) hps) ?_; rintro _ _ ⟨wp, rfl, rfl⟩
      refine Zf fo_25_2 ?_
      refine Run.loadF rfl rfl ag_3 rfl rfl (lent_blk (v := .int .i64 F.regs) 0 2 rfl rfl hgF hdF) ?_
      refine Zf fo_25_3 ?_
      refine Run.loadF rfl rfl ag_3 rfl rfl (lent_blk (v := .int .i64 F.res) 0 3 rfl rfl hgF hdF) ?_
      refine Run.build rfl bd_25 rfl rfl rfl rfl ?_
      refine Run.alloc rfl zr_25 rfl rfl rfl ?_
      intro b6
      refine Run.nil ?_
      refine Run.storeB 5 rfl rfl rfl rfl ag_25 rfl rfl rfl rfl rfl ?_
      refine Ze ?_
      refine WP.sup (ρ' := [(5, .pointer (some ⟨b5, 0, none⟩)), (6, .pointer (some ⟨b6, 0, none⟩)), (4, .int .i64 (i : Int)), (4, .int .i64 0), (1, .pointer (some ⟨b1, 0, none⟩)), (3, .pointer (some ⟨b13, 0, none⟩))]) (Γ' := [blk b1 [fv.val, .int .i64 m] 36, blk b13 [lw.val, .int .i64 0] 38, slA 25 encFun lw.val ys, many (List.zipWith funP ys Fs), blk b5 (fcs F su sv) 25, blk b6 (fcs F (wp.cut 1 0 F.params.length) nilS) 25, slA 3 (Enc.int .i64) wp.val (F.params ++ [-71, -72]), slA 56 encBlk nilS.val [], many (List.zipWith blkP [] F.blocks)]) (Kp.sup (car := [(5, .pointer (some ⟨b5, 0, none⟩)), (6, .pointer (some ⟨b6, 0, none⟩)), (4, .int .i64 (i : Int))]) (ρ := [(4, .int .i64 0), (1, .pointer (some ⟨b1, 0, none⟩)), (3, .pointer (some ⟨b13, 0, none⟩))]) ⟨(by repeat first | exact trivial | refine ⟨rfl, ?_⟩), rfl, rfl⟩) ?_ ?_
      · refine ent.trans (Δ := [blk b1 [fv.val, .int .i64 m] 36, blk b13 [lw.val, .int .i64 0] 38, slA 25 encFun lw.val ys, many (List.zipWith funP ys Fs), blk b5 (fcs F su sv) 25, blk b6 (fcs F (wp.cut 1 0 F.params.length) nilS) 25, slA 3 (Enc.int .i64) wp.val (F.params ++ [-71, -72])]) ent.gn ?_
        exact (slA_nil 56 encBlk _).trans ((many_in [] _).trans ent.go)
      refine WP.meetK (α := SV × List RBlk) (fun z => z.2.length = F.blocks.length) (fun z => []) (fun z => [blk b1 [fv.val, .int .i64 m] 36, blk b13 [lw.val, .int .i64 0] 38, slA 25 encFun lw.val ys, many (List.zipWith funP ys Fs), blk b5 (fcs F su sv) 25, blk b6 (fcs F (wp.cut 1 0 F.params.length) z.1) 25, slA 3 (Enc.int .i64) wp.val (F.params ++ [-71, -72]), slA 56 encBlk z.1.val z.2, many (List.zipWith blkP z.2 F.blocks)]) ?_ ?_
      · refine Zp ?_
        refine Zm ?_
        refine Ze ?_
        refine WP.block ?_
        refine WP.loopK (α := Nat × SV × List RBlk) (fun z => z.1 ≤ F.blocks.length ∧ z.2.2.length = z.1) (fun z => [(7, .int .i64 (z.1 : Int))]) (fun z => [blk b1 [fv.val, .int .i64 m] 36, blk b13 [lw.val, .int .i64 0] 38, slA 25 encFun lw.val ys, many (List.zipWith funP ys Fs), blk b5 (fcs F su sv) 25, blk b6 (fcs F (wp.cut 1 0 F.params.length) z.2.1) 25, slA 3 (Enc.int .i64) wp.val (F.params ++ [-71, -72]), slA 56 encBlk z.2.1.val z.2.2, many (List.zipWith blkP z.2.2 F.blocks)]) (fun z => F.blocks.length - z.1) (0, nilS, []) ⟨Nat.zero_le _, rfl⟩ ⟨(by repeat first | exact trivial | refine ⟨rfl, ?_⟩), rfl, rfl⟩ ent.go ?_
        rintro ⟨k, gb, rs⟩ ⟨hk, hrs⟩
        simp only at hk hrs ⊢
        refine WP.seq ?_
        refine Zp ?_
        refine Zm ?_
        refine Zf fo_25_4 ?_
        refine Zl 4 ag_23 ?_
        refine Zh sl_23 hv ?_
        refine Zi ?_
        refine Ze ?_
        refine WP.ite rfl (fun hlt2 => ?_) (fun hge2 => ?_)
        · refine Zb ?_
          obtain ⟨b, gB⟩ : ∃ y, F.blocks[(k : Int).toNat]? = some y := ⟨_, List.getElem?_eq_getElem (by omega)⟩
          have gB' : F.blocks[k]? = some b := gB
          have hbm := List.mem_of_getElem? gB'
          have hb1 := hS.bodies b hbm
          have hb2 := hS.tos b hbm
          have hb3 := hS.args b hbm
          obtain ⟨_, ⟨bu0, bt0, rfl, hbu, hbt⟩, hrow⟩ := hv.at gB
          obtain ⟨bu, rfl, _, _⟩ := SlR.sv hbu
          obtain ⟨bt, rfl, _, _⟩ := SlR.sv hbt
          refine WP.seq ?_
          refine WP.block ?_
          refine Zp ?_
          refine Zf fo_25_4 ?_
          refine Zl 4 ag_23 ?_
          refine Zm ?_
          refine Zx sl_23 hv ?_
          refine Run.loadRagg rfl rfl ag_56 rfl rfl hrow (by rfl) ?_
          refine Run.alloc rfl zr_56 rfl rfl rfl ?_
          intro b8
          refine Run.storeB 9 rfl rfl rfl rfl ag_56 rfl rfl rfl rfl rfl ?_
          refine Ze ?_
          refine WP.sup (ρ' := [(8, .pointer (some ⟨b8, 0, none⟩)), (7, .int .i64 (k : Int)), (7, .int .i64 0), (5, .pointer (some ⟨b5, 0, none⟩)), (6, .pointer (some ⟨b6, 0, none⟩)), (4, .int .i64 (i : Int)), (4, .int .i64 0), (1, .pointer (some ⟨b1, 0, none⟩)), (3, .pointer (some ⟨b13, 0, none⟩))]) (Γ' := [blk b1 [fv.val, .int .i64 m] 36, blk b13 [lw.val, .int .i64 0] 38, slA 25 encFun lw.val ys, many (List.zipWith funP ys Fs), blk b5 (fcs F su sv) 25, blk b6 (fcs F (wp.cut 1 0 F.params.length) gb) 25, slA 3 (Enc.int .i64) wp.val (F.params ++ [-71, -72]), slA 56 encBlk gb.val rs, many (List.zipWith blkP rs F.blocks), blk b8 [bu.val, .int .i64 b.kind, .int .i64 b.value, bt.val] 56]) (Kp.sup (car := [(8, .pointer (some ⟨b8, 0, none⟩)), (7, .int .i64 (k : Int))]) (ρ := [(7, .int .i64 0), (5, .pointer (some ⟨b5, 0, none⟩)), (6, .pointer (some ⟨b6, 0, none⟩)), (4, .int .i64 (i : Int)), (4, .int .i64 0), (1, .pointer (some ⟨b1, 0, none⟩)), (3, .pointer (some ⟨b13, 0, none⟩))]) ⟨(by repeat first | exact trivial | refine ⟨rfl, ?_⟩), rfl, rfl⟩) ent.gn ?_
          refine WP.via (Γ' := [blk b1 [fv.val, .int .i64 m] 36, blk b13 [lw.val, .int .i64 0] 38, slA 25 encFun lw.val ys, many (List.zipWith funP ys Fs), blk b5 (fcs F su sv) 25, blk b6 (fcs F (wp.cut 1 0 F.params.length) gb) 25, slA 3 (Enc.int .i64) wp.val (F.params ++ [-71, -72]), slA 56 encBlk gb.val rs, many (List.zipWith blkP rs F.blocks)] ++ [blk b8 [bu.val, .int .i64 b.kind, .int .i64 b.value, bt.val] 56]) (ent.refl _) ?_
          refine WP.seq ?_
          refine WP.drawnF cfF [0, 1, 2, 3, 4, 5, 6, 7, 8, 9, 10, 11, 12] [13] ([blk b8 [bu.val, .int .i64 b.kind, .int .i64 b.value, bt.val] 56]) mixed rfl rfl (by kernel_rfl) (fun gF hgF hdF => ?_)
          refine Zf fo_56_1 ?_
          refine Zf fo_54_0 ?_
          refine Run.loadF rfl rfl ag_3 rfl rfl (lent_blk (v := .int .i64 b.kind) 0 1 rfl rfl hgF hdF) ?_
          refine Zf fo_56_1 ?_
          refine Zf fo_54_1 ?_
          refine Run.loadF rfl rfl ag_3 rfl rfl (lent_blk (v := .int .i64 b.value) 0 2 rfl rfl hgF hdF) ?_
          refine Zf fo_56_1 ?_
          refine Zf fo_54_2 ?_
          refine Run.loadF rfl rfl ag_22 rfl rfl (lent_blk (v := bt.val) 0 3 rfl rfl hgF hdF) ?_
          refine Run.call (Δ := []) (Θ := [blk b1 [fv.val, .int .i64 m] 36, blk b13 [lw.val, .int .i64 0] 38, slA 25 encFun lw.val ys, many (List.zipWith funP ys Fs), blk b5 (fcs F su sv) 25, blk b6 (fcs F (wp.cut 1 0 F.params.length) gb) 25, slA 3 (Enc.int .i64) wp.val (F.params ++ [-71, -72]), slA 56 encBlk gb.val rs, many (List.zipWith blkP rs F.blocks)]) rfl rfl rfl rfl ok_16 rfl rfl ent.go (room_ok (un hR gF) bt.val b.to (hbt.mono (sub_un_left hR gF)) hb2) ?_; rintro _ _ ⟨wt, rfl, rfl⟩
          refine Run.build rfl bd_54 rfl rfl rfl rfl ?_
          refine Run.build rfl bd_56 rfl rfl rfl rfl ?_
          refine Run.alloc rfl zr_56 rfl rfl rfl ?_
          intro b9
          refine Run.nil ?_
          refine Run.storeB 10 rfl rfl rfl rfl ag_56 rfl rfl rfl rfl rfl ?_
          refine Ze ?_
          refine WP.sup (ρ' := [(8, .pointer (some ⟨b8, 0, none⟩)), (9, .pointer (some ⟨b9, 0, none⟩)), (7, .int .i64 (k : Int)), (7, .int .i64 0), (5, .pointer (some ⟨b5, 0, none⟩)), (6, .pointer (some ⟨b6, 0, none⟩)), (4, .int .i64 (i : Int)), (4, .int .i64 0), (1, .pointer (some ⟨b1, 0, none⟩)), (3, .pointer (some ⟨b13, 0, none⟩))]) (Γ' := [blk b1 [fv.val, .int .i64 m] 36, blk b13 [lw.val, .int .i64 0] 38, slA 25 encFun lw.val ys, many (List.zipWith funP ys Fs), blk b5 (fcs F su sv) 25, blk b6 (fcs F (wp.cut 1 0 F.params.length) gb) 25, slA 3 (Enc.int .i64) wp.val (F.params ++ [-71, -72]), slA 56 encBlk gb.val rs, many (List.zipWith blkP rs F.blocks), blk b8 [bu.val, .int .i64 b.kind, .int .i64 b.value, bt.val] 56, blk b9 [nilS.val, .int .i64 b.kind, .int .i64 b.value, (wt.cut 1 0 b.to.length).val] 56, slA 3 (Enc.int .i64) wt.val (b.to ++ [-71, -72]), slA 67 encIns nilS.val (rawA [] b.body), rows 3 (Enc.int .i64) (rowsA [] b.body)]) (Kp.sup (car := [(8, .pointer (some ⟨b8, 0, none⟩)), (9, .pointer (some ⟨b9, 0, none⟩)), (7, .int .i64 (k : Int))]) (ρ := [(7, .int .i64 0), (5, .pointer (some ⟨b5, 0, none⟩)), (6, .pointer (some ⟨b6, 0, none⟩)), (4, .int .i64 (i : Int)), (4, .int .i64 0), (1, .pointer (some ⟨b1, 0, none⟩)), (3, .pointer (some ⟨b13, 0, none⟩))]) ⟨(by repeat first | exact trivial | refine ⟨rfl, ?_⟩), rfl, rfl⟩) ?_ ?_
          · refine ent.trans (Δ := [blk b1 [fv.val, .int .i64 m] 36, blk b13 [lw.val, .int .i64 0] 38, slA 25 encFun lw.val ys, many (List.zipWith funP ys Fs), blk b5 (fcs F su sv) 25, blk b6 (fcs F (wp.cut 1 0 F.params.length) gb) 25, slA 3 (Enc.int .i64) wp.val (F.params ++ [-71, -72]), slA 56 encBlk gb.val rs, many (List.zipWith blkP rs F.blocks), blk b8 [bu.val, .int .i64 b.kind, .int .i64 b.value, bt.val] 56, blk b9 [nilS.val, .int .i64 b.kind, .int .i64 b.value, (wt.cut 1 0 b.to.length).val] 56, slA 3 (Enc.int .i64) wt.val (b.to ++ [-71, -72])]) ent.gn ?_
            exact (slA_nil 67 encIns _).trans ((rows_new (T := 3) (E := Enc.int .i64) _).trans ent.go)
          refine WP.meetK (α := SV × List SV) (fun z => z.2.length = b.body.length) (fun z => []) (fun z => [blk b1 [fv.val, .int .i64 m] 36, blk b13 [lw.val, .int .i64 0] 38, slA 25 encFun lw.val ys, many (List.zipWith funP ys Fs), blk b5 (fcs F su sv) 25, blk b6 (fcs F (wp.cut 1 0 F.params.length) gb) 25, slA 3 (Enc.int .i64) wp.val (F.params ++ [-71, -72]), slA 56 encBlk gb.val rs, many (List.zipWith blkP rs F.blocks), blk b8 [bu.val, .int .i64 b.kind, .int .i64 b.value, bt.val] 56, blk b9 [z.1.val, .int .i64 b.kind, .int .i64 b.value, (wt.cut 1 0 b.to.length).val] 56, slA 3 (Enc.int .i64) wt.val (b.to ++ [-71, -72]), slA 67 encIns z.1.val (rawA z.2 b.body), rows 3 (Enc.int .i64) (rowsA z.2 b.body)]) ?_ ?_
          · refine Zp ?_
            refine Zm ?_
            refine Ze ?_
            refine WP.block ?_
            refine WP.loopK (α := Nat × SV × List SV) (fun z => z.1 ≤ b.body.length ∧ z.2.2.length = z.1) (fun z => [(10, .int .i64 (z.1 : Int))]) (fun z => [blk b1 [fv.val, .int .i64 m] 36, blk b13 [lw.val, .int .i64 0] 38, slA 25 encFun lw.val ys, many (List.zipWith funP ys Fs), blk b5 (fcs F su sv) 25, blk b6 (fcs F (wp.cut 1 0 F.params.length) gb) 25, slA 3 (Enc.int .i64) wp.val (F.params ++ [-71, -72]), slA 56 encBlk gb.val rs, many (List.zipWith blkP rs F.blocks), blk b8 [bu.val, .int .i64 b.kind, .int .i64 b.value, bt.val] 56, blk b9 [z.2.1.val, .int .i64 b.kind, .int .i64 b.value, (wt.cut 1 0 b.to.length).val] 56, slA 3 (Enc.int .i64) wt.val (b.to ++ [-71, -72]), slA 67 encIns z.2.1.val (rawA z.2.2 b.body), rows 3 (Enc.int .i64) (rowsA z.2.2 b.body)]) (fun z => b.body.length - z.1) (0, nilS, []) ⟨Nat.zero_le _, rfl⟩ ⟨(by repeat first | exact trivial | refine ⟨rfl, ?_⟩), rfl, rfl⟩ ent.go ?_
            rintro ⟨j, cb, ws⟩ ⟨hj, hws⟩
            simp only at hj hws ⊢
            refine WP.seq ?_
            refine Zp ?_
            refine Zm ?_
            refine Zf fo_56_0 ?_
            refine Zl 9 ag_52 ?_
            refine Zh sl_52 hbu ?_
            refine Zi ?_
            refine Ze ?_
            refine WP.ite rfl (fun hlt3 => ?_) (fun hge3 => ?_)
            · refine Zb ?_
              obtain ⟨x, gx⟩ : ∃ y, b.body[(j : Int).toNat]? = some y := ⟨_, List.getElem?_eq_getElem (by omega)⟩
              have gx' : b.body[j]? = some x := gx
              have hx3 := hb3 x (List.mem_of_getElem? gx')
              obtain ⟨_, ⟨xa0, rfl, hxa⟩, hxrow⟩ := hbu.at gx
              obtain ⟨xa, rfl, _, _⟩ := SlR.sv hxa
              have hwl : (rawA ws b.body).length = j := by rw [rawA_len (by omega), hws]
              refine WP.seq ?_
              refine WP.block ?_
              refine Zp ?_
              refine Zf fo_56_0 ?_
              refine Zl 9 ag_52 ?_
              refine Zm ?_
              refine Zx sl_52 hbu ?_
              refine Run.loadRagg rfl rfl ag_67 rfl rfl hxrow (by rfl) ?_
              refine Run.alloc rfl zr_67 rfl rfl rfl ?_
              intro b11
              refine Run.storeB 14 rfl rfl rfl rfl ag_67 rfl rfl rfl rfl rfl ?_
              refine Ze ?_
              refine WP.sup (ρ' := [(11, .pointer (some ⟨b11, 0, none⟩)), (10, .int .i64 (j : Int)), (10, .int .i64 0), (8, .pointer (some ⟨b8, 0, none⟩)), (9, .pointer (some ⟨b9, 0, none⟩)), (7, .int .i64 (k : Int)), (7, .int .i64 0), (5, .pointer (some ⟨b5, 0, none⟩)), (6, .pointer (some ⟨b6, 0, none⟩)), (4, .int .i64 (i : Int)), (4, .int .i64 0), (1, .pointer (some ⟨b1, 0, none⟩)), (3, .pointer (some ⟨b13, 0, none⟩))]) (Γ' := [blk b1 [fv.val, .int .i64 m] 36, blk b13 [lw.val, .int .i64 0] 38, slA 25 encFun lw.val ys, many (List.zipWith funP ys Fs), blk b5 (fcs F su sv) 25, blk b6 (fcs F (wp.cut 1 0 F.params.length) gb) 25, slA 3 (Enc.int .i64) wp.val (F.params ++ [-71, -72]), slA 56 encBlk gb.val rs, many (List.zipWith blkP rs F.blocks), blk b8 [bu.val, .int .i64 b.kind, .int .i64 b.value, bt.val] 56, slA 3 (Enc.int .i64) wt.val (b.to ++ [-71, -72]), slA 67 encIns cb.val (rawA ws b.body), rows 3 (Enc.int .i64) (rowsA ws b.body), blk b9 [cb.val, .int .i64 b.kind, .int .i64 b.value, (wt.cut 1 0 b.to.length).val] 56, blk b11 [.int .i64 x.op, .int .i64 x.dst, .int .i64 x.imm, xa.val] 67]) (Kp.sup (car := [(11, .pointer (some ⟨b11, 0, none⟩)), (10, .int .i64 (j : Int))]) (ρ := [(10, .int .i64 0), (8, .pointer (some ⟨b8, 0, none⟩)), (9, .pointer (some ⟨b9, 0, none⟩)), (7, .int .i64 (k : Int)), (7, .int .i64 0), (5, .pointer (some ⟨b5, 0, none⟩)), (6, .pointer (some ⟨b6, 0, none⟩)), (4, .int .i64 (i : Int)), (4, .int .i64 0), (1, .pointer (some ⟨b1, 0, none⟩)), (3, .pointer (some ⟨b13, 0, none⟩))]) ⟨(by repeat first | exact trivial | refine ⟨rfl, ?_⟩), rfl, rfl⟩) ent.gn ?_
              refine WP.via (Γ' := [blk b1 [fv.val, .int .i64 m] 36, blk b13 [lw.val, .int .i64 0] 38, slA 25 encFun lw.val ys, many (List.zipWith funP ys Fs), blk b5 (fcs F su sv) 25, blk b6 (fcs F (wp.cut 1 0 F.params.length) gb) 25, slA 3 (Enc.int .i64) wp.val (F.params ++ [-71, -72]), slA 56 encBlk gb.val rs, many (List.zipWith blkP rs F.blocks), blk b8 [bu.val, .int .i64 b.kind, .int .i64 b.value, bt.val] 56, slA 3 (Enc.int .i64) wt.val (b.to ++ [-71, -72]), slA 67 encIns cb.val (rawA ws b.body), rows 3 (Enc.int .i64) (rowsA ws b.body)] ++ [blk b9 [cb.val, .int .i64 b.kind, .int .i64 b.value, (wt.cut 1 0 b.to.length).val] 56, blk b11 [.int .i64 x.op, .int .i64 x.dst, .int .i64 x.imm, xa.val] 67]) (ent.refl _) ?_
              refine WP.drawnF cfF [0, 1, 2, 3, 4, 5, 6, 7, 8, 9, 10, 11, 12, 13, 14] [15] ([blk b9 [cb.val, .int .i64 b.kind, .int .i64 b.value, (wt.cut 1 0 b.to.length).val] 56, blk b11 [.int .i64 x.op, .int .i64 x.dst, .int .i64 x.imm, xa.val] 67]) mixed rfl rfl (by kernel_rfl) (fun gF hgF hdF => ?_)
              refine Zf fo_56_0 ?_
              refine Run.loadF rfl rfl ag_52 rfl rfl (lent_blk (v := cb.val) 0 0 rfl rfl hgF hdF) ?_
              refine Zf fo_67_0 ?_
              refine Run.loadF rfl rfl ag_3 rfl rfl (lent_blk (v := .int .i64 x.op) 1 0 rfl rfl hgF hdF) ?_
              refine Zf fo_67_1 ?_
              refine Run.loadF rfl rfl ag_3 rfl rfl (lent_blk (v := .int .i64 x.dst) 1 1 rfl rfl hgF hdF) ?_
              refine Zf fo_67_2 ?_
              refine Run.loadF rfl rfl ag_3 rfl rfl (lent_blk (v := .int .i64 x.imm) 1 2 rfl rfl hgF hdF) ?_
              refine Zf fo_67_3 ?_
              refine Run.loadF rfl rfl ag_22 rfl rfl (lent_blk (v := xa.val) 1 3 rfl rfl hgF hdF) ?_
              refine Run.call (Δ := []) (Θ := [blk b1 [fv.val, .int .i64 m] 36, blk b13 [lw.val, .int .i64 0] 38, slA 25 encFun lw.val ys, many (List.zipWith funP ys Fs), blk b5 (fcs F su sv) 25, blk b6 (fcs F (wp.cut 1 0 F.params.length) gb) 25, slA 3 (Enc.int .i64) wp.val (F.params ++ [-71, -72]), slA 56 encBlk gb.val rs, many (List.zipWith blkP rs F.blocks), blk b8 [bu.val, .int .i64 b.kind, .int .i64 b.value, bt.val] 56, slA 3 (Enc.int .i64) wt.val (b.to ++ [-71, -72]), slA 67 encIns cb.val (rawA ws b.body), rows 3 (Enc.int .i64) (rowsA ws b.body)]) rfl rfl rfl rfl ok_16 rfl rfl ent.go (room_ok (un hR gF) xa.val x.args (hxa.mono (sub_un_left hR gF)) hx3) ?_; rintro _ _ ⟨wx, rfl, rfl⟩
              refine Run.build rfl bd_67 rfl rfl rfl rfl ?_
              refine Run.buildSlice (E := encIns) rfl sl_52 zr_67 ([((x.op, x.dst, x.imm, wx.cut 1 0 x.args.length) : RIns)]) rfl rfl rfl (by decide) rfl rfl ?_
              intro b84
              refine Run.append 12 rfl rfl rfl rfl rfl rfl sl_52 zr_67 rfl (src_own 14 rfl) (by first | omega | (simp <;> omega)) (by first | omega | (simp <;> omega)) ?_
              intro sv85 hv85
              refine Zf fo_56_0 ?_
              refine Run.nil ?_
              refine Run.storeB 15 rfl rfl rfl rfl ag_52 rfl rfl rfl rfl rfl ?_
              refine Run.nil ?_
              refine blk_norm ?_; refine thn_next ?_
              refine WP.sup (ρ' := [(10, .int .i64 (j : Int)), (10, .int .i64 0), (8, .pointer (some ⟨b8, 0, none⟩)), (9, .pointer (some ⟨b9, 0, none⟩)), (7, .int .i64 (k : Int)), (7, .int .i64 0), (5, .pointer (some ⟨b5, 0, none⟩)), (6, .pointer (some ⟨b6, 0, none⟩)), (4, .int .i64 (i : Int)), (4, .int .i64 0), (1, .pointer (some ⟨b1, 0, none⟩)), (3, .pointer (some ⟨b13, 0, none⟩))]) (Γ' := [blk b1 [fv.val, .int .i64 m] 36, blk b13 [lw.val, .int .i64 0] 38, slA 25 encFun lw.val ys, many (List.zipWith funP ys Fs), blk b5 (fcs F su sv) 25, blk b6 (fcs F (wp.cut 1 0 F.params.length) gb) 25, slA 3 (Enc.int .i64) wp.val (F.params ++ [-71, -72]), slA 56 encBlk gb.val rs, many (List.zipWith blkP rs F.blocks), blk b8 [bu.val, .int .i64 b.kind, .int .i64 b.value, bt.val] 56, blk b9 [sv85.val, .int .i64 b.kind, .int .i64 b.value, (wt.cut 1 0 b.to.length).val] 56, slA 3 (Enc.int .i64) wt.val (b.to ++ [-71, -72]), slA 67 encIns sv85.val (rawA (ws ++ [wx]) b.body), rows 3 (Enc.int .i64) (rowsA (ws ++ [wx]) b.body)]) (Kp.sup (car := [(10, .int .i64 (j : Int))]) (ρ := [(10, .int .i64 0), (8, .pointer (some ⟨b8, 0, none⟩)), (9, .pointer (some ⟨b9, 0, none⟩)), (7, .int .i64 (k : Int)), (7, .int .i64 0), (5, .pointer (some ⟨b5, 0, none⟩)), (6, .pointer (some ⟨b6, 0, none⟩)), (4, .int .i64 (i : Int)), (4, .int .i64 0), (1, .pointer (some ⟨b1, 0, none⟩)), (3, .pointer (some ⟨b13, 0, none⟩))]) ⟨(by repeat first | exact trivial | refine ⟨rfl, ?_⟩), rfl, rfl⟩) ?_ ?_
              · refine ent.trans (Δ := rows 3 (Enc.int .i64) (rowsA ws b.body) :: slA 3 (Enc.int .i64) wx.val (x.args ++ [-71, -72]) :: [blk b1 [fv.val, .int .i64 m] 36, blk b13 [lw.val, .int .i64 0] 38, slA 25 encFun lw.val ys, many (List.zipWith funP ys Fs), blk b5 (fcs F su sv) 25, blk b6 (fcs F (wp.cut 1 0 F.params.length) gb) 25, slA 3 (Enc.int .i64) wp.val (F.params ++ [-71, -72]), slA 56 encBlk gb.val rs, many (List.zipWith blkP rs F.blocks), blk b8 [bu.val, .int .i64 b.kind, .int .i64 b.value, bt.val] 56, blk b9 [sv85.val, .int .i64 b.kind, .int .i64 b.value, (wt.cut 1 0 b.to.length).val] 56, slA 3 (Enc.int .i64) wt.val (b.to ++ [-71, -72]), slA 67 encIns sv85.val (rawA ws b.body ++ [(x.op, x.dst, x.imm, wx.cut 1 0 x.args.length)])]) ent.gn ?_
                refine (rows_snoc _).trans ?_
                rw [rowsA_snoc wx (by rw [hws]; exact gx'), rawA_snoc wx (by rw [hws]; exact gx')]
                exact ent.go
              refine Zc ?_
              refine Zm ?_
              refine Za ?_
              refine Zm ?_
              refine Run.nil ?_
              exact thn_next ⟨(j + 1, sv85, ws ++ [wx]), ⟨by simp only; omega, by simp [hws]⟩, by simp only; omega, ⟨(by repeat first | exact trivial | refine ⟨rfl, ?_⟩), rfl, rfl⟩, ent.go⟩
            · refine Zj ?_
              exact thn_next ⟨(cb, ws), by simp only; omega, ⟨(by repeat first | exact trivial | refine ⟨rfl, ?_⟩), rfl, rfl⟩, ent.go⟩
          rintro ⟨cb, ws⟩ hws
          simp only at hws ⊢
          have hwl : (rawA ws b.body).length = b.body.length := by rw [rawA_len (by omega), hws]
          refine WP.seq ?_
          refine WP.via (Γ' := [blk b1 [fv.val, .int .i64 m] 36, blk b13 [lw.val, .int .i64 0] 38, slA 25 encFun lw.val ys, many (List.zipWith funP ys Fs), blk b5 (fcs F su sv) 25, blk b6 (fcs F (wp.cut 1 0 F.params.length) gb) 25, slA 3 (Enc.int .i64) wp.val (F.params ++ [-71, -72]), slA 56 encBlk gb.val rs, many (List.zipWith blkP rs F.blocks), slA 3 (Enc.int .i64) wt.val (b.to ++ [-71, -72]), slA 67 encIns cb.val (rawA ws b.body), rows 3 (Enc.int .i64) (rowsA ws b.body), blk b8 [bu.val, .int .i64 b.kind, .int .i64 b.value, bt.val] 56, blk b9 [cb.val, .int .i64 b.kind, .int .i64 b.value, (wt.cut 1 0 b.to.length).val] 56]) ent.go ?_
          refine WP.via (Γ' := [blk b1 [fv.val, .int .i64 m] 36, blk b13 [lw.val, .int .i64 0] 38, slA 25 encFun lw.val ys, many (List.zipWith funP ys Fs), blk b5 (fcs F su sv) 25, blk b6 (fcs F (wp.cut 1 0 F.params.length) gb) 25, slA 3 (Enc.int .i64) wp.val (F.params ++ [-71, -72]), slA 56 encBlk gb.val rs, many (List.zipWith blkP rs F.blocks), slA 3 (Enc.int .i64) wt.val (b.to ++ [-71, -72]), slA 67 encIns cb.val (rawA ws b.body), rows 3 (Enc.int .i64) (rowsA ws b.body)] ++ [blk b8 [bu.val, .int .i64 b.kind, .int .i64 b.value, bt.val] 56, blk b9 [cb.val, .int .i64 b.kind, .int .i64 b.value, (wt.cut 1 0 b.to.length).val] 56]) (ent.refl _) ?_
          refine WP.drawnF cfF [0, 1, 2, 3, 4, 5, 6, 7, 8, 9] [10] ([blk b8 [bu.val, .int .i64 b.kind, .int .i64 b.value, bt.val] 56, blk b9 [cb.val, .int .i64 b.kind, .int .i64 b.value, (wt.cut 1 0 b.to.length).val] 56]) mixed rfl rfl (by kernel_rfl) (fun gF hgF hdF => ?_)
          refine Zf fo_56_0 ?_
          refine Run.loadF rfl rfl ag_52 rfl rfl (lent_blk (v := cb.val) 1 0 rfl rfl hgF hdF) ?_
          refine Run.build rfl bd_67 rfl rfl rfl rfl ?_
          refine Run.buildSlice (E := encIns) rfl sl_52 zr_67 ([((-71, 0, 0, nilS) : RIns)]) rfl rfl rfl (by decide) rfl rfl ?_
          intro b90
          refine Run.append 10 rfl rfl rfl rfl rfl rfl sl_52 zr_67 rfl (src_own 12 rfl) (by first | omega | (simp <;> omega)) (by first | omega | (simp <;> omega)) ?_
          intro sv91 hv91
          refine Zf fo_56_0 ?_
          refine Run.loadF rfl rfl ag_52 rfl rfl (lent_blk (v := bu.val) 0 0 rfl rfl hgF hdF) ?_
          refine Zh sl_52 (hbu.mono (sub_un_left hR gF)) ?_
          refine Run.know (slA_know 10 rfl) (fun hkn => ?_); obtain ⟨hkn1, hkn2⟩ := hkn; simp only [List.length_append, List.length_cons, List.length_nil, hwl] at hkn2; refine Run.sliceV (sv := sv91) rfl rfl sl_52 rfl rfl rfl rfl (by omega) (by omega) (by omega) ?_
          refine Zf fo_56_0 ?_
          refine Run.nil ?_
          refine Run.storeB 14 rfl rfl rfl rfl ag_52 rfl rfl rfl rfl rfl ?_
          refine Ze ?_
          refine WP.sup (ρ' := [(8, .pointer (some ⟨b8, 0, none⟩)), (9, .pointer (some ⟨b9, 0, none⟩)), (7, .int .i64 (k : Int)), (7, .int .i64 0), (5, .pointer (some ⟨b5, 0, none⟩)), (6, .pointer (some ⟨b6, 0, none⟩)), (4, .int .i64 (i : Int)), (4, .int .i64 0), (1, .pointer (some ⟨b1, 0, none⟩)), (3, .pointer (some ⟨b13, 0, none⟩))]) (Γ' := [blk b1 [fv.val, .int .i64 m] 36, blk b13 [lw.val, .int .i64 0] 38, slA 25 encFun lw.val ys, many (List.zipWith funP ys Fs), blk b5 (fcs F su sv) 25, blk b6 (fcs F (wp.cut 1 0 F.params.length) gb) 25, slA 3 (Enc.int .i64) wp.val (F.params ++ [-71, -72]), slA 56 encBlk gb.val rs, many (List.zipWith blkP rs F.blocks), blk b9 [(sv91.cut 4 0 b.body.length).val, .int .i64 b.kind, .int .i64 b.value, (wt.cut 1 0 b.to.length).val] 56, blkP (sv91.cut 4 0 b.body.length, b.kind, b.value, wt.cut 1 0 b.to.length) b]) (Kp.sup (car := []) (ρ := [(8, .pointer (some ⟨b8, 0, none⟩)), (9, .pointer (some ⟨b9, 0, none⟩)), (7, .int .i64 (k : Int)), (7, .int .i64 0), (5, .pointer (some ⟨b5, 0, none⟩)), (6, .pointer (some ⟨b6, 0, none⟩)), (4, .int .i64 (i : Int)), (4, .int .i64 0), (1, .pointer (some ⟨b1, 0, none⟩)), (3, .pointer (some ⟨b13, 0, none⟩))]) ⟨(by repeat first | exact trivial | refine ⟨rfl, ?_⟩), rfl, rfl⟩) ?_ ?_
          · refine ent.trans (Δ := slA 67 encIns sv91.val (rawA ws b.body ++ [mIns]) :: rows 3 (Enc.int .i64) (rowsA ws b.body) :: [slA 3 (Enc.int .i64) wt.val (b.to ++ [-71, -72]), blk b1 [fv.val, .int .i64 m] 36, blk b13 [lw.val, .int .i64 0] 38, slA 25 encFun lw.val ys, many (List.zipWith funP ys Fs), blk b5 (fcs F su sv) 25, blk b6 (fcs F (wp.cut 1 0 F.params.length) gb) 25, slA 3 (Enc.int .i64) wp.val (F.params ++ [-71, -72]), slA 56 encBlk gb.val rs, many (List.zipWith blkP rs F.blocks), blk b9 [(sv91.cut 4 0 b.body.length).val, .int .i64 b.kind, .int .i64 b.value, (wt.cut 1 0 b.to.length).val] 56]) ent.gn ?_
            refine (body_pack _ hws).trans ?_
            refine ent.trans (Δ := slA 3 (Enc.int .i64) wt.val (b.to ++ [-71, -72]) :: bodyP (sv91.cut 4 0 b.body.length) b.body :: [blk b1 [fv.val, .int .i64 m] 36, blk b13 [lw.val, .int .i64 0] 38, slA 25 encFun lw.val ys, many (List.zipWith funP ys Fs), blk b5 (fcs F su sv) 25, blk b6 (fcs F (wp.cut 1 0 F.params.length) gb) 25, slA 3 (Enc.int .i64) wp.val (F.params ++ [-71, -72]), slA 56 encBlk gb.val rs, many (List.zipWith blkP rs F.blocks), blk b9 [(sv91.cut 4 0 b.body.length).val, .int .i64 b.kind, .int .i64 b.value, (wt.cut 1 0 b.to.length).val] 56]) ent.go ?_
            exact (blk_pack _).trans ent.go
          refine Zc ?_
          refine Zf fo_25_4 ?_
          refine Zl 5 ag_23 ?_
          refine Run.loadBagg 9 rfl rfl ag_56 rfl rfl rfl rfl rfl ?_
          refine Run.buildSlice (E := encBlk) rfl sl_23 zr_56 ([((sv91.cut 4 0 b.body.length, b.kind, b.value, wt.cut 1 0 b.to.length) : RBlk)]) rfl rfl rfl (by decide) rfl rfl ?_
          intro b100
          refine Run.append 7 rfl rfl rfl rfl rfl rfl sl_23 zr_56 rfl (src_own 11 rfl) (by first | omega | (simp <;> omega)) (by first | omega | (simp <;> omega)) ?_
          intro sv101 hv101
          refine Zf fo_25_4 ?_
          refine Run.storeB 5 rfl rfl rfl rfl ag_23 rfl rfl rfl rfl rfl ?_
          refine Run.nil ?_
          refine blk_norm ?_; refine thn_next ?_
          refine WP.sup (ρ' := [(7, .int .i64 (k : Int)), (7, .int .i64 0), (5, .pointer (some ⟨b5, 0, none⟩)), (6, .pointer (some ⟨b6, 0, none⟩)), (4, .int .i64 (i : Int)), (4, .int .i64 0), (1, .pointer (some ⟨b1, 0, none⟩)), (3, .pointer (some ⟨b13, 0, none⟩))]) (Γ' := [blk b1 [fv.val, .int .i64 m] 36, blk b13 [lw.val, .int .i64 0] 38, slA 25 encFun lw.val ys, many (List.zipWith funP ys Fs), blk b5 (fcs F su sv) 25, blk b6 (fcs F (wp.cut 1 0 F.params.length) sv101) 25, slA 3 (Enc.int .i64) wp.val (F.params ++ [-71, -72]), slA 56 encBlk sv101.val (rs ++ [((sv91.cut 4 0 b.body.length, b.kind, b.value, wt.cut 1 0 b.to.length) : RBlk)]), many (List.zipWith blkP (rs ++ [((sv91.cut 4 0 b.body.length, b.kind, b.value, wt.cut 1 0 b.to.length) : RBlk)]) F.blocks)]) (Kp.sup (car := [(7, .int .i64 (k : Int))]) (ρ := [(7, .int .i64 0), (5, .pointer (some ⟨b5, 0, none⟩)), (6, .pointer (some ⟨b6, 0, none⟩)), (4, .int .i64 (i : Int)), (4, .int .i64 0), (1, .pointer (some ⟨b1, 0, none⟩)), (3, .pointer (some ⟨b13, 0, none⟩))]) ⟨(by repeat first | exact trivial | refine ⟨rfl, ?_⟩), rfl, rfl⟩) ?_ ?_
          · refine ent.trans (Δ := many (List.zipWith blkP rs F.blocks) :: blkP ((sv91.cut 4 0 b.body.length, b.kind, b.value, wt.cut 1 0 b.to.length) : RBlk) b :: [blk b1 [fv.val, .int .i64 m] 36, blk b13 [lw.val, .int .i64 0] 38, slA 25 encFun lw.val ys, many (List.zipWith funP ys Fs), blk b5 (fcs F su sv) 25, blk b6 (fcs F (wp.cut 1 0 F.params.length) sv101) 25, slA 3 (Enc.int .i64) wp.val (F.params ++ [-71, -72]), slA 56 encBlk sv101.val (rs ++ [((sv91.cut 4 0 b.body.length, b.kind, b.value, wt.cut 1 0 b.to.length) : RBlk)])]) ent.gn ?_
            refine (many_snoc _ _ _).trans ?_
            rw [zipWith_snoc blkP (by rw [hrs]; exact gB')]
            exact ent.go
          refine Zc ?_
          refine Zm ?_
          refine Za ?_
          refine Zm ?_
          refine Run.nil ?_
          exact thn_next ⟨(k + 1, sv101, rs ++ [((sv91.cut 4 0 b.body.length, b.kind, b.value, wt.cut 1 0 b.to.length) : RBlk)]), ⟨by simp only; omega, by simp [hrs]⟩, by simp only; omega, ⟨(by repeat first | exact trivial | refine ⟨rfl, ?_⟩), rfl, rfl⟩, ent.go⟩
        · refine Zj ?_
          exact thn_next ⟨(gb, rs), by simp only; omega, ⟨(by repeat first | exact trivial | refine ⟨rfl, ?_⟩), rfl, rfl⟩, ent.go⟩
      rintro ⟨gb, rs⟩ hrs
      simp only at hrs ⊢
      refine WP.seq ?_
      refine WP.via (Γ' := [blk b1 [fv.val, .int .i64 m] 36, blk b13 [lw.val, .int .i64 0] 38, slA 25 encFun lw.val ys, many (List.zipWith funP ys Fs), slA 3 (Enc.int .i64) wp.val (F.params ++ [-71, -72]), slA 56 encBlk gb.val rs, many (List.zipWith blkP rs F.blocks), blk b5 (fcs F su sv) 25, blk b6 (fcs F (wp.cut 1 0 F.params.length) gb) 25]) ent.go ?_
      refine WP.via (Γ' := [blk b1 [fv.val, .int .i64 m] 36, blk b13 [lw.val, .int .i64 0] 38, slA 25 encFun lw.val ys, many (List.zipWith funP ys Fs), slA 3 (Enc.int .i64) wp.val (F.params ++ [-71, -72]), slA 56 encBlk gb.val rs, many (List.zipWith blkP rs F.blocks)] ++ [blk b5 (fcs F su sv) 25, blk b6 (fcs F (wp.cut 1 0 F.params.length) gb) 25]) (ent.refl _) ?_
      refine WP.drawnF cfF [0, 1, 2, 3, 4, 5, 6, 7, 8, 9, 10] [11] ([blk b5 (fcs F su sv) 25, blk b6 (fcs F (wp.cut 1 0 F.params.length) gb) 25]) mixed rfl rfl (by kernel_rfl) (fun gF hgF hdF => ?_)
      refine Zf fo_25_4 ?_
      refine Run.loadF rfl rfl ag_23 rfl rfl (lent_blk (v := gb.val) 1 4 rfl rfl hgF hdF) ?_
      refine Run.build rfl bd_54 rfl rfl rfl rfl ?_
      refine Run.build rfl bd_56 rfl rfl rfl rfl ?_
      refine Run.buildSlice (E := encBlk) rfl sl_23 zr_56 ([((nilS, -71, 0, nilS) : RBlk)]) rfl rfl rfl (by decide) rfl rfl ?_
      intro b107
      refine Run.append 5 rfl rfl rfl rfl rfl rfl sl_23 zr_56 rfl (src_own 7 rfl) (by first | omega | (simp <;> omega)) (by first | omega | (simp <;> omega)) ?_
      intro sv108 hv108
      refine Zf fo_25_4 ?_
      refine Run.loadF rfl rfl ag_23 rfl rfl (lent_blk (v := sv.val) 0 4 rfl rfl hgF hdF) ?_
      refine Zh sl_23 (hv.mono (sub_un_left hR gF)) ?_
      refine Run.know (slA_know 5 rfl) (fun hkn => ?_); obtain ⟨hkn1, hkn2⟩ := hkn; simp only [List.length_append, List.length_cons, List.length_nil, hrs] at hkn2; refine Run.sliceV (sv := sv108) rfl rfl sl_23 rfl rfl rfl rfl (by omega) (by omega) (by omega) ?_
      refine Zf fo_25_4 ?_
      refine Run.nil ?_
      refine Run.storeB 9 rfl rfl rfl rfl ag_23 rfl rfl rfl rfl rfl ?_
      refine Ze ?_
      refine WP.sup (ρ' := [(5, .pointer (some ⟨b5, 0, none⟩)), (6, .pointer (some ⟨b6, 0, none⟩)), (4, .int .i64 (i : Int)), (4, .int .i64 0), (1, .pointer (some ⟨b1, 0, none⟩)), (3, .pointer (some ⟨b13, 0, none⟩))]) (Γ' := [blk b1 [fv.val, .int .i64 m] 36, blk b13 [lw.val, .int .i64 0] 38, slA 25 encFun lw.val ys, many (List.zipWith funP ys Fs), blk b6 (fcs F (wp.cut 1 0 F.params.length) (sv108.cut 4 0 F.blocks.length)) 25, funP ((F, wp.cut 1 0 F.params.length, sv108.cut 4 0 F.blocks.length) : RFun) F]) (Kp.sup (car := []) (ρ := [(5, .pointer (some ⟨b5, 0, none⟩)), (6, .pointer (some ⟨b6, 0, none⟩)), (4, .int .i64 (i : Int)), (4, .int .i64 0), (1, .pointer (some ⟨b1, 0, none⟩)), (3, .pointer (some ⟨b13, 0, none⟩))]) ⟨(by repeat first | exact trivial | refine ⟨rfl, ?_⟩), rfl, rfl⟩) ?_ ?_
      · refine ent.trans (Δ := slA 3 (Enc.int .i64) wp.val (F.params ++ [-71, -72]) :: slA 56 encBlk sv108.val (rs ++ [mBlk]) :: many (List.zipWith blkP rs F.blocks) :: [blk b1 [fv.val, .int .i64 m] 36, blk b13 [lw.val, .int .i64 0] 38, slA 25 encFun lw.val ys, many (List.zipWith funP ys Fs), blk b6 (fcs F (wp.cut 1 0 F.params.length) (sv108.cut 4 0 F.blocks.length)) 25]) ent.gn ?_
        exact (fun_pack _ hrs).trans ent.go
      refine WP.drawn0 cf0 mixed rfl (by kernel_rfl) ?_
      refine Zm ?_
      refine Zm ?_
      refine Zn ?_
      refine Zf fo_38_0 ?_
      refine Zf fo_36_0 ?_
      refine Zl 1 ag_34 ?_
      refine Run.loadBagg 4 rfl rfl ag_25 rfl rfl rfl rfl rfl ?_
      refine Run.buildSlice (E := encFun) rfl sl_34 zr_25 ([((F, wp.cut 1 0 F.params.length, sv108.cut 4 0 F.blocks.length) : RFun)]) rfl rfl rfl (by decide) rfl rfl ?_
      intro b121
      refine Run.append 2 rfl rfl rfl rfl rfl rfl sl_34 zr_25 rfl (src_own 6 rfl) (by first | omega | (simp <;> omega)) (by first | omega | (simp <;> omega)) ?_
      intro sv122 hv122
      refine Zn ?_
      refine Zf fo_38_0 ?_
      refine Zf fo_36_0 ?_
      refine Run.storeB 1 rfl rfl rfl rfl ag_34 rfl rfl rfl rfl rfl ?_
      refine Run.nil ?_
      refine blk_norm ?_; refine thn_next ?_
      refine WP.sup (ρ' := [(4, .int .i64 (i : Int)), (4, .int .i64 0), (1, .pointer (some ⟨b1, 0, none⟩)), (3, .pointer (some ⟨b13, 0, none⟩))]) (Γ' := [blk b1 [fv.val, .int .i64 m] 36, blk b13 [sv122.val, .int .i64 0] 38, slA 25 encFun sv122.val (ys ++ [((F, wp.cut 1 0 F.params.length, sv108.cut 4 0 F.blocks.length) : RFun)]), many (List.zipWith funP (ys ++ [((F, wp.cut 1 0 F.params.length, sv108.cut 4 0 F.blocks.length) : RFun)]) Fs)]) (Kp.sup (car := [(4, .int .i64 (i : Int))]) (ρ := [(4, .int .i64 0), (1, .pointer (some ⟨b1, 0, none⟩)), (3, .pointer (some ⟨b13, 0, none⟩))]) ⟨(by repeat first | exact trivial | refine ⟨rfl, ?_⟩), rfl, rfl⟩) ?_ ?_
      · refine ent.trans (Δ := many (List.zipWith funP ys Fs) :: funP ((F, wp.cut 1 0 F.params.length, sv108.cut 4 0 F.blocks.length) : RFun) F :: [blk b1 [fv.val, .int .i64 m] 36, blk b13 [sv122.val, .int .i64 0] 38, slA 25 encFun sv122.val (ys ++ [((F, wp.cut 1 0 F.params.length, sv108.cut 4 0 F.blocks.length) : RFun)])]) ent.gn ?_
        refine (many_snoc _ _ _).trans ?_
        rw [zipWith_snoc funP (by rw [hys]; exact hFi)]
        exact ent.go
      refine Zc ?_
      refine Zm ?_
      refine Za ?_
      refine Zm ?_
      refine Run.nil ?_
      exact thn_next ⟨(i + 1, sv122, ys ++ [((F, wp.cut 1 0 F.params.length, sv108.cut 4 0 F.blocks.length) : RFun)]), ⟨by simp only; omega, by simp [hys]⟩, by simp only; omega, ⟨(by repeat first | exact trivial | refine ⟨rfl, ?_⟩), rfl, rfl⟩, ent.go⟩
    · refine Zj ?_
      exact thn_next ⟨(lw, ys), by simp only; omega, ⟨(by repeat first | exact trivial | refine ⟨rfl, ?_⟩), rfl, rfl⟩, ent.go⟩
  rintro ⟨lw, ys⟩ hys
  simp only at hys ⊢
  refine WP.seq ?_
  refine WP.via (Γ' := [slA 25 encFun lw.val ys, many (List.zipWith funP ys Fs), blk b1 [fv.val, .int .i64 m] 36, blk b13 [lw.val, .int .i64 0] 38]) ent.go ?_
  refine WP.via (Γ' := [slA 25 encFun lw.val ys, many (List.zipWith funP ys Fs)] ++ [blk b1 [fv.val, .int .i64 m] 36, blk b13 [lw.val, .int .i64 0] 38]) (ent.refl _) ?_
  refine WP.drawnF cfF [0, 1, 2, 3, 4, 5, 6, 7, 8, 9, 10, 11, 12, 13, 14, 15] [16] ([blk b1 [fv.val, .int .i64 m] 36, blk b13 [lw.val, .int .i64 0] 38]) mixed rfl rfl (by kernel_rfl) (fun gF hgF hdF => ?_)
  refine Zm ?_
  refine Zm ?_
  refine Zn ?_
  refine Zf fo_38_0 ?_
  refine Zf fo_36_0 ?_
  refine Run.loadF rfl rfl ag_34 rfl rfl (lent_blk (v := lw.val) 1 0 rfl rfl hgF hdF) ?_
  refine Run.build rfl bd_25 rfl rfl rfl rfl ?_
  refine Run.buildSlice (E := encFun) rfl sl_34 zr_25 ([mFun]) rfl rfl rfl (by decide) rfl rfl ?_
  intro b133
  refine Run.append 0 rfl rfl rfl rfl rfl rfl sl_34 zr_25 rfl (src_own 2 rfl) (by first | omega | (simp <;> omega)) (by first | omega | (simp <;> omega)) ?_
  intro sv134 hv134
  refine Zf fo_36_0 ?_
  refine Run.loadF rfl rfl ag_34 rfl rfl (lent_blk (v := fv.val) 0 0 rfl rfl hgF hdF) ?_
  refine Zh sl_34 (hl.mono (sub_un_left hR gF)) ?_
  refine Run.know (slA_know 0 rfl) (fun hkn => ?_); obtain ⟨hkn1, hkn2⟩ := hkn; simp only [List.length_append, List.length_cons, List.length_nil, hys] at hkn2; refine Run.sliceV (sv := sv134) rfl rfl sl_34 rfl rfl rfl rfl (by omega) (by omega) (by omega) ?_
  refine Zn ?_
  refine Zf fo_38_0 ?_
  refine Zf fo_36_0 ?_
  refine Run.nil ?_
  refine Run.storeB 4 rfl rfl rfl rfl ag_34 rfl rfl rfl rfl rfl ?_
  refine Ze ?_
  refine Zp ?_
  refine Zm ?_
  refine Zf fo_36_1 ?_
  refine Zl 3 ag_3 ?_
  refine Zn ?_
  refine Zf fo_38_0 ?_
  refine Zf fo_36_1 ?_
  refine Run.storeB 4 rfl rfl rfl rfl ag_3 rfl rfl rfl rfl rfl ?_
  refine Ze ?_
  refine Zp ?_
  refine Zm ?_
  refine Zm ?_
  refine Ze ?_
  refine WP.ret ?_
  refine retT [2] _ rfl rfl ⟨[leaseP b13 Fs], ?_, b13, rfl, rfl⟩
  rw [hlen]
  refine ent.trans (Δ := [blk b13 [(sv134.cut 5 0 Fs.length).val, .int .i64 m] 38, slA 25 encFun sv134.val (ys ++ [mFun]), many (List.zipWith funP ys Fs)]) ent.gn ?_
  exact (lease_pack _ hys)
end Go.Proofs.YtjjfehdlmdhhmaaDoor
end
section
/- one: a function as it is handed in; walked. -/
namespace Go.Proofs.YtjjfehdlmdhhmaaDoor
open Go.Sep
set_option linter.unusedSimpArgs false
set_option linter.unusedVariables false
attribute [local irreducible] blk slA mp mpF rows rowsBut many
theorem FunV.mono {h g : Heap} {F : LFun} {su sv : SV} (hs : Sub h g) (H : FunV h F su sv) : FunV g F su sv := ⟨H.hu.mono hs, H.hv.mono hs, H.sp, H.sb⟩
set_option maxRecDepth 100000 in
theorem one_ok (hR : Heap) (F : LFun) (su sv : SV) (hV : FunV hR F su sv) (hS : SmallF F) :
    Tri Tryd.prog hR 11 #[.agg ⟨fcs F su sv⟩] [] fun u Γ' => ∃ b : Nat, u = .pointer (some ⟨b, 0, none⟩) ∧ Γ' = [leaseP b [F]] := by
  refine Tri.ent (Tri.of (args := [.agg ⟨fcs F su sv⟩]) Tryd.func11 rfl Tryd.ntmps11 (by simp) ?_)
  refine Zp ?_
  refine Run.box rfl rfl rfl rfl rfl ?_
  intro b1
  refine Zm ?_
  refine Ze ?_
  refine Zp ?_
  refine Run.loadBagg 0 rfl rfl ag_25 rfl rfl rfl rfl rfl ?_
  refine Run.buildSlice (E := encFun) rfl sl_34 zr_25 ([((F, su, sv) : RFun)]) rfl rfl rfl (by decide) rfl rfl ?_
  intro b4
  refine Run.build rfl bd_36 rfl rfl rfl rfl ?_
  refine Run.callLend (Δ := []) (Θ := [slA 25 encFun (⟨some ⟨b4, 0, none⟩, 1, 1⟩ : SV).val [((F, su, sv) : RFun)]]) (Ξ := []) rfl rfl rfl rfl ok_30 rfl rfl ent.go (fun g hg hd => lent_ok (un hR g) ⟨some ⟨b4, 0, none⟩, 1, 1⟩ 0 [((F, su, sv) : RFun)] [F] (lent_at 0 rfl hg hd) rfl (by simp) (fun i r F' hr hF => ?_)) ?_; rotate_left; rintro _ _ ⟨lb, rfl, rfl⟩
  refine Zm ?_
  refine Ze ?_
  refine WP.ret ?_
  exact retT [2] _ rfl rfl ⟨[leaseP lb [F]], ent.go, lb, rfl, rfl⟩
  · match i, hr, hF with
    | 0, hr, hF =>
      simp at hr hF; subst hr hF
      exact ⟨rfl, hV.mono (sub_un_left hR g), hS⟩
    | i + 1, hr, hF => simp at hr
end Go.Proofs.YtjjfehdlmdhhmaaDoor
end
