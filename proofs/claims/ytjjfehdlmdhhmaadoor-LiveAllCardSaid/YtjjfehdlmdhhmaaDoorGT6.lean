/- What being formed tells; the lists of what is live; plain. -/
import Derived.Test.YtjjfehdlmdhhmaaDoorGT5
import Derived.Test.YtjjfehdlmdhhmaaDoorGT1
import Derived.Test.YtjjfehdlmdhhmaaDoorGL7
import Derived.Test.YtjjfehdlmdhhmaaDoorGT2
section
/- What being formed tells; the lists of what is live; plain. -/
namespace Go.Proofs.YtjjfehdlmdhhmaaDoor
open Go.Sep
set_option linter.unusedSimpArgs false
set_option linter.unusedVariables false
structure FormQ (F : LFun) : Prop where
  regs : RegsF F
  to : ∀ b ∈ F.blocks, ∀ c ∈ b.to, 0 ≤ c ∧ c < (F.blocks.length : Int)
  r0 : 0 ≤ F.regs
  r1 : F.regs ≤ 262144
  ps : ∀ p ∈ F.params, 0 ≤ p ∧ p < F.regs
  pl : F.params.length ≤ 8
  nd : F.params.Nodup
  ne : F.blocks.length ≠ 0
theorem regB_iff {F : LFun} {r : Int} : regB F r = true ↔ 0 ≤ r ∧ r < F.regs := by unfold regB; simp
theorem insR_dst {F : LFun} {x : LIns} (h : insR F x = true) : 0 ≤ x.dst → x.dst < F.regs := by
  intro h0
  unfold insR at h
  split at h
  · rw [Bool.and_eq_true] at h; exact (regB_iff.1 h.2).2
  split at h
  · rw [Bool.and_eq_true, Bool.or_eq_true] at h
    rcases h.2 with h1 | h1
    · simp at h1; omega
    · exact (regB_iff.1 h1).2
  split at h
  · simp at h; omega
  split at h
  · cases h
  split at h
  · exact (regB_iff.1 h).2
  · simp at h; omega
theorem termR_val {F : LFun} {k v : Int} {to : List Int} (h : termR F k v to = true) : 0 ≤ v → v < F.regs := by
  intro h0
  unfold termR at h
  split at h
  · simp at h; omega
  split at h
  · rw [Bool.and_eq_true] at h; exact (regB_iff.1 h.1).2
  split at h
  · rw [Bool.and_eq_true, Bool.or_eq_true] at h
    rcases h.2 with h1 | h1
    · simp at h1; omega
    · rw [Bool.and_eq_true] at h1; exact (regB_iff.1 h1.2).2
  · rw [Bool.and_eq_true, Bool.and_eq_true] at h; exact (regB_iff.1 h.1.2).2
theorem formQ {F : LFun} (h : formB F = true) : FormQ F := by
  unfold formB headB at h
  rw [Bool.and_eq_true, Bool.and_eq_true, Bool.and_eq_true] at h
  obtain ⟨⟨h1, h2, h3⟩, h4⟩ := h
  rw [Bool.not_eq_true', decide_eq_false_iff_not] at h1
  rw [List.all_eq_true] at h2 h4
  have hb : ∀ b ∈ F.blocks, (∀ x ∈ b.body, (∀ r ∈ x.args, 0 ≤ r ∧ r < F.regs) ∧ insR F x = true) ∧ (∀ c ∈ b.to, 0 ≤ c ∧ c < (F.blocks.length : Int)) ∧ termR F b.kind b.value b.to = true := by
    intro b hb
    have := h4 b hb
    unfold blkB termB insB at this
    rw [Bool.and_eq_true, Bool.and_eq_true, List.all_eq_true, List.all_eq_true] at this
    refine ⟨fun x hx => ?_, fun c hc => ?_, this.2.2⟩
    · have h5 := this.1 x hx
      rw [Bool.and_eq_true, List.all_eq_true] at h5
      exact ⟨fun r hr => regB_iff.1 (h5.1 r hr), h5.2⟩
    · have h5 := this.2.1 c hc
      unfold wayB at h5
      simpa using h5
  refine ⟨⟨fun b hb' x hx r hr => ((hb b hb').1 x hx).1 r hr, fun b hb' x hx => insR_dst ((hb b hb').1 x hx).2, fun b hb' => termR_val (hb b hb').2.2⟩, fun b hb' c hc => (hb b hb').2.1 c hc, by omega, by omega, fun p hp => regB_iff.1 (h2 p hp), by omega, by simpa using h3, by omega⟩
/-- the registers of a set that tells what is live -/
theorem told_eq {F : LFun} {idx names : List Int} {p : Int → Prop} {a : Ws} (hI : IdxOK F idx names) (h1 : ∀ (j : Nat) (r : Int), names[j]? = some r → (bitW a j = true ↔ p r)) (h2 : ∀ j, bitW a j = true → ∃ r, names[j]? = some r) (h3 : ∀ r, p r → Wants F r) :
    (listW 0 a).map (fun t => names.getD t.toNat 0) = listOf F p := by
  have hn : ∀ (j : Nat) (r : Int), names[j]? = some r → names.getD j 0 = r := fun j r h => by rw [List.getD_eq_getElem?_getD, h]; rfl
  refine listOf_uniq ?_ fun r => ?_
  · rw [List.pairwise_map]
    refine List.Pairwise.imp_of_mem ?_ (sorted_listW a 0)
    intro x y hx hy hxy
    obtain ⟨i, rfl, hi⟩ := (mem_listW a 0 x).1 hx
    obtain ⟨j, rfl, hj⟩ := (mem_listW a 0 y).1 hy
    simp only [Nat.mul_zero, Nat.zero_add, Int.toNat_natCast] at hxy ⊢
    obtain ⟨r, hr⟩ := h2 i hi
    obtain ⟨s, hs⟩ := h2 j hj
    rw [hn i r hr, hn j s hs]
    obtain ⟨i1, e1⟩ := List.getElem?_eq_some_iff.1 hr
    obtain ⟨j1, e2⟩ := List.getElem?_eq_some_iff.1 hs
    have := List.pairwise_iff_getElem.1 hI.srt i j i1 j1 (by omega)
    omega
  · rw [List.mem_map]
    constructor
    · rintro ⟨x, hx, rfl⟩
      obtain ⟨i, rfl, hi⟩ := (mem_listW a 0 x).1 hx
      simp only [Nat.mul_zero, Nat.zero_add, Int.toNat_natCast]
      obtain ⟨r, hr⟩ := h2 i hi
      rw [hn i r hr]
      have := hI.rg r (List.mem_of_getElem? hr)
      exact ⟨this.1, this.2, (h1 i r hr).1 hi⟩
    · rintro ⟨r0, r1, hp⟩
      obtain ⟨j, hj⟩ := hI.all r r0 r1 (h3 r hp)
      refine ⟨(j : Int), (mem_listW a 0 _).2 ⟨j, by simp, (h1 j r hj).2 hp⟩, ?_⟩
      rw [Int.toNat_natCast, hn j r hj]
theorem listW_in {names : List Int} {a : Ws} (h2 : ∀ j, bitW a j = true → ∃ r, names[j]? = some r) : ∀ t ∈ listW 0 a, 0 ≤ t ∧ t < (names.length : Int) := by
  intro t ht
  obtain ⟨i, rfl, hi⟩ := (mem_listW a 0 t).1 ht
  obtain ⟨r, hr⟩ := h2 i hi
  have := (List.getElem?_eq_some_iff.1 hr).1
  omega
section
variable {F : LFun} {idx names : List Int} {m : Nat} {As Bs : List Ws} {T : List Bool}
theorem FI.ahead (hI : IdxOK F idx names) (hQ : FormQ F) (hm : names.length ≤ 64 * m) (H : FI F idx names m As Bs T [] O0) {q : Nat} {a : Ws} (ga : As[q]? = some a) : (listW 0 a).map (fun t => names.getD t.toNat 0) = aheadOf F q ∧ ∀ t ∈ listW 0 a, 0 ≤ t ∧ t < (names.length : Int) := by
  have h2 : ∀ j, bitW a j = true → ∃ r, names[j]? = some r := fun j hj => let ⟨r, hr, _⟩ := H.sa q a j ga hj; ⟨r, hr⟩
  exact ⟨told_eq hI (fun j r hj => (H.done hI hQ.regs hm hQ.to).1 q a j r ga hj) h2 fun r hr => live_wants hr, listW_in h2⟩
theorem FI.behind (hI : IdxOK F idx names) (hQ : FormQ F) (hm : names.length ≤ 64 * m) (H : FI F idx names m As Bs T [] O0) {q : Nat} {a : Ws} (ga : Bs[q]? = some a) : (listW 0 a).map (fun t => names.getD t.toNat 0) = behindOf F q ∧ ∀ t ∈ listW 0 a, 0 ≤ t ∧ t < (names.length : Int) := by
  have h2 : ∀ j, bitW a j = true → ∃ r, names[j]? = some r := fun j hj => let ⟨r, hr, _⟩ := H.sb q a j ga hj; ⟨r, hr⟩
  exact ⟨told_eq hI (fun j r hj => (H.done hI hQ.regs hm hQ.to).2 q a j r ga hj) h2 fun r hr => let ⟨_, _, _, _, hl⟩ := hr; live_wants hl, listW_in h2⟩
end
end Go.Proofs.YtjjfehdlmdhhmaaDoor
end
section
/- What is live, as it is answered; walked. -/
namespace Go.Proofs.YtjjfehdlmdhhmaaDoor
open Go.Sep
set_option linter.unusedSimpArgs false
set_option linter.unusedVariables false
attribute [local irreducible] blk slA mp mpF rows rowsBut many
theorem funAt_box {hR g : Heap} {Θ : List HProp} {F : LFun} {su sv : SV} {b1 : Nat} (k : Nat) (hV : FunV hR F su sv) (hk : Θ[k]? = some (blk b1 (fcs F su sv) 25)) (hg : sat Θ g) (hd : Disj hR g) : FunAt (un hR g) ⟨b1, 0, none⟩ F su.val sv.val :=
  ⟨lent_blk k 0 hk rfl hg hd, lent_blk k 1 hk rfl hg hd, lent_blk k 2 hk rfl hg hd, lent_blk k 3 hk rfl hg hd, lent_blk k 4 hk rfl hg hd, hV.hu.mono (sub_un_left hR g), hV.hv.mono (sub_un_left hR g), hV.sp, hV.sb⟩
theorem lent_row {A : Type} {T : TypeId} {E : Enc A} {hR g : Heap} {Θ : List HProp} {p : List (SV × List A)} {i : Nat} {sv : SV} {xs : List A} (k : Nat) (hk : Θ[k]? = some (rows T E p)) (hi : p[i]? = some (sv, xs)) (hg : sat Θ g) (hd : Disj hR g) : SlR E.rd (un hR g) sv.val xs := by
  obtain ⟨h1, ha, hs⟩ := lent_sub k hk hg hd
  exact (sat_rows ha hi).mono hs
theorem range_map_succ {A : Type} (f : Nat → A) (i : Nat) : (List.range (i + 1)).map f = (List.range i).map f ++ [f i] := by rw [List.range_succ, List.map_append]; rfl
def LiveRes (F : LFun) (x : Value) (Γ' : List HProp) : Prop :=
  (formB F = false ∧ x = .tuple #[.slice none 0 0, .slice none 0 0, .int .i64 140] ∧ Γ' = []) ∨
  (formB F = true ∧ ∃ (o1 o2 : SV) (P Q : List (SV × List Int)), x = .tuple #[o1.val, o2.val, .int .i64 0] ∧ P.map Prod.snd = (List.range F.blocks.length).map (aheadOf F) ∧ Q.map Prod.snd = (List.range F.blocks.length).map (behindOf F) ∧
    Γ' = [slA 22 Enc.slice o1.val (P.map Prod.fst), rows 3 (Enc.int .i64) P, slA 22 Enc.slice o2.val (Q.map Prod.fst), rows 3 (Enc.int .i64) Q])
set_option maxHeartbeats 1000000 in
set_option maxRecDepth 100000 in
theorem live_ok (hR : Heap) (hT : TabH hR) (F : LFun) (su sv : SV) (hV : FunV hR F su sv) (hS : SmallF F) :
    Tri Tryd.prog hR 12 #[.agg ⟨fcs F su sv⟩] [] (LiveRes F) := by
  refine Tri.ent (Tri.of (args := [.agg ⟨fcs F su sv⟩]) Tryd.func12 rfl Tryd.ntmps12 (by simp) ?_)
  have hv := hV.hv
  have hsb := hV.sb
  refine Zp ?_
  refine Run.box rfl rfl rfl rfl rfl ?_
  intro b1
  iterate 3 refine Zm ?_
  refine Ze ?_
  refine WP.sup (ρ' := [(1, .pointer (some ⟨b1, 0, none⟩)), (2, .slice none 0 0), (3, .slice none 0 0), (4, .int .i64 0)]) (Γ' := [blk b1 (fcs F su sv) 25]) (covers_get ⟨rfl, rfl, rfl, rfl, trivial⟩) ent.go ?_
  refine WP.seq ?_
  refine Zp ?_
  refine Run.callLend (Δ := []) (Θ := [blk b1 (fcs F su sv) 25]) (Ξ := []) rfl rfl rfl rfl ok_31 rfl rfl ent.go (fun g hg hd => formed_ok (un hR g) ⟨b1, 0, none⟩ F su.val sv.val (funAt_box 0 hV rfl hg hd) hS) ?_; rintro _ _ ⟨rfl, rfl⟩
  refine Run.bnotB rfl rfl rfl rfl ?_
  refine Ze ?_
  cases hform : formB F with
  | false =>
    refine Zyes ?_
    refine Zp ?_
    iterate 3 refine Zm ?_
    refine Ze ?_
    refine WP.ret ?_; refine thn_ret ?_
    exact retT [2, 3, 4] _ rfl rfl ⟨[], ent.go, .inl ⟨hform, rfl, rfl⟩⟩
  | true =>
  refine Zno ?_
  refine Zb ?_
  have hQ := formQ hform
  have hI := idxOK F hQ.regs hQ.r0
  have hnl := names_len F
  have hr1 := hQ.r1
  have hszm : (namesW 0 (marksF F)).length ≤ 64 * sizeW F := by unfold sizeW; omega
  have hszl : sizeW F ≤ 4097 := by unfold sizeW; omega
  refine Zp ?_
  refine Run.callLend (Δ := []) (Θ := [blk b1 (fcs F su sv) 25]) (Ξ := []) rfl rfl rfl rfl ok_32 rfl rfl ent.go (fun g hg hd => flowing_ok (un hR g) ⟨b1, 0, none⟩ F su.val sv.val (funAt_box 0 hV rfl hg hd) hS hQ.regs hQ.to hQ.r0 hQ.r1) ?_; rintro _ _ ⟨wb, iv, nv, av, bv, A, B, T, rfl, hFI, rfl⟩
  refine Zm ?_
  refine Ze ?_
  have hA : A.length = F.blocks.length := by have := hFI.la; simpa using this
  have hB : B.length = F.blocks.length := by have := hFI.lb; simpa using this
  have hah := fun {q : Nat} {a : Ws} (g : (A.map Prod.snd)[q]? = some a) => hFI.ahead hI hQ hszm g
  have hbe := fun {q : Nat} {a : Ws} (g : (B.map Prod.snd)[q]? = some a) => hFI.behind hI hQ hszm g
  have hra := hFI.ra
  have hrb := hFI.rb
  clear hFI hI
  generalize sizeW F = m at hszm hszl hra hrb
  generalize namesW 0 (marksF F) = names at hnl hszm hah hbe ⊢
  generalize indexW 0 (marksF F) = idx
  refine Zp ?_
  refine Zm ?_
  refine Zm ?_
  refine Ze ?_
  refine WP.sup (ρ' := [(1, .pointer (some ⟨b1, 0, none⟩)), (5, .pointer (some ⟨wb, 0, none⟩)), (6, .slice none 0 0), (7, .slice none 0 0)]) (Γ' := [blk b1 (fcs F su sv) 25, blk wb [.pointer (some ⟨b1, 0, none⟩), iv.val, nv.val, av.val, bv.val] 87, slA 3 (Enc.int .i64) iv.val idx, slA 3 (Enc.int .i64) nv.val names, slA 84 Enc.slice av.val (A.map Prod.fst), rows 134 Enc.u64 A, slA 84 Enc.slice bv.val (B.map Prod.fst), rows 134 Enc.u64 B, slA 22 Enc.slice nilS.val [], rows 3 (Enc.int .i64) [], slA 22 Enc.slice nilS.val [], rows 3 (Enc.int .i64) []]) (covers_get ⟨rfl, rfl, rfl, rfl, trivial⟩) ?_ ?_
  · have h1 := slA_nil 22 Enc.slice [blk b1 (fcs F su sv) 25, blk wb [.pointer (some ⟨b1, 0, none⟩), iv.val, nv.val, av.val, bv.val] 87, slA 3 (Enc.int .i64) iv.val idx, slA 3 (Enc.int .i64) nv.val names, slA 84 Enc.slice av.val (A.map Prod.fst), rows 134 Enc.u64 A, slA 84 Enc.slice bv.val (B.map Prod.fst), rows 134 Enc.u64 B]
    have h2 := slA_nil 22 Enc.slice ([blk b1 (fcs F su sv) 25, blk wb [.pointer (some ⟨b1, 0, none⟩), iv.val, nv.val, av.val, bv.val] 87, slA 3 (Enc.int .i64) iv.val idx, slA 3 (Enc.int .i64) nv.val names, slA 84 Enc.slice av.val (A.map Prod.fst), rows 134 Enc.u64 A, slA 84 Enc.slice bv.val (B.map Prod.fst), rows 134 Enc.u64 B] ++ [slA 22 Enc.slice (.slice none 0 0) []])
    have h3 := rows_new (T := 3) (E := Enc.int .i64) (([blk b1 (fcs F su sv) 25, blk wb [.pointer (some ⟨b1, 0, none⟩), iv.val, nv.val, av.val, bv.val] 87, slA 3 (Enc.int .i64) iv.val idx, slA 3 (Enc.int .i64) nv.val names, slA 84 Enc.slice av.val (A.map Prod.fst), rows 134 Enc.u64 A, slA 84 Enc.slice bv.val (B.map Prod.fst), rows 134 Enc.u64 B] ++ [slA 22 Enc.slice (.slice none 0 0) []]) ++ [slA 22 Enc.slice (.slice none 0 0) []])
    have h4 := rows_new (T := 3) (E := Enc.int .i64) (rows 3 (Enc.int .i64) [] :: (([blk b1 (fcs F su sv) 25, blk wb [.pointer (some ⟨b1, 0, none⟩), iv.val, nv.val, av.val, bv.val] 87, slA 3 (Enc.int .i64) iv.val idx, slA 3 (Enc.int .i64) nv.val names, slA 84 Enc.slice av.val (A.map Prod.fst), rows 134 Enc.u64 A, slA 84 Enc.slice bv.val (B.map Prod.fst), rows 134 Enc.u64 B] ++ [slA 22 Enc.slice (.slice none 0 0) []]) ++ [slA 22 Enc.slice (.slice none 0 0) []]))
    exact ent.trans ent.go (h1.trans (h2.trans (h3.trans (h4.trans ent.go))))
  refine WP.meetK (α := SV × List (SV × List Int) × SV × List (SV × List Int)) (fun z => z.2.1.map Prod.snd = (List.range F.blocks.length).map (aheadOf F) ∧ z.2.2.2.map Prod.snd = (List.range F.blocks.length).map (behindOf F)) (fun z => [(6, z.1.val), (7, z.2.2.1.val)]) (fun z => [blk b1 (fcs F su sv) 25, blk wb [.pointer (some ⟨b1, 0, none⟩), iv.val, nv.val, av.val, bv.val] 87, slA 3 (Enc.int .i64) iv.val idx, slA 3 (Enc.int .i64) nv.val names, slA 84 Enc.slice av.val (A.map Prod.fst), rows 134 Enc.u64 A, slA 84 Enc.slice bv.val (B.map Prod.fst), rows 134 Enc.u64 B, slA 22 Enc.slice z.1.val (z.2.1.map Prod.fst), rows 3 (Enc.int .i64) z.2.1, slA 22 Enc.slice z.2.2.1.val (z.2.2.2.map Prod.fst), rows 3 (Enc.int .i64) z.2.2.2]) ?_ ?_
  · refine Zp ?_
    refine Zf fo_25_4 ?_
    refine Zl 0 ag_23 ?_
    refine Zh sl_23 hv ?_
    refine Zm ?_
    refine Ze ?_
    refine WP.block ?_
    refine WP.loopK (α := Nat × SV × List (SV × List Int) × SV × List (SV × List Int)) (fun z => z.1 ≤ F.blocks.length ∧ z.2.2.1.map Prod.snd = (List.range z.1).map (aheadOf F) ∧ z.2.2.2.2.map Prod.snd = (List.range z.1).map (behindOf F)) (fun z => [(15, .int .i64 (z.1 : Int)), (6, z.2.1.val), (7, z.2.2.2.1.val)]) (fun z => [blk b1 (fcs F su sv) 25, blk wb [.pointer (some ⟨b1, 0, none⟩), iv.val, nv.val, av.val, bv.val] 87, slA 3 (Enc.int .i64) iv.val idx, slA 3 (Enc.int .i64) nv.val names, slA 84 Enc.slice av.val (A.map Prod.fst), rows 134 Enc.u64 A, slA 84 Enc.slice bv.val (B.map Prod.fst), rows 134 Enc.u64 B, slA 22 Enc.slice z.2.1.val (z.2.2.1.map Prod.fst), rows 3 (Enc.int .i64) z.2.2.1, slA 22 Enc.slice z.2.2.2.1.val (z.2.2.2.2.map Prod.fst), rows 3 (Enc.int .i64) z.2.2.2.2]) (fun z => F.blocks.length - z.1) (0, nilS, [], nilS, []) ⟨Nat.zero_le _, rfl, rfl⟩ ⟨(by repeat first | exact trivial | refine ⟨rfl, ?_⟩), rfl, rfl⟩ ent.go ?_
    rintro ⟨i, o1, P, o2, Q⟩ ⟨hi, hP, hQ'⟩
    simp only at hi hP hQ' ⊢
    refine Zp ?_
    refine Zi ?_
    refine Ze ?_
    refine WP.seq ?_
    refine WP.ite rfl (fun hlt => ?_) (fun hge => ?_)
    · refine Zb ?_
      have hin : i < F.blocks.length := by omega
      obtain ⟨⟨sa, a⟩, ga⟩ : ∃ y, A[i]? = some y := ⟨_, List.getElem?_eq_getElem (by omega)⟩
      obtain ⟨⟨sw, w⟩, gw⟩ : ∃ y, B[i]? = some y := ⟨_, List.getElem?_eq_getElem (by omega)⟩
      have ga1 : (A.map Prod.fst)[i]? = some sa := by rw [List.getElem?_map, ga]; rfl
      have ga2 : (A.map Prod.snd)[i]? = some a := by rw [List.getElem?_map, ga]; rfl
      have gw1 : (B.map Prod.fst)[i]? = some sw := by rw [List.getElem?_map, gw]; rfl
      have gw2 : (B.map Prod.snd)[i]? = some w := by rw [List.getElem?_map, gw]; rfl
      have ham : a.length = m := hra a (List.mem_of_getElem? ga2)
      have hwm : w.length = m := hrb w (List.mem_of_getElem? gw2)
      obtain ⟨ea, ia⟩ := hah ga2
      obtain ⟨eb, ib⟩ := hbe gw2
      have hPl : P.length = i := by have := congrArg List.length hP; simpa using this
      have hQl : Q.length = i := by have := congrArg List.length hQ'; simpa using this
      refine WP.seq ?_
      refine WP.block ?_
      refine Zp ?_
      refine Zm ?_
      refine Zm ?_
      refine Ze ?_
      refine Zp ?_
      iterate 3 refine Zm ?_
      refine Zn ?_
      refine Zf fo_87_3 ?_
      refine Zl 1 ag_85 ?_
      refine Zm ?_
      refine Run.idxO 4 rfl rfl rfl sl_85 rfl rfl rfl rfl (by omega) (by simp; omega) ?_
      refine Run.loadO 4 i 0 rfl rfl ag_84 rfl rfl rfl rfl ga1 rfl ?_
      refine Run.callLend (Δ := []) (Θ := [blk wb [.pointer (some ⟨b1, 0, none⟩), iv.val, nv.val, av.val, bv.val] 87, slA 3 (Enc.int .i64) nv.val names, rows 134 Enc.u64 A]) (Ξ := [blk b1 (fcs F su sv) 25, slA 3 (Enc.int .i64) iv.val idx, slA 84 Enc.slice av.val (A.map Prod.fst), slA 84 Enc.slice bv.val (B.map Prod.fst), rows 134 Enc.u64 B, slA 22 Enc.slice o1.val (P.map Prod.fst), rows 3 (Enc.int .i64) P, slA 22 Enc.slice o2.val (Q.map Prod.fst), rows 3 (Enc.int .i64) Q]) rfl rfl rfl rfl ok_33 rfl rfl ent.go (fun g hg hd => told_ok (un hR g) (hT.mono (sub_un_left hR g)) ⟨wb, 0, none⟩ nv.val names sa.val a (lent_blk 0 2 rfl rfl hg hd) (lent_at 1 rfl hg hd) (lent_row 2 rfl ga hg hd) (by omega) ia (by omega)) ?_; rintro _ _ ⟨s1, rfl, hs1, rfl⟩
      refine Run.buildSlice (E := Enc.slice) rfl sl_30 zr_22 ([s1]) rfl rfl rfl (by decide) rfl rfl ?_
      intro b28
      refine Run.append 9 rfl rfl rfl rfl rfl rfl sl_30 zr_22 rfl (src_own 13 rfl) (by first | omega | (simp <;> omega)) (by first | omega | (simp <;> omega)) ?_
      intro sv29 hv29
      refine Zm ?_
      refine Ze ?_
      have e1 : (P.map Prod.fst) ++ [s1] = (P ++ [(s1, aheadOf F i)]).map Prod.fst := by simp
      have ea' : (listW 0 a).map (nameOf names) = aheadOf F i := ea
      rw [ea']
      refine WP.via (Γ' := [blk b1 (fcs F su sv) 25, blk wb [.pointer (some ⟨b1, 0, none⟩), iv.val, nv.val, av.val, bv.val] 87, slA 3 (Enc.int .i64) iv.val idx, slA 3 (Enc.int .i64) nv.val names, slA 84 Enc.slice av.val (A.map Prod.fst), rows 134 Enc.u64 A, slA 84 Enc.slice bv.val (B.map Prod.fst), rows 134 Enc.u64 B, slA 22 Enc.slice sv29.val ((P ++ [(s1, aheadOf F i)]).map Prod.fst), rows 3 (Enc.int .i64) (P ++ [(s1, aheadOf F i)]), slA 22 Enc.slice o2.val (Q.map Prod.fst), rows 3 (Enc.int .i64) Q]) ?_ ?_
      · rw [← e1]
        refine ent.trans (Δ := rows 3 (Enc.int .i64) P :: slA 3 (Enc.int .i64) s1.val (aheadOf F i) :: [blk b1 (fcs F su sv) 25, blk wb [.pointer (some ⟨b1, 0, none⟩), iv.val, nv.val, av.val, bv.val] 87, slA 3 (Enc.int .i64) iv.val idx, slA 3 (Enc.int .i64) nv.val names, slA 84 Enc.slice av.val (A.map Prod.fst), rows 134 Enc.u64 A, slA 84 Enc.slice bv.val (B.map Prod.fst), rows 134 Enc.u64 B, slA 22 Enc.slice sv29.val ((P.map Prod.fst) ++ [s1]), slA 22 Enc.slice o2.val (Q.map Prod.fst), rows 3 (Enc.int .i64) Q]) ent.gn ?_
        exact (rows_snoc _).trans ent.go
      refine Zc ?_
      iterate 3 refine Zm ?_
      refine Zn ?_
      refine Zf fo_87_4 ?_
      refine Zl 1 ag_85 ?_
      refine Zm ?_
      refine Run.idxO 6 rfl rfl rfl sl_85 rfl rfl rfl rfl (by omega) (by simp; omega) ?_
      refine Run.loadO 6 i 0 rfl rfl ag_84 rfl rfl rfl rfl gw1 rfl ?_
      refine Run.callLend (Δ := []) (Θ := [blk wb [.pointer (some ⟨b1, 0, none⟩), iv.val, nv.val, av.val, bv.val] 87, slA 3 (Enc.int .i64) nv.val names, rows 134 Enc.u64 B]) (Ξ := [blk b1 (fcs F su sv) 25, slA 3 (Enc.int .i64) iv.val idx, slA 84 Enc.slice av.val (A.map Prod.fst), rows 134 Enc.u64 A, slA 84 Enc.slice bv.val (B.map Prod.fst), slA 22 Enc.slice sv29.val ((P ++ [(s1, aheadOf F i)]).map Prod.fst), rows 3 (Enc.int .i64) (P ++ [(s1, aheadOf F i)]), slA 22 Enc.slice o2.val (Q.map Prod.fst), rows 3 (Enc.int .i64) Q]) rfl rfl rfl rfl ok_33 rfl rfl ent.go (fun g hg hd => told_ok (un hR g) (hT.mono (sub_un_left hR g)) ⟨wb, 0, none⟩ nv.val names sw.val w (lent_blk 0 2 rfl rfl hg hd) (lent_at 1 rfl hg hd) (lent_row 2 rfl gw hg hd) (by omega) ib (by omega)) ?_; rintro _ _ ⟨s2, rfl, hs2, rfl⟩
      refine Run.buildSlice (E := Enc.slice) rfl sl_30 zr_22 ([s2]) rfl rfl rfl (by decide) rfl rfl ?_
      intro b40
      refine Run.append 11 rfl rfl rfl rfl rfl rfl sl_30 zr_22 rfl (src_own 13 rfl) (by first | omega | (simp <;> omega)) (by first | omega | (simp <;> omega)) ?_
      intro sv41 hv41
      refine Zm ?_
      refine Run.nil ?_
      refine blk_norm ?_; refine thn_next ?_
      refine Zc ?_
      refine Za ?_
      refine Zm ?_
      refine Run.nil ?_
      have e2 : (Q.map Prod.fst) ++ [s2] = (Q ++ [(s2, behindOf F i)]).map Prod.fst := by simp
      have eb' : (listW 0 w).map (nameOf names) = behindOf F i := eb
      refine thn_next ⟨(i + 1, sv29, P ++ [(s1, aheadOf F i)], sv41, Q ++ [(s2, behindOf F i)]), ⟨by simp only; omega, by rw [range_map_succ, ← hP]; simp, by rw [range_map_succ, ← hQ']; simp⟩, by simp only; omega, ⟨(by repeat first | exact trivial | refine ⟨rfl, ?_⟩), rfl, rfl⟩, ?_⟩
      simp only
      rw [← e2, eb']
      refine ent.trans (Δ := rows 3 (Enc.int .i64) Q :: slA 3 (Enc.int .i64) s2.val (behindOf F i) :: [blk b1 (fcs F su sv) 25, blk wb [.pointer (some ⟨b1, 0, none⟩), iv.val, nv.val, av.val, bv.val] 87, slA 3 (Enc.int .i64) iv.val idx, slA 3 (Enc.int .i64) nv.val names, slA 84 Enc.slice av.val (A.map Prod.fst), rows 134 Enc.u64 A, slA 84 Enc.slice bv.val (B.map Prod.fst), rows 134 Enc.u64 B, slA 22 Enc.slice sv29.val ((P ++ [(s1, aheadOf F i)]).map Prod.fst), rows 3 (Enc.int .i64) (P ++ [(s1, aheadOf F i)]), slA 22 Enc.slice sv41.val ((Q.map Prod.fst) ++ [s2])]) ent.gn ?_
      exact (rows_snoc _).trans ent.go
    · refine Zj ?_
      have e : i = F.blocks.length := by omega
      subst e
      exact thn_next ⟨(o1, P, o2, Q), ⟨hP, hQ'⟩, ⟨(by repeat first | exact trivial | refine ⟨rfl, ?_⟩), rfl, rfl⟩, ent.go⟩
  rintro ⟨o1, P, o2, Q⟩ ⟨hP, hQ'⟩
  simp only at hP hQ' ⊢
  refine Zp ?_
  iterate 5 refine Zm ?_
  refine Ze ?_
  refine WP.ret ?_
  exact retT [2, 3, 4] _ rfl rfl ⟨_, ent.go, .inr ⟨hform, o1, o2, P, Q, rfl, hP, hQ', rfl⟩⟩
end Go.Proofs.YtjjfehdlmdhhmaaDoor
end
