/- put: an element goes into a list behind all that are not after it. -/
import Derived.Test.YtengcfamhoppbaaFacts
namespace Go.Proofs.Ytengcfamhoppbaa
set_option linter.unusedSimpArgs false
set_option linter.unusedVariables false
open Go.Sep
attribute [local irreducible] blk slA mp mpF

/-- from the back: of a list turned round -/
def insR {A : Type} (after : A → A → Bool) (x : A) : List A → List A
  | [] => [x]
  | y :: ys => if after y x then y :: insR after x ys else x :: y :: ys
def putL {A : Type} (after : A → A → Bool) (l : List A) (x : A) : List A := (insR after x l.reverse).reverse

theorem putL_nil {A : Type} (after : A → A → Bool) (x : A) : putL after [] x = [x] := rfl
theorem putL_snoc {A : Type} (after : A → A → Bool) (l : List A) (y x : A) : putL after (l ++ [y]) x = if after y x then putL after l x ++ [y] else l ++ [y] ++ [x] := by
  unfold putL
  rw [List.reverse_append, List.reverse_singleton, List.singleton_append, insR]
  split <;> simp

structure Iv where
  r : Int
  f : Int
  t : Int
def Iv.val (x : Iv) : Value := .agg #[.int .i64 x.r, .int .i64 x.f, .int .i64 x.t]
def encIv : Enc Iv := ⟨3, fun x => [.int .i64 x.r, .int .i64 x.f, .int .i64 x.t], fun _ => rfl, fun _ => rfl⟩

/-- a test handed in -/
def IsAfter {A : Type} (mk : A → Value) (g : FuncId) (after : A → A → Bool) : Prop :=
  calleeOk Try.prog g = true ∧ ∀ (hR : Heap) a b, Tri Try.prog hR g #[mk a, mk b] [] fun v Γ' => v = .bool (after a b) ∧ Γ' = []

theorem put_int (hR : Heap) (g : FuncId) (after : Int → Int → Bool) (haft : IsAfter (fun x => .int .i64 x) g after) (v : Value) (xs : List Int) (x : Int) (hlen : xs.length ≤ 1000000) :
    Tri Try.prog hR 23 #[v, .int .i64 x, .func (.func g) #[] #[]] [slA 3 Enc.int v xs] fun v' Γ' => ∃ sv : SV, v' = sv.val ∧ Γ' = [slA 3 Enc.int sv.val (putL after xs x)] := by
  refine Tri.of (args := [v, .int .i64 x, .func (.func g) #[] #[]]) Try.func23 rfl Try.ntmps23 (by simp) ?_
  refine WP.seq ?_
  refine WP.plain cf0 rfl ?_
  refine Run.mv rfl rfl rfl rfl ?_
  refine Run.nil ?_
  refine thn_next ?_
  refine WP.seq ?_
  refine WP.plain cf0 rfl ?_
  refine Run.mv rfl rfl rfl rfl ?_
  refine Run.mv rfl rfl rfl rfl ?_
  refine Run.buildSlice (E := Enc.int (.i64)) rfl sl_47 zr_3 ([x]) rfl rfl rfl (by decide) rfl rfl ?_
  intro b10
  refine Run.append 0 rfl rfl rfl rfl rfl rfl sl_47 zr_3 rfl (src_own 1 rfl) (by first | omega | (simp <;> omega)) (by first | omega | (simp <;> omega)) ?_
  intro sv11 hv11
  refine Run.mv rfl rfl rfl rfl ?_
  refine Run.nil ?_
  refine thn_next ?_
  refine WP.seqMeet (α := SV) (fun _ => True) (fun sv => [(0, sv.val)]) (fun sv => [slA 3 Enc.int sv.val (putL after xs x)]) ?_ ?_
  · refine WP.seq ?_
    refine WP.plain cf0 rfl ?_
    refine Run.mv rfl rfl rfl rfl ?_
    refine Run.lenO 0 rfl rfl sl_47 rfl rfl rfl ?_
    refine Run.sub64 rfl rfl rfl rfl rfl (by first | omega | (simp <;> omega)) (by first | omega | (simp <;> omega)) ?_
    refine Run.mv rfl rfl rfl rfl ?_
    refine Run.nil ?_
    refine thn_next ?_
    refine WP.block ?_
    refine WP.loop (α := List Int × List Int × SV) (fun z => putL after xs x = putL after z.1 x ++ z.2.1 ∧ z.1.length + z.2.1.length = xs.length)
      (fun z => [(0, z.2.2.val), (2, .func (.func g) #[] #[]), (7, .int .i64 (z.1.length : Int))]) (fun z => [slA 3 Enc.int z.2.2.val (z.1 ++ x :: z.2.1)]) (fun z => z.1.length)
      (xs, [], sv11) ⟨by simp, by simp⟩ ?_ ?_ ?_
    · exact ⟨rfl, rfl, by simp [Env.get], trivial⟩
    · exact pick_only [0] _
    · rintro ⟨pre, suf, sv⟩ ⟨hput, hl⟩
      simp only at hput hl ⊢
      refine WP.seq ?_
      refine WP.seq ?_
      rcases List.eq_nil_or_concat pre with rfl | ⟨pre', y, hc⟩
      · -- at the front
        have hneg : ¬ (([] : List Int).length : Int) > 0 := by simp
        refine WP.drawn0 cf0 mixed rfl (by kernel_rfl) ?_
        all_goals (first | refine Run.mv rfl rfl rfl rfl ?_)
        all_goals (first | refine Run.int2 rfl rfl rfl rfl rfl rfl ?_)
        all_goals (first | refine Run.tt (by first | assumption | omega) ?_ | refine Run.ff (by first | assumption | omega) ?_ | refine Run.split (fun hc16 => ?_) (fun hc16 => ?_) | refine Run.splitB (fun hc16 => ?_) (fun hc16 => ?_) | skip)
        all_goals (first | refine Run.mv rfl rfl rfl rfl ?_)
        all_goals (first | refine Run.not rfl rfl ?_ | refine Run.mv rfl rfl rfl rfl ?_)
        all_goals (first | refine Run.not rfl rfl ?_ | refine Run.mv rfl rfl rfl rfl ?_)
        all_goals (first | refine Run.not rfl rfl ?_ | refine Run.mv rfl rfl rfl rfl ?_)
        all_goals (first | refine Run.not rfl rfl ?_ | refine Run.sub64 rfl rfl rfl rfl rfl (by first | omega | (simp <;> omega)) (by first | omega | (simp <;> omega)) ?_)
        all_goals (first | refine Run.not rfl rfl ?_ | refine Run.idxO 0 rfl rfl rfl sl_47 rfl rfl rfl rfl (by first | omega | (simp <;> omega)) (by first | omega | (simp <;> omega)) ?_ | refine Run.idxO 1 rfl rfl rfl sl_47 rfl rfl rfl rfl (by first | omega | (simp <;> omega)) (by first | omega | (simp <;> omega)) ?_ | refine Run.idxO 2 rfl rfl rfl sl_47 rfl rfl rfl rfl (by first | omega | (simp <;> omega)) (by first | omega | (simp <;> omega)) ?_ | refine Run.idxO 3 rfl rfl rfl sl_47 rfl rfl rfl rfl (by first | omega | (simp <;> omega)) (by first | omega | (simp <;> omega)) ?_ | refine Run.idxO 4 rfl rfl rfl sl_47 rfl rfl rfl rfl (by first | omega | (simp <;> omega)) (by first | omega | (simp <;> omega)) ?_ | refine Run.idxO 5 rfl rfl rfl sl_47 rfl rfl rfl rfl (by first | omega | (simp <;> omega)) (by first | omega | (simp <;> omega)) ?_ | refine Run.idxR rfl rfl rfl sl_47 rfl rfl (by assumption) (by rfl) (by first | omega | (simp <;> omega)) (by first | omega | (simp <;> omega)) ?_)
        all_goals (first | refine Run.not rfl rfl ?_ | refine Run.loadB 0 rfl rfl ag_3 rfl rfl rfl rfl rfl ?_ | refine Run.loadO 0 _ 0 rfl rfl ag_3 rfl rfl rfl rfl (by assumption) rfl ?_ | refine Run.loadO 0 _ _ rfl rfl ag_3 rfl rfl rfl rfl (by assumption) rfl ?_ | refine Run.loadB 1 rfl rfl ag_3 rfl rfl rfl rfl rfl ?_ | refine Run.loadO 1 _ 0 rfl rfl ag_3 rfl rfl rfl rfl (by assumption) rfl ?_ | refine Run.loadO 1 _ _ rfl rfl ag_3 rfl rfl rfl rfl (by assumption) rfl ?_ | refine Run.loadB 2 rfl rfl ag_3 rfl rfl rfl rfl rfl ?_ | refine Run.loadO 2 _ 0 rfl rfl ag_3 rfl rfl rfl rfl (by assumption) rfl ?_ | refine Run.loadO 2 _ _ rfl rfl ag_3 rfl rfl rfl rfl (by assumption) rfl ?_ | refine Run.loadB 3 rfl rfl ag_3 rfl rfl rfl rfl rfl ?_ | refine Run.loadO 3 _ 0 rfl rfl ag_3 rfl rfl rfl rfl (by assumption) rfl ?_ | refine Run.loadO 3 _ _ rfl rfl ag_3 rfl rfl rfl rfl (by assumption) rfl ?_ | refine Run.loadB 4 rfl rfl ag_3 rfl rfl rfl rfl rfl ?_ | refine Run.loadO 4 _ 0 rfl rfl ag_3 rfl rfl rfl rfl (by assumption) rfl ?_ | refine Run.loadO 4 _ _ rfl rfl ag_3 rfl rfl rfl rfl (by assumption) rfl ?_ | refine Run.loadB 5 rfl rfl ag_3 rfl rfl rfl rfl rfl ?_ | refine Run.loadO 5 _ 0 rfl rfl ag_3 rfl rfl rfl rfl (by assumption) rfl ?_ | refine Run.loadO 5 _ _ rfl rfl ag_3 rfl rfl rfl rfl (by assumption) rfl ?_ | refine Run.loadR rfl rfl ag_3 rfl rfl (by first | assumption | exact SlR.cell0 (by assumption) (by assumption) rfl | exact SlR.cell (by assumption) (by assumption) rfl) ?_)
        all_goals (first | refine Run.not rfl rfl ?_ | refine Run.mv rfl rfl rfl rfl ?_)
        all_goals (first | refine Run.not rfl rfl ?_ | refine Run.mv rfl rfl rfl rfl ?_)
        all_goals (first | refine Run.not rfl rfl ?_ | refine Run.idxO 0 rfl rfl rfl sl_47 rfl rfl rfl rfl (by first | omega | (simp <;> omega)) (by first | omega | (simp <;> omega)) ?_ | refine Run.idxO 1 rfl rfl rfl sl_47 rfl rfl rfl rfl (by first | omega | (simp <;> omega)) (by first | omega | (simp <;> omega)) ?_ | refine Run.idxO 2 rfl rfl rfl sl_47 rfl rfl rfl rfl (by first | omega | (simp <;> omega)) (by first | omega | (simp <;> omega)) ?_ | refine Run.idxO 3 rfl rfl rfl sl_47 rfl rfl rfl rfl (by first | omega | (simp <;> omega)) (by first | omega | (simp <;> omega)) ?_ | refine Run.idxO 4 rfl rfl rfl sl_47 rfl rfl rfl rfl (by first | omega | (simp <;> omega)) (by first | omega | (simp <;> omega)) ?_ | refine Run.idxO 5 rfl rfl rfl sl_47 rfl rfl rfl rfl (by first | omega | (simp <;> omega)) (by first | omega | (simp <;> omega)) ?_ | refine Run.idxR rfl rfl rfl sl_47 rfl rfl (by assumption) (by rfl) (by first | omega | (simp <;> omega)) (by first | omega | (simp <;> omega)) ?_)
        all_goals (first | refine Run.not rfl rfl ?_ | refine Run.loadB 0 rfl rfl ag_3 rfl rfl rfl rfl rfl ?_ | refine Run.loadO 0 _ 0 rfl rfl ag_3 rfl rfl rfl rfl (by assumption) rfl ?_ | refine Run.loadO 0 _ _ rfl rfl ag_3 rfl rfl rfl rfl (by assumption) rfl ?_ | refine Run.loadB 1 rfl rfl ag_3 rfl rfl rfl rfl rfl ?_ | refine Run.loadO 1 _ 0 rfl rfl ag_3 rfl rfl rfl rfl (by assumption) rfl ?_ | refine Run.loadO 1 _ _ rfl rfl ag_3 rfl rfl rfl rfl (by assumption) rfl ?_ | refine Run.loadB 2 rfl rfl ag_3 rfl rfl rfl rfl rfl ?_ | refine Run.loadO 2 _ 0 rfl rfl ag_3 rfl rfl rfl rfl (by assumption) rfl ?_ | refine Run.loadO 2 _ _ rfl rfl ag_3 rfl rfl rfl rfl (by assumption) rfl ?_ | refine Run.loadB 3 rfl rfl ag_3 rfl rfl rfl rfl rfl ?_ | refine Run.loadO 3 _ 0 rfl rfl ag_3 rfl rfl rfl rfl (by assumption) rfl ?_ | refine Run.loadO 3 _ _ rfl rfl ag_3 rfl rfl rfl rfl (by assumption) rfl ?_ | refine Run.loadB 4 rfl rfl ag_3 rfl rfl rfl rfl rfl ?_ | refine Run.loadO 4 _ 0 rfl rfl ag_3 rfl rfl rfl rfl (by assumption) rfl ?_ | refine Run.loadO 4 _ _ rfl rfl ag_3 rfl rfl rfl rfl (by assumption) rfl ?_ | refine Run.loadB 5 rfl rfl ag_3 rfl rfl rfl rfl rfl ?_ | refine Run.loadO 5 _ 0 rfl rfl ag_3 rfl rfl rfl rfl (by assumption) rfl ?_ | refine Run.loadO 5 _ _ rfl rfl ag_3 rfl rfl rfl rfl (by assumption) rfl ?_ | refine Run.loadR rfl rfl ag_3 rfl rfl (by first | assumption | exact SlR.cell0 (by assumption) (by assumption) rfl | exact SlR.cell (by assumption) (by assumption) rfl) ?_)
        all_goals (first | refine Run.not rfl rfl ?_ | fail)
        all_goals (first | refine Run.pick rfl rfl rfl rfl rfl ?_)
        all_goals (refine Run.nil ?_)
        refine thn_next ?_
        refine WP.cond (t := false) rfl (fun h => by cases h) (fun _ => ?_)
        refine WP.exit ?_; refine thn_exit ?_; refine thn_exit ?_; refine blk_hit ?_; refine thn_next ?_
        refine ⟨sv, trivial, ⟨rfl, trivial⟩, ?_⟩
        rw [hput, putL_nil]; exact ent.refl _
      · rw [List.concat_eq_append] at hc; subst hc
        have hpos : (0 : Int) < ((pre' ++ [y]).length : Int) := by simp
        have e1 : (((pre' ++ [y]).length : Int) - 1).toNat = pre'.length := by simp
        have e2 : (((pre' ++ [y]).length : Int)).toNat = pre'.length + 1 := by simp
        have g1 : ((pre' ++ [y]) ++ x :: suf)[(((pre' ++ [y]).length : Int) - 1).toNat]? = some y := by rw [e1]; simp
        have g2 : ((pre' ++ [y]) ++ x :: suf)[(((pre' ++ [y]).length : Int)).toNat]? = some x := by rw [e2]; simp
        refine WP.drawn0 cf0 mixed rfl (by kernel_rfl) ?_
        refine Run.mv rfl rfl rfl rfl ?_
        refine Run.int2 rfl rfl rfl rfl rfl rfl ?_
        refine Run.tt hpos ?_
        refine Run.mv rfl rfl rfl rfl ?_
        refine Run.mv rfl rfl rfl rfl ?_
        refine Run.mv rfl rfl rfl rfl ?_
        refine Run.mv rfl rfl rfl rfl ?_
        refine Run.sub64 rfl rfl rfl rfl rfl (by first | omega | (simp <;> omega)) (by first | omega | (simp <;> omega)) ?_
        refine Run.idxO 0 rfl rfl rfl sl_47 rfl rfl rfl rfl (by first | omega | (simp <;> omega)) (by first | omega | (simp <;> omega)) ?_
        refine Run.loadO 0 _ 0 rfl rfl ag_3 rfl rfl rfl rfl (by assumption) rfl ?_
        refine Run.mv rfl rfl rfl rfl ?_
        refine Run.mv rfl rfl rfl rfl ?_
        refine Run.idxO 0 rfl rfl rfl sl_47 rfl rfl rfl rfl (by first | omega | (simp <;> omega)) (by first | omega | (simp <;> omega)) ?_
        refine Run.loadO 0 _ 0 rfl rfl ag_3 rfl rfl rfl rfl (by assumption) rfl ?_
        refine Run.call (Δ := []) (Θ := [slA 3 Enc.int sv.val ((pre' ++ [y]) ++ x :: suf)]) rfl rfl rfl rfl haft.1 rfl rfl (ent.refl _) (haft.2 hR y x) ?_; rintro _ _ ⟨rfl, rfl⟩
        refine Run.pick rfl rfl rfl rfl rfl ?_
        refine Run.nil ?_
        refine thn_next ?_
        refine WP.cond (t := after y x) rfl (fun hb => ?_) (fun hb => ?_)
        · refine WP.skip ?_; refine thn_next ?_
          refine WP.weaken (ρ' := [(0, sv.val), (2, .func (.func g) #[] #[]), (7, .int .i64 ((pre' ++ [y]).length : Int))]) ⟨rfl, rfl, rfl, trivial⟩ (Γ' := [slA 3 Enc.int sv.val ((pre' ++ [y]) ++ x :: suf)]) (ent.refl _) ?_
          refine WP.seq ?_
          refine WP.block ?_
          have g3 : (((pre' ++ [y]) ++ x :: suf).set (((pre' ++ [y]).length : Int) - 1).toNat x)[(((pre' ++ [y]).length : Int)).toNat]? = some x := by rw [e1, e2, List.getElem?_set_ne (by omega), ← e2]; exact g2
          refine WP.drawn0 cf0 mixed rfl (by kernel_rfl) ?_
          refine Run.mv rfl rfl rfl rfl ?_
          refine Run.mv rfl rfl rfl rfl ?_
          refine Run.sub64 rfl rfl rfl rfl rfl (by first | omega | (simp <;> omega)) (by first | omega | (simp <;> omega)) ?_
          refine Run.mv rfl rfl rfl rfl ?_
          refine Run.mv rfl rfl rfl rfl ?_
          refine Run.mv rfl rfl rfl rfl ?_
          refine Run.mv rfl rfl rfl rfl ?_
          refine Run.idxO 0 rfl rfl rfl sl_47 rfl rfl rfl rfl (by first | omega | (simp <;> omega)) (by first | omega | (simp <;> omega)) ?_
          refine Run.loadO 0 _ 0 rfl rfl ag_3 rfl rfl rfl rfl (by assumption) rfl ?_
          refine Run.mv rfl rfl rfl rfl ?_
          refine Run.mv rfl rfl rfl rfl ?_
          refine Run.sub64 rfl rfl rfl rfl rfl (by first | omega | (simp <;> omega)) (by first | omega | (simp <;> omega)) ?_
          refine Run.idxO 0 rfl rfl rfl sl_47 rfl rfl rfl rfl (by first | omega | (simp <;> omega)) (by first | omega | (simp <;> omega)) ?_
          refine Run.loadO 0 _ 0 rfl rfl ag_3 rfl rfl rfl rfl (by assumption) rfl ?_
          refine Run.idxO 0 rfl rfl rfl sl_47 rfl rfl rfl rfl (by first | omega | (simp <;> omega)) (by first | omega | (simp <;> omega)) ?_
          refine Run.storeO 0 _ 0 rfl rfl rfl rfl ag_3 rfl rfl rfl rfl (by assumption) rfl rfl ?_
          refine Run.idxO 0 rfl rfl rfl sl_47 rfl rfl rfl rfl (by first | omega | (simp <;> omega)) (by first | omega | (simp <;> omega)) ?_
          refine Run.storeO 0 _ 0 rfl rfl rfl rfl ag_3 rfl rfl rfl rfl (by assumption) rfl rfl ?_
          refine Run.nil ?_
          refine blk_norm ?_; refine thn_next ?_
          refine WP.plain cf0 rfl ?_
          refine Run.mv rfl rfl rfl rfl ?_
          refine Run.sub64 rfl rfl rfl rfl rfl (by first | omega | (simp <;> omega)) (by first | omega | (simp <;> omega)) ?_
          refine Run.mv rfl rfl rfl rfl ?_
          refine Run.nil ?_
          refine thn_next ⟨(pre', y :: suf, sv), ⟨?_, ?_⟩, ?_, ?_, ?_⟩
          · simp only; rw [hput, putL_snoc, if_pos hb]; simp
          · simp at hl ⊢; omega
          · simp
          · refine ⟨rfl, rfl, ?_, trivial⟩
            have : ((pre' ++ [y]).length : Int) - 1 = (pre'.length : Int) := by simp
            simp only [this]; rfl
          · have : (((pre' ++ [y]) ++ x :: suf).set (((pre' ++ [y]).length : Int) - 1).toNat x).set (((pre' ++ [y]).length : Int)).toNat y = pre' ++ x :: y :: suf := by rw [e1, e2]; simp [List.set_append]
            rw [← this]; exact ent.refl _
        · refine WP.exit ?_; refine thn_exit ?_; refine thn_exit ?_; refine blk_hit ?_; refine thn_next ?_
          refine ⟨sv, trivial, ⟨rfl, trivial⟩, ?_⟩
          rw [hput, putL_snoc, hb]; simp; exact ent.refl _
  · intro sv _
    refine WP.seq ?_
    refine WP.plain cf0 rfl ?_
    refine Run.mv rfl rfl rfl rfl ?_
    refine Run.mv rfl rfl rfl rfl ?_
    refine Run.nil ?_
    refine thn_next ?_
    refine WP.ret ?_
    exact retT [6] _ rfl rfl ⟨sv, rfl, rfl⟩

theorem put_iv (hR : Heap) (g : FuncId) (after : Iv → Iv → Bool) (haft : IsAfter Iv.val g after) (v : Value) (xs : List Iv) (x : Iv) (hlen : xs.length ≤ 1000000) :
    Tri Try.prog hR 25 #[v, x.val, .func (.func g) #[] #[]] [slA 35 encIv v xs] fun v' Γ' => ∃ sv : SV, v' = sv.val ∧ Γ' = [slA 35 encIv sv.val (putL after xs x)] := by
  refine Tri.of (args := [v, x.val, .func (.func g) #[] #[]]) Try.func25 rfl Try.ntmps25 (by simp) ?_
  refine WP.seq ?_
  refine WP.plain cf0 rfl ?_
  refine Run.box rfl rfl rfl rfl rfl ?_
  intro b4
  refine Run.mv rfl rfl rfl rfl ?_
  refine Run.nil ?_
  refine thn_next ?_
  refine WP.seq ?_
  refine WP.plain cf0 rfl ?_
  refine Run.mv rfl rfl rfl rfl ?_
  refine Run.loadBagg 1 rfl rfl ag_35 rfl rfl rfl rfl rfl ?_
  refine Run.buildSlice (E := encIv) rfl sl_22 zr_35 ([x]) rfl rfl rfl (by decide) rfl rfl ?_
  intro b10
  refine Run.append 0 rfl rfl rfl rfl rfl rfl sl_22 zr_35 rfl (src_own 2 rfl) (by first | omega | (simp <;> omega)) (by first | omega | (simp <;> omega)) ?_
  intro sv11 hv11
  refine Run.mv rfl rfl rfl rfl ?_
  refine Run.nil ?_
  refine thn_next ?_
  refine WP.seqMeet (α := SV) (fun _ => True) (fun sv => [(0, sv.val)]) (fun sv => [slA 35 encIv sv.val (putL after xs x)]) ?_ ?_
  · refine WP.seq ?_
    refine WP.plain cf0 rfl ?_
    refine Run.mv rfl rfl rfl rfl ?_
    refine Run.lenO 0 rfl rfl sl_22 rfl rfl rfl ?_
    refine Run.sub64 rfl rfl rfl rfl rfl (by first | omega | (simp <;> omega)) (by first | omega | (simp <;> omega)) ?_
    refine Run.mv rfl rfl rfl rfl ?_
    refine Run.nil ?_
    refine thn_next ?_
    refine WP.block ?_
    refine WP.loop (α := List Iv × List Iv × SV) (fun z => putL after xs x = putL after z.1 x ++ z.2.1 ∧ z.1.length + z.2.1.length = xs.length)
      (fun z => [(0, z.2.2.val), (2, .func (.func g) #[] #[]), (7, .int .i64 (z.1.length : Int))]) (fun z => [slA 35 encIv z.2.2.val (z.1 ++ x :: z.2.1)]) (fun z => z.1.length)
      (xs, [], sv11) ⟨by simp, by simp⟩ ?_ ?_ ?_
    · exact ⟨rfl, rfl, by simp [Env.get], trivial⟩
    · exact pick_only [0] _
    · rintro ⟨pre, suf, sv⟩ ⟨hput, hl⟩
      simp only at hput hl ⊢
      refine WP.seq ?_
      refine WP.seq ?_
      rcases List.eq_nil_or_concat pre with rfl | ⟨pre', y, hc⟩
      · -- at the front
        have hneg : ¬ (([] : List Iv).length : Int) > 0 := by simp
        refine WP.drawn0 cf0 mixed rfl (by kernel_rfl) ?_
        all_goals (first | refine Run.mv rfl rfl rfl rfl ?_)
        all_goals (first | refine Run.int2 rfl rfl rfl rfl rfl rfl ?_)
        all_goals (first | refine Run.tt (by first | assumption | omega) ?_ | refine Run.ff (by first | assumption | omega) ?_ | refine Run.split (fun hc16 => ?_) (fun hc16 => ?_) | refine Run.splitB (fun hc16 => ?_) (fun hc16 => ?_) | skip)
        all_goals (first | refine Run.mv rfl rfl rfl rfl ?_)
        all_goals (first | refine Run.not rfl rfl ?_ | refine Run.mv rfl rfl rfl rfl ?_)
        all_goals (first | refine Run.not rfl rfl ?_ | refine Run.mv rfl rfl rfl rfl ?_)
        all_goals (first | refine Run.not rfl rfl ?_ | refine Run.mv rfl rfl rfl rfl ?_)
        all_goals (first | refine Run.not rfl rfl ?_ | refine Run.sub64 rfl rfl rfl rfl rfl (by first | omega | (simp <;> omega)) (by first | omega | (simp <;> omega)) ?_)
        all_goals (first | refine Run.not rfl rfl ?_ | refine Run.idxO 0 rfl rfl rfl sl_22 rfl rfl rfl rfl (by first | omega | (simp <;> omega)) (by first | omega | (simp <;> omega)) ?_ | refine Run.idxO 1 rfl rfl rfl sl_22 rfl rfl rfl rfl (by first | omega | (simp <;> omega)) (by first | omega | (simp <;> omega)) ?_ | refine Run.idxO 2 rfl rfl rfl sl_22 rfl rfl rfl rfl (by first | omega | (simp <;> omega)) (by first | omega | (simp <;> omega)) ?_ | refine Run.idxO 3 rfl rfl rfl sl_22 rfl rfl rfl rfl (by first | omega | (simp <;> omega)) (by first | omega | (simp <;> omega)) ?_ | refine Run.idxO 4 rfl rfl rfl sl_22 rfl rfl rfl rfl (by first | omega | (simp <;> omega)) (by first | omega | (simp <;> omega)) ?_ | refine Run.idxO 5 rfl rfl rfl sl_22 rfl rfl rfl rfl (by first | omega | (simp <;> omega)) (by first | omega | (simp <;> omega)) ?_ | refine Run.idxR rfl rfl rfl sl_22 rfl rfl (by assumption) (by rfl) (by first | omega | (simp <;> omega)) (by first | omega | (simp <;> omega)) ?_)
        all_goals (first | refine Run.not rfl rfl ?_ | refine Run.loadOagg 0 _ rfl rfl ag_35 rfl rfl rfl rfl rfl (by assumption) ?_ | refine Run.loadBagg 0 rfl rfl ag_35 rfl rfl rfl rfl rfl ?_ | refine Run.loadOagg 1 _ rfl rfl ag_35 rfl rfl rfl rfl rfl (by assumption) ?_ | refine Run.loadBagg 1 rfl rfl ag_35 rfl rfl rfl rfl rfl ?_ | refine Run.loadOagg 2 _ rfl rfl ag_35 rfl rfl rfl rfl rfl (by assumption) ?_ | refine Run.loadBagg 2 rfl rfl ag_35 rfl rfl rfl rfl rfl ?_ | refine Run.loadOagg 3 _ rfl rfl ag_35 rfl rfl rfl rfl rfl (by assumption) ?_ | refine Run.loadBagg 3 rfl rfl ag_35 rfl rfl rfl rfl rfl ?_ | refine Run.loadOagg 4 _ rfl rfl ag_35 rfl rfl rfl rfl rfl (by assumption) ?_ | refine Run.loadBagg 4 rfl rfl ag_35 rfl rfl rfl rfl rfl ?_ | refine Run.loadOagg 5 _ rfl rfl ag_35 rfl rfl rfl rfl rfl (by assumption) ?_ | refine Run.loadBagg 5 rfl rfl ag_35 rfl rfl rfl rfl rfl ?_ | refine Run.loadRagg rfl rfl ag_35 rfl rfl (by first | assumption | exact SlR.row (by assumption) (by assumption)) (by rfl) ?_)
        all_goals (first | refine Run.not rfl rfl ?_ | refine Run.mv rfl rfl rfl rfl ?_)
        all_goals (first | refine Run.not rfl rfl ?_ | refine Run.mv rfl rfl rfl rfl ?_)
        all_goals (first | refine Run.not rfl rfl ?_ | refine Run.idxO 0 rfl rfl rfl sl_22 rfl rfl rfl rfl (by first | omega | (simp <;> omega)) (by first | omega | (simp <;> omega)) ?_ | refine Run.idxO 1 rfl rfl rfl sl_22 rfl rfl rfl rfl (by first | omega | (simp <;> omega)) (by first | omega | (simp <;> omega)) ?_ | refine Run.idxO 2 rfl rfl rfl sl_22 rfl rfl rfl rfl (by first | omega | (simp <;> omega)) (by first | omega | (simp <;> omega)) ?_ | refine Run.idxO 3 rfl rfl rfl sl_22 rfl rfl rfl rfl (by first | omega | (simp <;> omega)) (by first | omega | (simp <;> omega)) ?_ | refine Run.idxO 4 rfl rfl rfl sl_22 rfl rfl rfl rfl (by first | omega | (simp <;> omega)) (by first | omega | (simp <;> omega)) ?_ | refine Run.idxO 5 rfl rfl rfl sl_22 rfl rfl rfl rfl (by first | omega | (simp <;> omega)) (by first | omega | (simp <;> omega)) ?_ | refine Run.idxR rfl rfl rfl sl_22 rfl rfl (by assumption) (by rfl) (by first | omega | (simp <;> omega)) (by first | omega | (simp <;> omega)) ?_)
        all_goals (first | refine Run.not rfl rfl ?_ | refine Run.loadOagg 0 _ rfl rfl ag_35 rfl rfl rfl rfl rfl (by assumption) ?_ | refine Run.loadBagg 0 rfl rfl ag_35 rfl rfl rfl rfl rfl ?_ | refine Run.loadOagg 1 _ rfl rfl ag_35 rfl rfl rfl rfl rfl (by assumption) ?_ | refine Run.loadBagg 1 rfl rfl ag_35 rfl rfl rfl rfl rfl ?_ | refine Run.loadOagg 2 _ rfl rfl ag_35 rfl rfl rfl rfl rfl (by assumption) ?_ | refine Run.loadBagg 2 rfl rfl ag_35 rfl rfl rfl rfl rfl ?_ | refine Run.loadOagg 3 _ rfl rfl ag_35 rfl rfl rfl rfl rfl (by assumption) ?_ | refine Run.loadBagg 3 rfl rfl ag_35 rfl rfl rfl rfl rfl ?_ | refine Run.loadOagg 4 _ rfl rfl ag_35 rfl rfl rfl rfl rfl (by assumption) ?_ | refine Run.loadBagg 4 rfl rfl ag_35 rfl rfl rfl rfl rfl ?_ | refine Run.loadOagg 5 _ rfl rfl ag_35 rfl rfl rfl rfl rfl (by assumption) ?_ | refine Run.loadBagg 5 rfl rfl ag_35 rfl rfl rfl rfl rfl ?_ | refine Run.loadRagg rfl rfl ag_35 rfl rfl (by first | assumption | exact SlR.row (by assumption) (by assumption)) (by rfl) ?_)
        all_goals (first | refine Run.not rfl rfl ?_ | fail)
        all_goals (first | refine Run.pick rfl rfl rfl rfl rfl ?_)
        all_goals (refine Run.nil ?_)
        refine thn_next ?_
        refine WP.cond (t := false) rfl (fun h => by cases h) (fun _ => ?_)
        refine WP.exit ?_; refine thn_exit ?_; refine thn_exit ?_; refine blk_hit ?_; refine thn_next ?_
        refine ⟨sv, trivial, ⟨rfl, trivial⟩, ?_⟩
        rw [hput, putL_nil]; exact ent.refl _
      · rw [List.concat_eq_append] at hc; subst hc
        have hpos : (0 : Int) < ((pre' ++ [y]).length : Int) := by simp
        have e1 : (((pre' ++ [y]).length : Int) - 1).toNat = pre'.length := by simp
        have e2 : (((pre' ++ [y]).length : Int)).toNat = pre'.length + 1 := by simp
        have g1 : ((pre' ++ [y]) ++ x :: suf)[(((pre' ++ [y]).length : Int) - 1).toNat]? = some y := by rw [e1]; simp
        have g2 : ((pre' ++ [y]) ++ x :: suf)[(((pre' ++ [y]).length : Int)).toNat]? = some x := by rw [e2]; simp
        refine WP.drawn0 cf0 mixed rfl (by kernel_rfl) ?_
        refine Run.mv rfl rfl rfl rfl ?_
        refine Run.int2 rfl rfl rfl rfl rfl rfl ?_
        refine Run.tt hpos ?_
        refine Run.mv rfl rfl rfl rfl ?_
        refine Run.mv rfl rfl rfl rfl ?_
        refine Run.mv rfl rfl rfl rfl ?_
        refine Run.mv rfl rfl rfl rfl ?_
        refine Run.sub64 rfl rfl rfl rfl rfl (by first | omega | (simp <;> omega)) (by first | omega | (simp <;> omega)) ?_
        refine Run.idxO 0 rfl rfl rfl sl_22 rfl rfl rfl rfl (by first | omega | (simp <;> omega)) (by first | omega | (simp <;> omega)) ?_
        refine Run.loadOagg 0 _ rfl rfl ag_35 rfl rfl rfl rfl rfl (by assumption) ?_
        refine Run.mv rfl rfl rfl rfl ?_
        refine Run.mv rfl rfl rfl rfl ?_
        refine Run.idxO 0 rfl rfl rfl sl_22 rfl rfl rfl rfl (by first | omega | (simp <;> omega)) (by first | omega | (simp <;> omega)) ?_
        refine Run.loadOagg 0 _ rfl rfl ag_35 rfl rfl rfl rfl rfl (by assumption) ?_
        refine Run.call (Δ := []) (Θ := [slA 35 encIv sv.val ((pre' ++ [y]) ++ x :: suf)]) rfl rfl rfl rfl haft.1 rfl rfl (ent.refl _) (haft.2 hR y x) ?_; rintro _ _ ⟨rfl, rfl⟩
        refine Run.pick rfl rfl rfl rfl rfl ?_
        refine Run.nil ?_
        refine thn_next ?_
        refine WP.cond (t := after y x) rfl (fun hb => ?_) (fun hb => ?_)
        · refine WP.skip ?_; refine thn_next ?_
          refine WP.weaken (ρ' := [(0, sv.val), (2, .func (.func g) #[] #[]), (7, .int .i64 ((pre' ++ [y]).length : Int))]) ⟨rfl, rfl, rfl, trivial⟩ (Γ' := [slA 35 encIv sv.val ((pre' ++ [y]) ++ x :: suf)]) (ent.refl _) ?_
          refine WP.seq ?_
          refine WP.block ?_
          have g3 : (((pre' ++ [y]) ++ x :: suf).set (((pre' ++ [y]).length : Int) - 1).toNat x)[(((pre' ++ [y]).length : Int)).toNat]? = some x := by rw [e1, e2, List.getElem?_set_ne (by omega), ← e2]; exact g2
          refine WP.drawn0 cf0 mixed rfl (by kernel_rfl) ?_
          refine Run.mv rfl rfl rfl rfl ?_
          refine Run.mv rfl rfl rfl rfl ?_
          refine Run.sub64 rfl rfl rfl rfl rfl (by first | omega | (simp <;> omega)) (by first | omega | (simp <;> omega)) ?_
          refine Run.mv rfl rfl rfl rfl ?_
          refine Run.mv rfl rfl rfl rfl ?_
          refine Run.mv rfl rfl rfl rfl ?_
          refine Run.mv rfl rfl rfl rfl ?_
          refine Run.idxO 0 rfl rfl rfl sl_22 rfl rfl rfl rfl (by first | omega | (simp <;> omega)) (by first | omega | (simp <;> omega)) ?_
          refine Run.loadOagg 0 _ rfl rfl ag_35 rfl rfl rfl rfl rfl (by assumption) ?_
          refine Run.mv rfl rfl rfl rfl ?_
          refine Run.mv rfl rfl rfl rfl ?_
          refine Run.sub64 rfl rfl rfl rfl rfl (by first | omega | (simp <;> omega)) (by first | omega | (simp <;> omega)) ?_
          refine Run.idxO 0 rfl rfl rfl sl_22 rfl rfl rfl rfl (by first | omega | (simp <;> omega)) (by first | omega | (simp <;> omega)) ?_
          refine Run.loadOagg 0 _ rfl rfl ag_35 rfl rfl rfl rfl rfl (by assumption) ?_
          refine Run.idxO 0 rfl rfl rfl sl_22 rfl rfl rfl rfl (by first | omega | (simp <;> omega)) (by first | omega | (simp <;> omega)) ?_
          refine Run.storeO 0 _ 0 rfl rfl rfl rfl ag_35 rfl rfl rfl rfl (by assumption) rfl rfl ?_
          refine Run.idxO 0 rfl rfl rfl sl_22 rfl rfl rfl rfl (by first | omega | (simp <;> omega)) (by first | omega | (simp <;> omega)) ?_
          refine Run.storeO 0 _ 0 rfl rfl rfl rfl ag_35 rfl rfl rfl rfl (by assumption) rfl rfl ?_
          refine Run.nil ?_
          refine blk_norm ?_; refine thn_next ?_
          refine WP.plain cf0 rfl ?_
          refine Run.mv rfl rfl rfl rfl ?_
          refine Run.sub64 rfl rfl rfl rfl rfl (by first | omega | (simp <;> omega)) (by first | omega | (simp <;> omega)) ?_
          refine Run.mv rfl rfl rfl rfl ?_
          refine Run.nil ?_
          refine thn_next ⟨(pre', y :: suf, sv), ⟨?_, ?_⟩, ?_, ?_, ?_⟩
          · simp only; rw [hput, putL_snoc, if_pos hb]; simp
          · simp at hl ⊢; omega
          · simp
          · refine ⟨rfl, rfl, ?_, trivial⟩
            have : ((pre' ++ [y]).length : Int) - 1 = (pre'.length : Int) := by simp
            simp only [this]; rfl
          · have : (((pre' ++ [y]) ++ x :: suf).set (((pre' ++ [y]).length : Int) - 1).toNat x).set (((pre' ++ [y]).length : Int)).toNat y = pre' ++ x :: y :: suf := by rw [e1, e2]; simp [List.set_append]
            rw [← this]; exact ent.refl _
        · refine WP.exit ?_; refine thn_exit ?_; refine thn_exit ?_; refine blk_hit ?_; refine thn_next ?_
          refine ⟨sv, trivial, ⟨rfl, trivial⟩, ?_⟩
          rw [hput, putL_snoc, hb]; simp; exact ent.refl _
  · intro sv _
    refine WP.seq ?_
    refine WP.plain cf0 rfl ?_
    refine Run.mv rfl rfl rfl rfl ?_
    refine Run.mv rfl rfl rfl rfl ?_
    refine Run.nil ?_
    refine thn_next ?_
    refine WP.ret ?_
    exact retT [6] _ rfl rfl ⟨sv, rfl, rfl⟩

def gtB (a b : Int) : Bool := decide (a > b)
theorem insR_len {A : Type} (after : A → A → Bool) (x : A) : ∀ l : List A, (insR after x l).length = l.length + 1
  | [] => rfl
  | y :: ys => by simp only [insR]; split <;> simp [insR_len after x ys]
theorem putL_len {A : Type} (after : A → A → Bool) (l : List A) (x : A) : (putL after l x).length = l.length + 1 := by simp [putL, insR_len]
theorem insR_perm {A : Type} (after : A → A → Bool) (x : A) : ∀ l : List A, (insR after x l).Perm (x :: l)
  | [] => .refl _
  | y :: ys => by
    simp only [insR]; split
    · exact ((insR_perm after x ys).cons y).trans (.swap _ _ _)
    · exact .refl _
theorem putL_perm {A : Type} (after : A → A → Bool) (l : List A) (x : A) : (putL after l x).Perm (x :: l) :=
  (List.reverse_perm _).trans ((insR_perm after x _).trans ((List.reverse_perm l).cons x))

theorem gt_after : IsAfter (fun x => .int .i64 x) 24 gtB := by
  refine ⟨by kernel_rfl, fun hR a b => ?_⟩
  refine Tri.of (args := [.int .i64 a, .int .i64 b]) Try.func24 rfl Try.ntmps24 (by simp) ?_
  refine WP.seq ?_
  refine WP.plain cf0 rfl ?_
  refine Run.mv rfl rfl rfl rfl ?_
  refine Run.nil ?_
  refine thn_next ?_
  refine WP.seq ?_
  refine WP.plain cf0 rfl ?_
  refine Run.mv rfl rfl rfl rfl ?_
  refine Run.mv rfl rfl rfl rfl ?_
  refine Run.int2 rfl rfl rfl rfl rfl rfl ?_
  refine Run.mv rfl rfl rfl rfl ?_
  refine Run.nil ?_
  refine thn_next ?_
  refine WP.ret ?_
  exact retT [4] _ rfl rfl ⟨rfl, rfl⟩

def laterB (a b : Iv) : Bool := decide (a.t > b.t ∨ a.t = b.t ∧ a.r > b.r)
theorem later_after : IsAfter Iv.val 26 laterB := by
  refine ⟨by kernel_rfl, fun hR a b => ?_⟩
  refine Tri.of (args := [a.val, b.val]) Try.func26 rfl Try.ntmps26 (by simp) ?_
  refine WP.seq ?_
  refine WP.plain cf0 rfl ?_
  refine Run.box rfl rfl rfl rfl rfl ?_
  intro b2
  refine Run.box rfl rfl rfl rfl rfl ?_
  intro b3
  refine Run.mv rfl rfl rfl rfl ?_
  refine Run.nil ?_
  refine thn_next ?_
  refine WP.seqCut [(4, .bool (laterB a b))] [] ?_ ?_
  · refine WP.plain cf0 rfl ?_
    all_goals (first | refine Run.fieldAddr rfl rfl fo_35_2 rfl rfl ?_)
    all_goals (first | refine Run.loadB 0 rfl rfl ag_3 rfl rfl rfl rfl rfl ?_)
    all_goals (first | refine Run.fieldAddr rfl rfl fo_35_2 rfl rfl ?_)
    all_goals (first | refine Run.loadB 1 rfl rfl ag_3 rfl rfl rfl rfl rfl ?_)
    all_goals (first | refine Run.int2 rfl rfl rfl rfl rfl rfl ?_)
    all_goals (first | refine Run.tt (by first | assumption | omega) ?_ | refine Run.ff (by first | assumption | omega) ?_ | refine Run.split (fun hc9 => ?_) (fun hc9 => ?_) | refine Run.splitB (fun hc9 => ?_) (fun hc9 => ?_) | skip)
    all_goals (first | refine Run.mv rfl rfl rfl rfl ?_)
    all_goals (first | refine Run.not rfl rfl ?_ | refine Run.fieldAddr rfl rfl fo_35_2 rfl rfl ?_)
    all_goals (first | refine Run.not rfl rfl ?_ | refine Run.loadB 0 rfl rfl ag_3 rfl rfl rfl rfl rfl ?_)
    all_goals (first | refine Run.not rfl rfl ?_ | refine Run.fieldAddr rfl rfl fo_35_2 rfl rfl ?_)
    all_goals (first | refine Run.not rfl rfl ?_ | refine Run.loadB 1 rfl rfl ag_3 rfl rfl rfl rfl rfl ?_)
    all_goals (first | refine Run.not rfl rfl ?_ | refine Run.int2 rfl rfl rfl rfl rfl rfl ?_)
    all_goals (first | refine Run.tt (by first | assumption | omega) ?_ | refine Run.ff (by first | assumption | omega) ?_ | refine Run.split (fun hc15 => ?_) (fun hc15 => ?_) | refine Run.splitB (fun hc15 => ?_) (fun hc15 => ?_) | skip)
    all_goals (first | refine Run.not rfl rfl ?_ | refine Run.mv rfl rfl rfl rfl ?_)
    all_goals (first | refine Run.not rfl rfl ?_ | refine Run.fieldAddr rfl rfl fo_35_0 rfl rfl ?_)
    all_goals (first | refine Run.not rfl rfl ?_ | refine Run.loadB 0 rfl rfl ag_3 rfl rfl rfl rfl rfl ?_)
    all_goals (first | refine Run.not rfl rfl ?_ | refine Run.fieldAddr rfl rfl fo_35_0 rfl rfl ?_)
    all_goals (first | refine Run.not rfl rfl ?_ | refine Run.loadB 1 rfl rfl ag_3 rfl rfl rfl rfl rfl ?_)
    all_goals (first | refine Run.not rfl rfl ?_ | refine Run.int2 rfl rfl rfl rfl rfl rfl ?_)
    all_goals (first | refine Run.not rfl rfl ?_ | refine Run.pick rfl rfl rfl rfl rfl ?_)
    all_goals (first | refine Run.pick rfl rfl rfl rfl rfl ?_)
    all_goals (first | refine Run.mv rfl rfl rfl rfl ?_)
    all_goals (refine Run.nil ?_)
    all_goals exact ⟨⟨by simp [Env.get, laterB, *], trivial⟩, fun _ _ => trivial⟩
  refine WP.ret ?_
  exact retT [4] _ rfl rfl ⟨rfl, rfl⟩
end Go.Proofs.Ytengcfamhoppbaa
