/- Scan of the document's own answer. -/
import Derived.Test.YtengcfamhoppbaaRight
namespace Go.Proofs.Ytengcfamhoppbaa
set_option linter.unusedSimpArgs false
set_option linter.unusedVariables false
open Go.Sep
attribute [local irreducible] blk slA mp mpF

def zIv : Iv := ⟨0, 0, 0⟩
def locOf (out : List Loc) (x : Iv) : Loc := out.getD x.r.toNat ⟨0, 0⟩
def heldGo (out : List Loc) (f : Int) : Nat → List Iv → List Int → List Int
  | _, [], h => h
  | j, y :: ys, h => heldGo out f (j + 1) ys (if (locOf out y).k = 1 ∧ y.t ≥ f then h.set (locOf out y).n.toNat (j : Int) else h)
def freeGo (h : List Int) : Nat → Int → Int
  | 0, fr => fr
  | r + 1, fr => freeGo h r (if h.getD r 0 < 0 then (r : Int) else fr)
def later2 (x y : Iv) : Prop := x.t > y.t ∨ x.t = y.t ∧ x.r > y.r
instance (x y : Iv) : Decidable (later2 x y) := by unfold later2; infer_instance
def lastGo (l : List Iv) (h : List Int) : Nat → Nat → Int → Int
  | 0, _, last => last
  | k + 1, r, last => lastGo l h k (r + 1) (if later2 (l.getD (h.getD r 0).toNat zIv) (l.getD last.toNat zIv) then h.getD r 0 else last)
def heldOf (l : List Iv) (i : Nat) (x : Iv) (out : List Loc) : List Int := heldGo out x.f 0 (l.take i) (List.replicate 8 (-1))
def spill (l : List Iv) (i : Nat) (x : Iv) (s : List Loc × Int) (last : Int) : List Loc × Int :=
  ((if last ≠ i then s.1.set x.r.toNat (locOf s.1 (l.getD last.toNat zIv)) else s.1).set (l.getD last.toNat zIv).r.toNat ⟨2, s.2⟩, s.2 + 1)
def refStep (l : List Iv) (regs i : Nat) (x : Iv) (s : List Loc × Int) : List Loc × Int :=
  if freeGo (heldOf l i x s.1) regs (-1) ≥ 0 then (s.1.set x.r.toNat ⟨1, freeGo (heldOf l i x s.1) regs (-1)⟩, s.2)
  else spill l i x s (lastGo l (heldOf l i x s.1) regs 0 i)
def refRun (l : List Iv) (regs : Nat) : Nat → List Iv → List Loc × Int → List Loc × Int
  | _, [], s => s
  | i, x :: xs, s => refRun l regs (i + 1) xs (refStep l regs i x s)
def refScanL (xs : List Iv) (regs : Int) : List Loc × Int × Int :=
  if regs < 1 ∨ regs > 8 then ([], 0, 180) else if rightL xs = false then ([], 0, 181) else
    ((refRun xs regs.toNat 0 xs (List.replicate (mostL (-1) xs + 1).toNat ⟨0, 0⟩, 0)).1, (refRun xs regs.toNat 0 xs (List.replicate (mostL (-1) xs + 1).toNat ⟨0, 0⟩, 0)).2, 0)

def OutOk (out : List Loc) : Prop := ∀ z ∈ out, z.k = 1 → 0 ≤ z.n ∧ z.n < 8
def HeldOk (h : List Int) (i : Nat) : Prop := h.length = 8 ∧ ∀ v ∈ h, v = -1 ∨ (0 ≤ v ∧ v < i)

theorem freeGo_lt (h : List Int) : ∀ (k : Nat) (fr : Int), freeGo h k fr < 0 → ∀ r, r < k → ¬ h.getD r 0 < 0
  | 0, _, _, r, hr => by omega
  | k + 1, fr, hlt, r, hr => by
    simp only [freeGo] at hlt
    by_cases hk : r = k
    · subst hk
      intro hneg
      rw [if_pos hneg] at hlt
      have : ∀ (j : Nat) (x : Int), 0 ≤ x → 0 ≤ freeGo h j x := fun j => by
        induction j with
        | zero => exact fun x hx => hx
        | succ j ih => intro x hx; simp only [freeGo]; exact ih _ (by split <;> omega)
      have := this r (r : Int) (by omega); omega
    · exact freeGo_lt h k _ hlt r (by omega)
theorem freeGo_bd (h : List Int) : ∀ (k : Nat) (fr : Int) (m : Int), k ≤ m → fr < m → -1 ≤ fr → -1 ≤ freeGo h k fr ∧ freeGo h k fr < m
  | 0, fr, m, _, h1, h2 => ⟨h2, h1⟩
  | k + 1, fr, m, hm, h1, h2 => by
    simp only [freeGo]
    refine freeGo_bd h k _ m (by omega) ?_ ?_
    · split <;> omega
    · split <;> omega

theorem rightGo_reg : ∀ (xs : List Iv) (p : Option Iv) (dn : List Iv), rightGo p dn xs = true → ∀ x ∈ xs, 0 ≤ x.r ∧ x.r < 262144
  | [], _, _, _, _, hx => by cases hx
  | y :: ys, p, dn, h, x, hx => by
    simp only [rightGo] at h
    split at h
    · cases h
    · rename_i hb
      split at h
      · cases h
      · split at h
        · cases h
        · rcases List.mem_cons.1 hx with rfl | hx
          · unfold bad0 at hb; omega
          · exact rightGo_reg ys _ _ h x hx

theorem drop_at {xs : List Iv} {i : Nat} {x : Iv} (hlt : i < xs.length) (gx : xs[i]? = some x) : xs.drop i = x :: xs.drop (i + 1) := by
  rw [List.drop_eq_getElem_cons hlt]; congr 1; rw [List.getElem?_eq_getElem hlt] at gx; cases gx; rfl
theorem getD_at {A : Type} {l : List A} {i : Nat} {x z : A} (h : l[i]? = some x) : l.getD i z = x := by simp [List.getD_eq_getElem?_getD, h]

theorem lastGo_mem (l : List Iv) (h : List Int) (m : Nat) : ∀ (k r : Nat) (last : Int), (∀ q, q < r + k → r ≤ q → 0 ≤ h.getD q 0 ∧ h.getD q 0 < m) → 0 ≤ last → last ≤ m → 0 ≤ lastGo l h k r last ∧ lastGo l h k r last ≤ m
  | 0, _, last, _, h1, h2 => ⟨h1, h2⟩
  | k + 1, r, last, hq, h1, h2 => by
    simp only [lastGo]
    have := hq r (by omega) (by omega)
    refine lastGo_mem l h m k (r + 1) _ (fun q h3 h4 => hq q (by omega) (by omega)) ?_ ?_ <;> split <;> omega

set_option maxRecDepth 100000 in
theorem ref_ok (hR : Heap) (v : Value) (xs : List Iv) (regs : Int) (hl : SlR encIv.rd hR v xs) (hlen : xs.length ≤ 1000000) :
    Tri Try.prog hR 13 #[v, .int .i64 regs] [] fun u Γ' => ∃ ov : SV, u = .tuple #[ov.val, .int .i64 (refScanL xs regs).2.1, .int .i64 (refScanL xs regs).2.2] ∧ Γ' = [slA 37 encLoc ov.val (refScanL xs regs).1] := by
  refine Tri.of (args := [v, .int .i64 regs]) Try.func13 rfl Try.ntmps13 (by simp) ?_
  refine WP.seq ?_
  refine WP.plain cf0 rfl ?_
  refine Run.mv rfl rfl rfl rfl ?_
  refine Run.mv rfl rfl rfl rfl ?_
  refine Run.mv rfl rfl rfl rfl ?_
  refine Run.nil ?_
  refine thn_next ?_
  refine WP.seq ?_
  refine WP.seqCut [(0, v), (1, .int .i64 regs), (27, .bool (decide (regs < 1 ∨ regs > 8)))] [] ?_ ?_
  · refine WP.plain cf0 rfl ?_
    all_goals (first | refine Run.mv rfl rfl rfl rfl ?_)
    all_goals (first | refine Run.int2 rfl rfl rfl rfl rfl rfl ?_)
    all_goals (first | refine Run.tt (by first | assumption | omega) ?_ | refine Run.ff (by first | assumption | omega) ?_ | refine Run.split (fun hc23 => ?_) (fun hc23 => ?_) | refine Run.splitB (fun hc23 => ?_) (fun hc23 => ?_) | skip)
    all_goals (first | refine Run.mv rfl rfl rfl rfl ?_)
    all_goals (first | refine Run.not rfl rfl ?_ | refine Run.mv rfl rfl rfl rfl ?_)
    all_goals (first | refine Run.not rfl rfl ?_ | refine Run.int2 rfl rfl rfl rfl rfl rfl ?_)
    all_goals (first | refine Run.pick rfl rfl rfl rfl rfl ?_)
    all_goals (refine Run.nil ?_)
    all_goals refine thn_next ⟨⟨rfl, rfl, ?_, trivial⟩, ent.refl _⟩
    all_goals simp [Env.get, *]
  refine WP.ite rfl (fun h => ?_) (fun hregs => ?_)
  · refine WP.seq ?_
    refine WP.plain cf0 rfl ?_
    refine Run.mv rfl rfl rfl rfl ?_
    refine Run.mv rfl rfl rfl rfl ?_
    refine Run.mv rfl rfl rfl rfl ?_
    refine Run.nil ?_
    refine thn_next ?_
    refine WP.via (slA_nil 37 encLoc _) ?_
    refine WP.ret ?_; refine thn_ret ?_
    have e : refScanL xs regs = ([], 0, 180) := by unfold refScanL; rw [if_pos h]
    exact retT [4, 5, 6] _ rfl rfl ⟨⟨none, 0, 0⟩, by rw [e]; rfl, by rw [e]; rfl⟩
  refine WP.skip ?_; refine thn_next ?_
  refine WP.seq ?_
  refine WP.plain cf0 rfl ?_
  refine Run.mv rfl rfl rfl rfl ?_
  refine Run.call (Δ := []) (Θ := []) rfl rfl rfl rfl ok_22 rfl rfl (ent.refl _) (right_ok hR v xs hl hlen) ?_; rintro _ _ ⟨rfl, rfl⟩
  refine Run.mv rfl rfl rfl rfl ?_
  refine Run.nil ?_
  refine thn_next ?_
  refine WP.seq ?_
  refine WP.seq ?_
  refine WP.plain cf0 rfl ?_
  refine Run.mv rfl rfl rfl rfl ?_
  refine Run.bnotB rfl rfl rfl rfl ?_
  refine Run.nil ?_
  refine thn_next ?_
  refine WP.cond (t := !rightL xs) rfl (fun hw => ?_) (fun hw => ?_)
  · refine WP.seq ?_
    refine WP.plain cf0 rfl ?_
    refine Run.mv rfl rfl rfl rfl ?_
    refine Run.mv rfl rfl rfl rfl ?_
    refine Run.mv rfl rfl rfl rfl ?_
    refine Run.nil ?_
    refine thn_next ?_
    refine WP.via (slA_nil 37 encLoc _) ?_
    refine WP.ret ?_; refine thn_ret ?_
    have e : refScanL xs regs = ([], 0, 181) := by unfold refScanL; rw [if_neg hregs, if_pos (by simpa using hw)]
    exact retT [4, 5, 6] _ rfl rfl ⟨⟨none, 0, 0⟩, by rw [e]; rfl, by rw [e]; rfl⟩
  refine WP.skip ?_; refine thn_next ?_
  have hrt : rightL xs = true := by simpa using hw
  have hrg := rightGo_reg xs _ _ hrt
  refine WP.seq ?_
  refine WP.plain cf0 rfl ?_
  refine Run.mv rfl rfl rfl rfl ?_
  refine Run.nil ?_
  refine thn_next ?_
  refine WP.seqMeet (α := Unit) (fun _ => -1 ≤ mostL (-1) xs ∧ mostL (-1) xs < 262144) (fun _ => [(0, v), (1, .int .i64 regs), (8, .int .i64 (mostL (-1) xs))]) (fun _ => []) ?_ ?_
  · refine WP.seq ?_
    refine WP.plain cf0 rfl ?_
    refine Run.mv rfl rfl rfl rfl ?_
    refine Run.nil ?_
    refine thn_next ?_
    refine WP.block ?_
    refine WP.loop (α := Nat × Int) (fun z => z.1 ≤ xs.length ∧ mostL (-1) xs = mostL z.2 (xs.drop z.1) ∧ -1 ≤ z.2 ∧ z.2 < 262144)
      (fun z => [(0, v), (1, .int .i64 regs), (8, .int .i64 z.2), (9, .int .i64 (z.1 : Int))]) (fun z => []) (fun z => xs.length - z.1)
      (0, -1) ⟨Nat.zero_le _, rfl, by decide, by decide⟩ ⟨rfl, rfl, rfl, rfl, trivial⟩ (ent.refl _) ?_
    rintro ⟨i, m⟩ ⟨hi, hm, hm0, hm1⟩
    simp only at hi hm hm0 hm1 ⊢
    refine WP.seq ?_
    refine WP.seq ?_
    refine WP.plain cf0 rfl ?_
    refine Run.mv rfl rfl rfl rfl ?_
    refine Run.mv rfl rfl rfl rfl ?_
    refine Run.lenR rfl rfl sl_22 rfl rfl (by assumption) ?_
    refine Run.int2 rfl rfl rfl rfl rfl rfl ?_
    refine Run.nil ?_
    refine thn_next ?_
    refine WP.ite rfl (fun hlt => ?_) (fun hge => ?_)
    · refine WP.skip ?_; refine thn_next ?_
      have hlt' : i < xs.length := by omega
      obtain ⟨x, gx⟩ : ∃ x, xs[i]? = some x := ⟨_, List.getElem?_eq_getElem hlt'⟩
      have gx' : xs[(i : Int).toNat]? = some x := gx
      have hdrop := drop_at hlt' gx
      have hxr := hrg x (List.mem_of_getElem? gx)
      refine WP.seq ?_
      refine WP.block ?_
      refine WP.plain cf0 rfl ?_
      refine Run.mv rfl rfl rfl rfl ?_
      refine Run.mv rfl rfl rfl rfl ?_
      refine Run.mv rfl rfl rfl rfl ?_
      refine Run.idxR rfl rfl rfl sl_22 rfl rfl (by assumption) (by rfl) (by first | omega | (simp <;> omega)) (by first | omega | (simp <;> omega)) ?_
      refine Run.fieldAddr rfl rfl fo_35_0 rfl rfl ?_
      refine Run.loadR rfl rfl ag_3 rfl rfl (by first | assumption | exact SlR.cell0 (by assumption) (by assumption) rfl | exact SlR.cell (by assumption) (by assumption) rfl) ?_
      refine Run.max2 rfl rfl rfl rfl rfl ?_
      refine Run.mv rfl rfl rfl rfl ?_
      refine Run.nil ?_
      refine blk_norm ?_; refine thn_next ?_
      refine WP.plain cf0 rfl ?_
      refine Run.mv rfl rfl rfl rfl ?_
      refine Run.add64 rfl rfl rfl rfl rfl (by first | omega | (simp <;> omega)) (by first | omega | (simp <;> omega)) ?_
      refine Run.mv rfl rfl rfl rfl ?_
      refine Run.nil ?_
      refine thn_next ⟨(i + 1, max m x.r), ⟨hlt', ?_, ?_, ?_⟩, ?_, ⟨rfl, rfl, rfl, ?_, trivial⟩, ent.refl _⟩
      · simp only; rw [hm, hdrop]; rfl
      · simp only; omega
      · simp only; omega
      · simp only; omega
      · simp [Env.get]
    · refine WP.exit ?_; refine thn_exit ?_; refine thn_exit ?_; refine blk_hit ?_
      have e : mostL (-1) xs = m := by rw [hm, List.drop_eq_nil_of_le (by omega)]; rfl
      refine thn_next ⟨(), ⟨by omega, by omega⟩, ⟨rfl, rfl, ?_, trivial⟩, ent.refl _⟩
      rw [e]; rfl
  rintro _ ⟨hm0, hm1⟩
  obtain ⟨N, hN⟩ : ∃ N : Nat, (mostL (-1) xs + 1).toNat = N := ⟨_, rfl⟩
  have hbN : ∀ x ∈ xs, 0 ≤ x.r ∧ x.r < N := fun x hx => by have := (mostL_bd xs (-1)).2 x hx; have := hrg x hx; omega
  refine WP.seq ?_
  refine WP.plain cf0 rfl ?_
  refine Run.mv rfl rfl rfl rfl ?_
  refine Run.add64 rfl rfl rfl rfl rfl (by first | omega | (simp <;> omega)) (by first | omega | (simp <;> omega)) ?_
  refine Run.makeSlice (E := encLoc) (⟨0, 0⟩) rfl rfl rfl sl_25 zr_37 rfl rfl rfl (by first | omega | (simp <;> omega)) (by first | omega | (simp <;> omega)) (by first | omega | (simp <;> omega)) (by first | omega | (simp <;> omega)) ?_
  intro b47
  refine Run.mv rfl rfl rfl rfl ?_
  refine Run.nil ?_
  refine thn_next ?_
  rw [hN]
  obtain ⟨ov, hov⟩ : ∃ ov : SV, ov = ⟨some ⟨b47, 0, none⟩, N, N⟩ := ⟨_, rfl⟩
  refine WP.weaken (ρ' := [(0, v), (1, .int .i64 regs), (10, ov.val)]) (Γ' := [slA 37 encLoc ov.val (List.replicate N ⟨0, 0⟩)]) ⟨rfl, rfl, by rw [hov]; rfl, trivial⟩ (by rw [hov]; exact ent.refl _) ?_
  clear hov
  refine WP.seq ?_
  refine WP.plain cf0 rfl ?_
  refine Run.mv rfl rfl rfl rfl ?_
  refine Run.nil ?_
  refine thn_next ?_
  refine WP.seqMeet (α := Unit) (fun _ => True) (fun _ => [(10, ov.val), (11, .int .i64 (refScanL xs regs).2.1)]) (fun _ => [slA 37 encLoc ov.val (refScanL xs regs).1]) ?_ ?_
  · refine WP.seq ?_
    refine WP.plain cf0 rfl ?_
    refine Run.mv rfl rfl rfl rfl ?_
    refine Run.nil ?_
    refine thn_next ?_
    refine WP.block ?_
    refine WP.loop (α := Nat × List Loc × Int) (fun z => z.1 ≤ xs.length ∧ refRun xs regs.toNat 0 xs (List.replicate N ⟨0, 0⟩, 0) = refRun xs regs.toNat z.1 (xs.drop z.1) z.2 ∧ z.2.1.length = N ∧ OutOk z.2.1 ∧ 0 ≤ z.2.2 ∧ z.2.2 ≤ z.1)
      (fun z => [(0, v), (1, .int .i64 regs), (10, ov.val), (11, .int .i64 z.2.2), (12, .int .i64 (z.1 : Int))]) (fun z => [slA 37 encLoc ov.val z.2.1]) (fun z => xs.length - z.1)
      (0, List.replicate N ⟨0, 0⟩, 0) ⟨Nat.zero_le _, rfl, by simp, fun z hz hk => by rw [List.eq_of_mem_replicate hz] at hk; simp at hk, by simp, by simp⟩ ⟨rfl, rfl, rfl, rfl, rfl, trivial⟩ (ent.refl _) ?_
    rintro ⟨i, out, slots⟩ ⟨hi, hrun, hon, hok, hs0, hs1⟩
    simp only at hi hrun hon hok hs0 hs1 ⊢
    refine WP.seq ?_
    refine WP.seq ?_
    refine WP.plain cf0 rfl ?_
    refine Run.mv rfl rfl rfl rfl ?_
    refine Run.mv rfl rfl rfl rfl ?_
    refine Run.lenR rfl rfl sl_22 rfl rfl (by assumption) ?_
    refine Run.int2 rfl rfl rfl rfl rfl rfl ?_
    refine Run.nil ?_
    refine thn_next ?_
    refine WP.ite rfl (fun hlt => ?_) (fun hge => ?_)
    · refine WP.skip ?_; refine thn_next ?_
      have hlt' : i < xs.length := by omega
      obtain ⟨x, gx⟩ : ∃ x, xs[i]? = some x := ⟨_, List.getElem?_eq_getElem hlt'⟩
      have gx' : xs[(i : Int).toNat]? = some x := gx
      have hdrop := drop_at hlt' gx
      have hxr := hbN x (List.mem_of_getElem? gx)
      obtain ⟨y0, gy0⟩ : ∃ y, out[x.r.toNat]? = some y := ⟨_, List.getElem?_eq_getElem (by omega)⟩
      refine WP.seqMeet (α := List Loc × Int) (fun s => s = refStep xs regs.toNat i x (out, slots) ∧ s.1.length = N ∧ OutOk s.1 ∧ 0 ≤ s.2 ∧ s.2 ≤ i + 1)
        (fun s => [(0, v), (1, .int .i64 regs), (10, ov.val), (11, .int .i64 s.2), (12, .int .i64 (i : Int))]) (fun s => [slA 37 encLoc ov.val s.1]) ?_ ?_
      · refine WP.block ?_
        refine WP.seq ?_
        refine WP.plain cf0 rfl ?_
        refine Run.alloc rfl zr_52 rfl rfl rfl ?_
        intro b13
        refine Run.nil ?_
        refine thn_next ?_
        refine WP.via (Γ' := [slA 37 encLoc ov.val out, blk b13 (ints (List.replicate 8 0)) 52]) (ent.refl _) ?_
        -- none is held
        refine WP.seqMeet (α := Unit) (fun _ => True) (fun _ => [(0, v), (1, .int .i64 regs), (10, ov.val), (11, .int .i64 slots), (12, .int .i64 (i : Int)), (13, .pointer (some ⟨b13, 0, none⟩))]) (fun _ => [slA 37 encLoc ov.val out, blk b13 (ints (List.replicate 8 (-1))) 52]) ?_ ?_
        · refine WP.seq ?_
          refine WP.plain cf0 rfl ?_
          refine Run.mv rfl rfl rfl rfl ?_
          refine Run.nil ?_
          refine thn_next ?_
          refine WP.block ?_
          refine WP.loop (α := Nat) (fun r => r ≤ 8) (fun r => [(0, v), (1, .int .i64 regs), (10, ov.val), (11, .int .i64 slots), (12, .int .i64 (i : Int)), (13, .pointer (some ⟨b13, 0, none⟩)), (14, .int .i64 (r : Int))])
            (fun r => [slA 37 encLoc ov.val out, blk b13 (ints (List.replicate r (-1) ++ List.replicate (8 - r) 0)) 52]) (fun r => 8 - r) 0 (by decide) ⟨rfl, rfl, rfl, rfl, rfl, rfl, rfl, trivial⟩ (ent.refl _) ?_
          intro r hr
          refine WP.seq ?_
          refine WP.seq ?_
          refine WP.plain cf0 rfl ?_
          refine Run.mv rfl rfl rfl rfl ?_
          refine Run.int2 rfl rfl rfl rfl rfl rfl ?_
          refine Run.nil ?_
          refine thn_next ?_
          refine WP.ite rfl (fun hr8 => ?_) (fun hr8 => ?_)
          · refine WP.skip ?_; refine thn_next ?_
            refine WP.seq ?_
            refine WP.block ?_
            refine WP.plain cf0 rfl ?_
            refine Run.mv rfl rfl rfl rfl ?_
            refine Run.idxArr rfl rfl rfl ar_52 rfl rfl (by first | omega | (simp <;> omega)) (by first | omega | (simp <;> omega)) ?_
            refine Run.storeArr 1 rfl rfl rfl ag_3 rfl rfl rfl (by simp; omega) ?_
            refine Run.nil ?_
            refine blk_norm ?_; refine thn_next ?_
            refine WP.plain cf0 rfl ?_
            refine Run.mv rfl rfl rfl rfl ?_
            refine Run.add64 rfl rfl rfl rfl rfl (by first | omega | (simp <;> omega)) (by first | omega | (simp <;> omega)) ?_
            refine Run.mv rfl rfl rfl rfl ?_
            refine Run.nil ?_
            refine thn_next ⟨r + 1, by omega, by omega, ⟨rfl, rfl, rfl, rfl, rfl, rfl, by simp [Env.get], trivial⟩, ?_⟩
            have e : (List.replicate r (-1) ++ List.replicate (8 - r) (0 : Int)).set (r : Int).toNat (-1) = List.replicate (r + 1) (-1) ++ List.replicate (8 - (r + 1)) 0 := by
              have e2 : 8 - r = (8 - (r + 1)) + 1 := by omega
              rw [Int.toNat_natCast, List.set_append_right _ _ (by simp), List.length_replicate, Nat.sub_self, e2, List.replicate_succ, List.set_cons_zero, List.replicate_succ', List.append_assoc, List.singleton_append]
            rw [← e]; exact ent.refl _
          · refine WP.exit ?_; refine thn_exit ?_; refine thn_exit ?_; refine blk_hit ?_
            have : r = 8 := by omega
            subst this
            exact thn_next ⟨(), trivial, ⟨rfl, rfl, rfl, rfl, rfl, rfl, trivial⟩, ent.refl _⟩
        rintro _ _
        -- which are held
        refine WP.seqMeet (α := List Int) (fun h => h = heldOf xs i x out ∧ HeldOk h i) (fun h => [(0, v), (1, .int .i64 regs), (10, ov.val), (11, .int .i64 slots), (12, .int .i64 (i : Int)), (13, .pointer (some ⟨b13, 0, none⟩))]) (fun h => [slA 37 encLoc ov.val out, blk b13 (ints h) 52]) ?_ ?_
        · refine WP.seq ?_
          refine WP.plain cf0 rfl ?_
          refine Run.mv rfl rfl rfl rfl ?_
          refine Run.nil ?_
          refine thn_next ?_
          refine WP.block ?_
          refine WP.loop (α := Nat × List Int) (fun z => z.1 ≤ i ∧ heldOf xs i x out = heldGo out x.f z.1 ((xs.take i).drop z.1) z.2 ∧ HeldOk z.2 i) (fun z => [(0, v), (1, .int .i64 regs), (10, ov.val), (11, .int .i64 slots), (12, .int .i64 (i : Int)), (13, .pointer (some ⟨b13, 0, none⟩)), (15, .int .i64 (z.1 : Int))])
            (fun z => [slA 37 encLoc ov.val out, blk b13 (ints z.2) 52]) (fun z => i - z.1) (0, List.replicate 8 (-1)) ⟨Nat.zero_le _, rfl, by simp, fun v hv => .inl (List.eq_of_mem_replicate hv)⟩ ⟨rfl, rfl, rfl, rfl, rfl, rfl, rfl, trivial⟩ (ent.refl _) ?_
          rintro ⟨j, h⟩ ⟨hj, hh, hho⟩
          simp only at hj hh hho ⊢
          refine WP.seq ?_
          refine WP.seq ?_
          refine WP.plain cf0 rfl ?_
          refine Run.mv rfl rfl rfl rfl ?_
          refine Run.mv rfl rfl rfl rfl ?_
          refine Run.int2 rfl rfl rfl rfl rfl rfl ?_
          refine Run.nil ?_
          refine thn_next ?_
          refine WP.ite rfl (fun hji => ?_) (fun hji => ?_)
          · refine WP.skip ?_; refine thn_next ?_
            have hjx : j < xs.length := by omega
            obtain ⟨y, gy⟩ : ∃ y, xs[j]? = some y := ⟨_, List.getElem?_eq_getElem hjx⟩
            have gy' : xs[(j : Int).toNat]? = some y := gy
            have hyr := hbN y (List.mem_of_getElem? gy)
            have gty : (xs.take i)[j]? = some y := by rw [List.getElem?_take, if_pos (by omega)]; exact gy
            have hdj : (xs.take i).drop j = y :: (xs.take i).drop (j + 1) := drop_at (by simp; omega) gty
            obtain ⟨p, gp⟩ : ∃ p, out[y.r.toNat]? = some p := ⟨_, List.getElem?_eq_getElem (by omega)⟩
            have hloc : locOf out y = p := getD_at gp
            have hpk : p.k = 1 → 0 ≤ p.n ∧ p.n < 8 := hok p (List.mem_of_getElem? gp)
            refine WP.seqMeet (α := List Int) (fun h' => h' = (if (locOf out y).k = 1 ∧ y.t ≥ x.f then h.set (locOf out y).n.toNat (j : Int) else h)) (fun _ => [(0, v), (1, .int .i64 regs), (10, ov.val), (11, .int .i64 slots), (12, .int .i64 (i : Int)), (13, .pointer (some ⟨b13, 0, none⟩)), (15, .int .i64 (j : Int))]) (fun h' => [slA 37 encLoc ov.val out, blk b13 (ints h') 52]) ?_ ?_
            · refine WP.block ?_
              refine WP.seq ?_
              refine WP.plain cf0 rfl ?_
              refine Run.mv rfl rfl rfl rfl ?_
              refine Run.mv rfl rfl rfl rfl ?_
              refine Run.mv rfl rfl rfl rfl ?_
              refine Run.idxR rfl rfl rfl sl_22 rfl rfl (by assumption) (by rfl) (by first | omega | (simp <;> omega)) (by first | omega | (simp <;> omega)) ?_
              refine Run.fieldAddr rfl rfl fo_35_0 rfl rfl ?_
              refine Run.loadR rfl rfl ag_3 rfl rfl (by first | assumption | exact SlR.cell0 (by assumption) (by assumption) rfl | exact SlR.cell (by assumption) (by assumption) rfl) ?_
              refine Run.idxO 0 rfl rfl rfl sl_25 rfl rfl rfl rfl (by first | omega | (simp <;> omega)) (by first | omega | (simp <;> omega)) ?_
              refine Run.loadOagg 0 _ rfl rfl ag_37 rfl rfl rfl rfl rfl (by assumption) ?_
              refine Run.alloc rfl zr_37 rfl rfl rfl ?_
              intro b16
              refine Run.storeB 2 rfl rfl rfl rfl ag_37 rfl rfl rfl rfl rfl ?_
              refine Run.nil ?_
              refine thn_next ?_
              refine WP.via (Γ' := [slA 37 encLoc ov.val out, blk b13 (ints h) 52, blk b16 (encLoc.cells p) 37]) (ent.refl _) ?_
              refine WP.seqCut [(0, v), (1, .int .i64 regs), (10, ov.val), (11, .int .i64 slots), (12, .int .i64 (i : Int)), (13, .pointer (some ⟨b13, 0, none⟩)), (15, .int .i64 (j : Int)), (16, .pointer (some ⟨b16, 0, none⟩)), (88, .bool (decide (p.k = 1 ∧ y.t ≥ x.f)))] [slA 37 encLoc ov.val out, blk b13 (ints h) 52, blk b16 (encLoc.cells p) 37] ?_ ?_
              · refine WP.drawn0 cf0 mixed rfl (by kernel_rfl) ?_
                all_goals (first | refine Run.fieldAddr rfl rfl fo_37_0 rfl rfl ?_)
                all_goals (first | refine Run.loadB 2 rfl rfl ag_3 rfl rfl rfl rfl rfl ?_)
                all_goals (first | refine Run.int2 rfl rfl rfl rfl rfl rfl ?_)
                all_goals (first | refine Run.tt (by first | assumption | omega) ?_ | refine Run.ff (by first | assumption | omega) ?_ | refine Run.split (fun hc75 => ?_) (fun hc75 => ?_) | refine Run.splitB (fun hc75 => ?_) (fun hc75 => ?_) | skip)
                all_goals (first | refine Run.mv rfl rfl rfl rfl ?_)
                all_goals (first | refine Run.not rfl rfl ?_ | refine Run.mv rfl rfl rfl rfl ?_)
                all_goals (first | refine Run.not rfl rfl ?_ | refine Run.mv rfl rfl rfl rfl ?_)
                all_goals (first | refine Run.not rfl rfl ?_ | refine Run.idxR rfl rfl rfl sl_22 rfl rfl (by assumption) (by rfl) (by first | omega | (simp <;> omega)) (by first | omega | (simp <;> omega)) ?_)
                all_goals (first | refine Run.not rfl rfl ?_ | refine Run.fieldAddr rfl rfl fo_35_2 rfl rfl ?_)
                all_goals (first | refine Run.not rfl rfl ?_ | refine Run.loadR rfl rfl ag_3 rfl rfl (SlR.cell hl gy' rfl) ?_)
                all_goals (first | refine Run.not rfl rfl ?_ | refine Run.mv rfl rfl rfl rfl ?_)
                all_goals (first | refine Run.not rfl rfl ?_ | refine Run.mv rfl rfl rfl rfl ?_)
                all_goals (first | refine Run.not rfl rfl ?_ | refine Run.idxR rfl rfl rfl sl_22 rfl rfl (by assumption) (by rfl) (by first | omega | (simp <;> omega)) (by first | omega | (simp <;> omega)) ?_)
                all_goals (first | refine Run.not rfl rfl ?_ | refine Run.fieldAddr rfl rfl fo_35_1 rfl rfl ?_)
                all_goals (first | refine Run.not rfl rfl ?_ | refine Run.loadR rfl rfl ag_3 rfl rfl (SlR.cell hl gx' rfl) ?_)
                all_goals (first | refine Run.not rfl rfl ?_ | refine Run.int2 rfl rfl rfl rfl rfl rfl ?_)
                all_goals (first | refine Run.pick rfl rfl rfl rfl rfl ?_)
                all_goals (refine Run.nil ?_)
                all_goals refine thn_next ⟨⟨rfl, rfl, rfl, rfl, rfl, rfl, rfl, rfl, ?_, trivial⟩, ent.refl _⟩
                all_goals simp [Env.get, *]
              refine WP.ite rfl (fun hc => ?_) (fun hc => ?_)
              · obtain ⟨hp0, hp1⟩ := hpk hc.1
                refine WP.plain cf0 rfl ?_
                refine Run.fieldAddr rfl rfl fo_37_1 rfl rfl ?_
                refine Run.loadB 2 rfl rfl ag_3 rfl rfl rfl rfl rfl ?_
                refine Run.mv rfl rfl rfl rfl ?_
                refine Run.idxArr rfl rfl rfl ar_52 rfl rfl (by first | omega | (simp <;> omega)) (by first | omega | (simp <;> omega)) ?_
                refine Run.storeArr 1 rfl rfl rfl ag_3 rfl rfl rfl (by rw [hho.1]; omega) ?_
                refine Run.nil ?_
                refine blk_norm ?_
                refine thn_next ⟨_, by rw [hloc, if_pos hc], ⟨rfl, rfl, rfl, rfl, rfl, rfl, rfl, trivial⟩, pick_only [0, 0] _⟩
              · refine WP.skip ?_; refine blk_norm ?_
                refine thn_next ⟨_, by rw [hloc, if_neg hc], ⟨rfl, rfl, rfl, rfl, rfl, rfl, rfl, trivial⟩, pick_only [0, 0] _⟩
            · intro h' hh'
              refine WP.plain cf0 rfl ?_
              refine Run.mv rfl rfl rfl rfl ?_
              refine Run.add64 rfl rfl rfl rfl rfl (by first | omega | (simp <;> omega)) (by first | omega | (simp <;> omega)) ?_
              refine Run.mv rfl rfl rfl rfl ?_
              refine Run.nil ?_
              refine thn_next ⟨(j + 1, h'), ⟨by omega, ?_, ?_⟩, by simp only; omega, ⟨rfl, rfl, rfl, rfl, rfl, rfl, by simp [Env.get], trivial⟩, ent.refl _⟩
              · rw [hh, hdj, heldGo, hh']
              · rw [hh']
                split
                · refine ⟨by rw [List.length_set]; exact hho.1, fun z hz => ?_⟩
                  rcases List.mem_or_eq_of_mem_set hz with hz | hz
                  · exact hho.2 z hz
                  · right; omega
                · exact hho
          · refine WP.exit ?_; refine thn_exit ?_; refine thn_exit ?_; refine blk_hit ?_
            have : j = i := by omega
            subst this
            refine thn_next ⟨h, ⟨?_, hho⟩, ⟨rfl, rfl, rfl, rfl, rfl, rfl, trivial⟩, ent.refl _⟩
            rw [hh, List.drop_eq_nil_of_le (by simp; omega)]; rfl
        rintro h ⟨hh, hho⟩
        have hrn : 1 ≤ regs.toNat ∧ regs.toNat ≤ 8 ∧ (regs.toNat : Int) = regs := by omega
        refine WP.seq ?_
        refine WP.plain cf0 rfl ?_
        refine Run.mv rfl rfl rfl rfl ?_
        refine Run.nil ?_
        refine thn_next ?_
        refine WP.seqMeet (α := Unit) (fun _ => True) (fun _ => [(0, v), (1, .int .i64 regs), (10, ov.val), (11, .int .i64 slots), (12, .int .i64 (i : Int)), (13, .pointer (some ⟨b13, 0, none⟩)), (17, .int .i64 (freeGo h regs.toNat (-1)))]) (fun _ => [slA 37 encLoc ov.val out, blk b13 (ints h) 52]) ?_ ?_
        · refine WP.seq ?_
          refine WP.plain cf0 rfl ?_
          refine Run.mv rfl rfl rfl rfl ?_
          refine Run.sub64 rfl rfl rfl rfl rfl (by first | omega | (simp <;> omega)) (by first | omega | (simp <;> omega)) ?_
          refine Run.mv rfl rfl rfl rfl ?_
          refine Run.nil ?_
          refine thn_next ?_
          refine WP.block ?_
          refine WP.loop (α := Nat × Int) (fun z => z.1 ≤ regs.toNat ∧ freeGo h regs.toNat (-1) = freeGo h z.1 z.2) (fun z => [(0, v), (1, .int .i64 regs), (10, ov.val), (11, .int .i64 slots), (12, .int .i64 (i : Int)), (13, .pointer (some ⟨b13, 0, none⟩)), (17, .int .i64 z.2), (18, .int .i64 ((z.1 : Int) - 1))])
            (fun z => [slA 37 encLoc ov.val out, blk b13 (ints h) 52]) (fun z => z.1) (regs.toNat, -1) ⟨Nat.le_refl _, rfl⟩ ⟨rfl, rfl, rfl, rfl, rfl, rfl, rfl, by simp only [hrn.2.2]; rfl, trivial⟩ (ent.refl _) ?_
          rintro ⟨k, fr⟩ ⟨hk, hfr⟩
          simp only at hk hfr ⊢
          refine WP.seq ?_
          refine WP.seq ?_
          refine WP.plain cf0 rfl ?_
          refine Run.mv rfl rfl rfl rfl ?_
          refine Run.int2 rfl rfl rfl rfl rfl rfl ?_
          refine Run.nil ?_
          refine thn_next ?_
          refine WP.ite rfl (fun hk0 => ?_) (fun hk0 => ?_)
          · refine WP.skip ?_; refine thn_next ?_
            obtain ⟨k, rfl⟩ : ∃ m, k = m + 1 := ⟨k - 1, by omega⟩
            have hki : (((k + 1 : Nat) : Int) - 1) = (k : Int) := by omega
            obtain ⟨u, gu⟩ : ∃ u, h[k]? = some u := ⟨_, List.getElem?_eq_getElem (by rw [hho.1]; omega)⟩
            have hu : h.getD k 0 = u := getD_at gu
            rw [hki]
            refine WP.seqMeet (α := Unit) (fun _ => True) (fun _ => [(0, v), (1, .int .i64 regs), (10, ov.val), (11, .int .i64 slots), (12, .int .i64 (i : Int)), (13, .pointer (some ⟨b13, 0, none⟩)), (17, .int .i64 (if h.getD k 0 < 0 then (k : Int) else fr)), (18, .int .i64 (k : Int))]) (fun _ => [slA 37 encLoc ov.val out, blk b13 (ints h) 52]) ?_ ?_
            · refine WP.block ?_
              refine WP.seq ?_
              refine WP.plain cf0 rfl ?_
              refine Run.mv rfl rfl rfl rfl ?_
              refine Run.idxArr rfl rfl rfl ar_52 rfl rfl (by first | omega | (simp <;> omega)) (by first | omega | (simp <;> omega)) ?_
              refine Run.loadArr 1 (i := (k : Int).toNat) rfl rfl ag_3 rfl rfl rfl rfl gu ?_
              refine Run.int2 rfl rfl rfl rfl rfl rfl ?_
              refine Run.nil ?_
              refine thn_next ?_
              refine WP.ite rfl (fun hneg => ?_) (fun hneg => ?_)
              · refine WP.plain cf0 rfl ?_
                refine Run.mv rfl rfl rfl rfl ?_
                refine Run.mv rfl rfl rfl rfl ?_
                refine Run.nil ?_
                refine blk_norm ?_
                exact thn_next ⟨(), trivial, ⟨rfl, rfl, rfl, rfl, rfl, rfl, by rw [hu, if_pos hneg]; rfl, rfl, trivial⟩, ent.refl _⟩
              · refine WP.skip ?_; refine blk_norm ?_
                exact thn_next ⟨(), trivial, ⟨rfl, rfl, rfl, rfl, rfl, rfl, by rw [hu, if_neg hneg]; rfl, rfl, trivial⟩, ent.refl _⟩
            rintro _ _
            refine WP.plain cf0 rfl ?_
            refine Run.mv rfl rfl rfl rfl ?_
            refine Run.sub64 rfl rfl rfl rfl rfl (by first | omega | (simp <;> omega)) (by first | omega | (simp <;> omega)) ?_
            refine Run.mv rfl rfl rfl rfl ?_
            refine Run.nil ?_
            exact thn_next ⟨(k, _), ⟨by omega, by rw [hfr]; rfl⟩, by simp only; omega, ⟨rfl, rfl, rfl, rfl, rfl, rfl, rfl, rfl, trivial⟩, ent.refl _⟩
          · refine WP.exit ?_; refine thn_exit ?_; refine thn_exit ?_; refine blk_hit ?_
            have : k = 0 := by omega
            subst this
            exact thn_next ⟨(), trivial, ⟨rfl, rfl, rfl, rfl, rfl, rfl, by rw [hfr]; rfl, trivial⟩, ent.refl _⟩
        rintro _ _
        have hfb := freeGo_bd h regs.toNat (-1) regs.toNat (Int.le_refl _) (by omega) (by omega)
        have hfl := freeGo_lt h regs.toNat (-1)
        obtain ⟨fr, hfr⟩ : ∃ fr, freeGo h regs.toNat (-1) = fr := ⟨_, rfl⟩
        rw [hfr] at hfb hfl
        rw [hfr]
        have hrs : ∀ s', refStep xs regs.toNat i x (out, slots) = s' ↔ (if fr ≥ 0 then (out.set x.r.toNat ⟨1, fr⟩, slots) else spill xs i x (out, slots) (lastGo xs h regs.toNat 0 i)) = s' := fun s' => by
          unfold refStep; simp only [← hh, hfr]
        refine WP.seq ?_
        refine WP.seq ?_
        refine WP.plain cf0 rfl ?_
        refine Run.mv rfl rfl rfl rfl ?_
        refine Run.int2 rfl rfl rfl rfl rfl rfl ?_
        refine Run.nil ?_
        refine thn_next ?_
        refine WP.ite rfl (fun hge0 => ?_) (fun hlt0 => ?_)
        · refine WP.seq ?_
          refine WP.plain cf0 rfl ?_
          refine Run.mv rfl rfl rfl rfl ?_
          refine Run.mv rfl rfl rfl rfl ?_
          refine Run.mv rfl rfl rfl rfl ?_
          refine Run.idxR rfl rfl rfl sl_22 rfl rfl (by assumption) (by rfl) (by first | omega | (simp <;> omega)) (by first | omega | (simp <;> omega)) ?_
          refine Run.fieldAddr rfl rfl fo_35_0 rfl rfl ?_
          refine Run.loadR rfl rfl ag_3 rfl rfl (SlR.cell0 hl gx' rfl) ?_
          refine Run.mv rfl rfl rfl rfl ?_
          refine Run.build rfl bd_37 rfl rfl rfl rfl ?_
          refine Run.idxO 0 rfl rfl rfl sl_25 rfl rfl rfl rfl (by first | omega | (simp <;> omega)) (by first | omega | (simp <;> omega)) ?_
          refine Run.storeO 0 _ 0 rfl rfl rfl rfl ag_37 rfl rfl rfl rfl (y' := ⟨1, fr⟩) gy0 rfl rfl ?_
          refine Run.nil ?_
          refine thn_next ?_
          refine WP.exit ?_; refine thn_exit ?_; refine blk_hit ?_
          refine thn_next ⟨(out.set x.r.toNat ⟨1, fr⟩, slots), ⟨?_, by simp only [List.length_set]; exact hon, ?_, hs0, by simp only; omega⟩, ⟨rfl, rfl, rfl, rfl, rfl, trivial⟩, pick_only [0] _⟩
          · exact ((hrs _).2 (by rw [if_pos hge0])).symm
          · intro z hz hk
            rcases List.mem_or_eq_of_mem_set hz with hz | hz
            · exact hok z hz hk
            · subst hz; simp only; omega
        refine WP.skip ?_; refine thn_next ?_
        have hall : ∀ q, q < regs.toNat → 0 ≤ h.getD q 0 ∧ h.getD q 0 < i := fun q hq => by
          have h1 := hfl (by omega) q hq
          have hq8 : q < h.length := by rw [hho.1]; omega
          have h2 := hho.2 (h.getD q 0) (by rw [getD_at (List.getElem?_eq_getElem hq8)]; exact List.getElem_mem hq8)
          omega
        refine WP.seq ?_
        refine WP.plain cf0 rfl ?_
        refine Run.mv rfl rfl rfl rfl ?_
        refine Run.mv rfl rfl rfl rfl ?_
        refine Run.nil ?_
        refine thn_next ?_
        refine WP.seqMeet (α := Unit) (fun _ => True) (fun _ => [(0, v), (1, .int .i64 regs), (10, ov.val), (11, .int .i64 slots), (12, .int .i64 (i : Int)), (19, .int .i64 (lastGo xs h regs.toNat 0 i))]) (fun _ => [slA 37 encLoc ov.val out]) ?_ ?_
        · refine WP.seq ?_
          refine WP.plain cf0 rfl ?_
          refine Run.mv rfl rfl rfl rfl ?_
          refine Run.nil ?_
          refine thn_next ?_
          refine WP.block ?_
          refine WP.loop (α := Nat × Int) (fun z => z.1 ≤ regs.toNat ∧ lastGo xs h regs.toNat 0 i = lastGo xs h (regs.toNat - z.1) z.1 z.2 ∧ 0 ≤ z.2 ∧ z.2 ≤ i) (fun z => [(0, v), (1, .int .i64 regs), (10, ov.val), (11, .int .i64 slots), (12, .int .i64 (i : Int)), (13, .pointer (some ⟨b13, 0, none⟩)), (19, .int .i64 z.2), (20, .int .i64 (z.1 : Int))])
            (fun z => [slA 37 encLoc ov.val out, blk b13 (ints h) 52]) (fun z => regs.toNat - z.1) (0, (i : Int)) ⟨Nat.zero_le _, rfl, by simp only; omega, Int.le_refl _⟩ ⟨rfl, rfl, rfl, rfl, rfl, rfl, rfl, rfl, trivial⟩ (ent.refl _) ?_
          rintro ⟨r, last⟩ ⟨hr, hlast, hl0, hl1⟩
          simp only at hr hlast hl0 hl1 ⊢
          refine WP.seq ?_
          refine WP.seq ?_
          refine WP.plain cf0 rfl ?_
          refine Run.mv rfl rfl rfl rfl ?_
          refine Run.mv rfl rfl rfl rfl ?_
          refine Run.int2 rfl rfl rfl rfl rfl rfl ?_
          refine Run.nil ?_
          refine thn_next ?_
          refine WP.ite rfl (fun hrr => ?_) (fun hrr => ?_)
          · refine WP.skip ?_; refine thn_next ?_
            have hrlt : r < regs.toNat := by omega
            obtain ⟨hu0, hu1⟩ := hall r hrlt
            obtain ⟨u, gu⟩ : ∃ u, h[r]? = some u := ⟨_, List.getElem?_eq_getElem (by rw [hho.1]; omega)⟩
            have hu : h.getD r 0 = u := getD_at gu
            rw [hu] at hu0 hu1
            obtain ⟨X, gX⟩ : ∃ z, xs[u.toNat]? = some z := ⟨_, List.getElem?_eq_getElem (by omega)⟩
            obtain ⟨Y, gY⟩ : ∃ z, xs[last.toNat]? = some z := ⟨_, List.getElem?_eq_getElem (by omega)⟩
            have hX : xs.getD u.toNat zIv = X := getD_at gX
            have hY : xs.getD last.toNat zIv = Y := getD_at gY
            have hlt3 : last < xs.length := by omega
            have hu3 : u < xs.length := by omega
            have hstep : lastGo xs h (regs.toNat - r) r last = lastGo xs h (regs.toNat - (r + 1)) (r + 1) (if later2 X Y then u else last) := by
              have e : regs.toNat - r = (regs.toNat - (r + 1)) + 1 := by omega
              rw [e, lastGo, hu, hX, hY]
            refine WP.seqMeet (α := Unit) (fun _ => True) (fun _ => [(0, v), (1, .int .i64 regs), (10, ov.val), (11, .int .i64 slots), (12, .int .i64 (i : Int)), (13, .pointer (some ⟨b13, 0, none⟩)), (19, .int .i64 (if later2 X Y then u else last)), (20, .int .i64 (r : Int))]) (fun _ => [slA 37 encLoc ov.val out, blk b13 (ints h) 52]) ?_ ?_
            · refine WP.block ?_
              refine WP.seq ?_
              refine WP.plain cf0 rfl ?_
              refine Run.mv rfl rfl rfl rfl ?_
              refine Run.mv rfl rfl rfl rfl ?_
              refine Run.idxArr rfl rfl rfl ar_52 rfl rfl (by first | omega | (simp <;> omega)) (by first | omega | (simp <;> omega)) ?_
              refine Run.loadArr 1 (i := (r : Int).toNat) rfl rfl ag_3 rfl rfl rfl rfl gu ?_
              refine Run.idxR rfl rfl rfl sl_22 rfl rfl (by assumption) (by rfl) (by first | omega | (simp <;> omega)) (by first | omega | (simp <;> omega)) ?_
              refine Run.loadRagg rfl rfl ag_35 rfl rfl (SlR.row hl gX) (by rfl) ?_
              refine Run.alloc rfl zr_35 rfl rfl rfl ?_
              intro b21
              refine Run.storeB 2 rfl rfl rfl rfl ag_35 rfl rfl rfl rfl rfl ?_
              refine Run.nil ?_
              refine thn_next ?_
              refine WP.via (Γ' := [slA 37 encLoc ov.val out, blk b13 (ints h) 52, blk b21 (encIv.cells X) 35]) (ent.refl _) ?_
              refine WP.seqCut [(0, v), (1, .int .i64 regs), (10, ov.val), (11, .int .i64 slots), (12, .int .i64 (i : Int)), (13, .pointer (some ⟨b13, 0, none⟩)), (19, .int .i64 last), (20, .int .i64 (r : Int)), (154, .bool (decide (later2 X Y)))] [slA 37 encLoc ov.val out, blk b13 (ints h) 52, blk b21 (encIv.cells X) 35] ?_ ?_
              · refine WP.drawn0 cf0 mixed rfl (by kernel_rfl) ?_
                all_goals (first | refine Run.fieldAddr rfl rfl fo_35_2 rfl rfl ?_)
                all_goals (first | refine Run.loadB 2 rfl rfl ag_3 rfl rfl rfl rfl rfl ?_)
                all_goals (first | refine Run.mv rfl rfl rfl rfl ?_)
                all_goals (first | refine Run.mv rfl rfl rfl rfl ?_)
                all_goals (first | refine Run.idxR rfl rfl rfl sl_22 rfl rfl (by assumption) (by rfl) (by first | omega | (simp <;> omega)) (by first | omega | (simp <;> omega)) ?_)
                all_goals (first | refine Run.fieldAddr rfl rfl fo_35_2 rfl rfl ?_)
                all_goals (first | refine Run.loadR rfl rfl ag_3 rfl rfl (SlR.cell hl gY rfl) ?_)
                all_goals (first | refine Run.int2 rfl rfl rfl rfl rfl rfl ?_)
                all_goals (first | refine Run.tt (by first | assumption | omega) ?_ | refine Run.ff (by first | assumption | omega) ?_ | refine Run.split (fun hc134 => ?_) (fun hc134 => ?_) | refine Run.splitB (fun hc134 => ?_) (fun hc134 => ?_) | skip)
                all_goals (first | refine Run.mv rfl rfl rfl rfl ?_)
                all_goals (first | refine Run.not rfl rfl ?_ | refine Run.fieldAddr rfl rfl fo_35_2 rfl rfl ?_)
                all_goals (first | refine Run.not rfl rfl ?_ | refine Run.loadB 2 rfl rfl ag_3 rfl rfl rfl rfl rfl ?_)
                all_goals (first | refine Run.not rfl rfl ?_ | refine Run.mv rfl rfl rfl rfl ?_)
                all_goals (first | refine Run.not rfl rfl ?_ | refine Run.mv rfl rfl rfl rfl ?_)
                all_goals (first | refine Run.not rfl rfl ?_ | refine Run.idxR rfl rfl rfl sl_22 rfl rfl (by assumption) (by rfl) (by first | omega | (simp <;> omega)) (by first | omega | (simp <;> omega)) ?_)
                all_goals (first | refine Run.not rfl rfl ?_ | refine Run.fieldAddr rfl rfl fo_35_2 rfl rfl ?_)
                all_goals (first | refine Run.not rfl rfl ?_ | refine Run.loadR rfl rfl ag_3 rfl rfl (SlR.cell hl gY rfl) ?_)
                all_goals (first | refine Run.not rfl rfl ?_ | refine Run.int2 rfl rfl rfl rfl rfl rfl ?_)
                all_goals (first | refine Run.tt (by first | assumption | omega) ?_ | refine Run.ff (by first | assumption | omega) ?_ | refine Run.split (fun hc143 => ?_) (fun hc143 => ?_) | refine Run.splitB (fun hc143 => ?_) (fun hc143 => ?_) | skip)
                all_goals (first | refine Run.not rfl rfl ?_ | refine Run.mv rfl rfl rfl rfl ?_)
                all_goals (first | refine Run.not rfl rfl ?_ | refine Run.fieldAddr rfl rfl fo_35_0 rfl rfl ?_)
                all_goals (first | refine Run.not rfl rfl ?_ | refine Run.loadB 2 rfl rfl ag_3 rfl rfl rfl rfl rfl ?_)
                all_goals (first | refine Run.not rfl rfl ?_ | refine Run.mv rfl rfl rfl rfl ?_)
                all_goals (first | refine Run.not rfl rfl ?_ | refine Run.mv rfl rfl rfl rfl ?_)
                all_goals (first | refine Run.not rfl rfl ?_ | refine Run.idxR rfl rfl rfl sl_22 rfl rfl (by assumption) (by rfl) (by first | omega | (simp <;> omega)) (by first | omega | (simp <;> omega)) ?_)
                all_goals (first | refine Run.not rfl rfl ?_ | refine Run.fieldAddr rfl rfl fo_35_0 rfl rfl ?_)
                all_goals (first | refine Run.not rfl rfl ?_ | refine Run.loadR rfl rfl ag_3 rfl rfl (SlR.cell0 hl gY rfl) ?_)
                all_goals (first | refine Run.not rfl rfl ?_ | refine Run.int2 rfl rfl rfl rfl rfl rfl ?_)
                all_goals (first | refine Run.not rfl rfl ?_ | refine Run.pick rfl rfl rfl rfl rfl ?_)
                all_goals (first | refine Run.pick rfl rfl rfl rfl rfl ?_)
                all_goals (refine Run.nil ?_)
                all_goals refine thn_next ⟨⟨rfl, rfl, rfl, rfl, rfl, rfl, rfl, rfl, ?_, trivial⟩, ent.refl _⟩
                all_goals simp [Env.get, later2, *]
              refine WP.ite rfl (fun hc => ?_) (fun hc => ?_)
              · refine WP.plain cf0 rfl ?_
                refine Run.mv rfl rfl rfl rfl ?_
                refine Run.idxArr rfl rfl rfl ar_52 rfl rfl (by first | omega | (simp <;> omega)) (by first | omega | (simp <;> omega)) ?_
                refine Run.loadArr 1 (i := (r : Int).toNat) rfl rfl ag_3 rfl rfl rfl rfl gu ?_
                refine Run.mv rfl rfl rfl rfl ?_
                refine Run.nil ?_
                refine blk_norm ?_
                exact thn_next ⟨(), trivial, ⟨rfl, rfl, rfl, rfl, rfl, rfl, by rw [if_pos hc]; rfl, rfl, trivial⟩, pick_only [0, 0] _⟩
              · refine WP.skip ?_; refine blk_norm ?_
                exact thn_next ⟨(), trivial, ⟨rfl, rfl, rfl, rfl, rfl, rfl, by rw [if_neg hc]; rfl, rfl, trivial⟩, pick_only [0, 0] _⟩
            rintro _ _
            refine WP.plain cf0 rfl ?_
            refine Run.mv rfl rfl rfl rfl ?_
            refine Run.add64 rfl rfl rfl rfl rfl (by first | omega | (simp <;> omega)) (by first | omega | (simp <;> omega)) ?_
            refine Run.mv rfl rfl rfl rfl ?_
            refine Run.nil ?_
            refine thn_next ⟨(r + 1, if later2 X Y then u else last), ⟨hrlt, by rw [hlast, hstep], ?_, ?_⟩, by simp only; omega, ⟨rfl, rfl, rfl, rfl, rfl, rfl, rfl, by simp [Env.get], trivial⟩, ent.refl _⟩
            · simp only; split <;> omega
            · simp only; split <;> omega
          · refine WP.exit ?_; refine thn_exit ?_; refine thn_exit ?_; refine blk_hit ?_
            have : r = regs.toNat := by omega
            subst this
            exact thn_next ⟨(), trivial, ⟨rfl, rfl, rfl, rfl, rfl, by rw [hlast, Nat.sub_self]; rfl, trivial⟩, pick_only [0] _⟩
        rintro _ _
        obtain ⟨hla, hlb⟩ := lastGo_mem xs h i regs.toNat 0 i (fun q hq _ => by have := hall q (by omega); exact ⟨this.1, this.2⟩) (by omega) (Int.le_refl _)
        obtain ⟨last, hlast⟩ : ∃ last, lastGo xs h regs.toNat 0 i = last := ⟨_, rfl⟩
        rw [hlast] at hla hlb
        rw [hlast]
        obtain ⟨Y, gY⟩ : ∃ z, xs[last.toNat]? = some z := ⟨_, List.getElem?_eq_getElem (by omega)⟩
        have hY : xs.getD last.toNat zIv = Y := getD_at gY
        have hYr := hbN Y (List.mem_of_getElem? gY)
        have hlx : last < xs.length := by omega
        obtain ⟨p, gp⟩ : ∃ p, out[Y.r.toNat]? = some p := ⟨_, List.getElem?_eq_getElem (by omega)⟩
        have hloc : locOf out Y = p := getD_at gp
        refine WP.seqMeet (α := List Loc) (fun o1 => o1 = (if last ≠ i then out.set x.r.toNat p else out)) (fun _ => [(0, v), (1, .int .i64 regs), (10, ov.val), (11, .int .i64 slots), (12, .int .i64 (i : Int)), (19, .int .i64 last)]) (fun o1 => [slA 37 encLoc ov.val o1]) ?_ ?_
        · refine WP.seq ?_
          refine WP.plain cf0 rfl ?_
          refine Run.mv rfl rfl rfl rfl ?_
          refine Run.mv rfl rfl rfl rfl ?_
          refine Run.int2 rfl rfl rfl rfl rfl rfl ?_
          refine Run.nil ?_
          refine thn_next ?_
          refine WP.ite rfl (fun hne => ?_) (fun hne => ?_)
          · refine WP.drawn0 cf0 mixed rfl (by kernel_rfl) ?_
            refine Run.mv rfl rfl rfl rfl ?_
            refine Run.mv rfl rfl rfl rfl ?_
            refine Run.mv rfl rfl rfl rfl ?_
            refine Run.idxR rfl rfl rfl sl_22 rfl rfl (by assumption) (by rfl) (by first | omega | (simp <;> omega)) (by first | omega | (simp <;> omega)) ?_
            refine Run.fieldAddr rfl rfl fo_35_0 rfl rfl ?_
            refine Run.loadR rfl rfl ag_3 rfl rfl (SlR.cell0 hl gx' rfl) ?_
            refine Run.mv rfl rfl rfl rfl ?_
            refine Run.mv rfl rfl rfl rfl ?_
            refine Run.mv rfl rfl rfl rfl ?_
            refine Run.idxR rfl rfl rfl sl_22 rfl rfl (by assumption) (by rfl) (by first | omega | (simp <;> omega)) (by first | omega | (simp <;> omega)) ?_
            refine Run.fieldAddr rfl rfl fo_35_0 rfl rfl ?_
            refine Run.loadR rfl rfl ag_3 rfl rfl (SlR.cell0 hl gY rfl) ?_
            refine Run.idxO 0 rfl rfl rfl sl_25 rfl rfl rfl rfl (by first | omega | (simp <;> omega)) (by first | omega | (simp <;> omega)) ?_
            refine Run.loadOagg 0 _ rfl rfl ag_37 rfl rfl rfl rfl rfl gp ?_
            refine Run.idxO 0 rfl rfl rfl sl_25 rfl rfl rfl rfl (by first | omega | (simp <;> omega)) (by first | omega | (simp <;> omega)) ?_
            refine Run.storeO 0 _ 0 rfl rfl rfl rfl ag_37 rfl rfl rfl rfl (y' := p) gy0 rfl rfl ?_
            refine Run.nil ?_
            exact thn_next ⟨_, by rw [if_pos hne], ⟨rfl, rfl, rfl, rfl, rfl, rfl, trivial⟩, ent.refl _⟩
          · refine WP.skip ?_
            exact thn_next ⟨_, by rw [if_neg hne], ⟨rfl, rfl, rfl, rfl, rfl, rfl, trivial⟩, ent.refl _⟩
        intro o1 ho1
        have ho1n : o1.length = N := by rw [ho1]; split <;> simp [hon]
        have ho1k : OutOk o1 := by
          rw [ho1]; split
          · intro z hz hk
            rcases List.mem_or_eq_of_mem_set hz with hz | hz
            · exact hok z hz hk
            · subst hz; exact hok z (List.mem_of_getElem? gp) hk
          · exact hok
        obtain ⟨p1, gp1⟩ : ∃ p, o1[Y.r.toNat]? = some p := ⟨_, List.getElem?_eq_getElem (by omega)⟩
        refine WP.seq ?_
        refine WP.plain cf0 rfl ?_
        refine Run.mv rfl rfl rfl rfl ?_
        refine Run.mv rfl rfl rfl rfl ?_
        refine Run.mv rfl rfl rfl rfl ?_
        refine Run.idxR rfl rfl rfl sl_22 rfl rfl (by assumption) (by rfl) (by first | omega | (simp <;> omega)) (by first | omega | (simp <;> omega)) ?_
        refine Run.fieldAddr rfl rfl fo_35_0 rfl rfl ?_
        refine Run.loadR rfl rfl ag_3 rfl rfl (SlR.cell0 hl gY rfl) ?_
        refine Run.mv rfl rfl rfl rfl ?_
        refine Run.build rfl bd_37 rfl rfl rfl rfl ?_
        refine Run.idxO 0 rfl rfl rfl sl_25 rfl rfl rfl rfl (by first | omega | (simp <;> omega)) (by first | omega | (simp <;> omega)) ?_
        refine Run.storeO 0 _ 0 rfl rfl rfl rfl ag_37 rfl rfl rfl rfl (y' := ⟨2, slots⟩) gp1 rfl rfl ?_
        refine Run.nil ?_
        refine thn_next ?_
        refine WP.plain cf0 rfl ?_
        refine Run.mv rfl rfl rfl rfl ?_
        refine Run.add64 rfl rfl rfl rfl rfl (by first | omega | (simp <;> omega)) (by first | omega | (simp <;> omega)) ?_
        refine Run.mv rfl rfl rfl rfl ?_
        refine Run.nil ?_
        refine blk_norm ?_
        refine thn_next ⟨(o1.set Y.r.toNat ⟨2, slots⟩, slots + 1), ⟨?_, by simp only [List.length_set]; exact ho1n, ?_, by simp only; omega, by simp only; omega⟩, ⟨rfl, rfl, rfl, rfl, rfl, trivial⟩, ent.refl _⟩
        · refine ((hrs _).2 ?_).symm
          rw [if_neg hlt0, hlast]; simp only [spill, hY, hloc, ho1]
        · intro z hz hk
          rcases List.mem_or_eq_of_mem_set hz with hz | hz
          · exact ho1k z hz hk
          · subst hz; simp at hk
      · rintro s ⟨hs, hsn, hsk, hsl, hsh⟩
        refine WP.plain cf0 rfl ?_
        refine Run.mv rfl rfl rfl rfl ?_
        refine Run.add64 rfl rfl rfl rfl rfl (by first | omega | (simp <;> omega)) (by first | omega | (simp <;> omega)) ?_
        refine Run.mv rfl rfl rfl rfl ?_
        refine Run.nil ?_
        exact thn_next ⟨(i + 1, s), ⟨hlt', by rw [hrun, hdrop, refRun, hs], hsn, hsk, hsl, by simp only; omega⟩, by simp only; omega, ⟨rfl, rfl, rfl, rfl, by simp [Env.get], trivial⟩, ent.refl _⟩
    · refine WP.exit ?_; refine thn_exit ?_; refine thn_exit ?_; refine blk_hit ?_
      have e : refRun xs regs.toNat 0 xs (List.replicate N ⟨0, 0⟩, 0) = (out, slots) := by rw [hrun, List.drop_eq_nil_of_le (by omega)]; rfl
      have e2 : refScanL xs regs = (out, slots, 0) := by unfold refScanL; rw [if_neg hregs, if_neg (by rw [hrt]; simp), hN, e]
      refine thn_next ⟨(), trivial, ⟨rfl, ?_, trivial⟩, ?_⟩
      · rw [e2]; rfl
      · rw [e2]; exact ent.refl _
  rintro _ _
  refine WP.seq ?_
  refine WP.plain cf0 rfl ?_
  refine Run.mv rfl rfl rfl rfl ?_
  refine Run.mv rfl rfl rfl rfl ?_
  refine Run.mv rfl rfl rfl rfl ?_
  refine Run.mv rfl rfl rfl rfl ?_
  refine Run.mv rfl rfl rfl rfl ?_
  refine Run.nil ?_
  refine thn_next ?_
  refine WP.ret ?_
  have e : (refScanL xs regs).2.2 = 0 := by unfold refScanL; rw [if_neg hregs, if_neg (by rw [hrt]; simp)]
  exact retT [4, 5, 6] _ rfl rfl ⟨ov, by rw [e]; rfl, rfl⟩
end Go.Proofs.Ytengcfamhoppbaa
