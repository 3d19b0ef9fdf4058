/- Scan: the places and the slots of a list of intervals. -/
import Derived.Test.YtengcfamhoppbaaWrong
namespace Go.Proofs.Ytengcfamhoppbaa
set_option linter.unusedSimpArgs false
set_option linter.unusedVariables false
open Go.Sep
attribute [local irreducible] blk slA mp mpF

def stepS (s : St) (x : Iv) : St := takeS { act := (expireL s.out x.f s.act s.free).1, free := (expireL s.out x.f s.act s.free).2, out := s.out, slots := s.slots } x
def runL (s : St) : List Iv → St
  | [] => s
  | x :: xs => runL (stepS s x) xs
def mostL (m : Int) : List Iv → Int
  | [] => m
  | x :: xs => mostL (max m x.r) xs
def iota (k : Nat) : List Int := (List.range k).map fun (i : Nat) => (i : Int)
theorem iota_succ (k : Nat) : iota (k + 1) = iota k ++ [(k : Int)] := by simp [iota, List.range_succ]
theorem iota_len (k : Nat) : (iota k).length = k := by simp [iota]
def startS (l : List Iv) (regs : Int) : St := ⟨[], iota regs.toNat, List.replicate (mostL (-1) l + 1).toNat ⟨0, 0⟩, 0⟩
def scanL (l : List Iv) (regs : Int) : List Loc × Int × Int :=
  if regs < 1 ∨ regs > 8 then ([], 0, 180) else if wrongL l then ([], 0, 181) else ((runL (startS l regs) l).out, (runL (startS l regs) l).slots, 0)

theorem expireL_len (out : List Loc) (f : Int) : ∀ (act : List Iv) (fr : List Int), (expireL out f act fr).1.length + (expireL out f act fr).2.length = act.length + fr.length
  | [], fr => rfl
  | a :: act, fr => by
    simp only [expireL]; split
    · rw [expireL_len out f act]; simp [putL_len]; omega
    · rfl
theorem expireL_mem (out : List Loc) (f : Int) : ∀ (act : List Iv) (fr : List Int), ∀ z ∈ (expireL out f act fr).1, z ∈ act
  | [], fr, z, h => h
  | a :: act, fr, z, h => by
    simp only [expireL] at h; split at h
    · exact List.mem_cons_of_mem _ (expireL_mem out f act _ z h)
    · exact h

structure InvS (n : Nat) (regs k : Nat) (s : St) : Prop where
  out : s.out.length = n
  act : ∀ z ∈ s.act, 0 ≤ z.r ∧ z.r < n
  cnt : s.act.length + s.free.length = regs
  lo : 0 ≤ s.slots
  hi : s.slots ≤ k

theorem putL_mem {A : Type} (after : A → A → Bool) (l : List A) (x z : A) : z ∈ putL after l x ↔ z = x ∨ z ∈ l := by
  rw [(putL_perm after l x).mem_iff]; simp

theorem InvS.expire {n regs k : Nat} {s : St} (h : InvS n regs k s) (f : Int) : InvS n regs k { act := (expireL s.out f s.act s.free).1, free := (expireL s.out f s.act s.free).2, out := s.out, slots := s.slots } :=
  ⟨h.out, fun z hz => h.act z (expireL_mem _ _ _ _ z hz), by rw [← h.cnt]; exact expireL_len _ _ _ _, h.lo, h.hi⟩

theorem InvS.take {n regs k : Nat} {s : St} (h : InvS n regs k s) (hregs : 1 ≤ regs) (x : Iv) (hx : 0 ≤ x.r ∧ x.r < n) : InvS n regs (k + 1) (takeS s x) := by
  obtain ⟨act, free, out, slots⟩ := s
  obtain ⟨h1, h2, h3, h4, h5⟩ := h
  simp only at h1 h2 h3 h4 h5
  cases free with
  | cons f fr =>
    refine ⟨by simp [takeS, h1], fun z hz => ?_, by simp [takeS, putL_len] at h3 ⊢; omega, h4, by simp only [takeS]; omega⟩
    simp only [takeS, putL_mem] at hz
    rcases hz with rfl | hz
    · exact hx
    · exact h2 z hz
  | nil =>
    rcases List.eq_nil_or_concat act with rfl | ⟨init, last, hc⟩
    · simp at h3; omega
    rw [List.concat_eq_append] at hc; subst hc
    have hlast : (init ++ [last]).getLastD x = last := by simp
    by_cases hb : laterB last x = true
    · have : takeS ⟨init ++ [last], [], out, slots⟩ x = ⟨putL laterB init x, [], (out.set x.r.toNat (out.getD last.r.toNat ⟨0, 0⟩)).set last.r.toNat ⟨2, slots⟩, slots + 1⟩ := by
        simp only [takeS, hlast]; rw [if_pos hb]; simp
      rw [this]
      refine ⟨by simp [h1], fun z hz => ?_, by simp [putL_len] at h3 ⊢; omega, by simp only; omega, by simp only; omega⟩
      simp only [putL_mem] at hz
      rcases hz with rfl | hz
      · exact hx
      · exact h2 z (by simp [hz])
    · have : takeS ⟨init ++ [last], [], out, slots⟩ x = ⟨init ++ [last], [], out.set x.r.toNat ⟨2, slots⟩, slots + 1⟩ := by
        simp only [takeS, hlast]; rw [if_neg hb]
      rw [this]
      exact ⟨by simp [h1], h2, h3, by simp only; omega, by simp only; omega⟩

theorem wrongGo_reg : ∀ (xs : List Iv) (p : Option Iv) (seen : Int → Bool), wrongGo p seen xs = false → ∀ x ∈ xs, 0 ≤ x.r ∧ x.r < 262144
  | [], _, _, _, _, hx => by cases hx
  | y :: ys, p, seen, h, x, hx => by
    simp only [wrongGo] at h
    split at h
    · cases h
    · rename_i hb
      split at h
      · cases h
      · rcases List.mem_cons.1 hx with rfl | hx
        · unfold badIv at hb; omega
        · exact wrongGo_reg ys _ _ h x hx

theorem mostL_bd : ∀ (xs : List Iv) (m : Int), m ≤ mostL m xs ∧ ∀ x ∈ xs, x.r ≤ mostL m xs
  | [], m => ⟨Int.le_refl _, fun _ h => by cases h⟩
  | y :: ys, m => by
    obtain ⟨h1, h2⟩ := mostL_bd ys (max m y.r)
    refine ⟨by simp only [mostL]; omega, fun x hx => ?_⟩
    rcases List.mem_cons.1 hx with rfl | hx
    · simp only [mostL]; omega
    · exact h2 x hx

set_option maxRecDepth 100000 in
theorem scan_ok (hR : Heap) (v : Value) (xs : List Iv) (regs : Int) (hl : SlR encIv.rd hR v xs) (hlen : xs.length ≤ 1000000) :
    Tri Try.prog hR 11 #[v, .int .i64 regs] [] fun u Γ' => ∃ ov : SV, u = .tuple #[ov.val, .int .i64 (scanL xs regs).2.1, .int .i64 (scanL xs regs).2.2] ∧ Γ' = [slA 37 encLoc ov.val (scanL xs regs).1] := by
  refine Tri.of (args := [v, .int .i64 regs]) Try.func11 rfl Try.ntmps11 (by simp) ?_
  refine WP.seq ?_
  refine WP.plain cf0 rfl ?_
  refine Run.mv rfl rfl rfl rfl ?_
  refine Run.mv rfl rfl rfl rfl ?_
  refine Run.mv rfl rfl rfl rfl ?_
  refine Run.nil ?_
  refine thn_next ?_
  refine WP.seqMeet (α := Unit) (fun _ => ¬ (regs < 1 ∨ regs > 8) ∧ wrongL xs = false) (fun _ => [(0, v), (1, .int .i64 regs)]) (fun _ => []) ?_ ?_
  · refine WP.block ?_
    refine WP.seqCut [(0, v), (1, .int .i64 regs), (14, .bool (decide (regs < 1 ∨ regs > 8)))] [] ?_ ?_
    · refine WP.plain cf0 rfl ?_
      all_goals (first | refine Run.mv rfl rfl rfl rfl ?_)
      all_goals (first | refine Run.int2 rfl rfl rfl rfl rfl rfl ?_)
      all_goals (first | refine Run.tt (by first | assumption | omega) ?_ | refine Run.ff (by first | assumption | omega) ?_ | refine Run.split (fun hc16 => ?_) (fun hc16 => ?_) | refine Run.splitB (fun hc16 => ?_) (fun hc16 => ?_) | skip)
      all_goals (first | refine Run.mv rfl rfl rfl rfl ?_)
      all_goals (first | refine Run.not rfl rfl ?_ | refine Run.mv rfl rfl rfl rfl ?_)
      all_goals (first | refine Run.not rfl rfl ?_ | refine Run.int2 rfl rfl rfl rfl rfl rfl ?_)
      all_goals (first | refine Run.pick rfl rfl rfl rfl rfl ?_)
      all_goals (first | refine Run.mv rfl rfl rfl rfl ?_)
      all_goals (refine Run.nil ?_)
      all_goals refine thn_next ⟨⟨rfl, rfl, ?_, trivial⟩, ent.refl _⟩
      all_goals simp [Env.get, *]
    · refine WP.ite rfl (fun h => ?_) (fun h => ?_)
      · refine WP.seq ?_
        refine WP.plain cf0 rfl ?_
        refine Run.mv rfl rfl rfl rfl ?_
        refine Run.mv rfl rfl rfl rfl ?_
        refine Run.mv rfl rfl rfl rfl ?_
        refine Run.nil ?_
        refine thn_next ?_
        refine WP.via (slA_nil 37 encLoc _) ?_
        refine WP.ret ?_; refine blk_ret ?_; refine thn_ret ?_
        have e : scanL xs regs = ([], 0, 180) := by unfold scanL; rw [if_pos h]
        exact retT [4, 5, 6] _ rfl rfl ⟨⟨none, 0, 0⟩, by rw [e]; rfl, by rw [e]; rfl⟩
      · refine WP.seq ?_
        refine WP.plain cf0 rfl ?_
        refine Run.mv rfl rfl rfl rfl ?_
        refine Run.call (Δ := []) (Θ := []) rfl rfl rfl rfl ok_19 rfl rfl (ent.refl _) (wrong_ok hR v xs hl hlen) ?_; rintro _ _ ⟨rfl, rfl⟩
        refine Run.mv rfl rfl rfl rfl ?_
        refine Run.nil ?_
        refine thn_next ?_
        refine WP.cond (t := wrongL xs) rfl (fun hw => ?_) (fun hw => ?_)
        · refine WP.seq ?_
          refine WP.plain cf0 rfl ?_
          refine Run.mv rfl rfl rfl rfl ?_
          refine Run.mv rfl rfl rfl rfl ?_
          refine Run.mv rfl rfl rfl rfl ?_
          refine Run.nil ?_
          refine thn_next ?_
          refine WP.via (slA_nil 37 encLoc _) ?_
          refine WP.ret ?_; refine blk_ret ?_; refine thn_ret ?_
          have e : scanL xs regs = ([], 0, 181) := by unfold scanL; rw [if_neg h, if_pos hw]
          exact retT [4, 5, 6] _ rfl rfl ⟨⟨none, 0, 0⟩, by rw [e]; rfl, by rw [e]; rfl⟩
        · refine WP.skip ?_; refine blk_norm ?_; refine thn_next ⟨(), ⟨h, hw⟩, ⟨rfl, rfl, trivial⟩, ent.refl _⟩
  rintro _ ⟨hregs, hw⟩
  have hrg := wrongGo_reg xs _ _ hw
  refine WP.seq ?_
  refine WP.plain cf0 rfl ?_
  refine Run.mv rfl rfl rfl rfl ?_
  refine Run.nil ?_
  refine thn_next ?_
  refine WP.seqMeet (α := Unit) (fun _ => -1 ≤ mostL (-1) xs ∧ mostL (-1) xs < 262144) (fun _ => [(0, v), (1, .int .i64 regs), (7, .int .i64 (mostL (-1) xs))]) (fun _ => []) ?_ ?_
  · refine WP.seq ?_
    refine WP.plain cf0 rfl ?_
    refine Run.mv rfl rfl rfl rfl ?_
    refine Run.lenR rfl rfl sl_22 rfl rfl (by assumption) ?_
    refine Run.mv rfl rfl rfl rfl ?_
    refine Run.nil ?_
    refine thn_next ?_
    refine WP.block ?_
    refine WP.loop (α := Nat × Int) (fun z => z.1 ≤ xs.length ∧ mostL (-1) xs = mostL z.2 (xs.drop z.1) ∧ -1 ≤ z.2 ∧ z.2 < 262144)
      (fun z => [(0, v), (1, .int .i64 regs), (7, .int .i64 z.2), (24, v), (25, .int .i64 (xs.length : Int)), (26, .int .i64 (z.1 : Int))]) (fun z => []) (fun z => xs.length - z.1)
      (0, -1) ⟨Nat.zero_le _, rfl, by decide, by decide⟩ ⟨rfl, rfl, rfl, rfl, rfl, rfl, trivial⟩ (ent.refl _) ?_
    rintro ⟨i, m⟩ ⟨hi, hm, hm0, hm1⟩
    simp only at hi hm hm0 hm1 ⊢
    refine WP.seq ?_
    refine WP.plain cf0 rfl ?_
    refine Run.int2 rfl rfl rfl rfl rfl rfl ?_
    refine Run.nil ?_
    refine thn_next ?_
    refine WP.seq ?_
    refine WP.ite rfl (fun hlt => ?_) (fun hge => ?_)
    · refine WP.skip ?_; refine thn_next ?_
      have hlt' : i < xs.length := by omega
      obtain ⟨x, gx⟩ : ∃ x, xs[i]? = some x := ⟨_, List.getElem?_eq_getElem hlt'⟩
      have gx' : xs[(i : Int).toNat]? = some x := gx
      have hdrop : xs.drop i = x :: xs.drop (i + 1) := by rw [List.drop_eq_getElem_cons hlt']; congr 1; rw [List.getElem?_eq_getElem hlt'] at gx; cases gx; rfl
      have hxr := hrg x (List.mem_of_getElem? gx)
      refine WP.seq ?_
      refine WP.block ?_
      refine WP.seq ?_
      refine WP.plain cf0 rfl ?_
      refine Run.idxR rfl rfl rfl sl_22 rfl rfl (by assumption) (by rfl) (by first | omega | (simp <;> omega)) (by first | omega | (simp <;> omega)) ?_
      refine Run.loadRagg rfl rfl ag_35 rfl rfl (by first | assumption | exact SlR.row (by assumption) (by assumption)) (by rfl) ?_
      refine Run.alloc rfl zr_35 rfl rfl rfl ?_
      intro b9
      refine Run.storeB 0 rfl rfl rfl rfl ag_35 rfl rfl rfl rfl rfl ?_
      refine Run.nil ?_
      refine thn_next ?_
      refine WP.via (Γ' := [blk b9 (encIv.cells x) 35]) (ent.refl _) ?_
      refine WP.plain cf0 rfl ?_
      refine Run.mv rfl rfl rfl rfl ?_
      refine Run.fieldAddr rfl rfl fo_35_0 rfl rfl ?_
      refine Run.loadB 0 rfl rfl ag_3 rfl rfl rfl rfl rfl ?_
      refine Run.max2 rfl rfl rfl rfl rfl ?_
      refine Run.mv rfl rfl rfl rfl ?_
      refine Run.nil ?_
      refine blk_norm ?_; refine thn_next ?_
      refine WP.plain cf0 rfl ?_
      refine Run.add64 rfl rfl rfl rfl rfl (by first | omega | (simp <;> omega)) (by first | omega | (simp <;> omega)) ?_
      refine Run.mv rfl rfl rfl rfl ?_
      refine Run.nil ?_
      refine thn_next ⟨(i + 1, max m x.r), ⟨hlt', ?_, ?_, ?_⟩, ?_, ⟨rfl, rfl, rfl, rfl, rfl, ?_, trivial⟩, pick_only [] _⟩
      · simp only; rw [hm, hdrop]; rfl
      · simp only; omega
      · simp only; omega
      · simp only; omega
      · simp [Env.get]
    · refine WP.exit ?_; refine thn_exit ?_; refine thn_exit ?_; refine blk_hit ?_
      have e : mostL (-1) xs = m := by rw [hm, List.drop_eq_nil_of_le (by omega)]; rfl
      refine thn_next ⟨(), ⟨by omega, by omega⟩, ⟨rfl, rfl, ?_, trivial⟩, ent.refl _⟩
      rw [e]; rfl
  rintro _ ⟨hm0, hm1⟩
  obtain ⟨N, hN⟩ : ∃ N : Nat, (mostL (-1) xs + 1).toNat = N := ⟨_, rfl⟩
  refine WP.seq ?_
  refine WP.plain cf0 rfl ?_
  refine Run.mv rfl rfl rfl rfl ?_
  refine Run.add64 rfl rfl rfl rfl rfl (by first | omega | (simp <;> omega)) (by first | omega | (simp <;> omega)) ?_
  refine Run.makeSlice (E := encLoc) (⟨0, 0⟩) rfl rfl rfl sl_25 zr_37 rfl rfl rfl (by first | omega | (simp <;> omega)) (by first | omega | (simp <;> omega)) (by first | omega | (simp <;> omega)) (by first | omega | (simp <;> omega)) ?_
  intro b37
  refine Run.build rfl bd_49 rfl rfl rfl rfl ?_
  refine Run.box rfl rfl rfl rfl rfl ?_
  intro b39
  refine Run.mv rfl rfl rfl rfl ?_
  refine Run.nil ?_
  refine thn_next ?_
  refine WP.seqMeet (α := SV) (fun _ => True) (fun _ => [(0, v), (1, .int .i64 regs), (10, .pointer (some ⟨b39, 0, none⟩))]) (fun f => memS b39 ⟨none, 0, 0⟩ f ⟨some ⟨b37, 0, none⟩, N, N⟩ (startS xs regs)) ?_ ?_
  · refine WP.via (Γ' := memS b39 ⟨none, 0, 0⟩ ⟨none, 0, 0⟩ ⟨some ⟨b37, 0, none⟩, N, N⟩ ⟨[], [], List.replicate N ⟨0, 0⟩, 0⟩) ?_ ?_
    · refine (slA_nil 35 encIv _).trans ((slA_nil 3 Enc.int _).trans ((pick_only [1, 1, 1, 0] _).trans ?_))
      rw [← hN]; exact ent.refl _
    refine WP.seq ?_
    refine WP.plain cf0 rfl ?_
    refine Run.mv rfl rfl rfl rfl ?_
    refine Run.mv rfl rfl rfl rfl ?_
    refine Run.nil ?_
    refine thn_next ?_
    refine WP.block ?_
    refine WP.loop (α := Nat × SV) (fun z => (z.1 : Int) ≤ regs)
      (fun z => [(0, v), (1, .int .i64 regs), (10, .pointer (some ⟨b39, 0, none⟩)), (40, .int .i64 regs), (41, .int .i64 (z.1 : Int))]) (fun z => memS b39 ⟨none, 0, 0⟩ z.2 ⟨some ⟨b37, 0, none⟩, N, N⟩ ⟨[], iota z.1, List.replicate N ⟨0, 0⟩, 0⟩)
      (fun z => regs.toNat - z.1) (0, ⟨none, 0, 0⟩) (by simp only; omega) ⟨rfl, rfl, rfl, rfl, rfl, trivial⟩ (ent.refl _) ?_
    rintro ⟨i, f⟩ hi
    simp only at hi ⊢
    refine WP.seq ?_
    refine WP.plain cf0 rfl ?_
    refine Run.int2 rfl rfl rfl rfl rfl rfl ?_
    refine Run.nil ?_
    refine thn_next ?_
    refine WP.seq ?_
    refine WP.ite rfl (fun hlt => ?_) (fun hge => ?_)
    · refine WP.skip ?_; refine thn_next ?_
      have hilen := iota_len i
      refine WP.seq ?_
      refine WP.block ?_
      refine WP.seq ?_
      refine WP.plain cf0 rfl ?_
      refine Run.mv rfl rfl rfl rfl ?_
      refine Run.mv rfl rfl rfl rfl ?_
      refine Run.nil ?_
      refine thn_next ?_
      refine WP.via (Γ' := [blk b39 [.slice none 0 0, f.val, .slice (some ⟨b37, 0, none⟩) N N, .int .i64 0] 49, slA 35 encIv (.slice none 0 0) [], slA 3 Enc.int f.val (iota i), slA 37 encLoc (.slice (some ⟨b37, 0, none⟩) N N) (List.replicate N ⟨0, 0⟩)]) (ent.refl _) ?_
      refine WP.plain cf0 rfl ?_
      refine Run.mv rfl rfl rfl rfl ?_
      refine Run.mv rfl rfl rfl rfl ?_
      refine Run.nilCheck rfl rfl rfl rfl ?_
      refine Run.fieldAddr rfl rfl fo_49_1 rfl rfl ?_
      refine Run.loadB 0 rfl rfl ag_47 rfl rfl rfl rfl rfl ?_
      refine Run.mv rfl rfl rfl rfl ?_
      refine Run.buildSlice (E := Enc.int (.i64)) rfl sl_47 zr_3 ([(i : Int)]) rfl rfl rfl (by decide) rfl rfl ?_
      intro b50
      refine Run.append 2 rfl rfl rfl rfl rfl rfl sl_47 zr_3 rfl (src_own 4 rfl) (by first | omega | (simp <;> omega)) (by first | omega | (simp <;> omega)) ?_
      intro sv51 hv51
      refine Run.nilCheck rfl rfl rfl rfl ?_
      refine Run.fieldAddr rfl rfl fo_49_1 rfl rfl ?_
      refine Run.storeB 0 rfl rfl rfl rfl ag_47 rfl rfl rfl rfl rfl ?_
      refine Run.nil ?_
      refine blk_norm ?_; refine thn_next ?_
      refine WP.plain cf0 rfl ?_
      refine Run.add64 rfl rfl rfl rfl rfl (by first | omega | (simp <;> omega)) (by first | omega | (simp <;> omega)) ?_
      refine Run.mv rfl rfl rfl rfl ?_
      refine Run.nil ?_
      refine thn_next ⟨(i + 1, sv51), by simp only; omega, by simp only; omega, ⟨rfl, rfl, rfl, rfl, by simp [Env.get], trivial⟩, ?_⟩
      simp only [iota_succ]
      exact pick_only [0, 0, 0, 0] _
    · refine WP.exit ?_; refine thn_exit ?_; refine thn_exit ?_; refine blk_hit ?_
      refine thn_next ⟨f, trivial, ⟨rfl, rfl, rfl, trivial⟩, ?_⟩
      have e : startS xs regs = ⟨[], iota i, List.replicate N ⟨0, 0⟩, 0⟩ := by
        have : regs.toNat = i := by omega
        simp [startS, this, hN]
      rw [e]; exact ent.refl _
  intro f0 _
  have hinv0 : InvS N regs.toNat 0 (startS xs regs) := ⟨by simp [startS, hN], by simp [startS], by simp [startS, iota_len], by simp [startS], by simp [startS]⟩
  refine WP.seqMeet (α := SV × SV) (fun _ => 0 ≤ (runL (startS xs regs) xs).slots) (fun _ => [(10, .pointer (some ⟨b39, 0, none⟩))]) (fun z => memS b39 z.1 z.2 ⟨some ⟨b37, 0, none⟩, N, N⟩ (runL (startS xs regs) xs)) ?_ ?_
  · refine WP.seq ?_
    refine WP.plain cf0 rfl ?_
    refine Run.mv rfl rfl rfl rfl ?_
    refine Run.lenR rfl rfl sl_22 rfl rfl (by assumption) ?_
    refine Run.mv rfl rfl rfl rfl ?_
    refine Run.nil ?_
    refine thn_next ?_
    refine WP.block ?_
    refine WP.loop (α := Nat × St × SV × SV) (fun z => z.1 ≤ xs.length ∧ runL (startS xs regs) xs = runL z.2.1 (xs.drop z.1) ∧ InvS N regs.toNat z.1 z.2.1)
      (fun z => [(10, .pointer (some ⟨b39, 0, none⟩)), (55, v), (56, .int .i64 (xs.length : Int)), (57, .int .i64 (z.1 : Int))]) (fun z => memS b39 z.2.2.1 z.2.2.2 ⟨some ⟨b37, 0, none⟩, N, N⟩ z.2.1)
      (fun z => xs.length - z.1) (0, startS xs regs, ⟨none, 0, 0⟩, f0) ⟨Nat.zero_le _, rfl, hinv0⟩ ⟨rfl, rfl, rfl, rfl, trivial⟩ (ent.refl _) ?_
    rintro ⟨i, s, a, f⟩ ⟨hi, hrun, hinv⟩
    simp only at hi hrun hinv ⊢
    refine WP.seq ?_
    refine WP.plain cf0 rfl ?_
    refine Run.int2 rfl rfl rfl rfl rfl rfl ?_
    refine Run.nil ?_
    refine thn_next ?_
    refine WP.seq ?_
    refine WP.ite rfl (fun hlt => ?_) (fun hge => ?_)
    · refine WP.skip ?_; refine thn_next ?_
      have hlt' : i < xs.length := by omega
      obtain ⟨x, gx⟩ : ∃ x, xs[i]? = some x := ⟨_, List.getElem?_eq_getElem hlt'⟩
      have gx' : xs[(i : Int).toNat]? = some x := gx
      have hdrop : xs.drop i = x :: xs.drop (i + 1) := by rw [List.drop_eq_getElem_cons hlt']; congr 1; rw [List.getElem?_eq_getElem hlt'] at gx; cases gx; rfl
      have hxr := hrg x (List.mem_of_getElem? gx)
      have hxN : x.r < N := by have := (mostL_bd xs (-1)).2 x (List.mem_of_getElem? gx); omega
      have hinv1 := hinv.expire x.f
      refine WP.seq ?_
      refine WP.block ?_
      refine WP.seq ?_
      refine WP.plain cf0 rfl ?_
      refine Run.idxR rfl rfl rfl sl_22 rfl rfl (by assumption) (by rfl) (by first | omega | (simp <;> omega)) (by first | omega | (simp <;> omega)) ?_
      refine Run.loadRagg rfl rfl ag_35 rfl rfl (by first | assumption | exact SlR.row (by assumption) (by assumption)) (by rfl) ?_
      refine Run.alloc rfl zr_35 rfl rfl rfl ?_
      intro b13
      refine Run.storeB 4 rfl rfl rfl rfl ag_35 rfl rfl rfl rfl rfl ?_
      refine Run.nil ?_
      refine thn_next ?_
      refine WP.via (Γ' := memS b39 a f ⟨some ⟨b37, 0, none⟩, N, N⟩ s ++ [blk b13 (encIv.cells x) 35]) (ent.refl _) ?_
      refine WP.seq ?_
      refine WP.plain cf0 rfl ?_
      refine Run.mv rfl rfl rfl rfl ?_
      refine Run.fieldAddr rfl rfl fo_35_1 rfl rfl ?_
      refine Run.loadB 4 rfl rfl ag_3 rfl rfl rfl rfl rfl ?_
      refine Run.call (Δ := memS b39 a f ⟨some ⟨b37, 0, none⟩, N, N⟩ s) (Θ := [blk b13 (encIv.cells x) 35]) rfl rfl rfl rfl ok_20 rfl rfl (ent.refl _) (expire_ok hR b39 a f _ s x.f (fun z hz => by rw [hinv.out]; exact hinv.act z hz) (by have := hinv.cnt; omega)) ?_; rintro _ _ ⟨rfl, a1, f1, rfl⟩
      refine Run.nil ?_
      refine thn_next ?_
      refine WP.plain cf0 rfl ?_
      refine Run.mv rfl rfl rfl rfl ?_
      refine Run.loadBagg 4 rfl rfl ag_35 rfl rfl rfl rfl rfl ?_
      refine Run.call (Δ := memS b39 a1 f1 ⟨some ⟨b37, 0, none⟩, N, N⟩ _) (Θ := [blk b13 (encIv.cells x) 35]) rfl rfl rfl rfl ok_21 rfl rfl (ent.refl _) (take_ok hR b39 a1 f1 _ _ x (fun z hz => by rw [hinv1.out]; exact hinv1.act z hz) hxr.1 (by rw [hinv1.out]; exact hxN) (by have := hinv1.cnt; omega) (fun h => by have := hinv1.cnt; intro h2; rw [h, h2] at this; simp at this; omega) hinv1.lo (by have := hinv1.hi; omega)) ?_; rintro _ _ ⟨rfl, a2, f2, rfl⟩
      refine Run.via (ent.left _ _) ?_
      refine Run.nil ?_
      refine blk_norm ?_; refine thn_next ?_
      refine WP.plain cf0 rfl ?_
      refine Run.add64 rfl rfl rfl rfl rfl (by first | omega | (simp <;> omega)) (by first | omega | (simp <;> omega)) ?_
      refine Run.mv rfl rfl rfl rfl ?_
      refine Run.nil ?_
      refine thn_next ⟨(i + 1, stepS s x, a2, f2), ⟨hlt', ?_, ?_⟩, ?_, ⟨rfl, rfl, rfl, by simp [Env.get], trivial⟩, ent.refl _⟩
      · simp only; rw [hrun, hdrop]; rfl
      · exact hinv1.take (by omega) x ⟨hxr.1, hxN⟩
      · simp only; omega
    · refine WP.exit ?_; refine thn_exit ?_; refine thn_exit ?_; refine blk_hit ?_
      have e : runL (startS xs regs) xs = s := by rw [hrun, List.drop_eq_nil_of_le (by omega)]; rfl
      refine thn_next ⟨(a, f), by rw [e]; exact hinv.lo, ⟨rfl, trivial⟩, ?_⟩
      rw [e]; exact ent.refl _
  rintro ⟨a, f⟩ _
  refine WP.seq ?_
  refine WP.drawn0 cf0 mixed rfl (by kernel_rfl) ?_
  refine Run.mv rfl rfl rfl rfl ?_
  refine Run.nilCheck rfl rfl rfl rfl ?_
  refine Run.fieldAddr rfl rfl fo_49_2 rfl rfl ?_
  refine Run.loadB 0 rfl rfl ag_25 rfl rfl rfl rfl rfl ?_
  refine Run.mv rfl rfl rfl rfl ?_
  refine Run.nilCheck rfl rfl rfl rfl ?_
  refine Run.fieldAddr rfl rfl fo_49_3 rfl rfl ?_
  refine Run.loadB 0 rfl rfl ag_3 rfl rfl rfl rfl rfl ?_
  refine Run.mv rfl rfl rfl rfl ?_
  refine Run.mv rfl rfl rfl rfl ?_
  refine Run.mv rfl rfl rfl rfl ?_
  refine Run.nil ?_
  refine thn_next ?_
  refine WP.via (pick_only [3] _) ?_
  refine WP.ret ?_
  have e : scanL xs regs = ((runL (startS xs regs) xs).out, (runL (startS xs regs) xs).slots, 0) := by unfold scanL; rw [if_neg hregs, hw]; rfl
  exact retT [4, 5, 6] _ rfl rfl ⟨⟨some ⟨b37, 0, none⟩, N, N⟩, by rw [e]; rfl, by rw [e]; rfl⟩
end Go.Proofs.Ytengcfamhoppbaa
