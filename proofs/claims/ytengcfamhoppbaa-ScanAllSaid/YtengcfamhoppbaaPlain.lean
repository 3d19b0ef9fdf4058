/- The plain law: the scan of the program and the document's own answer are one. -/
import Derived.Test.YtengcfamhoppbaaRef
namespace Go.Proofs.Ytengcfamhoppbaa
set_option linter.unusedSimpArgs false
set_option linter.unusedVariables false

theorem wrong_right : ∀ (xs : List Iv) (p : Option Iv) (seen : Int → Bool) (dn : List Iv), (∀ r, seen r = dn.any (fun y => decide (y.r = r))) → (∀ q, p = some q → seen q.r = true) → wrongGo p seen xs = !rightGo p dn xs
  | [], _, _, _, _, _ => rfl
  | x :: xs, p, seen, dn, hs, hp => by
    simp only [wrongGo, rightGo]
    by_cases hb : bad0 x
    · have : badIv seen x := by unfold badIv; unfold bad0 at hb; omega
      rw [if_pos this, if_pos hb]; rfl
    · rw [if_neg hb]
      by_cases hseen : seen x.r = true
      · have : badIv seen x := by unfold badIv; exact .inr (.inr (.inr hseen))
        rw [if_pos this, ← hs x.r, hseen]
        simp
      · have hnb : ¬ badIv seen x := by
          unfold badIv; unfold bad0 at hb
          intro h; rcases h with h | h | h | h
          · exact hb (.inl h)
          · exact hb (.inr (.inl h))
          · exact hb (.inr (.inr h))
          · exact hseen h
        have hsf : seen x.r = false := by simpa using hseen
        rw [if_neg hnb, ← hs x.r, hsf]
        have hpb : prevBad p x = prevBad2 p x := by
          cases p with
          | none => rfl
          | some q =>
            have hq : q.r ≠ x.r := fun e => by have := hp q rfl; rw [e, hsf] at this; cases this
            simp only [prevBad, prevBad2, badPrev, badP2]
            congr 1; apply propext; constructor <;> intro h <;> omega
        rw [hpb]
        split
        · rfl
        · simp only [Bool.false_eq_true, if_false]
          refine wrong_right xs _ _ _ (fun r => ?_) (fun q hq => ?_)
          · simp only [see, List.any_append, List.any_cons, List.any_nil, Bool.or_false]
            by_cases hr : r = x.r
            · subst hr; simp
            · rw [if_neg hr, hs r]; simp [Ne.symm hr]
          · cases hq; simp [see]

theorem wrongL_eq (xs : List Iv) : wrongL xs = !rightL xs := wrong_right xs none _ [] (fun _ => rfl) (fun _ h => by cases h)

/-! ### Order -/
def ltI (a b : Iv) : Prop := a.t < b.t ∨ a.t = b.t ∧ a.r < b.r
theorem laterB_iff (a b : Iv) : laterB a b = true ↔ ltI b a := by simp only [laterB, ltI, decide_eq_true_eq]; omega
theorem later2_iff (a b : Iv) : later2 a b ↔ ltI b a := by simp only [later2, ltI]; omega
theorem ltI_trans {a b c : Iv} (h : ltI a b) (h' : ltI b c) : ltI a c := by unfold ltI at *; omega
theorem ltI_irr (a : Iv) : ¬ ltI a a := by unfold ltI; omega
theorem ltI_tot {a b : Iv} (h : a.r ≠ b.r) : ltI a b ∨ ltI b a := by unfold ltI; omega

theorem insR_mem {A : Type} (after : A → A → Bool) (x z : A) (l : List A) : z ∈ insR after x l ↔ z = x ∨ z ∈ l := by
  rw [(insR_perm after x l).mem_iff]; simp

theorem insR_sorted {A : Type} {after : A → A → Bool} {R : A → A → Prop} (ha : ∀ a b, after a b = true ↔ R b a) (ht : ∀ a b c, R a b → R b c → R a c) (x : A) : ∀ m : List A, m.Pairwise (fun a b => R b a) → (∀ y ∈ m, R y x ∨ R x y) →
    (insR after x m).Pairwise (fun a b => R b a)
  | [], _, _ => by simp [insR]
  | y :: ys, hp, htot => by
    obtain ⟨h1, h2⟩ := List.pairwise_cons.1 hp
    simp only [insR]
    split
    · rename_i hyx
      refine List.pairwise_cons.2 ⟨fun z hz => ?_, insR_sorted ha ht x ys h2 (fun z hz => htot z (by simp [hz]))⟩
      rcases (insR_mem after x z ys).1 hz with rfl | hz
      · exact (ha y z).1 hyx
      · exact h1 z hz
    · rename_i hyx
      have hxy : R y x := (htot y (by simp)).resolve_right fun h => hyx ((ha y x).2 h)
      refine List.pairwise_cons.2 ⟨fun z hz => ?_, hp⟩
      rcases List.mem_cons.1 hz with rfl | hz
      · exact hxy
      · exact ht _ _ _ (h1 z hz) hxy

theorem putL_sorted {A : Type} {after : A → A → Bool} {R : A → A → Prop} (ha : ∀ a b, after a b = true ↔ R b a) (ht : ∀ a b c, R a b → R b c → R a c) (x : A) (l : List A) (hp : l.Pairwise R) (htot : ∀ y ∈ l, R y x ∨ R x y) :
    (putL after l x).Pairwise R := by
  unfold putL
  rw [List.pairwise_reverse]
  exact insR_sorted ha ht x _ (List.pairwise_reverse.2 hp) (fun y hy => htot y (by simpa using hy))

/-! ### Places -/
theorem locOf_self {out : List Loc} {x : Iv} (p : Loc) (h : x.r.toNat < out.length) : locOf (out.set x.r.toNat p) x = p := by simp [locOf, List.getD_eq_getElem?_getD, h]
theorem locOf_ne {out : List Loc} {x y : Iv} (p : Loc) (hx : 0 ≤ x.r) (hy : 0 ≤ y.r) (h : x.r ≠ y.r) : locOf (out.set x.r.toNat p) y = locOf out y := by
  have : x.r.toNat ≠ y.r.toNat := by omega
  simp [locOf, List.getD_eq_getElem?_getD, List.getElem?_set_ne this]

/-- what is active at a place -/
def Active (out : List Loc) (f : Int) (z : Iv) : Prop := (locOf out z).k = 1 ∧ z.t ≥ f

structure J (n regs : Nat) (pre : List Iv) (f : Int) (s : St) : Prop where
  len : s.out.length = n
  rng : ∀ z ∈ pre, 0 ≤ z.r ∧ z.r < n
  dis : pre.Pairwise (fun a b => a.r ≠ b.r)
  srt : s.act.Pairwise ltI
  mem : ∀ z, z ∈ s.act ↔ z ∈ pre ∧ Active s.out f z
  fsr : s.free.Pairwise (· < ·)
  prm : (s.free ++ s.act.map fun z => (locOf s.out z).n).Perm (iota regs)

theorem outN_loc (out : List Loc) (z : Iv) : outN out z.r = (locOf out z).n := rfl

/-- what ends is freed -/
theorem expire_spec (out : List Loc) (f : Int) : ∀ (act : List Iv) (fr : List Int), act.Pairwise ltI → fr.Pairwise (· < ·) → (fr ++ act.map fun z => (locOf out z).n).Nodup →
    (∀ z, z ∈ (expireL out f act fr).1 ↔ z ∈ act ∧ z.t ≥ f) ∧ (expireL out f act fr).1.Pairwise ltI ∧ (expireL out f act fr).2.Pairwise (· < ·) ∧
      ((expireL out f act fr).2 ++ (expireL out f act fr).1.map fun z => (locOf out z).n).Perm (fr ++ act.map fun z => (locOf out z).n)
  | [], fr, _, h2, _ => ⟨by simp [expireL], .nil, h2, .refl _⟩
  | a :: act, fr, h1, h2, hn => by
    obtain ⟨ha1, ha2⟩ := List.pairwise_cons.1 h1
    simp only [expireL]
    split
    · rename_i hlt
      have hperm : (putL gtB fr (locOf out a).n ++ act.map fun z => (locOf out z).n).Perm (fr ++ (a :: act).map fun z => (locOf out z).n) := by
        simp only [List.map_cons]
        exact ((putL_perm gtB fr _).append_right _).trans (List.perm_middle.symm)
      have hn' : (putL gtB fr (locOf out a).n ++ act.map fun z => (locOf out z).n).Nodup := hperm.nodup_iff.2 hn
      have hnot : ∀ y ∈ fr, y ≠ (locOf out a).n := fun y hy e => by
        rw [List.nodup_append] at hn
        exact hn.2.2 y hy (locOf out a).n (by simp) e
      have hs : (putL gtB fr (locOf out a).n).Pairwise (· < ·) := putL_sorted (R := fun a b : Int => a < b) (fun a b => by simp [gtB]) (fun a b c h h' => by omega) _ _ h2 (fun y hy => by have := hnot y hy; omega)
      obtain ⟨g1, g2, g3, g4⟩ := expire_spec out f act _ ha2 hs hn'
      rw [outN_loc]
      refine ⟨fun z => ?_, g2, g3, g4.trans hperm⟩
      rw [g1]
      constructor
      · rintro ⟨h, h'⟩; exact ⟨by simp [h], h'⟩
      · rintro ⟨h, h'⟩
        rcases List.mem_cons.1 h with rfl | h
        · omega
        · exact ⟨h, h'⟩
    · rename_i hge
      refine ⟨fun z => ?_, h1, h2, .refl _⟩
      constructor
      · intro h
        refine ⟨h, ?_⟩
        rcases List.mem_cons.1 h with rfl | h
        · omega
        · have := ha1 z h; unfold ltI at this; omega
      · exact fun h => h.1

theorem iota_nodup (k : Nat) : (iota k).Nodup := by
  unfold iota
  exact List.pairwise_map.2 (List.nodup_range.imp (fun h e => h (Int.ofNat.inj e)))
theorem iota_mem (k : Nat) (v : Int) : v ∈ iota k ↔ 0 ≤ v ∧ v < k := by
  unfold iota
  rw [List.mem_map]
  constructor
  · rintro ⟨a, ha, rfl⟩; rw [List.mem_range] at ha; omega
  · rintro ⟨h1, h2⟩; exact ⟨v.toNat, by rw [List.mem_range]; omega, by omega⟩

theorem J.expire {n regs : Nat} {pre : List Iv} {f f' : Int} {s : St} (h : J n regs pre f s) (hf : f ≤ f') : J n regs pre f' { act := (expireL s.out f' s.act s.free).1, free := (expireL s.out f' s.act s.free).2, out := s.out, slots := s.slots } := by
  obtain ⟨g1, g2, g3, g4⟩ := expire_spec s.out f' s.act s.free h.srt h.fsr (h.prm.nodup_iff.2 (iota_nodup _))
  refine ⟨h.len, h.rng, h.dis, g2, fun z => ?_, g3, g4.trans h.prm⟩
  simp only
  rw [g1, h.mem]
  unfold Active
  constructor
  · rintro ⟨⟨a, b, c⟩, d⟩; exact ⟨a, b, d⟩
  · rintro ⟨a, b, d⟩; exact ⟨⟨a, b, by omega⟩, d⟩

/-! ### Which are held -/
theorem heldGo_spec (out : List Loc) (f : Int) (l : List Iv) (hok : ∀ z ∈ l, Active out f z → 0 ≤ (locOf out z).n ∧ (locOf out z).n < 8) : ∀ (j : Nat) (ys : List Iv) (h : List Int), l.drop j = ys → j ≤ l.length → h.length = 8 →
    (∀ r : Nat, r < 8 → (h.getD r 0 = -1 ∧ ∀ z ∈ l.take j, Active out f z → (locOf out z).n ≠ r) ∨ ∃ (m : Nat) (z : Iv), h.getD r 0 = (m : Int) ∧ l[m]? = some z ∧ Active out f z ∧ (locOf out z).n = r) →
    (∀ r : Nat, r < 8 → ((heldGo out f j ys h).getD r 0 = -1 ∧ ∀ z ∈ l, Active out f z → (locOf out z).n ≠ r) ∨ ∃ (m : Nat) (z : Iv), (heldGo out f j ys h).getD r 0 = (m : Int) ∧ l[m]? = some z ∧ Active out f z ∧ (locOf out z).n = r)
  | j, [], h, hd, hj, hl, H => by
    have : l.take j = l := by
      have := List.take_append_drop j l; rw [hd, List.append_nil] at this; exact this
    rw [this] at H
    exact H
  | j, y :: ys, h, hd, hj, hl, H => by
    have hjl : j < l.length := by
      rcases Nat.lt_or_ge j l.length with h' | h'
      · exact h'
      · rw [List.drop_eq_nil_of_le h'] at hd; cases hd
    have hy : l[j]? = some y := by have := congrArg List.head? hd; rw [List.head?_drop] at this; simpa using this
    have hd1 : l.drop (j + 1) = ys := by have := congrArg List.tail hd; rw [List.tail_drop] at this; simpa using this
    have htk : l.take (j + 1) = l.take j ++ [y] := by rw [List.take_add_one, hy]; rfl
    simp only [heldGo]
    refine heldGo_spec out f l hok (j + 1) ys _ hd1 hjl ?_ (fun r hr => ?_)
    · split <;> simp [hl]
    · by_cases hc : (locOf out y).k = 1 ∧ y.t ≥ f
      · rw [if_pos hc]
        have hb := hok y (List.mem_of_getElem? hy) hc
        by_cases hrn : r = (locOf out y).n.toNat
        · right
          refine ⟨j, y, ?_, hy, hc, by omega⟩
          rw [← hrn]; simp [List.getD_eq_getElem?_getD, hl, hr]
        · have hget : (h.set (locOf out y).n.toNat (j : Int)).getD r 0 = h.getD r 0 := by
            simp [List.getD_eq_getElem?_getD, List.getElem?_set_ne (Ne.symm hrn)]
          rw [hget]
          rcases H r hr with ⟨h1, h2⟩ | h1
          · left
            refine ⟨h1, fun z hz hza => ?_⟩
            rw [htk] at hz
            rcases List.mem_append.1 hz with hz | hz
            · exact h2 z hz hza
            · simp at hz; subst hz; omega
          · exact .inr h1
      · rw [if_neg hc]
        rcases H r hr with ⟨h1, h2⟩ | h1
        · left
          refine ⟨h1, fun z hz hza => ?_⟩
          rw [htk] at hz
          rcases List.mem_append.1 hz with hz | hz
          · exact h2 z hz hza
          · simp at hz; subst hz; exact absurd hza hc
        · exact .inr h1

theorem freeGo_keep (h : List Int) : ∀ (k : Nat) (fr : Int), (∀ r, r < k → ¬ h.getD r 0 < 0) → freeGo h k fr = fr
  | 0, _, _ => rfl
  | k + 1, fr, hk => by
    simp only [freeGo]
    rw [if_neg (hk k (by omega))]
    exact freeGo_keep h k fr (fun r hr => hk r (by omega))
theorem freeGo_first (h : List Int) (r0 : Nat) (h0 : h.getD r0 0 < 0) (hb : ∀ r, r < r0 → ¬ h.getD r 0 < 0) : ∀ (k : Nat) (fr : Int), r0 < k → freeGo h k fr = r0
  | 0, _, hk => by omega
  | k + 1, fr, hk => by
    simp only [freeGo]
    by_cases he : k = r0
    · subst he
      rw [if_pos h0]
      exact freeGo_keep h k _ hb
    · exact freeGo_first h r0 h0 hb k _ (by omega)
end Go.Proofs.Ytengcfamhoppbaa
