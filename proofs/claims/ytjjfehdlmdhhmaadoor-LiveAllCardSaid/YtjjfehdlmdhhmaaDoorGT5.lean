/- The rounds of flowing, in plain Lean. -/
import Derived.Test.YtjjfehdlmdhhmaaDoorGT4
import Derived.Test.YtjjfehdlmdhhmaaDoorGL7
import Derived.Test.YtjjfehdlmdhhmaaDoorGL5
section
/- The rounds of flowing, in plain Lean. -/
namespace Go.Proofs.YtjjfehdlmdhhmaaDoor
open Go.Sep
set_option linter.unusedSimpArgs false
set_option linter.unusedVariables false
structure IdxOK (F : LFun) (idx names : List Int) : Prop where
  len : (idx.length : Int) = F.regs
  ij : ∀ (r : Int) (j : Nat), 0 ≤ r → r < F.regs → (idxAt idx r = (j : Int) + 1 ↔ names[j]? = some r)
  le : ∀ i ∈ idx, 0 ≤ i ∧ i ≤ (names.length : Int)
  rg : ∀ r ∈ names, 0 ≤ r ∧ r < F.regs
  all : ∀ r, 0 ≤ r → r < F.regs → Wants F r → ∃ j : Nat, names[j]? = some r
  srt : names.Pairwise (· < ·)
theorem idxAt_le {F : LFun} {idx names : List Int} (h : IdxOK F idx names) {r : Int} (h0 : 0 ≤ r) (h1 : r < F.regs) : 0 ≤ idxAt idx r ∧ idxAt idx r ≤ (names.length : Int) := by
  have hl := h.len
  have g : idx[r.toNat]? = some (idx[r.toNat]'(by omega)) := List.getElem?_eq_getElem _
  rw [idxAt_some g]
  exact h.le _ (List.getElem_mem _)
section
variable {F : LFun} {idx names : List Int} (h : IdxOK F idx names)
include h
theorem read_bit {ws : Ws} {a r : Int} {j : Nat} (hm : names.length ≤ 64 * ws.length) (h0 : 0 ≤ a) (h1 : a < F.regs) (hj : names[j]? = some r) : bitW (readW idx ws a) j = (bitW ws j || decide (a = r)) := by
  obtain ⟨k0, k1⟩ := idxAt_le h h0 h1
  have hij := h.ij a j h0 h1
  unfold readW
  split
  · rename_i hp
    rw [bitW_put (by omega)]
    congr 1
    refine decide_eq_decide.2 ⟨fun e => ?_, fun e => ?_⟩
    · have := hij.1 (by omega)
      rw [hj] at this; cases this; rfl
    · subst e; have := hij.2 hj; omega
  · rename_i hp
    have : a ≠ r := fun e => by subst e; have := hij.2 hj; omega
    simp [this]
theorem read_out {ws : Ws} {a : Int} {j : Nat} (hm : names.length ≤ 64 * ws.length) (h0 : 0 ≤ a) (h1 : a < F.regs) (hj : names[j]? = none) : bitW (readW idx ws a) j = bitW ws j := by
  obtain ⟨k0, k1⟩ := idxAt_le h h0 h1
  rw [List.getElem?_eq_none_iff] at hj
  unfold readW
  split
  · rename_i hp
    rw [bitW_put (by omega)]
    have : j ≠ (idxAt idx a - 1).toNat := by omega
    rw [decide_eq_false this, Bool.or_false]
  · rfl
theorem kill_bit {ws : Ws} {d r : Int} {j : Nat} (h1 : 0 ≤ d → d < F.regs) (hj : names[j]? = some r) : bitW (killW idx ws d) j = (bitW ws j && decide (d ≠ r)) := by
  have hr := h.rg r (List.mem_of_getElem? hj)
  unfold killW
  split
  · rename_i hp
    have hij := h.ij d j hp.1 (h1 hp.1)
    rw [bitW_drop]
    congr 1
    refine decide_eq_decide.2 ⟨fun e e2 => ?_, fun e e2 => ?_⟩
    · subst e2; have := hij.2 hj; omega
    · have := hij.1 (by omega)
      rw [hj] at this; cases this; exact e rfl
  · rename_i hp
    have : d ≠ r := fun e => by
      subst e
      have := (h.ij d j hr.1 hr.2).2 hj
      exact hp ⟨hr.1, by omega⟩
    simp [this]
theorem kill_out {ws : Ws} {d : Int} {j : Nat} (h1 : 0 ≤ d → d < F.regs) (hj : names[j]? = none) : bitW (killW idx ws d) j = bitW ws j := by
  rw [List.getElem?_eq_none_iff] at hj
  unfold killW
  split
  · rename_i hp
    obtain ⟨k0, k1⟩ := idxAt_le h hp.1 (h1 hp.1)
    rw [bitW_drop]
    have : j ≠ (idxAt idx d - 1).toNat := by omega
    rw [decide_eq_true this, Bool.and_true]
  · rfl
theorem reads_bit {r : Int} {j : Nat} (hj : names[j]? = some r) : ∀ (rs : List Int) (ws : Ws), names.length ≤ 64 * ws.length → (∀ a ∈ rs, 0 ≤ a ∧ a < F.regs) → bitW (rs.foldl (readW idx) ws) j = (bitW ws j || rs.contains r)
  | [], ws, _, _ => by simp
  | a :: rs, ws, hm, ha => by
    rw [List.foldl_cons, reads_bit hj rs _ (by rw [readW_len]; exact hm) (fun x hx => ha x (by simp [hx])), read_bit h hm (ha a (by simp)).1 (ha a (by simp)).2 hj, List.contains_cons]
    have : (r == a) = decide (a = r) := by
      by_cases e : a = r
      · subst e; simp
      · have e2 : ¬ r = a := fun h => e h.symm
        simp [e, e2]
    rw [this, Bool.or_assoc]
theorem reads_out {j : Nat} (hj : names[j]? = none) : ∀ (rs : List Int) (ws : Ws), names.length ≤ 64 * ws.length → (∀ a ∈ rs, 0 ≤ a ∧ a < F.regs) → bitW (rs.foldl (readW idx) ws) j = bitW ws j
  | [], ws, _, _ => rfl
  | a :: rs, ws, hm, ha => by
    rw [List.foldl_cons, reads_out hj rs _ (by rw [readW_len]; exact hm) (fun x hx => ha x (by simp [hx])), read_out h hm (ha a (by simp)).1 (ha a (by simp)).2 hj]
theorem body_bit {r : Int} {j : Nat} (hj : names[j]? = some r) : ∀ (xs : List LIns) (ws : Ws), names.length ≤ 64 * ws.length → (∀ x ∈ xs, (∀ a ∈ x.args, 0 ≤ a ∧ a < F.regs) ∧ (0 ≤ x.dst → x.dst < F.regs)) → bitW (xs.reverse.foldl (insT idx) ws) j = needB r xs (bitW ws j)
  | [], ws, _, _ => rfl
  | x :: xs, ws, hm, hx => by
    have e : ∀ ws : Ws, insT idx ws x = x.args.foldl (readW idx) (killW idx ws x.dst) := fun _ => rfl
    rw [List.reverse_cons, List.foldl_append, List.foldl_cons, List.foldl_nil, e, reads_bit h hj _ _ (by rw [killW_len, inss_len]; exact hm) (hx x (by simp)).1, kill_bit h (hx x (by simp)).2 hj,
      body_bit hj xs ws hm (fun y hy => hx y (by simp [hy])), needB, Bool.or_comm, Bool.and_comm]
theorem body_out {j : Nat} (hj : names[j]? = none) : ∀ (xs : List LIns) (ws : Ws), names.length ≤ 64 * ws.length → (∀ x ∈ xs, (∀ a ∈ x.args, 0 ≤ a ∧ a < F.regs) ∧ (0 ≤ x.dst → x.dst < F.regs)) → bitW (xs.foldl (insT idx) ws) j = bitW ws j
  | [], ws, _, _ => rfl
  | x :: xs, ws, hm, hx => by
    rw [List.foldl_cons, body_out hj xs _ (by rw [insT_len]; exact hm) (fun y hy => hx y (by simp [hy]))]
    unfold insT
    rw [reads_out h hj _ _ (by rw [killW_len]; exact hm) (hx x (by simp)).1, kill_out h (hx x (by simp)).2 hj]
variable (hG : RegsF F)
include hG
theorem thru_bit {i : Nat} {b : LBlk} (gb : F.blocks[i]? = some b) {ws : Ws} (hm : names.length ≤ 64 * ws.length) {r : Int} {j : Nat} (hj : names[j]? = some r) : bitW (thruW idx b ws) j = needB r b.body (decide (b.value = r) || bitW ws j) := by
  have hbm := List.mem_of_getElem? gb
  have hr := h.rg r (List.mem_of_getElem? hj)
  unfold thruW
  rw [body_bit h hj _ _ (by split <;> simp [readW_len, hm]) (fun x hx => ⟨fun a ha => hG.args b hbm x hx a ha, hG.dst b hbm x hx⟩)]
  congr 1
  split
  · rename_i h0
    rw [read_bit h hm h0 (hG.val b hbm h0) hj, Bool.or_comm]
  · have : b.value ≠ r := fun e => by omega
    simp [this]
theorem thru_out {i : Nat} {b : LBlk} (gb : F.blocks[i]? = some b) {ws : Ws} (hm : names.length ≤ 64 * ws.length) {j : Nat} (hj : names[j]? = none) : bitW (thruW idx b ws) j = bitW ws j := by
  have hbm := List.mem_of_getElem? gb
  unfold thruW
  rw [body_out h hj _ _ (by split <;> simp [readW_len, hm]) (fun x hx => ⟨fun a ha => hG.args b hbm x (List.mem_reverse.1 hx) a ha, hG.dst b hbm x (List.mem_reverse.1 hx)⟩)]
  split
  · rename_i h0
    exact read_out h hm h0 (hG.val b hbm h0) hj
  · rfl
end
/-! ### what holds between the rounds -/
def subW (a b : Ws) : Prop := ∀ j, bitW a j = true → bitW b j = true
structure FI (F : LFun) (idx names : List Int) (m : Nat) (As Bs : List Ws) (T : List Bool) (K : List Nat) (O : Nat → Nat → Prop) : Prop where
  la : As.length = F.blocks.length
  lb : Bs.length = F.blocks.length
  lt : T.length = F.blocks.length
  ra : ∀ w ∈ As, w.length = m
  rb : ∀ w ∈ Bs, w.length = m
  kn : K.Nodup
  kt : ∀ p, p ∈ K ↔ T[p]? = some true
  ed : ∀ (p : Nat) (blk : LBlk) (c : Int) (a b : Ws), F.blocks[p]? = some blk → c ∈ blk.to → ¬ O p c.toNat → As[c.toNat]? = some a → Bs[p]? = some b → subW a b
  cl : ∀ (q : Nat) (blk : LBlk) (a b : Ws), F.blocks[q]? = some blk → T[q]? = some false → As[q]? = some a → Bs[q]? = some b → subW (thruW idx blk b) a
  sa : ∀ (q : Nat) (a : Ws) (j : Nat), As[q]? = some a → bitW a j = true → ∃ r, names[j]? = some r ∧ LiveIn F r q
  sb : ∀ (q : Nat) (b : Ws) (j : Nat), Bs[q]? = some b → bitW b j = true → ∃ r, names[j]? = some r ∧ LiveOut F r q
abbrev O0 : Nat → Nat → Prop := fun _ _ => False
theorem FI.mono {F : LFun} {idx names : List Int} {m : Nat} {As Bs : List Ws} {T : List Bool} {K : List Nat} {O O' : Nat → Nat → Prop} (H : FI F idx names m As Bs T K O) (h : ∀ (p : Nat) (blk : LBlk) (c : Int), F.blocks[p]? = some blk → c ∈ blk.to → O p c.toNat → O' p c.toNat) : FI F idx names m As Bs T K O' :=
  { H with ed := fun p blk c a b hp hc ho => H.ed p blk c a b hp hc fun h1 => ho (h p blk c hp hc h1) }
theorem nodup_len : ∀ (n : Nat) (K : List Nat), K.Nodup → (∀ p ∈ K, p < n) → K.length ≤ n
  | 0, [], _, _ => Nat.le_refl _
  | 0, p :: K, _, h => absurd (h p (by simp)) (Nat.not_lt_zero _)
  | n + 1, K, hn, h => by
    have h1 := nodup_len n (K.erase n) (hn.erase n) (fun p hp => by
      have h2 := h p (List.mem_of_mem_erase hp)
      have : p ≠ n := fun e => by subst e; exact absurd hp (fun h3 => (hn.mem_erase_iff.1 h3).1 rfl)
      omega)
    rw [List.length_erase] at h1
    split at h1 <;> omega
theorem FI.klen {F : LFun} {idx names : List Int} {m : Nat} {As Bs : List Ws} {T : List Bool} {K : List Nat} {O : Nat → Nat → Prop} (H : FI F idx names m As Bs T K O) : K.length ≤ F.blocks.length := by
  have h1 : ∀ p ∈ K, p ∈ List.range F.blocks.length := fun p hp => by
    have := (H.kt p).1 hp
    have := (List.getElem?_eq_some_iff.1 this).1
    rw [List.mem_range, ← H.lt]; exact this
  exact nodup_len _ _ H.kn fun p hp => List.mem_range.1 (h1 p hp)
theorem nodup_snoc {K : List Nat} {b : Nat} : (K ++ [b]).Nodup ↔ K.Nodup ∧ b ∉ K := by
  rw [List.nodup_append]
  constructor
  · rintro ⟨h1, _, h3⟩
    exact ⟨h1, fun h => h3 b h b (by simp) rfl⟩
  · rintro ⟨h1, h2⟩
    refine ⟨h1, by simp, fun a ha c hc => ?_⟩
    simp at hc; subst hc
    exact fun e => h2 (e ▸ ha)
section
variable {F : LFun} {idx names : List Int} {m : Nat} {As Bs : List Ws} {T : List Bool} {K : List Nat}
/-- a block is taken up; its set ahead grows -/
theorem FI.pop {b : Nat} {blk : LBlk} {a w : Ws} (hI : IdxOK F idx names) (hG : RegsF F) (hm : names.length ≤ 64 * m) (H : FI F idx names m As Bs T (K ++ [b]) O0) (gb : F.blocks[b]? = some blk) (ga : As[b]? = some a) (gw : Bs[b]? = some w) :
    FI F idx names m (As.set b (joinW a (thruW idx blk w))) Bs (T.set b false) K (fun p c => c = b ∧ joinW a (thruW idx blk w) ≠ a) := by
  have hlw : w.length = m := H.rb w (List.mem_of_getElem? gw)
  have hla : a.length = m := H.ra a (List.mem_of_getElem? ga)
  have hls : (thruW idx blk w).length = m := by rw [thruW_len, hlw]
  have hlt := (List.getElem?_eq_some_iff.1 gb).1
  have hkn := nodup_snoc.1 H.kn
  refine ⟨by simp [H.la], H.lb, by simp [H.lt], fun x hx => ?_, H.rb, hkn.1, fun p => ?_, ?_, ?_, ?_, H.sb⟩
  · rcases List.mem_or_eq_of_mem_set hx with h1 | h1
    · exact H.ra x h1
    · rw [h1, joinW_len (by rw [hla, hls]), hla]
  · have h1 := H.kt p
    rw [List.mem_append, List.mem_singleton] at h1
    by_cases e : p = b
    · subst e
      rw [List.getElem?_set_self (by rw [H.lt]; exact hlt)]
      simp [hkn.2]
    · rw [List.getElem?_set_ne (Ne.symm e), ← h1]; simp [e]
  · intro p blk' c a' b' hp hc ho ha' hb'
    by_cases e : c.toNat = b
    · rw [e, List.getElem?_set_self (by rw [H.la]; exact hlt)] at ha'
      cases ha'
      have hsame : joinW a (thruW idx blk w) = a := Classical.not_not.1 fun hne => ho ⟨e, hne⟩
      rw [hsame]
      exact H.ed p blk' c a b' hp hc (fun h => h) (by rw [e]; exact ga) hb'
    · rw [List.getElem?_set_ne (Ne.symm e)] at ha'
      exact H.ed p blk' c a' b' hp hc (fun h => h) ha' hb'
  · intro q blk' a' b' hq ht ha' hb'
    by_cases e : q = b
    · subst e
      rw [List.getElem?_set_self (by rw [H.la]; exact hlt)] at ha'
      cases ha'
      rw [gb] at hq; cases hq
      rw [gw] at hb'; cases hb'
      intro j hj
      rw [bitW_join (by rw [hla, hls]), hj, Bool.or_true]
    · rw [List.getElem?_set_ne (Ne.symm e)] at ha' ht
      exact H.cl q blk' a' b' hq ht ha' hb'
  · intro q a' j ha' hj
    by_cases e : q = b
    · subst e
      rw [List.getElem?_set_self (by rw [H.la]; exact hlt)] at ha'
      cases ha'
      rw [bitW_join (by rw [hla, hls]), Bool.or_eq_true] at hj
      rcases hj with hj | hj
      · exact H.sa q a j ga hj
      · cases hn : names[j]? with
        | none =>
          rw [thru_out hI hG gb (by rw [hlw]; exact hm) hn] at hj
          obtain ⟨r, hr, _⟩ := H.sb q w j gw hj
          rw [hn] at hr; cases hr
        | some r =>
          rw [thru_bit hI hG gb (by rw [hlw]; exact hm) hn] at hj
          refine ⟨r, rfl, live_step gb (fun hq => ?_) hj⟩
          obtain ⟨r', hr', hl⟩ := H.sb q w j gw hq
          rw [hn] at hr'; cases hr'; exact hl
    · rw [List.getElem?_set_ne (Ne.symm e)] at ha'
      exact H.sa q a' j ha' hj
/-- a block ahead of it learns -/
theorem FI.tell {b p : Nat} {blk : LBlk} {a w : Ws} {O : Nat → Nat → Prop} {c0 : Int} (H : FI F idx names m As Bs T K O) (gp : F.blocks[p]? = some blk) (hc0 : c0 ∈ blk.to) (hcb : c0.toNat = b) (ga : As[b]? = some a) (gw : Bs[p]? = some w) :
    (joinW w a = w → FI F idx names m As Bs T K (fun q c => O q c ∧ ¬ (q = p ∧ c = b))) ∧
    (T[p]? = some true → FI F idx names m As (Bs.set p (joinW w a)) T K (fun q c => O q c ∧ ¬ (q = p ∧ c = b))) ∧
    (T[p]? = some false → FI F idx names m As (Bs.set p (joinW w a)) (T.set p true) (K ++ [p]) (fun q c => O q c ∧ ¬ (q = p ∧ c = b))) := by
  have hlw : w.length = m := H.rb w (List.mem_of_getElem? gw)
  have hla : a.length = m := H.ra a (List.mem_of_getElem? ga)
  have hlt := (List.getElem?_eq_some_iff.1 gp).1
  have hlj : w.length = a.length := by rw [hlw, hla]
  have hed : ∀ (p' : Nat) (blk' : LBlk) (c : Int) (a' b' : Ws), F.blocks[p']? = some blk' → c ∈ blk'.to → ¬ (O p' c.toNat ∧ ¬ (p' = p ∧ c.toNat = b)) → As[c.toNat]? = some a' → (Bs.set p (joinW w a))[p']? = some b' → subW a' b' := by
    intro p' blk' c a' b' hp' hc ho ha' hb' j hj
    by_cases e : p' = p
    · subst e
      rw [List.getElem?_set_self (by rw [H.lb]; exact hlt)] at hb'
      cases hb'
      rw [bitW_join hlj]
      by_cases e2 : c.toNat = b
      · rw [e2, ga] at ha'; cases ha'; rw [hj, Bool.or_true]
      · have := H.ed p' blk' c a' w hp' hc (fun h => ho ⟨h, fun h2 => e2 h2.2⟩) ha' gw j hj
        rw [this, Bool.true_or]
    · rw [List.getElem?_set_ne (Ne.symm e)] at hb'
      exact H.ed p' blk' c a' b' hp' hc (fun h => ho ⟨h, fun h2 => e h2.1⟩) ha' hb' j hj
  have hsb : ∀ (q : Nat) (b' : Ws) (j : Nat), (Bs.set p (joinW w a))[q]? = some b' → bitW b' j = true → ∃ r, names[j]? = some r ∧ LiveOut F r q := by
    intro q b' j hb' hj
    by_cases e : q = p
    · subst e
      rw [List.getElem?_set_self (by rw [H.lb]; exact hlt)] at hb'
      cases hb'
      rw [bitW_join hlj, Bool.or_eq_true] at hj
      rcases hj with hj | hj
      · exact H.sb q w j gw hj
      · obtain ⟨r, hr, hl⟩ := H.sa b a j ga hj
        exact ⟨r, hr, blk, c0, gp, hc0, by rw [hcb]; exact hl⟩
    · rw [List.getElem?_set_ne (Ne.symm e)] at hb'
      exact H.sb q b' j hb' hj
  have hrb : ∀ x ∈ Bs.set p (joinW w a), x.length = m := fun x hx => by
    rcases List.mem_or_eq_of_mem_set hx with h1 | h1
    · exact H.rb x h1
    · rw [h1, joinW_len hlj, hlw]
  refine ⟨fun he => ?_, fun ht => ?_, fun ht => ?_⟩
  · rw [he, set_same gw] at hed
    exact { H with ed := fun p' blk' c a' b' h1 h2 h3 h4 h5 => hed p' blk' c a' b' h1 h2 h3 h4 h5 }
  · refine ⟨H.la, by simp [H.lb], H.lt, H.ra, hrb, H.kn, H.kt, hed, ?_, H.sa, hsb⟩
    intro q blk' a' b' hq htq ha' hb'
    have e : q ≠ p := fun e => by subst e; rw [ht] at htq; cases htq
    rw [List.getElem?_set_ne (Ne.symm e)] at hb'
    exact H.cl q blk' a' b' hq htq ha' hb'
  · refine ⟨H.la, by simp [H.lb], by simp [H.lt], H.ra, hrb, ?_, fun q => ?_, hed, ?_, H.sa, hsb⟩
    · rw [nodup_snoc]
      exact ⟨H.kn, fun h => by have := (H.kt p).1 h; rw [ht] at this; cases this⟩
    · have h1 := H.kt q
      rw [List.mem_append, List.mem_singleton]
      by_cases e : q = p
      · subst e; rw [List.getElem?_set_self (by rw [H.lt]; exact hlt)]; simp
      · rw [List.getElem?_set_ne (Ne.symm e), ← h1]; simp [e]
    · intro q blk' a' b' hq htq ha' hb'
      have e : q ≠ p := fun e => by subst e; rw [List.getElem?_set_self (by rw [H.lt]; exact hlt)] at htq; cases htq
      rw [List.getElem?_set_ne (Ne.symm e)] at hb' htq
      exact H.cl q blk' a' b' hq htq ha' hb'
/-- at the end: just what is live -/
theorem FI.done (hI : IdxOK F idx names) (hG : RegsF F) (hm : names.length ≤ 64 * m) (hto : ∀ b ∈ F.blocks, ∀ c ∈ b.to, 0 ≤ c ∧ c < (F.blocks.length : Int)) (H : FI F idx names m As Bs T [] O0) :
    (∀ (q : Nat) (a : Ws) (j : Nat) (r : Int), As[q]? = some a → names[j]? = some r → (bitW a j = true ↔ LiveIn F r q)) ∧ (∀ (q : Nat) (b : Ws) (j : Nat) (r : Int), Bs[q]? = some b → names[j]? = some r → (bitW b j = true ↔ LiveOut F r q)) := by
  have hT : ∀ q, q < F.blocks.length → T[q]? = some false := fun q hq => by
    cases e : T[q]? with
    | none => rw [List.getElem?_eq_none_iff, H.lt] at e; omega
    | some t =>
      cases t with
      | false => rfl
      | true => exact absurd ((H.kt q).2 e) (by simp)
  have key : ∀ (j : Nat) (r : Int), names[j]? = some r → (∀ i, LiveIn F r i → ∃ a, As[i]? = some a ∧ bitW a j = true) ∧ (∀ i, LiveOut F r i → ∃ a, Bs[i]? = some a ∧ bitW a j = true) := by
    intro j r hj
    have h1 : ∀ (i : Nat) (b : LBlk) (c : Int), F.blocks[i]? = some b → c ∈ b.to → (∃ a, As[c.toNat]? = some a ∧ bitW a j = true) → ∃ a, Bs[i]? = some a ∧ bitW a j = true := by
      rintro i b c hb hc ⟨a, ha, hbit⟩
      have hlt := (List.getElem?_eq_some_iff.1 hb).1
      obtain ⟨w, gw⟩ : ∃ w, Bs[i]? = some w := ⟨_, List.getElem?_eq_getElem (by rw [H.lb]; exact hlt)⟩
      exact ⟨w, gw, H.ed i b c a w hb hc (fun h => h) ha gw j hbit⟩
    have h2 : ∀ (i : Nat) (b : LBlk) (q : Bool), F.blocks[i]? = some b → (q = true → ∃ a, Bs[i]? = some a ∧ bitW a j = true) → needB r b.body (decide (b.value = r) || q) = true → ∃ a, As[i]? = some a ∧ bitW a j = true := by
      intro i b q hb hq hn
      have hlt := (List.getElem?_eq_some_iff.1 hb).1
      obtain ⟨w, gw⟩ : ∃ w, Bs[i]? = some w := ⟨_, List.getElem?_eq_getElem (by rw [H.lb]; exact hlt)⟩
      obtain ⟨a, ga⟩ : ∃ w, As[i]? = some w := ⟨_, List.getElem?_eq_getElem (by rw [H.la]; exact hlt)⟩
      refine ⟨a, ga, H.cl i b a w hb (hT i hlt) ga gw j ?_⟩
      rw [thru_bit hI hG hb (by rw [H.rb w (List.mem_of_getElem? gw)]; exact hm) hj]
      refine needB_mono r _ _ _ (fun h3 => ?_) hn
      rw [Bool.or_eq_true] at h3 ⊢
      refine h3.imp id fun h4 => ?_
      obtain ⟨w', gw', hb'⟩ := hq h4
      rw [gw] at gw'; cases gw'; exact hb'
    exact ⟨fun i hi => live_sub (A := fun i => ∃ a, As[i]? = some a ∧ bitW a j = true) (B := fun i => ∃ a, Bs[i]? = some a ∧ bitW a j = true) h1 h2 i hi, fun i hi => liveOut_sub (A := fun i => ∃ a, As[i]? = some a ∧ bitW a j = true) (B := fun i => ∃ a, Bs[i]? = some a ∧ bitW a j = true) h1 h2 i hi⟩
  refine ⟨fun q a j r ha hj => ⟨fun hb => ?_, fun hl => ?_⟩, fun q a j r ha hj => ⟨fun hb => ?_, fun hl => ?_⟩⟩
  · obtain ⟨r', hr', hl⟩ := H.sa q a j ha hb
    rw [hj] at hr'; cases hr'; exact hl
  · obtain ⟨a', ha', hb⟩ := (key j r hj).1 q hl
    rw [ha] at ha'; cases ha'; exact hb
  · obtain ⟨r', hr', hl⟩ := H.sb q a j ha hb
    rw [hj] at hr'; cases hr'; exact hl
  · obtain ⟨a', ha', hb⟩ := (key j r hj).2 q hl
    rw [ha] at ha'; cases ha'; exact hb
end
def totM (Bs : List Ws) : Nat := (Bs.map rowM).sum
theorem totM_set {Bs : List Ws} {p : Nat} {w x : Ws} (g : Bs[p]? = some w) : totM (Bs.set p x) + rowM w = totM Bs + rowM x := by
  unfold totM
  rw [List.map_set]
  exact sum_set _ p (rowM x) (rowM w) (by rw [List.getElem?_map, g]; rfl)
end Go.Proofs.YtjjfehdlmdhhmaaDoor
end
section
/- The registers that are wanted from another block, in plain Lean. -/
namespace Go.Proofs.YtjjfehdlmdhhmaaDoor
open Go.Sep
set_option linter.unusedSimpArgs false
set_option linter.unusedVariables false
def isM (I : List Int) (r : Int) : Prop := I[r.toNat]? = some 1
def isZ (S : List Int) (i r : Int) : Prop := S[r.toNat]? = some (i + 1)
theorem toNat_inj {a r : Int} (h0 : 0 ≤ a) (h1 : 0 ≤ r) (h : a.toNat = r.toNat) : a = r := by omega
section
variable {R : Nat} {i : Int}
theorem mark_isM {S I : List Int} {a r : Int} (hI : I.length = R) (a0 : 0 ≤ a) (a1 : a < R) (r0 : 0 ≤ r) : isM (markR S I i a) r ↔ isM I r ∨ (a = r ∧ ¬ isZ S i r) := by
  unfold markR isM isZ
  split
  · rename_i h
    constructor
    · exact .inl
    · rintro (h1 | ⟨rfl, h2⟩)
      · exact h1
      · exact absurd h h2
  · rename_i h
    by_cases e : a = r
    · subst e
      rw [List.getElem?_set_self (by omega)]
      simp [h]
    · rw [List.getElem?_set_ne (fun h2 => e (toNat_inj a0 r0 h2))]
      simp [e]
theorem args_isM {S : List Int} {r : Int} (r0 : 0 ≤ r) : ∀ (rs I : List Int), I.length = R → (∀ a ∈ rs, 0 ≤ a ∧ a < (R : Int)) → (isM (rs.foldl (fun I r => markR S I i r) I) r ↔ isM I r ∨ (r ∈ rs ∧ ¬ isZ S i r))
  | [], I, _, _ => by simp
  | a :: rs, I, hI, ha => by
    rw [List.foldl_cons, args_isM r0 rs _ (by rw [markR_len]; exact hI) (fun x hx => ha x (by simp [hx])), mark_isM hI (ha a (by simp)).1 (ha a (by simp)).2 r0, List.mem_cons]
    constructor
    · rintro ((h | ⟨rfl, h⟩) | ⟨h, h2⟩)
      · exact .inl h
      · exact .inr ⟨.inl rfl, h⟩
      · exact .inr ⟨.inr h, h2⟩
    · rintro (h | ⟨rfl | h, h2⟩)
      · exact .inl (.inl h)
      · exact .inl (.inr ⟨rfl, h2⟩)
      · exact .inr ⟨h, h2⟩
theorem needB_true (r : Int) : ∀ (xs : List LIns), needB r xs true = true ↔ needB r xs false = true ∨ ∀ x ∈ xs, x.dst ≠ r
  | [] => by simp [needB]
  | x :: xs => by
    simp only [needB, Bool.or_eq_true, Bool.and_eq_true, decide_eq_true_eq, needB_true r xs, List.mem_cons, forall_eq_or_imp]
    constructor
    · rintro (h | ⟨h1, h2 | h2⟩)
      · exact .inl (.inl h)
      · exact .inl (.inr ⟨h1, h2⟩)
      · exact .inr ⟨h1, h2⟩
    · rintro ((h | ⟨h1, h2⟩) | ⟨h1, h2⟩)
      · exact .inl h
      · exact .inr ⟨h1, .inl h2⟩
      · exact .inr ⟨h1, .inr h2⟩
def OkI (R : Nat) (x : LIns) : Prop := (∀ a ∈ x.args, 0 ≤ a ∧ a < (R : Int)) ∧ (0 ≤ x.dst → x.dst < (R : Int))
theorem ins_isZ {z : SI} {x : LIns} {r : Int} (hS : z.1.length = R) (hx : OkI R x) (r0 : 0 ≤ r) : isZ (insW i z x).1 i r ↔ isZ z.1 i r ∨ x.dst = r := by
  unfold insW isZ
  simp only
  split
  · rename_i h
    have := hx.2 h
    by_cases e : x.dst = r
    · rw [e, List.getElem?_set_self (by omega)]; simp
    · rw [List.getElem?_set_ne (fun h2 => e (toNat_inj h r0 h2))]; simp [e]
  · rename_i h
    have : x.dst ≠ r := fun e => by omega
    simp [this]
theorem body_isM {r : Int} (r0 : 0 ≤ r) : ∀ (xs : List LIns) (z : SI), z.1.length = R → z.2.length = R → (∀ x ∈ xs, OkI R x) →
    (isM (bodyW i z xs).2 r ↔ isM z.2 r ∨ (¬ isZ z.1 i r ∧ needB r xs false = true)) ∧ (isZ (bodyW i z xs).1 i r ↔ isZ z.1 i r ∨ ∃ x ∈ xs, x.dst = r)
  | [], z, _, _, _ => by simp [bodyW, needB]
  | x :: xs, z, hS, hI, hx => by
    have hl := insW_len i z x
    obtain ⟨h1, h2⟩ := body_isM r0 xs (insW i z x) (hl.1.trans hS) (hl.2.trans hI) (fun y hy => hx y (by simp [hy]))
    have h3 := ins_isZ (i := i) hS (hx x (by simp)) r0
    have h4 : isM (insW i z x).2 r ↔ isM z.2 r ∨ (r ∈ x.args ∧ ¬ isZ z.1 i r) := args_isM r0 x.args z.2 hI (hx x (by simp)).1
    have e : bodyW i z (x :: xs) = bodyW i (insW i z x) xs := rfl
    rw [e, h1, h2, h3, h4]
    refine ⟨?_, ?_⟩
    · simp only [needB, Bool.or_eq_true, Bool.and_eq_true, decide_eq_true_eq, List.contains_iff_mem]
      constructor
      · rintro ((h | ⟨h, g⟩) | ⟨h, g⟩)
        · exact .inl h
        · exact .inr ⟨g, .inl h⟩
        · exact .inr ⟨fun k => h (.inl k), .inr ⟨fun k => h (.inr k), g⟩⟩
      · rintro (h | ⟨h, g | ⟨g1, g2⟩⟩)
        · exact .inl (.inl h)
        · exact .inl (.inr ⟨g, h⟩)
        · exact .inr ⟨fun k => k.elim h g1, g2⟩
    · simp only [List.mem_cons, exists_eq_or_imp]
      exact or_assoc
theorem blk_isM {r : Int} (r0 : 0 ≤ r) {z : SI} {b : LBlk} (hS : z.1.length = R) (hI : z.2.length = R) (hx : ∀ x ∈ b.body, OkI R x) (hv : 0 ≤ b.value → b.value < (R : Int)) :
    isM (blkW i z b).2 r ↔ isM z.2 r ∨ (¬ isZ z.1 i r ∧ needB r b.body (decide (b.value = r)) = true) := by
  obtain ⟨h1, h2⟩ := body_isM (i := i) r0 b.body z hS hI hx
  have hl := bodyW_len i b.body z
  have hN : needB r b.body (decide (b.value = r)) = true ↔ needB r b.body false = true ∨ (b.value = r ∧ ∀ x ∈ b.body, x.dst ≠ r) := by
    by_cases e : b.value = r
    · simp only [e, decide_true, needB_true, true_and]
    · simp [e]
  unfold blkW
  simp only
  rw [hN]
  split
  · rename_i h0
    rw [mark_isM (hl.2.trans hI) h0 (hv h0) r0, h1, h2]
    constructor
    · rintro ((h | ⟨h, g⟩) | ⟨h, g⟩)
      · exact .inl h
      · exact .inr ⟨h, .inl g⟩
      · exact .inr ⟨fun k => g (.inl k), .inr ⟨h, fun x hx e => g (.inr ⟨x, hx, e⟩)⟩⟩
    · rintro (h | ⟨h, g | ⟨g1, g2⟩⟩)
      · exact .inl (.inl h)
      · exact .inl (.inr ⟨h, g⟩)
      · exact .inr ⟨g1, fun k => k.elim h fun ⟨x, hx, e⟩ => g2 x hx e⟩
  · rename_i h0
    rw [h1]
    have : b.value ≠ r := fun e => by omega
    simp [this]
theorem insW_le {z : SI} {x : LIns} (h : ∀ s ∈ z.1, s ≤ i + 1) : ∀ s ∈ (insW i z x).1, s ≤ i + 1 := by
  unfold insW
  simp only
  split
  · intro s hs
    rcases List.mem_or_eq_of_mem_set hs with h1 | h1
    · exact h s h1
    · omega
  · exact h
theorem bodyW_le : ∀ (xs : List LIns) (z : SI), (∀ s ∈ z.1, s ≤ i + 1) → ∀ s ∈ (bodyW i z xs).1, s ≤ i + 1
  | [], _, h => h
  | x :: xs, z, h => bodyW_le xs (insW i z x) (insW_le h)
end
theorem blks_isM {R : Nat} {r : Int} (r0 : 0 ≤ r) : ∀ (bs : List LBlk) (i : Nat) (z : SI), z.1.length = R → z.2.length = R → (∀ s ∈ z.1, s ≤ (i : Int)) → (∀ b ∈ bs, (∀ x ∈ b.body, OkI R x) ∧ (0 ≤ b.value → b.value < (R : Int))) →
    (isM (blksW i z bs).2 r ↔ isM z.2 r ∨ ∃ b ∈ bs, needB r b.body (decide (b.value = r)) = true)
  | [], i, z, _, _, _, _ => by simp [blksW]
  | b :: bs, i, z, hS, hI, hle, hb => by
    have hl := blkW_len (i : Int) z b
    have hz : ¬ isZ z.1 (i : Int) r := fun h => by have := hle _ (List.mem_of_getElem? h); omega
    have hle2 : ∀ s ∈ (blkW (i : Int) z b).1, s ≤ ((i + 1 : Nat) : Int) := fun s hs => by
      have := bodyW_le (i := (i : Int)) b.body z (fun s hs => by have := hle s hs; omega) s hs
      omega
    rw [blksW, blks_isM r0 bs (i + 1) (blkW (i : Int) z b) (hl.1.trans hS) (hl.2.trans hI) hle2 (fun c hc => hb c (by simp [hc])), blk_isM r0 hS hI (hb b (by simp)).1 (hb b (by simp)).2]
    simp only [List.mem_cons, exists_eq_or_imp, hz, not_false_eq_true, true_and, or_assoc]
/-! ### the marks are noughts and ones -/
def bin (I : List Int) : Prop := ∀ x ∈ I, x = 0 ∨ x = 1
theorem bin_mark {S I : List Int} {i a : Int} (h : bin I) : bin (markR S I i a) := by
  unfold markR
  split
  · exact h
  · intro x hx
    rcases List.mem_or_eq_of_mem_set hx with h1 | h1
    · exact h x h1
    · exact .inr h1
theorem bin_args {S : List Int} {i : Int} : ∀ (rs I : List Int), bin I → bin (rs.foldl (fun I r => markR S I i r) I)
  | [], _, h => h
  | a :: rs, I, h => bin_args rs _ (bin_mark h)
theorem bin_body {i : Int} : ∀ (xs : List LIns) (z : SI), bin z.2 → bin (bodyW i z xs).2
  | [], _, h => h
  | x :: xs, z, h => bin_body xs (insW i z x) (bin_args x.args z.2 h)
theorem bin_blks : ∀ (bs : List LBlk) (i : Nat) (z : SI), bin z.2 → bin (blksW i z bs).2
  | [], _, _, h => h
  | b :: bs, i, z, h => bin_blks bs (i + 1) _ (by
    unfold blkW; simp only
    split
    · exact bin_mark (bin_body b.body z h)
    · exact bin_body b.body z h)
/-! ### names and indexes -/
theorem mem_names : ∀ (M : List Int) (k : Nat) (r : Int), r ∈ namesW k M ↔ ∃ j : Nat, r = ((k + j : Nat) : Int) ∧ M[j]? = some 1
  | [], k, r => by simp [namesW]
  | m :: M, k, r => by
    have ih := mem_names M (k + 1) r
    have hr : (∃ j : Nat, r = ((k + j : Nat) : Int) ∧ (m :: M)[j]? = some 1) ↔ (r = (k : Int) ∧ m = 1) ∨ ∃ j : Nat, r = ((k + 1 + j : Nat) : Int) ∧ M[j]? = some 1 := by
      constructor
      · rintro ⟨j, h1, h2⟩
        cases j with
        | zero => simp at h1 h2; exact .inl ⟨h1, h2⟩
        | succ j => exact .inr ⟨j, by omega, by simpa using h2⟩
      · rintro (⟨h1, h2⟩ | ⟨j, h1, h2⟩)
        · exact ⟨0, by simpa using h1, by simp [h2]⟩
        · exact ⟨j + 1, by omega, by simpa using h2⟩
    rw [hr, namesW]
    split
    · rename_i h; rw [List.mem_cons, ih]; simp [h]
    · rename_i h; rw [ih]; simp [h]
theorem sorted_names : ∀ (M : List Int) (k : Nat), (namesW k M).Pairwise (· < ·)
  | [], _ => by simp [namesW]
  | m :: M, k => by
    rw [namesW]
    split
    · rw [List.pairwise_cons]
      refine ⟨fun x hx => ?_, sorted_names M (k + 1)⟩
      obtain ⟨j, rfl, _⟩ := (mem_names M (k + 1) x).1 hx
      omega
    · exact sorted_names M (k + 1)
theorem indexW_len : ∀ (M : List Int) (c : Nat), (indexW c M).length = M.length
  | [], _ => rfl
  | m :: M, c => by rw [indexW]; split <;> simp [indexW_len M]
theorem index_one : ∀ (M : List Int) (c k j : Nat), M[j]? = some 1 → ∃ t : Nat, (indexW c M)[j]? = some ((c + 1 + t : Nat) : Int) ∧ (namesW k M)[t]? = some ((k + j : Nat) : Int)
  | [], _, _, _, h => by simp at h
  | m :: M, c, k, 0, h => by
    simp at h; subst h
    exact ⟨0, by simp [indexW], by simp [namesW]⟩
  | m :: M, c, k, j + 1, h => by
    have h' : M[j]? = some 1 := by simpa using h
    rw [indexW, namesW]
    by_cases e : m = 1
    · obtain ⟨t, h1, h2⟩ := index_one M (c + 1) (k + 1) j h'
      rw [if_pos e, if_pos e]
      exact ⟨t + 1, by rw [List.getElem?_cons_succ, h1]; congr 2; omega, by rw [List.getElem?_cons_succ, h2]; congr 2; omega⟩
    · obtain ⟨t, h1, h2⟩ := index_one M c (k + 1) j h'
      rw [if_neg e, if_neg e]
      exact ⟨t, by rw [List.getElem?_cons_succ, h1], by rw [h2]; congr 2; omega⟩
theorem index_other : ∀ (M : List Int) (c j : Nat) (m : Int), M[j]? = some m → m ≠ 1 → (indexW c M)[j]? = some m
  | [], _, _, _, h, _ => by simp at h
  | x :: M, c, 0, m, h, hm => by
    simp at h; subst h
    simp [indexW, hm]
  | x :: M, c, j + 1, m, h, hm => by
    have h' : M[j]? = some m := by simpa using h
    rw [indexW]
    split <;> rw [List.getElem?_cons_succ] <;> exact index_other M _ j m h' hm
theorem names_inj {l : List Int} (h : l.Pairwise (· < ·)) {i j : Nat} {r : Int} (hi : l[i]? = some r) (hj : l[j]? = some r) : i = j := by
  obtain ⟨i1, i2⟩ := List.getElem?_eq_some_iff.1 hi
  obtain ⟨j1, j2⟩ := List.getElem?_eq_some_iff.1 hj
  rcases Nat.lt_trichotomy i j with h1 | h1 | h1
  · have := List.pairwise_iff_getElem.1 h i j i1 j1 h1; omega
  · exact h1
  · have := List.pairwise_iff_getElem.1 h j i j1 i1 h1; omega
theorem marksF_len (F : LFun) : (marksF F).length = F.regs.toNat := by
  have := (blksW_len F.blocks 0 (List.replicate F.regs.toNat 0, List.replicate F.regs.toNat 0)).2
  simpa [marksF] using this
theorem idxOK (F : LFun) (hG : RegsF F) (h0 : 0 ≤ F.regs) : IdxOK F (indexW 0 (marksF F)) (namesW 0 (marksF F)) := by
  have hl := marksF_len F
  have hR : ((F.regs.toNat : Nat) : Int) = F.regs := by omega
  have hM : ∀ r, 0 ≤ r → (isM (marksF F) r ↔ Wants F r) := fun r r0 => by
    unfold marksF
    rw [blks_isM (R := F.regs.toNat) r0 F.blocks 0 _ (by simp) (by simp) (fun s hs => by simp at hs; omega) (fun b hb => ⟨fun x hx => ⟨fun a ha => by have := hG.args b hb x hx a ha; omega, fun h => by have := hG.dst b hb x hx h; omega⟩, fun h => by have := hG.val b hb h; omega⟩)]
    have : ¬ isM (List.replicate F.regs.toNat (0 : Int)) r := by
      unfold isM
      rw [List.getElem?_replicate]
      split <;> simp
    simp [this, Wants]
  have hbin : bin (marksF F) := bin_blks F.blocks 0 _ (fun x hx => by simp at hx; exact .inl hx.2)
  have hone : ∀ r, 0 ≤ r → isM (marksF F) r → ∃ t : Nat, (indexW 0 (marksF F))[r.toNat]? = some ((t : Int) + 1) ∧ (namesW 0 (marksF F))[t]? = some r := fun r r0 h => by
    obtain ⟨t, h1, h2⟩ := index_one (marksF F) 0 0 r.toNat h
    refine ⟨t, by rw [h1]; congr 1; omega, by rw [h2]; congr 1; omega⟩
  refine ⟨by rw [indexW_len, hl]; exact hR, fun r j r0 r1 => ?_, fun x hx => ?_, fun r hr => ?_, fun r r0 r1 hw => ?_, sorted_names _ _⟩
  · obtain ⟨m, gm⟩ : ∃ m, (marksF F)[r.toNat]? = some m := ⟨_, List.getElem?_eq_getElem (by omega)⟩
    constructor
    · intro he
      rcases hbin m (List.mem_of_getElem? gm) with e | e
      · have := index_other (marksF F) 0 _ _ gm (by omega)
        rw [idxAt_some this] at he; omega
      · subst e
        obtain ⟨t, h1, h2⟩ := hone r r0 gm
        rw [idxAt_some h1] at he
        have : t = j := by omega
        subst this; exact h2
    · intro hn
      obtain ⟨j2, e, g1⟩ := (mem_names (marksF F) 0 r).1 (List.mem_of_getElem? hn)
      have : isM (marksF F) r := by unfold isM; rw [e]; simpa using g1
      obtain ⟨t, h1, h2⟩ := hone r r0 this
      rw [idxAt_some h1, names_inj (sorted_names _ _) hn h2]
  · obtain ⟨j, hj⟩ := List.getElem?_of_mem hx
    have hlt := (List.getElem?_eq_some_iff.1 hj).1
    rw [indexW_len] at hlt
    obtain ⟨m, gm⟩ : ∃ m, (marksF F)[j]? = some m := ⟨_, List.getElem?_eq_getElem hlt⟩
    rcases hbin m (List.mem_of_getElem? gm) with e | e
    · have := index_other (marksF F) 0 _ _ gm (by omega)
      rw [hj] at this; cases this; omega
    · subst e
      obtain ⟨t, h1, h2⟩ := index_one (marksF F) 0 0 j gm
      rw [hj] at h1; cases h1
      have := (List.getElem?_eq_some_iff.1 h2).1
      omega
  · obtain ⟨j, rfl, g⟩ := (mem_names (marksF F) 0 r).1 hr
    have := (List.getElem?_eq_some_iff.1 g).1
    omega
  · obtain ⟨t, _, h2⟩ := hone r r0 ((hM r r0).2 hw)
    exact ⟨t, h2⟩
theorem names_len (F : LFun) : (namesW 0 (marksF F)).length ≤ F.regs.toNat := by
  have h : ∀ (M : List Int) (k : Nat), (namesW k M).length ≤ M.length := fun M => by
    induction M with
    | nil => intro k; simp [namesW]
    | cons m M ih => intro k; rw [namesW]; split <;> simp <;> have := ih (k + 1) <;> omega
  have := h (marksF F) 0
  rwa [marksF_len] at this
end Go.Proofs.YtjjfehdlmdhhmaaDoor
end
section
/- What is live is reckoned until nothing changes; walked. -/
namespace Go.Proofs.YtjjfehdlmdhhmaaDoor
open Go.Sep
set_option linter.unusedSimpArgs false
set_option linter.unusedVariables false
attribute [local irreducible] blk slA mp mpF rows rowsBut many
theorem FunAt.mono {h g : Heap} {p : Addr} {F : LFun} {u v : Value} (hs : Sub h g) (H : FunAt h p F u v) : FunAt g p F u v :=
  ⟨H.c0.mono hs, H.c1.mono hs, H.c2.mono hs, H.c3.mono hs, H.c4.mono hs, H.hu.mono hs, H.hv.mono hs, H.sp, H.sb⟩
section
variable {A : Type} {T : TypeId} {E : Enc A}
theorem rows_put {p : List (SV × List A)} {i : Nat} {sv : SV} {xs : List A} (hi : i < p.length) (Γ : List HProp) : ent (rows T E p :: slA T E sv.val xs :: Γ) (rows T E (p.set i (sv, xs)) :: Γ) := by
  obtain ⟨⟨s0, x0⟩, g0⟩ : ∃ q, p[i]? = some q := ⟨_, List.getElem?_eq_getElem hi⟩
  have h1 := rows_out (T := T) (E := E) g0 (slA T E sv.val xs :: Γ)
  have h2 : ent (slA T E s0.val x0 :: rowsBut T E i p :: slA T E sv.val xs :: Γ) (slA T E sv.val xs :: rowsBut T E i p :: Γ) := ent.at 2 rfl (ent.at 1 rfl (ent.drop _ _))
  exact h1.trans (h2.trans (rows_in hi Γ))
end
theorem map_fst_set {A B : Type} {p : List (A × B)} {i : Nat} {a : A} {b b' : B} (h : p[i]? = some (a, b)) : (p.set i (a, b')).map Prod.fst = p.map Prod.fst := by
  rw [List.map_set]; exact set_same (by rw [List.getElem?_map, h]; rfl)
theorem map_snd_set {A B : Type} {p : List (A × B)} {i : Nat} {a : A} {b' : B} : (p.set i (a, b')).map Prod.snd = (p.map Prod.snd).set i b' := by rw [List.map_set]
/-- who leads to a block: of the blocks ahead of b, and of b's first j ways -/
def LeadOK (F : LFun) (b j : Nat) (Ls : List (List Nat)) : Prop :=
  Ls.length = F.blocks.length ∧ ∀ (c : Nat) (l : List Nat), Ls[c]? = some l → l.length ≤ b * 1000000 + j ∧ ∀ p, p ∈ l ↔ (p < b ∧ ∃ blk c', F.blocks[p]? = some blk ∧ c' ∈ blk.to ∧ c'.toNat = c) ∨ (p = b ∧ ∃ blk c', F.blocks[b]? = some blk ∧ c' ∈ blk.to.take j ∧ c'.toNat = c)
theorem LeadOK.step {F : LFun} {b j : Nat} {Ls : List (List Nat)} {blk : LBlk} {c : Int} {l : List Nat} (H : LeadOK F b j Ls) (gb : F.blocks[b]? = some blk) (gc : blk.to[j]? = some c) (gl : Ls[c.toNat]? = some l) : LeadOK F b (j + 1) (Ls.set c.toNat (l ++ [b])) := by
  have hlt := (List.getElem?_eq_some_iff.1 gl).1
  have htk : blk.to.take (j + 1) = blk.to.take j ++ [c] := by rw [List.take_add_one, gc]; rfl
  refine ⟨by simp [H.1], fun k l' hl' => ?_⟩
  by_cases e : k = c.toNat
  · subst e
    rw [List.getElem?_set_self hlt] at hl'
    cases hl'
    obtain ⟨h1, h2⟩ := H.2 _ _ gl
    refine ⟨by simp; omega, fun p => ?_⟩
    rw [List.mem_append, h2, List.mem_singleton]
    constructor
    · rintro ((h | ⟨rfl, blk', c', h3, h4, h5⟩) | rfl)
      · exact .inl h
      · rw [gb] at h3; cases h3
        exact .inr ⟨rfl, blk, c', gb, by rw [htk]; exact List.mem_append_left _ h4, h5⟩
      · exact .inr ⟨rfl, blk, c, gb, by rw [htk]; simp, rfl⟩
    · rintro (h | ⟨rfl, _⟩)
      · exact .inl (.inl h)
      · exact .inr rfl
  · rw [List.getElem?_set_ne (Ne.symm e)] at hl'
    obtain ⟨h1, h2⟩ := H.2 _ _ hl'
    refine ⟨by omega, fun p => ?_⟩
    rw [h2]
    refine or_congr Iff.rfl (and_congr Iff.rfl ?_)
    constructor
    · rintro ⟨blk', c', h3, h4, h5⟩
      rw [gb] at h3; cases h3
      exact ⟨blk, c', gb, by rw [htk]; exact List.mem_append_left _ h4, h5⟩
    · rintro ⟨blk', c', h3, h4, h5⟩
      rw [gb] at h3; cases h3
      rw [htk, List.mem_append, List.mem_singleton] at h4
      rcases h4 with h4 | h4
      · exact ⟨blk, c', gb, h4, h5⟩
      · subst h4; exact absurd h5.symm e
theorem LeadOK.turn {F : LFun} {b : Nat} {Ls : List (List Nat)} {blk : LBlk} (H : LeadOK F b blk.to.length Ls) (gb : F.blocks[b]? = some blk) (hs : blk.to.length ≤ 1000000) : LeadOK F (b + 1) 0 Ls := by
  refine ⟨H.1, fun c l hl => ?_⟩
  obtain ⟨h1, h2⟩ := H.2 c l hl
  refine ⟨Nat.le_trans h1 (by rw [Nat.succ_mul]; omega), fun p => ?_⟩
  rw [h2]
  constructor
  · rintro (⟨h3, h4⟩ | ⟨rfl, blk', c', h3, h4, h5⟩)
    · exact .inl ⟨by omega, h4⟩
    · rw [gb] at h3; cases h3
      rw [List.take_length] at h4
      exact .inl ⟨by omega, blk, c', gb, h4, h5⟩
  · rintro (⟨h3, h4⟩ | ⟨_, _, _, _, h5, _⟩)
    · by_cases e : p = b
      · subst e
        obtain ⟨blk', c', h5, h6, h7⟩ := h4
        rw [gb] at h5; cases h5
        exact .inr ⟨rfl, blk, c', gb, by rw [List.take_length]; exact h6, h7⟩
      · exact .inl ⟨by omega, h4⟩
    · simp at h5
abbrev nilS : SV := ⟨none, 0, 0⟩
theorem lead_new (F : LFun) : LeadOK F 0 0 ((List.replicate F.blocks.length (nilS, ([] : List Nat))).map Prod.snd) := by
  refine ⟨by simp, fun c l hl => ?_⟩
  have hm := List.mem_of_getElem? hl
  simp at hm
  obtain ⟨_, rfl⟩ := hm
  refine ⟨by simp, fun p => ?_⟩
  simp
/-- the sets' rows, filled up to b -/
def fillA (m b : Nat) (p : List (SV × Ws)) : Prop := ∀ (i : Nat) (w : Ws), (p.map Prod.snd)[i]? = some w → i < b → w = List.replicate m 0#64
theorem fillA_step {m b : Nat} {p : List (SV × Ws)} {sv : SV} (H : fillA m b p) (hb : b < p.length) : fillA m (b + 1) (p.set b (sv, List.replicate m 0#64)) := by
  intro i w hw hi
  rw [map_snd_set] at hw
  by_cases e : b = i
  · subst e; rw [List.getElem?_set_self (by simpa using hb)] at hw; cases hw; rfl
  · rw [List.getElem?_set_ne e] at hw
    exact H i w hw (by omega)
theorem fillA_all {m : Nat} {p : List (SV × Ws)} (H : fillA m p.length p) : p.map Prod.snd = List.replicate p.length (List.replicate m 0#64) := by
  apply List.ext_getElem?
  intro i
  by_cases h : i < p.length
  · obtain ⟨w, gw⟩ : ∃ w, (p.map Prod.snd)[i]? = some w := ⟨_, List.getElem?_eq_getElem (by simpa using h)⟩
    rw [gw, H i w gw h, List.getElem?_replicate, if_pos h]
  · rw [List.getElem?_eq_none (by simpa using h), List.getElem?_eq_none (by simpa using h)]
theorem FI.new (F : LFun) (idx names : List Int) (m : Nat) : FI F idx names m (List.replicate F.blocks.length (List.replicate m 0#64)) (List.replicate F.blocks.length (List.replicate m 0#64)) (List.replicate F.blocks.length true) (List.range F.blocks.length) O0 := by
  have hz : ∀ {q : Nat} {a : Ws}, (List.replicate F.blocks.length (List.replicate m 0#64))[q]? = some a → a = List.replicate m 0#64 := fun h => by
    have := List.mem_of_getElem? h; simp at this; exact this.2
  refine ⟨by simp, by simp, by simp, fun w hw => ?_, fun w hw => ?_, List.nodup_range, fun p => ?_, ?_, ?_, ?_, ?_⟩
  · simp at hw; rw [hw.2]; simp
  · simp at hw; rw [hw.2]; simp
  · rw [List.mem_range, List.getElem?_replicate]; simp
  · intro p blk c a b _ _ _ ha _ j hj
    rw [hz ha, bitW_zeros] at hj; cases hj
  · intro q blk a b _ ht
    rw [List.getElem?_replicate] at ht
    split at ht <;> cases ht
  · intro q a j ha hj
    rw [hz ha, bitW_zeros] at hj; cases hj
  · intro q a j ha hj
    rw [hz ha, bitW_zeros] at hj; cases hj
def sizeW (F : LFun) : Nat := ((namesW 0 (marksF F)).length + 63) / 64
set_option maxHeartbeats 4000000 in
set_option maxRecDepth 100000 in
theorem flowing_ok (hR : Heap) (pF : Addr) (F : LFun) (u v : Value) (hF : FunAt hR pF F u v) (hS : SmallF F) (hG : RegsF F) (hto : ∀ b ∈ F.blocks, ∀ c ∈ b.to, 0 ≤ c ∧ c < (F.blocks.length : Int)) (hr0 : 0 ≤ F.regs) (hr1 : F.regs ≤ 262144) :
    Tri Tryd.prog hR 32 #[.pointer (some pF)] [] fun x Γ' => ∃ (wb : Nat) (iv nv av bv : SV) (A B : List (SV × Ws)) (T : List Bool), x = .pointer (some ⟨wb, 0, none⟩) ∧ FI F (indexW 0 (marksF F)) (namesW 0 (marksF F)) (sizeW F) (A.map Prod.snd) (B.map Prod.snd) T [] O0 ∧
      Γ' = [blk wb [.pointer (some pF), iv.val, nv.val, av.val, bv.val] 87, slA 3 (Enc.int .i64) iv.val (indexW 0 (marksF F)), slA 3 (Enc.int .i64) nv.val (namesW 0 (marksF F)), slA 84 Enc.slice av.val (A.map Prod.fst), rows 134 Enc.u64 A, slA 84 Enc.slice bv.val (B.map Prod.fst), rows 134 Enc.u64 B] := by
  refine Tri.ent (Tri.of (args := [.pointer (some pF)]) Tryd.func32 rfl Tryd.ntmps32 (by simp) ?_)
  have c2 := hF.c2
  have c4 := hF.c4
  have hv := hF.hv
  have sb := hF.sb
  refine Zp ?_
  refine Zm ?_
  refine Ze ?_
  refine Zp ?_
  refine Zm ?_
  refine Zn ?_
  refine Zf fo_25_4 ?_
  refine Zr ag_23 c4 ?_
  refine Zh sl_23 hv ?_
  refine Zm ?_
  refine Ze ?_
  refine WP.seq ?_
  refine WP.drawn0 cf0 mixed rfl (by kernel_rfl) ?_
  refine Zm ?_
  refine Zm ?_
  refine Run.makeSlice (E := Enc.slice) (nilS) rfl rfl rfl sl_85 zr_84 rfl rfl rfl (by first | omega | (simp <;> omega)) (by first | omega | (simp <;> omega)) (by first | omega | (simp <;> omega)) (by first | omega | (simp <;> omega)) ?_
  intro b23
  refine Zm ?_
  refine Run.makeSlice (E := Enc.slice) (nilS) rfl rfl rfl sl_85 zr_84 rfl rfl rfl (by first | omega | (simp <;> omega)) (by first | omega | (simp <;> omega)) (by first | omega | (simp <;> omega)) (by first | omega | (simp <;> omega)) ?_
  intro b25
  refine Run.build rfl bd_87 rfl rfl rfl rfl ?_
  refine Run.box rfl rfl rfl rfl rfl ?_
  intro b27
  refine Zm ?_
  refine Ze ?_
  obtain ⟨av, hav⟩ : ∃ sv : SV, sv.val = .slice (some ⟨b23, 0, none⟩) F.blocks.length F.blocks.length := ⟨⟨some ⟨b23, 0, none⟩, F.blocks.length, F.blocks.length⟩, rfl⟩
  obtain ⟨bv, hbv⟩ : ∃ sv : SV, sv.val = .slice (some ⟨b25, 0, none⟩) F.blocks.length F.blocks.length := ⟨⟨some ⟨b25, 0, none⟩, F.blocks.length, F.blocks.length⟩, rfl⟩
  refine WP.sup (ρ' := [(0, .pointer (some pF)), (3, .int .i64 (F.blocks.length : Int)), (4, .pointer (some ⟨b27, 0, none⟩))]) (Γ' := [slA 84 Enc.slice av.val (List.replicate F.blocks.length nilS), slA 84 Enc.slice bv.val (List.replicate F.blocks.length nilS), blk b27 [.pointer (some pF), .slice none 0 0, .slice none 0 0, av.val, bv.val] 87]) (covers_get ⟨rfl, rfl, rfl, trivial⟩) (by rw [hav, hbv]; exact ent.gn) ?_
  clear hav hbv
  refine Zp ?_
  refine Zm ?_
  refine Run.call (Δ := [blk b27 [.pointer (some pF), .slice none 0 0, .slice none 0 0, av.val, bv.val] 87]) (Θ := [slA 84 Enc.slice av.val (List.replicate F.blocks.length nilS), slA 84 Enc.slice bv.val (List.replicate F.blocks.length nilS)]) rfl rfl rfl rfl ok_62 rfl rfl ent.gn (wantedA_ok hR pF F u v b27 av.val bv.val hF hS hG hr0 hr1) ?_; rintro _ Γ1 ⟨iv, nv, he1⟩
  refine Run.via (ent.app he1 (ent.refl _)) ?_
  refine Ze ?_
  clear he1 Γ1
  have hI := idxOK F hG hr0
  have hnl := names_len F
  have hszm : (namesW 0 (marksF F)).length ≤ 64 * sizeW F := by unfold sizeW; omega
  have hszl : sizeW F ≤ 4097 := by unfold sizeW; omega
  have hsz : intOpR .quo .i64 (((namesW 0 (marksF F)).length : Int) + 63) 64 = some (.int .i64 (sizeW F : Int)) := by
    have e : (((namesW 0 (marksF F)).length : Int) + 63).tdiv 64 = (sizeW F : Int) := by
      rw [Int.tdiv_eq_ediv_of_nonneg (by omega)]; unfold sizeW; omega
    show some (Value.int .i64 (IntKind.i64.wrap ((((namesW 0 (marksF F)).length : Int) + 63).tdiv 64))) = _
    rw [e, wrapI (by omega) (by omega)]
  generalize sizeW F = m at hszm hszl hsz ⊢
  have hin := hI.len
  generalize namesW 0 (marksF F) = names at hI hnl hszm hsz ⊢
  generalize indexW 0 (marksF F) = idx at hI hin ⊢
  refine Zp ?_
  refine Zm ?_
  refine Zn ?_
  refine Zf fo_87_2 ?_
  refine Zl 0 ag_22 ?_
  refine Run.lenO 2 rfl rfl sl_22 rfl rfl rfl ?_
  refine Za ?_
  refine Run.int2 rfl rfl rfl hsz rfl rfl ?_
  refine Zm ?_
  refine Ze ?_
  clear hsz
  refine Zp ?_
  refine Zm ?_
  refine Run.makeSlice (E := Enc.slice) (nilS) rfl rfl rfl sl_30 zr_22 rfl rfl rfl (by first | omega | (simp <;> omega)) (by first | omega | (simp <;> omega)) (by first | omega | (simp <;> omega)) (by first | omega | (simp <;> omega)) ?_
  intro b38
  refine Zm ?_
  refine Ze ?_
  refine Zp ?_
  refine Zm ?_
  refine Run.makeSlice (E := Enc.bool) (false) rfl rfl rfl sl_92 zr_4 rfl rfl rfl (by first | omega | (simp <;> omega)) (by first | omega | (simp <;> omega)) (by first | omega | (simp <;> omega)) (by first | omega | (simp <;> omega)) ?_
  intro b40
  refine Zm ?_
  refine Ze ?_
  refine Zp ?_
  refine Zm ?_
  refine Ze ?_
  obtain ⟨lv, hlv⟩ : ∃ sv : SV, sv.val = .slice (some ⟨b38, 0, none⟩) F.blocks.length F.blocks.length := ⟨⟨some ⟨b38, 0, none⟩, F.blocks.length, F.blocks.length⟩, rfl⟩
  obtain ⟨tv, htv⟩ : ∃ sv : SV, sv.val = .slice (some ⟨b40, 0, none⟩) F.blocks.length F.blocks.length := ⟨⟨some ⟨b40, 0, none⟩, F.blocks.length, F.blocks.length⟩, rfl⟩
  refine WP.sup (ρ' := [(0, .pointer (some pF)), (3, .int .i64 (F.blocks.length : Int)), (4, .pointer (some ⟨b27, 0, none⟩)), (5, .int .i64 (m : Int)), (6, lv.val), (7, tv.val), (8, nilS.val)]) (Γ' := [blk b27 [.pointer (some pF), iv.val, nv.val, av.val, bv.val] 87, slA 3 (Enc.int .i64) iv.val idx, slA 3 (Enc.int .i64) nv.val names, slA 84 Enc.slice av.val (List.replicate F.blocks.length nilS), rows 134 Enc.u64 (List.replicate F.blocks.length (nilS, ([] : Ws))), slA 84 Enc.slice bv.val (List.replicate F.blocks.length nilS), rows 134 Enc.u64 (List.replicate F.blocks.length (nilS, ([] : Ws))), slA 22 Enc.slice lv.val (List.replicate F.blocks.length nilS), rows 3 Enc.nat (List.replicate F.blocks.length (nilS, ([] : List Nat))), slA 4 Enc.bool tv.val (List.replicate F.blocks.length false), slA 3 Enc.nat nilS.val []]) (covers_get ⟨rfl, rfl, rfl, rfl, hlv.symm ▸ rfl, htv.symm ▸ rfl, rfl, trivial⟩) ?_ ?_
  · have h1 := rows_nils (T := 134) (E := Enc.u64) ([blk b27 [.pointer (some pF), iv.val, nv.val, av.val, bv.val] 87, slA 3 (Enc.int .i64) iv.val idx, slA 3 (Enc.int .i64) nv.val names, slA 84 Enc.slice av.val (List.replicate F.blocks.length nilS), slA 84 Enc.slice bv.val (List.replicate F.blocks.length nilS), slA 22 Enc.slice lv.val (List.replicate F.blocks.length nilS), slA 4 Enc.bool tv.val (List.replicate F.blocks.length false)]) F.blocks.length
    have h2 := rows_nils (T := 134) (E := Enc.u64) (rows 134 Enc.u64 (List.replicate F.blocks.length (nilS, ([] : Ws))) :: [blk b27 [.pointer (some pF), iv.val, nv.val, av.val, bv.val] 87, slA 3 (Enc.int .i64) iv.val idx, slA 3 (Enc.int .i64) nv.val names, slA 84 Enc.slice av.val (List.replicate F.blocks.length nilS), slA 84 Enc.slice bv.val (List.replicate F.blocks.length nilS), slA 22 Enc.slice lv.val (List.replicate F.blocks.length nilS), slA 4 Enc.bool tv.val (List.replicate F.blocks.length false)]) F.blocks.length
    have h3 := rows_nils (T := 3) (E := Enc.nat) (rows 134 Enc.u64 (List.replicate F.blocks.length (nilS, ([] : Ws))) :: rows 134 Enc.u64 (List.replicate F.blocks.length (nilS, ([] : Ws))) :: [blk b27 [.pointer (some pF), iv.val, nv.val, av.val, bv.val] 87, slA 3 (Enc.int .i64) iv.val idx, slA 3 (Enc.int .i64) nv.val names, slA 84 Enc.slice av.val (List.replicate F.blocks.length nilS), slA 84 Enc.slice bv.val (List.replicate F.blocks.length nilS), slA 22 Enc.slice lv.val (List.replicate F.blocks.length nilS), slA 4 Enc.bool tv.val (List.replicate F.blocks.length false)]) F.blocks.length
    have h4 := slA_nil 3 Enc.nat (rows 3 Enc.nat (List.replicate F.blocks.length (nilS, ([] : List Nat))) :: rows 134 Enc.u64 (List.replicate F.blocks.length (nilS, ([] : Ws))) :: rows 134 Enc.u64 (List.replicate F.blocks.length (nilS, ([] : Ws))) :: [blk b27 [.pointer (some pF), iv.val, nv.val, av.val, bv.val] 87, slA 3 (Enc.int .i64) iv.val idx, slA 3 (Enc.int .i64) nv.val names, slA 84 Enc.slice av.val (List.replicate F.blocks.length nilS), slA 84 Enc.slice bv.val (List.replicate F.blocks.length nilS), slA 22 Enc.slice lv.val (List.replicate F.blocks.length nilS), slA 4 Enc.bool tv.val (List.replicate F.blocks.length false)])
    refine ent.trans ?_ (h1.trans (h2.trans (h3.trans (h4.trans ?_))))
    · rw [hlv, htv]; exact ent.gn
    · exact ent.gn
  clear hlv htv
  -- the first loop
  refine WP.meetK (α := List (SV × Ws) × List (SV × Ws) × List (SV × List Nat) × SV) (fun z => z.1.length = F.blocks.length ∧ z.2.1.length = F.blocks.length ∧ z.2.2.1.length = F.blocks.length ∧ fillA m F.blocks.length z.1 ∧ fillA m F.blocks.length z.2.1 ∧ LeadOK F F.blocks.length 0 (z.2.2.1.map Prod.snd)) (fun z => [(8, z.2.2.2.val)]) (fun z => [blk b27 [.pointer (some pF), iv.val, nv.val, av.val, bv.val] 87, slA 3 (Enc.int .i64) iv.val idx, slA 3 (Enc.int .i64) nv.val names, slA 84 Enc.slice av.val (z.1.map Prod.fst), rows 134 Enc.u64 z.1, slA 84 Enc.slice bv.val (z.2.1.map Prod.fst), rows 134 Enc.u64 z.2.1, slA 22 Enc.slice lv.val (z.2.2.1.map Prod.fst), rows 3 Enc.nat z.2.2.1, slA 4 Enc.bool tv.val (List.replicate F.blocks.length true), slA 3 Enc.nat z.2.2.2.val (List.range F.blocks.length)]) ?_ ?_
  · refine Zp ?_
    refine Zm ?_
    refine Zm ?_
    refine Ze ?_
    refine WP.sup (ρ' := [(42, .int .i64 0), (41, .int .i64 (F.blocks.length : Int)), (0, .pointer (some pF)), (3, .int .i64 (F.blocks.length : Int)), (4, .pointer (some ⟨b27, 0, none⟩)), (5, .int .i64 (m : Int)), (6, lv.val), (7, tv.val), (8, nilS.val)]) (Γ' := [blk b27 [.pointer (some pF), iv.val, nv.val, av.val, bv.val] 87, slA 3 (Enc.int .i64) iv.val idx, slA 3 (Enc.int .i64) nv.val names, slA 84 Enc.slice av.val (List.replicate F.blocks.length nilS), rows 134 Enc.u64 (List.replicate F.blocks.length (nilS, ([] : Ws))), slA 84 Enc.slice bv.val (List.replicate F.blocks.length nilS), rows 134 Enc.u64 (List.replicate F.blocks.length (nilS, ([] : Ws))), slA 22 Enc.slice lv.val (List.replicate F.blocks.length nilS), rows 3 Enc.nat (List.replicate F.blocks.length (nilS, ([] : List Nat))), slA 4 Enc.bool tv.val (List.replicate F.blocks.length false), slA 3 Enc.nat nilS.val []]) (Kp.sup (car := [(42, .int .i64 0), (41, .int .i64 (F.blocks.length : Int))]) (ρ := [(0, .pointer (some pF)), (3, .int .i64 (F.blocks.length : Int)), (4, .pointer (some ⟨b27, 0, none⟩)), (5, .int .i64 (m : Int)), (6, lv.val), (7, tv.val), (8, nilS.val)]) ⟨(by repeat first | exact trivial | refine ⟨rfl, ?_⟩), rfl, rfl⟩) (ent.refl _) ?_
    refine WP.block ?_
    refine WP.loopK (α := Nat × List (SV × Ws) × List (SV × Ws) × List (SV × List Nat) × SV) (fun z => z.1 ≤ F.blocks.length ∧ z.2.1.length = F.blocks.length ∧ z.2.2.1.length = F.blocks.length ∧ z.2.2.2.1.length = F.blocks.length ∧ fillA m z.1 z.2.1 ∧ fillA m z.1 z.2.2.1 ∧ LeadOK F z.1 0 (z.2.2.2.1.map Prod.snd)) (fun z => [(8, z.2.2.2.2.val), (42, .int .i64 (z.1 : Int))])
      (fun z => [blk b27 [.pointer (some pF), iv.val, nv.val, av.val, bv.val] 87, slA 3 (Enc.int .i64) iv.val idx, slA 3 (Enc.int .i64) nv.val names, slA 84 Enc.slice av.val (z.2.1.map Prod.fst), rows 134 Enc.u64 z.2.1, slA 84 Enc.slice bv.val (z.2.2.1.map Prod.fst), rows 134 Enc.u64 z.2.2.1, slA 22 Enc.slice lv.val (z.2.2.2.1.map Prod.fst), rows 3 Enc.nat z.2.2.2.1, slA 4 Enc.bool tv.val (List.replicate z.1 true ++ List.replicate (F.blocks.length - z.1) false), slA 3 Enc.nat z.2.2.2.2.val (List.range z.1)]) (fun z => F.blocks.length - z.1) (0, List.replicate F.blocks.length (nilS, []), List.replicate F.blocks.length (nilS, []), List.replicate F.blocks.length (nilS, []), nilS) ⟨Nat.zero_le _, by simp, by simp, by simp, fun _ _ _ h => absurd h (Nat.not_lt_zero _), fun _ _ _ h => absurd h (Nat.not_lt_zero _), lead_new F⟩ ⟨(by repeat first | exact trivial | refine ⟨rfl, ?_⟩), rfl, rfl⟩ ?_ ?_
    · simp only [List.map_replicate]; exact ent.gn
    rintro ⟨b, A, B, L, kv⟩ ⟨hb, hA, hB, hL, hfA, hfB, hld⟩
    simp only at hb hA hB hL hfA hfB hld ⊢
    refine Zp ?_
    refine Zi ?_
    refine Ze ?_
    refine WP.seq ?_
    refine WP.ite rfl (fun hlt => ?_) (fun hge => ?_)
    · refine Zb ?_
      have hbn : b < F.blocks.length := by omega
      obtain ⟨bk, gb⟩ : ∃ y, F.blocks[b]? = some y := ⟨_, List.getElem?_eq_getElem hbn⟩
      have hbm := List.mem_of_getElem? gb
      have hts := hS.tos bk hbm
      obtain ⟨_, ⟨bu0, bv0, rfl, hbu, hbto⟩, hrow⟩ := hv.at gb
      have r3 : cellH hR (((elemAddr v (b * 4)).add 1).add 2) bv0 := by have := hrow 3 _ rfl; rw [add_plus]; exact this
      obtain ⟨a0, ga0⟩ : ∃ y, (A.map Prod.fst)[b]? = some y := ⟨_, List.getElem?_eq_getElem (by simpa [hA] using hbn)⟩
      obtain ⟨b0, gb0⟩ : ∃ y, (B.map Prod.fst)[b]? = some y := ⟨_, List.getElem?_eq_getElem (by simpa [hB] using hbn)⟩
      refine WP.seq ?_
      refine WP.block ?_
      refine Zp ?_
      refine Zm ?_
      refine Zm ?_
      refine Ze ?_
      refine WP.seq ?_
      refine WP.drawnP cf0 [0, 1, 2, 3, 4, 5, 6, 7, 8, 9, 10, 11, 12, 14, 15, 13, 16, 17] mixed rfl (by kernel_rfl) ?_
      refine Zm ?_
      refine Zn ?_
      refine Zf fo_87_3 ?_
      refine Zl 0 ag_85 ?_
      refine Zm ?_
      refine Zm ?_
      refine Zn ?_
      refine Zf fo_87_4 ?_
      refine Zl 0 ag_85 ?_
      refine Zm ?_
      refine Zm ?_
      refine Run.makeSlice (E := Enc.u64) (0#64) rfl rfl rfl sl_84 zr_134 rfl rfl rfl (by first | omega | (simp <;> omega)) (by first | omega | (simp <;> omega)) (by first | omega | (simp <;> omega)) (by first | omega | (simp <;> omega)) ?_
      intro b56
      refine Zm ?_
      refine Run.idxO 3 rfl rfl rfl sl_85 rfl rfl rfl rfl (by omega) (by simp; omega) ?_
      refine Run.storeO 3 b 0 (y' := (⟨some ⟨b56, 0, none⟩, m, m⟩ : SV)) rfl rfl rfl rfl ag_84 rfl rfl rfl rfl ga0 rfl rfl ?_
      refine Run.makeSlice (E := Enc.u64) (0#64) rfl rfl rfl sl_84 zr_134 rfl rfl rfl (by first | omega | (simp <;> omega)) (by first | omega | (simp <;> omega)) (by first | omega | (simp <;> omega)) (by first | omega | (simp <;> omega)) ?_
      intro b58
      refine Run.idxO 5 rfl rfl rfl sl_85 rfl rfl rfl rfl (by omega) (by simp; omega) ?_
      refine Run.storeO 5 b 0 (y' := (⟨some ⟨b58, 0, none⟩, m, m⟩ : SV)) rfl rfl rfl rfl ag_84 rfl rfl rfl rfl gb0 rfl rfl ?_
      refine Ze ?_
      have e1 : (A.map Prod.fst).set b (⟨some ⟨b56, 0, none⟩, m, m⟩ : SV) = (A.set b ((⟨some ⟨b56, 0, none⟩, m, m⟩ : SV), List.replicate m 0#64)).map Prod.fst := by rw [List.map_set]
      have e2 : (B.map Prod.fst).set b (⟨some ⟨b58, 0, none⟩, m, m⟩ : SV) = (B.set b ((⟨some ⟨b58, 0, none⟩, m, m⟩ : SV), List.replicate m 0#64)).map Prod.fst := by rw [List.map_set]
      refine WP.sup (ρ' := [(9, .int .i64 (b : Int)), (8, kv.val), (42, .int .i64 (b : Int)), (42, .int .i64 0), (41, .int .i64 (F.blocks.length : Int)), (0, .pointer (some pF)), (3, .int .i64 (F.blocks.length : Int)), (4, .pointer (some ⟨b27, 0, none⟩)), (5, .int .i64 (m : Int)), (6, lv.val), (7, tv.val), (8, nilS.val)]) (Γ' := [blk b27 [.pointer (some pF), iv.val, nv.val, av.val, bv.val] 87, slA 3 (Enc.int .i64) iv.val idx, slA 3 (Enc.int .i64) nv.val names, slA 84 Enc.slice av.val ((A.set b ((⟨some ⟨b56, 0, none⟩, m, m⟩ : SV), List.replicate m 0#64)).map Prod.fst), rows 134 Enc.u64 (A.set b ((⟨some ⟨b56, 0, none⟩, m, m⟩ : SV), List.replicate m 0#64)), slA 84 Enc.slice bv.val ((B.set b ((⟨some ⟨b58, 0, none⟩, m, m⟩ : SV), List.replicate m 0#64)).map Prod.fst), rows 134 Enc.u64 (B.set b ((⟨some ⟨b58, 0, none⟩, m, m⟩ : SV), List.replicate m 0#64)), slA 22 Enc.slice lv.val (L.map Prod.fst), rows 3 Enc.nat L, slA 4 Enc.bool tv.val (List.replicate b true ++ List.replicate (F.blocks.length - b) false), slA 3 Enc.nat kv.val (List.range b)]) (Kp.sup (car := [(9, .int .i64 (b : Int)), (8, kv.val), (42, .int .i64 (b : Int))]) (ρ := [(42, .int .i64 0), (41, .int .i64 (F.blocks.length : Int)), (0, .pointer (some pF)), (3, .int .i64 (F.blocks.length : Int)), (4, .pointer (some ⟨b27, 0, none⟩)), (5, .int .i64 (m : Int)), (6, lv.val), (7, tv.val), (8, nilS.val)]) ⟨(by repeat first | exact trivial | refine ⟨rfl, ?_⟩), rfl, rfl⟩) ?_ ?_
      · rw [← e1, ← e2]
        refine ent.trans (Δ := rows 134 Enc.u64 A :: slA 134 Enc.u64 (⟨some ⟨b56, 0, none⟩, m, m⟩ : SV).val (List.replicate m 0#64) :: rows 134 Enc.u64 B :: slA 134 Enc.u64 (⟨some ⟨b58, 0, none⟩, m, m⟩ : SV).val (List.replicate m 0#64) :: [blk b27 [.pointer (some pF), iv.val, nv.val, av.val, bv.val] 87, slA 3 (Enc.int .i64) iv.val idx, slA 3 (Enc.int .i64) nv.val names, slA 84 Enc.slice av.val ((A.map Prod.fst).set b (⟨some ⟨b56, 0, none⟩, m, m⟩ : SV)), slA 84 Enc.slice bv.val ((B.map Prod.fst).set b (⟨some ⟨b58, 0, none⟩, m, m⟩ : SV)), slA 22 Enc.slice lv.val (L.map Prod.fst), rows 3 Enc.nat L, slA 4 Enc.bool tv.val (List.replicate b true ++ List.replicate (F.blocks.length - b) false), slA 3 Enc.nat kv.val (List.range b)]) ent.gn ?_
        refine (rows_put (p := A) (i := b) (by omega) _).trans ?_
        refine ent.trans (Δ := rows 134 Enc.u64 B :: slA 134 Enc.u64 (⟨some ⟨b58, 0, none⟩, m, m⟩ : SV).val (List.replicate m 0#64) :: rows 134 Enc.u64 (A.set b ((⟨some ⟨b56, 0, none⟩, m, m⟩ : SV), List.replicate m 0#64)) :: [blk b27 [.pointer (some pF), iv.val, nv.val, av.val, bv.val] 87, slA 3 (Enc.int .i64) iv.val idx, slA 3 (Enc.int .i64) nv.val names, slA 84 Enc.slice av.val ((A.map Prod.fst).set b (⟨some ⟨b56, 0, none⟩, m, m⟩ : SV)), slA 84 Enc.slice bv.val ((B.map Prod.fst).set b (⟨some ⟨b58, 0, none⟩, m, m⟩ : SV)), slA 22 Enc.slice lv.val (L.map Prod.fst), rows 3 Enc.nat L, slA 4 Enc.bool tv.val (List.replicate b true ++ List.replicate (F.blocks.length - b) false), slA 3 Enc.nat kv.val (List.range b)]) ent.gn ?_
        exact (rows_put (p := B) (i := b) (by omega) _).trans ent.gn
      have hA2 : (A.set b ((⟨some ⟨b56, 0, none⟩, m, m⟩ : SV), List.replicate m 0#64)).length = F.blocks.length := by simp [hA]
      have hB2 : (B.set b ((⟨some ⟨b58, 0, none⟩, m, m⟩ : SV), List.replicate m 0#64)).length = F.blocks.length := by simp [hB]
      have hfA2 := fillA_step (sv := (⟨some ⟨b56, 0, none⟩, m, m⟩ : SV)) hfA (by omega)
      have hfB2 := fillA_step (sv := (⟨some ⟨b58, 0, none⟩, m, m⟩ : SV)) hfB (by omega)
      generalize A.set b ((⟨some ⟨b56, 0, none⟩, m, m⟩ : SV), List.replicate m 0#64) = A2 at hA2 hfA2 ⊢
      generalize B.set b ((⟨some ⟨b58, 0, none⟩, m, m⟩ : SV), List.replicate m 0#64) = B2 at hB2 hfB2 ⊢
      refine WP.meetK (α := List (SV × List Nat)) (fun z => z.length = F.blocks.length ∧ LeadOK F b bk.to.length (z.map Prod.snd)) (fun _ => []) (fun z => [blk b27 [.pointer (some pF), iv.val, nv.val, av.val, bv.val] 87, slA 3 (Enc.int .i64) iv.val idx, slA 3 (Enc.int .i64) nv.val names, slA 84 Enc.slice av.val (A2.map Prod.fst), rows 134 Enc.u64 A2, slA 84 Enc.slice bv.val (B2.map Prod.fst), rows 134 Enc.u64 B2, slA 22 Enc.slice lv.val (z.map Prod.fst), rows 3 Enc.nat z, slA 4 Enc.bool tv.val (List.replicate b true ++ List.replicate (F.blocks.length - b) false), slA 3 Enc.nat kv.val (List.range b)]) ?_ ?_
      · refine Zp ?_
        refine Zm ?_
        refine Zn ?_
        refine Zf fo_25_4 ?_
        refine Zr ag_23 c4 ?_
        refine Zm ?_
        refine Zx sl_23 hv ?_
        refine Zf fo_56_1 ?_
        refine Zf fo_54_2 ?_
        refine Zr ag_22 r3 ?_
        refine Zh sl_22 hbto ?_
        refine Zm ?_
        refine Ze ?_
        refine WP.block ?_
        refine WP.loopK (α := Nat × List (SV × List Nat)) (fun z => z.1 ≤ bk.to.length ∧ z.2.length = F.blocks.length ∧ LeadOK F b z.1 (z.2.map Prod.snd)) (fun z => [(71, .int .i64 (z.1 : Int))]) (fun z => [blk b27 [.pointer (some pF), iv.val, nv.val, av.val, bv.val] 87, slA 3 (Enc.int .i64) iv.val idx, slA 3 (Enc.int .i64) nv.val names, slA 84 Enc.slice av.val (A2.map Prod.fst), rows 134 Enc.u64 A2, slA 84 Enc.slice bv.val (B2.map Prod.fst), rows 134 Enc.u64 B2, slA 22 Enc.slice lv.val (z.2.map Prod.fst), rows 3 Enc.nat z.2, slA 4 Enc.bool tv.val (List.replicate b true ++ List.replicate (F.blocks.length - b) false), slA 3 Enc.nat kv.val (List.range b)]) (fun z => bk.to.length - z.1) (0, L) ⟨Nat.zero_le _, hL, hld⟩ ⟨(by repeat first | exact trivial | refine ⟨rfl, ?_⟩), rfl, rfl⟩ ent.gn ?_
        rintro ⟨j, L1⟩ ⟨hj, hL1, hld1⟩
        simp only at hj hL1 hld1 ⊢
        refine Zp ?_
        refine Zi ?_
        refine Ze ?_
        refine WP.seq ?_
        refine WP.ite rfl (fun hlt2 => ?_) (fun hge2 => ?_)
        · refine Zb ?_
          obtain ⟨c, gc⟩ : ∃ y, bk.to[j]? = some y := ⟨_, List.getElem?_eq_getElem (by omega)⟩
          obtain ⟨c0, c1⟩ := hto bk hbm c (List.mem_of_getElem? gc)
          obtain ⟨⟨ls, l⟩, gl⟩ : ∃ y, L1[c.toNat]? = some y := ⟨_, List.getElem?_eq_getElem (by omega)⟩
          have gls : (L1.map Prod.fst)[c.toNat]? = some ls := by rw [List.getElem?_map, gl]; rfl
          have gll : (L1.map Prod.snd)[c.toNat]? = some l := by rw [List.getElem?_map, gl]; rfl
          have hll := (hld1.2 _ _ gll).1
          have hll2 : l.length ≤ 1000001000000 := by omega
          refine WP.via (Γ' := [blk b27 [.pointer (some pF), iv.val, nv.val, av.val, bv.val] 87, slA 3 (Enc.int .i64) iv.val idx, slA 3 (Enc.int .i64) nv.val names, slA 84 Enc.slice av.val (A2.map Prod.fst), rows 134 Enc.u64 A2, slA 84 Enc.slice bv.val (B2.map Prod.fst), rows 134 Enc.u64 B2, slA 22 Enc.slice lv.val (L1.map Prod.fst), slA 3 Enc.nat ls.val l, rowsBut 3 Enc.nat c.toNat L1, slA 4 Enc.bool tv.val (List.replicate b true ++ List.replicate (F.blocks.length - b) false), slA 3 Enc.nat kv.val (List.range b)]) ?_ ?_
          · refine ent.trans (Δ := rows 3 Enc.nat L1 :: [blk b27 [.pointer (some pF), iv.val, nv.val, av.val, bv.val] 87, slA 3 (Enc.int .i64) iv.val idx, slA 3 (Enc.int .i64) nv.val names, slA 84 Enc.slice av.val (A2.map Prod.fst), rows 134 Enc.u64 A2, slA 84 Enc.slice bv.val (B2.map Prod.fst), rows 134 Enc.u64 B2, slA 22 Enc.slice lv.val (L1.map Prod.fst), slA 4 Enc.bool tv.val (List.replicate b true ++ List.replicate (F.blocks.length - b) false), slA 3 Enc.nat kv.val (List.range b)]) ent.gn ?_
            exact (rows_out gl _).trans ent.gn
          refine WP.seq ?_
          refine WP.block ?_
          refine Zp ?_
          refine Zx sl_22 hbto ?_
          refine Zr ag_3 (SlR.cell0 hbto gc rfl) ?_
          refine Zm ?_
          refine Ze ?_
          refine Zc ?_
          iterate 4 refine Zm ?_
          refine Run.idxO 7 rfl rfl rfl sl_30 rfl rfl rfl rfl (by omega) (by simp; omega) ?_
          refine Run.loadO 7 c.toNat 0 rfl rfl ag_22 rfl rfl rfl rfl gls rfl ?_
          refine Zm ?_
          refine Run.buildSlice (E := Enc.nat) rfl sl_22 zr_3 ([b]) rfl rfl rfl (by decide) rfl rfl ?_
          intro b82
          refine Run.append 8 rfl rfl rfl rfl rfl rfl sl_22 zr_3 rfl (src_own 12 rfl) (by first | omega | (simp <;> omega)) (by first | omega | (simp <;> omega)) ?_
          intro sv83 hv83
          refine Run.idxO 7 rfl rfl rfl sl_30 rfl rfl rfl rfl (by omega) (by simp; omega) ?_
          refine Run.storeO 7 c.toNat 0 (y' := sv83) rfl rfl rfl rfl ag_22 rfl rfl rfl rfl gls rfl rfl ?_
          refine Run.nil ?_
          refine blk_norm ?_; refine thn_next ?_
          refine Zc ?_
          refine Za ?_
          refine Zm ?_
          refine Run.nil ?_
          have e3 : (L1.map Prod.fst).set c.toNat sv83 = (L1.set c.toNat (sv83, l ++ [b])).map Prod.fst := by rw [List.map_set]
          refine thn_next ⟨(j + 1, L1.set c.toNat (sv83, l ++ [b])), ⟨by simp only; omega, by simp [hL1], by simp only; rw [map_snd_set]; exact hld1.step gb gc gll⟩, by simp only; omega, ⟨(by repeat first | exact trivial | refine ⟨rfl, ?_⟩), rfl, rfl⟩, ?_⟩
          simp only
          rw [← e3]
          refine ent.trans (Δ := slA 3 Enc.nat sv83.val (l ++ [b]) :: rowsBut 3 Enc.nat c.toNat L1 :: [blk b27 [.pointer (some pF), iv.val, nv.val, av.val, bv.val] 87, slA 3 (Enc.int .i64) iv.val idx, slA 3 (Enc.int .i64) nv.val names, slA 84 Enc.slice av.val (A2.map Prod.fst), rows 134 Enc.u64 A2, slA 84 Enc.slice bv.val (B2.map Prod.fst), rows 134 Enc.u64 B2, slA 22 Enc.slice lv.val ((L1.map Prod.fst).set c.toNat sv83), slA 4 Enc.bool tv.val (List.replicate b true ++ List.replicate (F.blocks.length - b) false), slA 3 Enc.nat kv.val (List.range b)]) ent.gn ?_
          exact (rows_in (p := L1) (i := c.toNat) (by omega) _).trans ent.gn
        · refine Zj ?_
          have e : j = bk.to.length := by omega
          subst e
          exact thn_next ⟨L1, ⟨hL1, hld1⟩, ⟨(by repeat first | exact trivial | refine ⟨rfl, ?_⟩), rfl, rfl⟩, ent.gn⟩
      rintro L1 ⟨hL1, hld1⟩
      have hrl : (List.range b).length = b := by simp
      have h1l : [b].length = 1 := rfl
      refine Zp ?_
      refine Zm ?_
      refine Zm ?_
      refine Run.buildSlice (E := Enc.nat) rfl sl_22 zr_3 ([b]) rfl rfl rfl (by decide) rfl rfl ?_
      intro b88
      refine Run.append 10 rfl rfl rfl rfl rfl rfl sl_22 zr_3 rfl (src_own 11 rfl) (by first | omega | (simp <;> omega)) (by first | omega | (simp <;> omega)) ?_
      intro sv89 hv89
      refine Zm ?_
      refine Ze ?_
      have gT : (List.replicate b true ++ List.replicate (F.blocks.length - b) false)[b]? = some false := by rw [List.getElem?_append_right (by simp), List.length_replicate, Nat.sub_self, List.getElem?_replicate, if_pos (by omega)]
      have hTl : (List.replicate b true ++ List.replicate (F.blocks.length - b) false).length = F.blocks.length := by simp; omega
      refine Zc ?_
      refine Zm ?_
      refine Zm ?_
      refine Run.idxO 9 rfl rfl rfl sl_92 rfl rfl rfl rfl (by omega) (by rw [hTl]; omega) ?_
      refine Run.storeO 9 b 0 (y' := true) rfl rfl rfl rfl ag_4 rfl rfl rfl rfl gT rfl rfl ?_
      refine Run.nil ?_
      refine blk_norm ?_; refine thn_next ?_
      refine Zc ?_
      refine Za ?_
      refine Zm ?_
      refine Run.nil ?_
      have eT : (List.replicate b true ++ List.replicate (F.blocks.length - b) false).set b true = List.replicate (b + 1) true ++ List.replicate (F.blocks.length - (b + 1)) false := by
        have : F.blocks.length - b = (F.blocks.length - (b + 1)) + 1 := by omega
        rw [List.set_append_right _ _ (by simp), this, List.replicate_succ, List.replicate_succ']; simp
      refine thn_next ⟨(b + 1, A2, B2, L1, sv89), ⟨by simp only; omega, hA2, hB2, hL1, hfA2, hfB2, hld1.turn gb hts⟩, by simp only; omega, ⟨(by repeat first | exact trivial | refine ⟨rfl, ?_⟩), rfl, rfl⟩, ?_⟩
      simp only
      rw [← eT, List.range_succ]
      exact ent.gn
    · refine Zj ?_
      have e : b = F.blocks.length := by omega
      subst e
      exact thn_next ⟨(A, B, L, kv), ⟨hA, hB, hL, hfA, hfB, hld⟩, ⟨(by repeat first | exact trivial | refine ⟨rfl, ?_⟩), rfl, rfl⟩, by simp only [Nat.sub_self, List.replicate_zero, List.append_nil]; exact ent.gn⟩
  rintro ⟨A, B, L, kv⟩ ⟨hA, hB, hL, hfA, hfB, hld⟩
  simp only at hA hB hL hfA hfB hld ⊢
  have eA : A.map Prod.snd = List.replicate F.blocks.length (List.replicate m 0#64) := by rw [← hA] at hfA ⊢; exact fillA_all hfA
  have eB : B.map Prod.snd = List.replicate F.blocks.length (List.replicate m 0#64) := by rw [← hB] at hfB ⊢; exact fillA_all hfB
  have hFI : FI F idx names m (A.map Prod.snd) (B.map Prod.snd) (List.replicate F.blocks.length true) (List.range F.blocks.length) O0 := by rw [eA, eB]; exact FI.new F idx names m
  have hlead : ∀ (c : Nat) (l : List Nat), (L.map Prod.snd)[c]? = some l → l.length ≤ 1000001000000 ∧ ∀ p, p ∈ l ↔ ∃ bk c', F.blocks[p]? = some bk ∧ c' ∈ bk.to ∧ c'.toNat = c := fun c l hl => by
    obtain ⟨h1, h2⟩ := hld.2 c l hl
    refine ⟨by omega, fun p => ?_⟩
    rw [h2]
    constructor
    · rintro (⟨_, h⟩ | ⟨_, _, _, _, h, _⟩)
      · exact h
      · simp at h
    · rintro ⟨bk, c', h3, h4⟩
      exact .inl ⟨(List.getElem?_eq_some_iff.1 h3).1, bk, c', h3, h4⟩
  clear hfA hfB hld eA eB hA hB
  generalize List.replicate F.blocks.length true = T at hFI ⊢
  generalize List.range F.blocks.length = K at hFI ⊢
  refine Zp ?_
  refine Zm ?_
  refine Run.makeSlice (E := Enc.u64) (0#64) rfl rfl rfl sl_84 zr_134 rfl rfl rfl (by first | omega | (simp <;> omega)) (by first | omega | (simp <;> omega)) (by first | omega | (simp <;> omega)) (by first | omega | (simp <;> omega)) ?_
  intro b95
  refine Zm ?_
  refine Ze ?_
  obtain ⟨sc, hsc⟩ : ∃ sv : SV, sv.val = .slice (some ⟨b95, 0, none⟩) m m := ⟨⟨some ⟨b95, 0, none⟩, m, m⟩, rfl⟩
  refine WP.sup (ρ' := [(4, .pointer (some ⟨b27, 0, none⟩)), (6, lv.val), (7, tv.val), (8, kv.val), (12, sc.val)]) (Γ' := [blk b27 [.pointer (some pF), iv.val, nv.val, av.val, bv.val] 87, slA 3 (Enc.int .i64) iv.val idx, slA 3 (Enc.int .i64) nv.val names, slA 84 Enc.slice av.val (A.map Prod.fst), rows 134 Enc.u64 A, slA 84 Enc.slice bv.val (B.map Prod.fst), rows 134 Enc.u64 B, slA 22 Enc.slice lv.val (L.map Prod.fst), rows 3 Enc.nat L, slA 4 Enc.bool tv.val T, slA 3 Enc.nat kv.val K, slA 134 Enc.u64 sc.val (List.replicate m 0#64)]) (covers_get ⟨rfl, rfl, rfl, rfl, hsc.symm ▸ rfl, trivial⟩) (by rw [hsc]; exact ent.gn) ?_
  clear hsc
  refine WP.meetK (α := List (SV × Ws) × List (SV × Ws) × List Bool × SV) (fun z => FI F idx names m (z.1.map Prod.snd) (z.2.1.map Prod.snd) z.2.2.1 [] O0) (fun z => [(8, z.2.2.2.val)]) (fun z => [blk b27 [.pointer (some pF), iv.val, nv.val, av.val, bv.val] 87, slA 3 (Enc.int .i64) iv.val idx, slA 3 (Enc.int .i64) nv.val names, slA 84 Enc.slice av.val (z.1.map Prod.fst), rows 134 Enc.u64 z.1, slA 84 Enc.slice bv.val (z.2.1.map Prod.fst), rows 134 Enc.u64 z.2.1]) ?_ ?_
  · refine WP.block ?_
    refine WP.loopK (α := List (SV × Ws) × List (SV × Ws) × List Bool × SV × List Nat × Ws) (fun z => z.2.2.2.2.2.length = m ∧ FI F idx names m (z.1.map Prod.snd) (z.2.1.map Prod.snd) z.2.2.1 z.2.2.2.2.1 O0) (fun z => [(8, z.2.2.2.1.val)]) (fun z => [blk b27 [.pointer (some pF), iv.val, nv.val, av.val, bv.val] 87, slA 3 (Enc.int .i64) iv.val idx, slA 3 (Enc.int .i64) nv.val names, slA 84 Enc.slice av.val (z.1.map Prod.fst), rows 134 Enc.u64 z.1, slA 84 Enc.slice bv.val (z.2.1.map Prod.fst), rows 134 Enc.u64 z.2.1, slA 22 Enc.slice lv.val (L.map Prod.fst), rows 3 Enc.nat L, slA 4 Enc.bool tv.val z.2.2.1, slA 3 Enc.nat z.2.2.2.1.val z.2.2.2.2.1, slA 134 Enc.u64 sc.val z.2.2.2.2.2]) (fun z => totM (z.2.1.map Prod.snd) + z.2.2.2.2.1.length) (A, B, T, kv, K, List.replicate m 0#64) ⟨by simp, hFI⟩ ⟨(by repeat first | exact trivial | refine ⟨rfl, ?_⟩), rfl, rfl⟩ ent.gn ?_
    clear hFI A B T K
    rintro ⟨A, B, T, kz, K, W⟩ ⟨hW, H⟩
    simp only at hW H ⊢
    refine WP.seq ?_
    refine Zp ?_
    refine Zm ?_
    refine Run.lenO 10 rfl rfl sl_22 rfl rfl rfl ?_
    refine Zi ?_
    refine Ze ?_
    refine WP.ite rfl (fun hp => ?_) (fun hp => ?_)
    · refine Zb ?_
      obtain ⟨K', b, rfl⟩ : ∃ K' b, K = K' ++ [b] := by
        rcases List.eq_nil_or_concat K with e | ⟨K', b, e⟩
        · subst e; simp at hp
        · exact ⟨K', b, by simpa using e⟩
      have hTb : T[b]? = some true := (H.kt b).1 (by simp)
      have hbn : b < F.blocks.length := by have := (List.getElem?_eq_some_iff.1 hTb).1; rw [H.lt] at this; exact this
      have hKl := H.klen
      simp only [List.length_append, List.length_cons, List.length_nil] at hKl
      obtain ⟨bk, gb⟩ : ∃ y, F.blocks[b]? = some y := ⟨_, List.getElem?_eq_getElem hbn⟩
      have hAl : A.length = F.blocks.length := by have := H.la; simpa using this
      have hBl : B.length = F.blocks.length := by have := H.lb; simpa using this
      obtain ⟨⟨sa, a⟩, ga⟩ : ∃ y, A[b]? = some y := ⟨_, List.getElem?_eq_getElem (by omega)⟩
      obtain ⟨⟨sw, w⟩, gw⟩ : ∃ y, B[b]? = some y := ⟨_, List.getElem?_eq_getElem (by omega)⟩
      obtain ⟨⟨ls, lb⟩, gl⟩ : ∃ y, L[b]? = some y := ⟨_, List.getElem?_eq_getElem (by omega)⟩
      have ga1 : (A.map Prod.fst)[b]? = some sa := by rw [List.getElem?_map, ga]; rfl
      have ga2 : (A.map Prod.snd)[b]? = some a := by rw [List.getElem?_map, ga]; rfl
      have gw1 : (B.map Prod.fst)[b]? = some sw := by rw [List.getElem?_map, gw]; rfl
      have gw2 : (B.map Prod.snd)[b]? = some w := by rw [List.getElem?_map, gw]; rfl
      have gl1 : (L.map Prod.fst)[b]? = some ls := by rw [List.getElem?_map, gl]; rfl
      have gl2 : (L.map Prod.snd)[b]? = some lb := by rw [List.getElem?_map, gl]; rfl
      have hwm : w.length = m := H.rb w (List.mem_of_getElem? gw2)
      have ham : a.length = m := H.ra a (List.mem_of_getElem? ga2)
      obtain ⟨hlbl, hlbm⟩ := hlead b lb gl2
      have H1 := H.pop hI hG hszm gb ga2 gw2
      have gk : (K' ++ [b])[K'.length]? = some b := by simp
      have hlk : (K' ++ [b]).length = K'.length + 1 := by simp
      have h1l : [b].length = 1 := rfl
      refine WP.block ?_
      refine Zp ?_
      refine Zm ?_
      refine Zm ?_
      refine Run.lenO 10 rfl rfl sl_22 rfl rfl rfl ?_
      refine Zs ?_
      refine Run.eqv (v' := .int .i64 (K'.length : Int)) (by rw [hlk]; congr 1; omega) ?_
      refine Run.idxO 10 rfl rfl rfl sl_22 rfl rfl rfl rfl (by omega) (by omega) ?_
      refine Run.loadO 10 K'.length 0 rfl rfl ag_3 rfl rfl rfl rfl gk rfl ?_
      refine Zm ?_
      refine Ze ?_
      refine Zp ?_
      refine Zm ?_
      refine Zm ?_
      refine Run.lenO 10 rfl rfl sl_22 rfl rfl rfl ?_
      refine Zs ?_
      refine Run.eqv (v' := .int .i64 (K'.length : Int)) (by rw [hlk]; congr 1; omega) ?_
      refine Run.sliceO 10 rfl rfl rfl sl_22 rfl rfl rfl rfl (by omega) (by omega) (by omega) ?_
      refine Zm ?_
      refine Ze ?_
      obtain ⟨kv2, hkv2⟩ : ∃ kv2 : SV, kv2.val = cutV kz.val Enc.nat.sz (0 : Int).toNat (K'.length : Int).toNat := ⟨kz.cut 1 0 K'.length, rfl⟩
      have eK : ((K' ++ [b]).take (K'.length : Int).toNat).drop (0 : Int).toNat = K' := by simp
      refine WP.sup (ρ' := [(8, kv2.val), (13, .int .i64 (b : Int)), (4, .pointer (some ⟨b27, 0, none⟩)), (6, lv.val), (7, tv.val), (8, kv.val), (12, sc.val)]) (Γ' := [blk b27 [.pointer (some pF), iv.val, nv.val, av.val, bv.val] 87, slA 3 (Enc.int .i64) iv.val idx, slA 3 (Enc.int .i64) nv.val names, slA 84 Enc.slice av.val (A.map Prod.fst), rows 134 Enc.u64 A, slA 84 Enc.slice bv.val (B.map Prod.fst), rows 134 Enc.u64 B, slA 22 Enc.slice lv.val (L.map Prod.fst), rows 3 Enc.nat L, slA 4 Enc.bool tv.val T, slA 3 Enc.nat kv2.val K', slA 134 Enc.u64 sc.val W]) (by rw [hkv2]; exact Kp.sup (car := [(8, cutV kz.val Enc.nat.sz (0 : Int).toNat (K'.length : Int).toNat), (13, .int .i64 (b : Int))]) (ρ := [(4, .pointer (some ⟨b27, 0, none⟩)), (6, lv.val), (7, tv.val), (8, kv.val), (12, sc.val)]) ⟨(by repeat first | exact trivial | refine ⟨rfl, ?_⟩), rfl, rfl⟩) (by rw [hkv2]; simp only [Int.toNat_natCast, List.take_left, List.drop_zero]; exact ent.gn) ?_
      clear hkv2 eK
      refine Zp ?_
      refine Zm ?_
      refine Zm ?_
      refine Run.idxO 9 rfl rfl rfl sl_92 rfl rfl rfl rfl (by omega) (by rw [H.lt]; omega) ?_
      refine Run.storeO 9 b 0 (y' := false) rfl rfl rfl rfl ag_4 rfl rfl rfl rfl hTb rfl rfl ?_
      refine Ze ?_
      refine Zp ?_
      refine Zm ?_
      refine Zm ?_
      refine Zn ?_
      refine Zf fo_87_4 ?_
      refine Zl 0 ag_85 ?_
      refine Zm ?_
      refine Run.idxO 5 rfl rfl rfl sl_85 rfl rfl rfl rfl (by omega) (by simp; omega) ?_
      refine Run.loadO 5 b 0 rfl rfl ag_84 rfl rfl rfl rfl gw1 rfl ?_
      refine Run.copyO 11 rfl rfl rfl rfl rfl rfl sl_84 (src_rows 6 rfl gw) (by rw [hwm, hW]) ?_
      refine Ze ?_
      refine Zp ?_
      iterate 3 refine Zm ?_
      refine Run.callLend (Δ := [slA 134 Enc.u64 sc.val w]) (Θ := [blk b27 [.pointer (some pF), iv.val, nv.val, av.val, bv.val] 87, slA 3 (Enc.int .i64) iv.val idx]) (Ξ := [slA 3 (Enc.int .i64) nv.val names, slA 84 Enc.slice av.val (A.map Prod.fst), rows 134 Enc.u64 A, slA 84 Enc.slice bv.val (B.map Prod.fst), rows 134 Enc.u64 B, slA 22 Enc.slice lv.val (L.map Prod.fst), rows 3 Enc.nat L, slA 4 Enc.bool tv.val (T.set b false), slA 3 Enc.nat kv2.val K']) rfl rfl rfl rfl ok_63 rfl rfl ent.gn (fun g hg hd => through_ok (un hR g) ⟨b27, 0, none⟩ pF F u v iv sc idx w b bk (hF.mono (sub_un_left hR g)) hS hG ⟨lent_blk 0 0 rfl rfl hg hd, lent_blk 0 1 rfl rfl hg hd, lent_at 1 rfl hg hd, fun i hi => by have := (hI.le i hi).2; rw [hwm]; omega, by omega⟩ hin gb) ?_; rintro _ _ rfl
      refine Ze ?_
      have hsl : (thruW idx bk w).length = m := by rw [thruW_len, hwm]
      generalize thruW idx bk w = s at H1 hsl ⊢
      refine WP.via (Γ' := [blk b27 [.pointer (some pF), iv.val, nv.val, av.val, bv.val] 87, slA 3 (Enc.int .i64) iv.val idx, slA 3 (Enc.int .i64) nv.val names, slA 84 Enc.slice av.val (A.map Prod.fst), slA 134 Enc.u64 sa.val a, rowsBut 134 Enc.u64 b A, slA 84 Enc.slice bv.val (B.map Prod.fst), rows 134 Enc.u64 B, slA 22 Enc.slice lv.val (L.map Prod.fst), slA 3 Enc.nat ls.val lb, rowsBut 3 Enc.nat b L, slA 4 Enc.bool tv.val (T.set b false), slA 3 Enc.nat kv2.val K', slA 134 Enc.u64 sc.val s]) ?_ ?_
      · refine ent.trans (Δ := rows 134 Enc.u64 A :: rows 3 Enc.nat L :: [blk b27 [.pointer (some pF), iv.val, nv.val, av.val, bv.val] 87, slA 3 (Enc.int .i64) iv.val idx, slA 3 (Enc.int .i64) nv.val names, slA 84 Enc.slice av.val (A.map Prod.fst), slA 84 Enc.slice bv.val (B.map Prod.fst), rows 134 Enc.u64 B, slA 22 Enc.slice lv.val (L.map Prod.fst), slA 4 Enc.bool tv.val (T.set b false), slA 3 Enc.nat kv2.val K', slA 134 Enc.u64 sc.val s]) ent.gn ?_
        refine (rows_out ga _).trans ?_
        refine ent.trans (Δ := rows 3 Enc.nat L :: slA 134 Enc.u64 sa.val a :: rowsBut 134 Enc.u64 b A :: [blk b27 [.pointer (some pF), iv.val, nv.val, av.val, bv.val] 87, slA 3 (Enc.int .i64) iv.val idx, slA 3 (Enc.int .i64) nv.val names, slA 84 Enc.slice av.val (A.map Prod.fst), slA 84 Enc.slice bv.val (B.map Prod.fst), rows 134 Enc.u64 B, slA 22 Enc.slice lv.val (L.map Prod.fst), slA 4 Enc.bool tv.val (T.set b false), slA 3 Enc.nat kv2.val K', slA 134 Enc.u64 sc.val s]) ent.gn ?_
        exact (rows_out gl _).trans ent.gn
      have hjl : (joinW a s).length = m := by rw [joinW_len (by rw [ham, hsl]), ham]
      have eA1 : (A.set b (sa, joinW a s)).map Prod.fst = A.map Prod.fst := map_fst_set ga
      refine WP.seq ?_
      refine Zp ?_
      refine Zm ?_
      refine Zn ?_
      refine Zf fo_87_3 ?_
      refine Zl 0 ag_85 ?_
      refine Zm ?_
      refine Run.idxO 3 rfl rfl rfl sl_85 rfl rfl rfl rfl (by omega) (by simp; omega) ?_
      refine Run.loadO 3 b 0 rfl rfl ag_84 rfl rfl rfl rfl ga1 rfl ?_
      refine Zm ?_
      refine Run.callLend (Δ := [slA 134 Enc.u64 sa.val a]) (Θ := [slA 134 Enc.u64 sc.val s]) (Ξ := [blk b27 [.pointer (some pF), iv.val, nv.val, av.val, bv.val] 87, slA 3 (Enc.int .i64) iv.val idx, slA 3 (Enc.int .i64) nv.val names, slA 84 Enc.slice av.val (A.map Prod.fst), rowsBut 134 Enc.u64 b A, slA 84 Enc.slice bv.val (B.map Prod.fst), rows 134 Enc.u64 B, slA 22 Enc.slice lv.val (L.map Prod.fst), slA 3 Enc.nat ls.val lb, rowsBut 3 Enc.nat b L, slA 4 Enc.bool tv.val (T.set b false), slA 3 Enc.nat kv2.val K']) rfl rfl rfl rfl ok_64 rfl rfl ent.gn (fun g hg hd => join_ok (un hR g) sa a s sc.val (lent_at 0 rfl hg hd) (by rw [ham, hsl]) (by omega)) ?_; rintro _ _ ⟨rfl, rfl⟩
      refine Run.bnot rfl rfl rfl rfl ?_
      refine Ze ?_
      refine WP.ite rfl (fun hsame => ?_) (fun hdiff => ?_)
      · have hsm : joinW a s = a := Classical.not_not.1 hsame
        refine WP.exit ?_; refine thn_exit ?_; refine blk_hit ?_
        refine thn_next ⟨(A, B, T.set b false, kv2, K', s), ⟨hsl, ?_⟩, by simp only; omega, ⟨(by repeat first | exact trivial | refine ⟨rfl, ?_⟩), rfl, rfl⟩, ?_⟩
        · have H2 := H1.mono (O' := O0) fun p blk c _ _ h => h.2 hsm
          rw [hsm, set_same ga2] at H2
          exact H2
        · simp only
          rw [hsm]
          refine ent.trans (Δ := slA 134 Enc.u64 sa.val a :: rowsBut 134 Enc.u64 b A :: slA 3 Enc.nat ls.val lb :: rowsBut 3 Enc.nat b L :: [blk b27 [.pointer (some pF), iv.val, nv.val, av.val, bv.val] 87, slA 3 (Enc.int .i64) iv.val idx, slA 3 (Enc.int .i64) nv.val names, slA 84 Enc.slice av.val (A.map Prod.fst), slA 84 Enc.slice bv.val (B.map Prod.fst), rows 134 Enc.u64 B, slA 22 Enc.slice lv.val (L.map Prod.fst), slA 4 Enc.bool tv.val (T.set b false), slA 3 Enc.nat kv2.val K', slA 134 Enc.u64 sc.val s]) ent.gn ?_
          refine (rows_in (p := A) (i := b) (by omega) _).trans ?_
          rw [set_same ga]
          refine ent.trans (Δ := slA 3 Enc.nat ls.val lb :: rowsBut 3 Enc.nat b L :: rows 134 Enc.u64 A :: [blk b27 [.pointer (some pF), iv.val, nv.val, av.val, bv.val] 87, slA 3 (Enc.int .i64) iv.val idx, slA 3 (Enc.int .i64) nv.val names, slA 84 Enc.slice av.val (A.map Prod.fst), slA 84 Enc.slice bv.val (B.map Prod.fst), rows 134 Enc.u64 B, slA 22 Enc.slice lv.val (L.map Prod.fst), slA 4 Enc.bool tv.val (T.set b false), slA 3 Enc.nat kv2.val K', slA 134 Enc.u64 sc.val s]) ent.gn ?_
          refine (rows_in (p := L) (i := b) (by omega) _).trans ?_
          rw [set_same gl]
          exact ent.gn
      · refine Zb ?_
        have ha1 : ((A.map Prod.snd).set b (joinW a s))[b]? = some (joinW a s) := List.getElem?_set_self (by simp; omega)
        have H2 := H1.mono (O' := fun q c => c = b ∧ q ∉ lb.take 0) fun p blk c _ _ h => ⟨h.1, by simp⟩
        clear H1
        generalize joinW a s = a1 at H2 hjl ha1 ⊢
        generalize hAs : (A.map Prod.snd).set b a1 = As at H2 ha1
        refine Zp ?_
        refine Zm ?_
        refine Zm ?_
        refine Run.idxO 9 rfl rfl rfl sl_30 rfl rfl rfl rfl (by omega) (by simp; omega) ?_
        refine Run.loadO 9 b 0 rfl rfl ag_22 rfl rfl rfl rfl gl1 rfl ?_
        refine Run.lenO 10 rfl rfl sl_22 rfl rfl rfl ?_
        refine Zm ?_
        refine Ze ?_
        refine WP.sup (ρ' := [(141, .int .i64 (0 : Int)), (140, .int .i64 (lb.length : Int)), (139, ls.val), (13, .int .i64 (b : Int)), (8, kv2.val), (4, .pointer (some ⟨b27, 0, none⟩)), (6, lv.val), (7, tv.val), (8, kv.val), (12, sc.val)]) (Γ' := [blk b27 [.pointer (some pF), iv.val, nv.val, av.val, bv.val] 87, slA 3 (Enc.int .i64) iv.val idx, slA 3 (Enc.int .i64) nv.val names, slA 84 Enc.slice av.val (A.map Prod.fst), slA 134 Enc.u64 sa.val a1, rowsBut 134 Enc.u64 b A, slA 84 Enc.slice bv.val (B.map Prod.fst), rows 134 Enc.u64 B, slA 22 Enc.slice lv.val (L.map Prod.fst), slA 3 Enc.nat ls.val lb, rowsBut 3 Enc.nat b L, slA 4 Enc.bool tv.val (T.set b false), slA 3 Enc.nat kv2.val K', slA 134 Enc.u64 sc.val s]) (Kp.sup (car := [(141, .int .i64 (0 : Int)), (140, .int .i64 (lb.length : Int)), (139, ls.val), (13, .int .i64 (b : Int)), (8, kv2.val)]) (ρ := [(4, .pointer (some ⟨b27, 0, none⟩)), (6, lv.val), (7, tv.val), (8, kv.val), (12, sc.val)]) ⟨(by repeat first | exact trivial | refine ⟨rfl, ?_⟩), rfl, rfl⟩) ent.gn ?_
        refine WP.block ?_
        refine WP.loopK (α := Nat × List (SV × Ws) × List Bool × SV × List Nat) (fun z => z.1 ≤ lb.length ∧ FI F idx names m As (z.2.1.map Prod.snd) z.2.2.1 z.2.2.2.2 (fun q c => c = b ∧ q ∉ lb.take z.1) ∧ totM (z.2.1.map Prod.snd) + z.2.2.2.2.length ≤ totM (B.map Prod.snd) + K'.length) (fun z => [(8, z.2.2.2.1.val), (141, .int .i64 (z.1 : Int))]) (fun z => [blk b27 [.pointer (some pF), iv.val, nv.val, av.val, bv.val] 87, slA 3 (Enc.int .i64) iv.val idx, slA 3 (Enc.int .i64) nv.val names, slA 84 Enc.slice av.val (A.map Prod.fst), slA 134 Enc.u64 sa.val a1, rowsBut 134 Enc.u64 b A, slA 84 Enc.slice bv.val (z.2.1.map Prod.fst), rows 134 Enc.u64 z.2.1, slA 22 Enc.slice lv.val (L.map Prod.fst), slA 3 Enc.nat ls.val lb, rowsBut 3 Enc.nat b L, slA 4 Enc.bool tv.val z.2.2.1, slA 3 Enc.nat z.2.2.2.1.val z.2.2.2.2, slA 134 Enc.u64 sc.val s]) (fun z => lb.length - z.1) (0, B, T.set b false, kv2, K') ⟨Nat.zero_le _, H2, Nat.le_refl _⟩ ⟨(by repeat first | exact trivial | refine ⟨rfl, ?_⟩), rfl, rfl⟩ ent.gn ?_
        rintro ⟨i, B1, T1, kv3, K1⟩ ⟨hi, H3, hMM⟩
        simp only at hi H3 hMM ⊢
        refine Zp ?_
        refine Zi ?_
        refine Ze ?_
        refine WP.seq ?_
        refine WP.ite rfl (fun hlt => ?_) (fun hge => ?_)
        · refine Zb ?_
          obtain ⟨p, gp⟩ : ∃ y, lb[i]? = some y := ⟨_, List.getElem?_eq_getElem (by omega)⟩
          have htk : lb.take (i + 1) = lb.take i ++ [p] := by rw [List.take_add_one, gp]; rfl
          obtain ⟨bp, cp, gbp, hcp, hcb⟩ := (hlbm p).1 (List.mem_of_getElem? gp)
          have hpn : p < F.blocks.length := (List.getElem?_eq_some_iff.1 gbp).1
          have hB1l : B1.length = F.blocks.length := by have := H3.lb; simpa using this
          have hK1 := H3.klen
          obtain ⟨⟨sp, wp⟩, gwp⟩ : ∃ y, B1[p]? = some y := ⟨_, List.getElem?_eq_getElem (by omega)⟩
          have gwp1 : (B1.map Prod.fst)[p]? = some sp := by rw [List.getElem?_map, gwp]; rfl
          have gwp2 : (B1.map Prod.snd)[p]? = some wp := by rw [List.getElem?_map, gwp]; rfl
          have hwpm : wp.length = m := H3.rb wp (List.mem_of_getElem? gwp2)
          obtain ⟨tp, gtp⟩ : ∃ y, T1[p]? = some y := ⟨_, List.getElem?_eq_getElem (by rw [H3.lt]; omega)⟩
          obtain ⟨t1, t2, t3⟩ := H3.tell gbp hcp hcb ha1 gwp2
          have hO : ∀ (q : Nat) (blk : LBlk) (c : Int), F.blocks[q]? = some blk → c ∈ blk.to → ((c.toNat = b ∧ q ∉ lb.take i) ∧ ¬ (q = p ∧ c.toNat = b)) → (c.toNat = b ∧ q ∉ lb.take (i + 1)) := fun q blk c _ _ h => ⟨h.1.1, by rw [htk, List.mem_append, List.mem_singleton]; exact fun h2 => h2.elim h.1.2 fun e => h.2 ⟨e, h.1.1⟩⟩
          have hjm := rowM_join wp a1 (by rw [hwpm, hjl])
          have htot := totM_set (x := joinW wp a1) gwp2
          have eB1 : (B1.set p (sp, joinW wp a1)).map Prod.fst = B1.map Prod.fst := map_fst_set gwp
          refine WP.seq ?_
          refine WP.block ?_
          refine Zp ?_
          refine Run.idxO 9 rfl rfl rfl sl_22 rfl rfl rfl rfl (by omega) (by omega) ?_
          refine Run.loadO 9 i 0 rfl rfl ag_3 rfl rfl rfl rfl gp rfl ?_
          refine Zm ?_
          refine Ze ?_
          refine WP.sup (ρ' := [(15, .int .i64 (p : Int)), (8, kv3.val), (141, .int .i64 (i : Int)), (141, .int .i64 (0 : Int)), (140, .int .i64 (lb.length : Int)), (139, ls.val), (13, .int .i64 (b : Int)), (8, kv2.val), (4, .pointer (some ⟨b27, 0, none⟩)), (6, lv.val), (7, tv.val), (8, kv.val), (12, sc.val)]) (Γ' := [blk b27 [.pointer (some pF), iv.val, nv.val, av.val, bv.val] 87, slA 3 (Enc.int .i64) iv.val idx, slA 3 (Enc.int .i64) nv.val names, slA 84 Enc.slice av.val (A.map Prod.fst), slA 134 Enc.u64 sa.val a1, rowsBut 134 Enc.u64 b A, slA 84 Enc.slice bv.val (B1.map Prod.fst), slA 134 Enc.u64 sp.val wp, rowsBut 134 Enc.u64 p B1, slA 22 Enc.slice lv.val (L.map Prod.fst), slA 3 Enc.nat ls.val lb, rowsBut 3 Enc.nat b L, slA 4 Enc.bool tv.val T1, slA 3 Enc.nat kv3.val K1, slA 134 Enc.u64 sc.val s]) (Kp.sup (car := [(15, .int .i64 (p : Int)), (8, kv3.val), (141, .int .i64 (i : Int))]) (ρ := [(141, .int .i64 (0 : Int)), (140, .int .i64 (lb.length : Int)), (139, ls.val), (13, .int .i64 (b : Int)), (8, kv2.val), (4, .pointer (some ⟨b27, 0, none⟩)), (6, lv.val), (7, tv.val), (8, kv.val), (12, sc.val)]) ⟨(by repeat first | exact trivial | refine ⟨rfl, ?_⟩), rfl, rfl⟩) ?_ ?_
          · refine ent.trans (Δ := rows 134 Enc.u64 B1 :: [blk b27 [.pointer (some pF), iv.val, nv.val, av.val, bv.val] 87, slA 3 (Enc.int .i64) iv.val idx, slA 3 (Enc.int .i64) nv.val names, slA 84 Enc.slice av.val (A.map Prod.fst), slA 134 Enc.u64 sa.val a1, rowsBut 134 Enc.u64 b A, slA 84 Enc.slice bv.val (B1.map Prod.fst), slA 22 Enc.slice lv.val (L.map Prod.fst), slA 3 Enc.nat ls.val lb, rowsBut 3 Enc.nat b L, slA 4 Enc.bool tv.val T1, slA 3 Enc.nat kv3.val K1, slA 134 Enc.u64 sc.val s]) ent.gn ?_
            exact (rows_out gwp _).trans ent.gn
          by_cases hch : joinW wp a1 ≠ wp
          · have hlt2 := hjm.2 hch
            cases tp with
            | false =>
              refine WP.seq ?_
              refine WP.drawn0 cf0 mixed rfl (by kernel_rfl) ?_
              refine Zm ?_
              refine Zn ?_
              refine Zf fo_87_4 ?_
              refine Zl 0 ag_85 ?_
              refine Zm ?_
              refine Run.idxO 6 rfl rfl rfl sl_85 rfl rfl rfl rfl (by omega) (by simp; omega) ?_
              refine Run.loadO 6 p 0 rfl rfl ag_84 rfl rfl rfl rfl gwp1 rfl ?_
              refine Zm ?_
              refine Zn ?_
              refine Zf fo_87_3 ?_
              refine Zl 0 ag_85 ?_
              refine Zm ?_
              refine Run.idxO 3 rfl rfl rfl sl_85 rfl rfl rfl rfl (by omega) (by simp; omega) ?_
              refine Run.loadO 3 b 0 rfl rfl ag_84 rfl rfl rfl rfl ga1 rfl ?_
              refine Run.callLend (Δ := [slA 134 Enc.u64 sp.val wp]) (Θ := [slA 134 Enc.u64 sa.val a1]) (Ξ := [blk b27 [.pointer (some pF), iv.val, nv.val, av.val, bv.val] 87, slA 3 (Enc.int .i64) iv.val idx, slA 3 (Enc.int .i64) nv.val names, slA 84 Enc.slice av.val (A.map Prod.fst), rowsBut 134 Enc.u64 b A, slA 84 Enc.slice bv.val (B1.map Prod.fst), rowsBut 134 Enc.u64 p B1, slA 22 Enc.slice lv.val (L.map Prod.fst), slA 3 Enc.nat ls.val lb, rowsBut 3 Enc.nat b L, slA 4 Enc.bool tv.val T1, slA 3 Enc.nat kv3.val K1, slA 134 Enc.u64 sc.val s]) rfl rfl rfl rfl ok_64 rfl rfl ent.gn (fun g hg hd => join_ok (un hR g) sp wp a1 sa.val (lent_at 0 rfl hg hd) (by rw [hwpm, hjl]) (by omega)) ?_; rintro _ _ ⟨rfl, rfl⟩; refine Run.tt hch ?_
              iterate 3 refine Zm ?_
              refine Run.idxO 12 rfl rfl rfl sl_92 rfl rfl rfl rfl (by omega) (by rw [H3.lt]; omega) ?_
              refine Run.loadO 12 p 0 rfl rfl ag_4 rfl rfl rfl rfl gtp rfl ?_
              refine Run.bnotB rfl rfl rfl rfl ?_
              refine Zq ?_
              refine Ze ?_
              refine Zyes ?_
              refine Zp ?_
              refine Zm ?_
              refine Zm ?_
              refine Run.idxO 12 rfl rfl rfl sl_92 rfl rfl rfl rfl (by omega) (by rw [H3.lt]; omega) ?_
              refine Run.storeO 12 p 0 (y' := true) rfl rfl rfl rfl ag_4 rfl rfl rfl rfl gtp rfl rfl ?_
              refine Ze ?_
              have h1p : [p].length = 1 := rfl
              refine Zc ?_
              refine Zm ?_
              refine Zm ?_
              refine Run.buildSlice (E := Enc.nat) rfl sl_22 zr_3 ([p]) rfl rfl rfl (by decide) rfl rfl ?_
              intro b172
              refine Run.append 13 rfl rfl rfl rfl rfl rfl sl_22 zr_3 rfl (src_own 15 rfl) (by first | omega | (simp <;> omega)) (by first | omega | (simp <;> omega)) ?_
              intro sv173 hv173
              refine Zm ?_
              refine Run.nil ?_
              refine blk_norm ?_; refine thn_next ?_
              refine Zc ?_
              refine Za ?_
              refine Zm ?_
              refine Run.nil ?_
              refine thn_next ⟨(i + 1, B1.set p (sp, joinW wp a1), T1.set p true, sv173, K1 ++ [p]), ⟨by simp only; omega, by simp only; rw [map_snd_set]; exact (t3 gtp).mono hO, by simp only [map_snd_set, List.length_append]; omega⟩, by simp only; omega, ⟨(by repeat first | exact trivial | refine ⟨rfl, ?_⟩), rfl, rfl⟩, ?_⟩
              simp only
              rw [eB1]
              refine ent.trans (Δ := slA 134 Enc.u64 sp.val (joinW wp a1) :: rowsBut 134 Enc.u64 p B1 :: [blk b27 [.pointer (some pF), iv.val, nv.val, av.val, bv.val] 87, slA 3 (Enc.int .i64) iv.val idx, slA 3 (Enc.int .i64) nv.val names, slA 84 Enc.slice av.val (A.map Prod.fst), slA 134 Enc.u64 sa.val a1, rowsBut 134 Enc.u64 b A, slA 84 Enc.slice bv.val (B1.map Prod.fst), slA 22 Enc.slice lv.val (L.map Prod.fst), slA 3 Enc.nat ls.val lb, rowsBut 3 Enc.nat b L, slA 4 Enc.bool tv.val (T1.set p true), slA 3 Enc.nat sv173.val (K1 ++ [p]), slA 134 Enc.u64 sc.val s]) ent.gn ?_
              exact (rows_in (p := B1) (i := p) (by omega) _).trans ent.gn
            | true =>
              refine WP.seq ?_
              refine WP.drawn0 cf0 mixed rfl (by kernel_rfl) ?_
              refine Zm ?_
              refine Zn ?_
              refine Zf fo_87_4 ?_
              refine Zl 0 ag_85 ?_
              refine Zm ?_
              refine Run.idxO 6 rfl rfl rfl sl_85 rfl rfl rfl rfl (by omega) (by simp; omega) ?_
              refine Run.loadO 6 p 0 rfl rfl ag_84 rfl rfl rfl rfl gwp1 rfl ?_
              refine Zm ?_
              refine Zn ?_
              refine Zf fo_87_3 ?_
              refine Zl 0 ag_85 ?_
              refine Zm ?_
              refine Run.idxO 3 rfl rfl rfl sl_85 rfl rfl rfl rfl (by omega) (by simp; omega) ?_
              refine Run.loadO 3 b 0 rfl rfl ag_84 rfl rfl rfl rfl ga1 rfl ?_
              refine Run.callLend (Δ := [slA 134 Enc.u64 sp.val wp]) (Θ := [slA 134 Enc.u64 sa.val a1]) (Ξ := [blk b27 [.pointer (some pF), iv.val, nv.val, av.val, bv.val] 87, slA 3 (Enc.int .i64) iv.val idx, slA 3 (Enc.int .i64) nv.val names, slA 84 Enc.slice av.val (A.map Prod.fst), rowsBut 134 Enc.u64 b A, slA 84 Enc.slice bv.val (B1.map Prod.fst), rowsBut 134 Enc.u64 p B1, slA 22 Enc.slice lv.val (L.map Prod.fst), slA 3 Enc.nat ls.val lb, rowsBut 3 Enc.nat b L, slA 4 Enc.bool tv.val T1, slA 3 Enc.nat kv3.val K1, slA 134 Enc.u64 sc.val s]) rfl rfl rfl rfl ok_64 rfl rfl ent.gn (fun g hg hd => join_ok (un hR g) sp wp a1 sa.val (lent_at 0 rfl hg hd) (by rw [hwpm, hjl]) (by omega)) ?_; rintro _ _ ⟨rfl, rfl⟩; refine Run.tt hch ?_
              iterate 3 refine Zm ?_
              refine Run.idxO 12 rfl rfl rfl sl_92 rfl rfl rfl rfl (by omega) (by rw [H3.lt]; omega) ?_
              refine Run.loadO 12 p 0 rfl rfl ag_4 rfl rfl rfl rfl gtp rfl ?_
              refine Run.bnotB rfl rfl rfl rfl ?_
              refine Zq ?_
              refine Ze ?_
              refine Zno ?_
              refine WP.skip ?_; refine blk_norm ?_; refine thn_next ?_
              refine Zc ?_
              refine Za ?_
              refine Zm ?_
              refine Run.nil ?_
              refine thn_next ⟨(i + 1, B1.set p (sp, joinW wp a1), T1, kv3, K1), ⟨by simp only; omega, by simp only; rw [map_snd_set]; exact (t2 gtp).mono hO, by simp only [map_snd_set]; omega⟩, by simp only; omega, ⟨(by repeat first | exact trivial | refine ⟨rfl, ?_⟩), rfl, rfl⟩, ?_⟩
              simp only
              rw [eB1]
              refine ent.trans (Δ := slA 134 Enc.u64 sp.val (joinW wp a1) :: rowsBut 134 Enc.u64 p B1 :: [blk b27 [.pointer (some pF), iv.val, nv.val, av.val, bv.val] 87, slA 3 (Enc.int .i64) iv.val idx, slA 3 (Enc.int .i64) nv.val names, slA 84 Enc.slice av.val (A.map Prod.fst), slA 134 Enc.u64 sa.val a1, rowsBut 134 Enc.u64 b A, slA 84 Enc.slice bv.val (B1.map Prod.fst), slA 22 Enc.slice lv.val (L.map Prod.fst), slA 3 Enc.nat ls.val lb, rowsBut 3 Enc.nat b L, slA 4 Enc.bool tv.val T1, slA 3 Enc.nat kv3.val K1, slA 134 Enc.u64 sc.val s]) ent.gn ?_
              exact (rows_in (p := B1) (i := p) (by omega) _).trans ent.gn
          · have hsm : joinW wp a1 = wp := Classical.not_not.1 hch
            refine WP.seq ?_
            refine WP.drawn0 cf0 mixed rfl (by kernel_rfl) ?_
            refine Zm ?_
            refine Zn ?_
            refine Zf fo_87_4 ?_
            refine Zl 0 ag_85 ?_
            refine Zm ?_
            refine Run.idxO 6 rfl rfl rfl sl_85 rfl rfl rfl rfl (by omega) (by simp; omega) ?_
            refine Run.loadO 6 p 0 rfl rfl ag_84 rfl rfl rfl rfl gwp1 rfl ?_
            refine Zm ?_
            refine Zn ?_
            refine Zf fo_87_3 ?_
            refine Zl 0 ag_85 ?_
            refine Zm ?_
            refine Run.idxO 3 rfl rfl rfl sl_85 rfl rfl rfl rfl (by omega) (by simp; omega) ?_
            refine Run.loadO 3 b 0 rfl rfl ag_84 rfl rfl rfl rfl ga1 rfl ?_
            refine Run.callLend (Δ := [slA 134 Enc.u64 sp.val wp]) (Θ := [slA 134 Enc.u64 sa.val a1]) (Ξ := [blk b27 [.pointer (some pF), iv.val, nv.val, av.val, bv.val] 87, slA 3 (Enc.int .i64) iv.val idx, slA 3 (Enc.int .i64) nv.val names, slA 84 Enc.slice av.val (A.map Prod.fst), rowsBut 134 Enc.u64 b A, slA 84 Enc.slice bv.val (B1.map Prod.fst), rowsBut 134 Enc.u64 p B1, slA 22 Enc.slice lv.val (L.map Prod.fst), slA 3 Enc.nat ls.val lb, rowsBut 3 Enc.nat b L, slA 4 Enc.bool tv.val T1, slA 3 Enc.nat kv3.val K1, slA 134 Enc.u64 sc.val s]) rfl rfl rfl rfl ok_64 rfl rfl ent.gn (fun g hg hd => join_ok (un hR g) sp wp a1 sa.val (lent_at 0 rfl hg hd) (by rw [hwpm, hjl]) (by omega)) ?_; rintro _ _ ⟨rfl, rfl⟩; refine Run.ff hch ?_
            refine Zm ?_
            iterate 5 refine Zv ?_
            refine Zq ?_
            refine Ze ?_
            refine Zno ?_
            refine WP.skip ?_; refine blk_norm ?_; refine thn_next ?_
            refine Zc ?_
            refine Za ?_
            refine Zm ?_
            refine Run.nil ?_
            refine thn_next ⟨(i + 1, B1, T1, kv3, K1), ⟨by simp only; omega, (t1 hsm).mono hO, hMM⟩, by simp only; omega, ⟨(by repeat first | exact trivial | refine ⟨rfl, ?_⟩), rfl, rfl⟩, ?_⟩
            simp only
            rw [hsm]
            refine ent.trans (Δ := slA 134 Enc.u64 sp.val wp :: rowsBut 134 Enc.u64 p B1 :: [blk b27 [.pointer (some pF), iv.val, nv.val, av.val, bv.val] 87, slA 3 (Enc.int .i64) iv.val idx, slA 3 (Enc.int .i64) nv.val names, slA 84 Enc.slice av.val (A.map Prod.fst), slA 134 Enc.u64 sa.val a1, rowsBut 134 Enc.u64 b A, slA 84 Enc.slice bv.val (B1.map Prod.fst), slA 22 Enc.slice lv.val (L.map Prod.fst), slA 3 Enc.nat ls.val lb, rowsBut 3 Enc.nat b L, slA 4 Enc.bool tv.val T1, slA 3 Enc.nat kv3.val K1, slA 134 Enc.u64 sc.val s]) ent.gn ?_
            refine (rows_in (p := B1) (i := p) (by omega) _).trans ?_
            rw [set_same gwp]
            exact ent.gn
        · refine Zj ?_; refine blk_norm ?_
          have e : i = lb.length := by omega
          subst e
          have H4 : FI F idx names m As (B1.map Prod.snd) T1 K1 O0 := H3.mono fun q blk c hq hc h => h.2 (by rw [List.take_length]; exact (hlbm q).2 ⟨blk, c, hq, hc, h.1⟩)
          have eA2 : (A.set b (sa, a1)).map Prod.fst = A.map Prod.fst := map_fst_set ga
          refine thn_next ⟨(A.set b (sa, a1), B1, T1, kv3, K1, s), ⟨hsl, by simp only; rw [map_snd_set, hAs]; exact H4⟩, by simp only [List.length_append, List.length_cons, List.length_nil]; omega, ⟨(by repeat first | exact trivial | refine ⟨rfl, ?_⟩), rfl, rfl⟩, ?_⟩
          simp only
          rw [eA2]
          refine ent.trans (Δ := slA 134 Enc.u64 sa.val a1 :: rowsBut 134 Enc.u64 b A :: slA 3 Enc.nat ls.val lb :: rowsBut 3 Enc.nat b L :: [blk b27 [.pointer (some pF), iv.val, nv.val, av.val, bv.val] 87, slA 3 (Enc.int .i64) iv.val idx, slA 3 (Enc.int .i64) nv.val names, slA 84 Enc.slice av.val (A.map Prod.fst), slA 84 Enc.slice bv.val (B1.map Prod.fst), rows 134 Enc.u64 B1, slA 22 Enc.slice lv.val (L.map Prod.fst), slA 4 Enc.bool tv.val T1, slA 3 Enc.nat kv3.val K1, slA 134 Enc.u64 sc.val s]) ent.gn ?_
          refine (rows_in (p := A) (i := b) (by omega) _).trans ?_
          refine ent.trans (Δ := slA 3 Enc.nat ls.val lb :: rowsBut 3 Enc.nat b L :: rows 134 Enc.u64 (A.set b (sa, a1)) :: [blk b27 [.pointer (some pF), iv.val, nv.val, av.val, bv.val] 87, slA 3 (Enc.int .i64) iv.val idx, slA 3 (Enc.int .i64) nv.val names, slA 84 Enc.slice av.val (A.map Prod.fst), slA 84 Enc.slice bv.val (B1.map Prod.fst), rows 134 Enc.u64 B1, slA 22 Enc.slice lv.val (L.map Prod.fst), slA 4 Enc.bool tv.val T1, slA 3 Enc.nat kv3.val K1, slA 134 Enc.u64 sc.val s]) ent.gn ?_
          refine (rows_in (p := L) (i := b) (by omega) _).trans ?_
          rw [set_same gl]
          exact ent.gn
    · refine Zj ?_
      have e : K = [] := List.length_eq_zero_iff.1 (by omega)
      subst e
      exact thn_next ⟨(A, B, T, kz), H, ⟨(by repeat first | exact trivial | refine ⟨rfl, ?_⟩), rfl, rfl⟩, ent.gn⟩
  rintro ⟨A, B, T, kz⟩ H
  simp only at H ⊢
  refine Zp ?_
  refine Zm ?_
  refine Zm ?_
  refine Ze ?_
  refine WP.ret ?_
  exact retT [2] _ rfl rfl ⟨_, ent.gn, b27, iv, nv, av, bv, A, B, T, rfl, H, rfl⟩
end Go.Proofs.YtjjfehdlmdhhmaaDoor
end
