/- What the scan's places keep: none twice for two that meet, the slots counted. -/
import Derived.Test.YtengcfamhoppbaaSorted
namespace Go.Proofs.Ytengcfamhoppbaa
set_option linter.unusedSimpArgs false
set_option linter.unusedVariables false

structure K (regs : Nat) (pre : List Iv) (out : List Loc) (slots : Int) : Prop where
  rng : ∀ z ∈ pre, ((locOf out z).k = 1 ∧ 0 ≤ (locOf out z).n ∧ (locOf out z).n < regs) ∨ ((locOf out z).k = 2 ∧ 0 ≤ (locOf out z).n ∧ (locOf out z).n < slots)
  sep : ∀ z ∈ pre, ∀ y ∈ pre, z.r ≠ y.r → locOf out z = locOf out y → (locOf out z).k = 1 ∧ (z.t < y.f ∨ y.t < z.f)
  cnt : ((pre.countP fun z => decide ((locOf out z).k = 2) : Nat) : Int) = slots
  few : slots ≠ 0 → ∃ x ∈ pre, regs < pre.countP (fun z => decide (z.f ≤ x.f ∧ z.t ≥ x.f))

theorem J.inj {n regs : Nat} {pre : List Iv} {f : Int} {s : St} (h : J n regs pre f s) {a z : Iv} (ha : a ∈ s.act) (hz : z ∈ s.act) (e : (locOf s.out z).n = (locOf s.out a).n) : z = a := by
  have hn := h.prm.nodup_iff.2 (iota_nodup _)
  have hn2 := (List.nodup_append.1 hn).2.1
  have hp := List.pairwise_map.1 hn2
  obtain ⟨i, hi⟩ := List.getElem?_of_mem ha
  obtain ⟨j, hj⟩ := List.getElem?_of_mem hz
  obtain ⟨hi1, hi2⟩ := List.getElem?_eq_some_iff.1 hi
  obtain ⟨hj1, hj2⟩ := List.getElem?_eq_some_iff.1 hj
  rw [List.pairwise_iff_getElem] at hp
  rcases Nat.lt_trichotomy i j with g | g | g
  · have := hp i j hi1 hj1 g; rw [hi2, hj2] at this; exact absurd e.symm this
  · subst g; rw [hi] at hj; exact (Option.some.inj hj).symm
  · have := hp j i hj1 hi1 g; rw [hi2, hj2] at this; exact absurd e this

theorem countP_congr_mem {l : List Iv} {p q : Iv → Bool} (h : ∀ z ∈ l, p z = q z) : l.countP p = l.countP q := by
  induction l with
  | nil => rfl
  | cons a l ih =>
    rw [List.countP_cons, List.countP_cons, ih (fun z hz => h z (by simp [hz])), h a (by simp)]

theorem few_of_act {n regs : Nat} {pre : List Iv} {s : St} {x : Iv} (h : J n regs pre x.f s) (hf : s.free = []) (hxt : x.f ≤ x.t) (hle : ∀ z ∈ pre, z.f ≤ x.f) : regs < (pre ++ [x]).countP (fun z => decide (z.f ≤ x.f ∧ z.t ≥ x.f)) := by
  have hp := h.prm; rw [hf, List.nil_append] at hp
  have hlen : s.act.length = regs := by have := hp.length_eq; rw [List.length_map, iota_len] at this; exact this
  have hsub : s.act.Nodup := by
    refine h.srt.imp fun {a b} hab e => ?_
    subst e; exact ltI_irr _ hab
  have hcount : s.act.length ≤ (pre.filter (fun z => decide (z.f ≤ x.f ∧ z.t ≥ x.f))).length := by
    refine List.Nodup.length_le_of_subset hsub fun z hz => ?_
    have := (h.mem z).1 hz
    exact List.mem_filter.2 ⟨this.1, decide_eq_true ⟨hle z this.1, this.2.2⟩⟩
  rw [List.countP_append, List.countP_eq_length_filter]
  have : [x].countP (fun z => decide (z.f ≤ x.f ∧ z.t ≥ x.f)) = 1 := by simp [hxt]
  rw [this]; omega

theorem K.step {n regs : Nat} {pre : List Iv} {s : St} {x : Iv} (k : K regs pre s.out s.slots) (h : J n regs pre x.f s) (hregs : regs ≤ 8) (h1 : 1 ≤ regs) (hx : ∀ z ∈ pre, z.r ≠ x.r) (hx0 : 0 ≤ x.r ∧ x.r < n) (hxt : x.f ≤ x.t) (hle : ∀ z ∈ pre, z.f ≤ x.f) :
    K regs (pre ++ [x]) (takeS s x).out (takeS s x).slots := by
  have hxn : x.r.toNat < s.out.length := by rw [h.len]; omega
  have hactr : ∀ z ∈ s.act, z ∈ pre := fun z hz => ((h.mem z).1 hz).1
  have hx2 : ∀ z ∈ pre ++ [x], z ∈ pre ∨ z = x := fun z hz => by simpa using hz
  have s0 : 0 ≤ s.slots := by have := k.cnt; omega
  have fewmono : ∀ sl : Int, (s.slots ≠ 0) → sl ≠ 0 → ∃ y ∈ pre ++ [x], regs < (pre ++ [x]).countP (fun z => decide (z.f ≤ y.f ∧ z.t ≥ y.f)) := fun sl h0 _ => by
    obtain ⟨y, hy, hc⟩ := k.few h0
    exact ⟨y, by simp [hy], by rw [List.countP_append]; omega⟩
  cases hfr : s.free with
  | cons f0 fr =>
    have ht : takeS s x = { act := putL laterB s.act x, free := fr, out := s.out.set x.r.toNat ⟨1, f0⟩, slots := s.slots } := by simp only [takeS, hfr]
    rw [ht]
    simp only
    have hne : ∀ z ∈ pre, locOf (s.out.set x.r.toNat ⟨1, f0⟩) z = locOf s.out z := fun z hz => locOf_ne _ hx0.1 (h.rng z hz).1 (Ne.symm (hx z hz))
    have hse : locOf (s.out.set x.r.toNat ⟨1, f0⟩) x = ⟨1, f0⟩ := locOf_self _ hxn
    have hp := h.prm; rw [hfr] at hp
    have h0 : 0 ≤ f0 ∧ f0 < regs := (iota_mem _ _).1 (hp.mem_iff.1 (by simp))
    have hn := hp.nodup_iff.2 (iota_nodup _)
    have hfar : ∀ z ∈ pre, locOf s.out z = ⟨1, f0⟩ → z.t < x.f := fun z hz e => by
      rcases Int.lt_or_le z.t x.f with g | g
      · exact g
      · exfalso
        have hza : z ∈ s.act := (h.mem z).2 ⟨hz, by unfold Active; rw [e]; exact ⟨rfl, g⟩⟩
        rw [List.nodup_append] at hn
        exact hn.2.2 f0 (by simp) _ (List.mem_map_of_mem hza) (by rw [e])
    refine ⟨fun z hz => ?_, fun z hz y hy hzy e => ?_, ?_, fun h0 => fewmono _ h0 h0⟩
    · rcases hx2 z hz with hz | rfl
      · rw [hne z hz]; exact k.rng z hz
      · rw [hse]; exact .inl ⟨rfl, h0⟩
    · rcases hx2 z hz with hz1 | rfl
      · rw [hne z hz1] at e ⊢
        rcases hx2 y hy with hy1 | rfl
        · rw [hne y hy1] at e; exact k.sep z hz1 y hy1 hzy e
        · rw [hse] at e; rw [e]; exact ⟨rfl, .inl (hfar z hz1 e)⟩
      · rw [hse] at e ⊢
        rcases hx2 y hy with hy | rfl
        · rw [hne y hy] at e; exact ⟨rfl, .inr (hfar y hy e.symm)⟩
        · exact absurd rfl hzy
    · rw [List.countP_append, countP_congr_mem (q := fun z => decide ((locOf s.out z).k = 2)) (fun z hz => by rw [hne z hz])]
      have : [x].countP (fun z => decide ((locOf (s.out.set x.r.toNat ⟨1, f0⟩) z).k = 2)) = 0 := by
        rw [List.countP_cons, hse]; rfl
      rw [this]; exact k.cnt
  | nil =>
    have hp := h.prm; rw [hfr, List.nil_append] at hp
    have hane : s.act ≠ [] := fun e => by
      rw [e] at hp; have := hp.length_eq; rw [iota_len] at this; simp at this; omega
    obtain ⟨init, a, hact⟩ : ∃ init a, s.act = init ++ [a] := ⟨s.act.dropLast, s.act.getLast hane, (List.dropLast_concat_getLast hane).symm⟩
    have hlast : s.act.getLastD x = a := by rw [hact]; simp
    have hdrop : s.act.dropLast = init := by rw [hact]; simp
    have haact : a ∈ s.act := by rw [hact]; simp
    have haa : a ∈ pre := hactr a haact
    have hfew := few_of_act h hfr hxt hle
    by_cases hb : ltI x a
    · have ht : takeS s x = { act := putL laterB init x, free := [], out := (s.out.set x.r.toNat (locOf s.out a)).set a.r.toNat ⟨2, s.slots⟩, slots := s.slots + 1 } := by
        simp only [takeS, hfr, hlast, hdrop]; rw [if_pos ((laterB_iff a x).2 hb)]; rfl
      rw [ht]
      simp only
      have har := h.rng a haa
      have hax : a.r ≠ x.r := hx a haa
      have hse : locOf ((s.out.set x.r.toNat (locOf s.out a)).set a.r.toNat ⟨2, s.slots⟩) x = locOf s.out a := by
        rw [locOf_ne _ har.1 hx0.1 hax, locOf_self _ hxn]
      have hsa : locOf ((s.out.set x.r.toNat (locOf s.out a)).set a.r.toNat ⟨2, s.slots⟩) a = ⟨2, s.slots⟩ := locOf_self _ (by simp [h.len]; omega)
      have hne : ∀ z ∈ pre, z.r ≠ a.r → locOf ((s.out.set x.r.toNat (locOf s.out a)).set a.r.toNat ⟨2, s.slots⟩) z = locOf s.out z := fun z hz hza => by
        rw [locOf_ne _ har.1 (h.rng z hz).1 (Ne.symm hza), locOf_ne _ hx0.1 (h.rng z hz).1 (Ne.symm (hx z hz))]
      have hdr : ∀ z ∈ pre, z.r = a.r → z = a := fun z hz e => by
        obtain ⟨i, hi⟩ := List.getElem?_of_mem hz
        obtain ⟨j, hj⟩ := List.getElem?_of_mem haa
        obtain ⟨hi1, hi2⟩ := List.getElem?_eq_some_iff.1 hi
        obtain ⟨hj1, hj2⟩ := List.getElem?_eq_some_iff.1 hj
        have hd := h.dis
        rw [List.pairwise_iff_getElem] at hd
        rcases Nat.lt_trichotomy i j with g | g | g
        · have := hd i j hi1 hj1 g; rw [hi2, hj2] at this; exact absurd e this
        · subst g; rw [hi] at hj; exact Option.some.inj hj
        · have := hd j i hj1 hi1 g; rw [hi2, hj2] at this; exact absurd e.symm this
      have hak := ((h.mem a).1 haact).2
      have hab := h.bnd haact
      have hfar : ∀ z ∈ pre, z.r ≠ a.r → locOf s.out z = locOf s.out a → z.t < x.f := fun z hz hza e => by
        rcases Int.lt_or_le z.t x.f with g | g
        · exact g
        · exfalso
          have hz2 : z ∈ s.act := (h.mem z).2 ⟨hz, by unfold Active; rw [e]; exact ⟨hak.1, g⟩⟩
          have := h.inj haact hz2 (by rw [e])
          exact hza (by rw [this])
      have hno : ∀ z ∈ pre, z.r ≠ a.r → locOf s.out z ≠ ⟨2, s.slots⟩ := fun z hz hza e => by
        rcases k.rng z hz with g | g
        · rw [e] at g; have := g.1; simp at this
        · rw [e] at g; have := g.2.2; simp at this
      have hcase : ∀ z ∈ pre ++ [x], (z ∈ pre ∧ z.r ≠ a.r ∧ locOf ((s.out.set x.r.toNat (locOf s.out a)).set a.r.toNat ⟨2, s.slots⟩) z = locOf s.out z) ∨ z = a ∨ z = x := fun z hz => by
        rcases hx2 z hz with hz | hz
        · by_cases e : z.r = a.r
          · exact .inr (.inl (hdr z hz e))
          · exact .inl ⟨hz, e, hne z hz e⟩
        · exact .inr (.inr hz)
      have hk1 : locOf s.out a = ⟨1, (locOf s.out a).n⟩ := by
        have := hak.1; cases hq : locOf s.out a; rw [hq] at this; simp only at this; rw [this]
      have hk2 : locOf s.out a ≠ ⟨2, s.slots⟩ := fun e => by have := hak.1; rw [e] at this; simp at this
      refine ⟨fun z hz => ?_, fun z hz y hy hzy e => ?_, ?_, fun _ => ⟨x, by simp, hfew⟩⟩
      · rcases hcase z hz with ⟨g1, g2, g3⟩ | rfl | rfl
        · rw [g3]; rcases k.rng z g1 with g | g
          · exact .inl g
          · exact .inr ⟨g.1, g.2.1, by omega⟩
        · rw [hsa]; exact .inr ⟨rfl, s0, by simp; omega⟩
        · rw [hse]; exact .inl ⟨hak.1, hab⟩
      · rcases hcase z hz with ⟨g1, g2, g3⟩ | rfl | rfl <;> rcases hcase y hy with ⟨q1, q2, q3⟩ | rfl | rfl
        · rw [g3] at e ⊢; rw [q3] at e; exact k.sep z g1 y q1 hzy e
        · rw [g3, hsa] at e; exact absurd e (hno z g1 g2)
        · rw [g3, hse] at e; rw [g3, e]; exact ⟨hak.1, .inl (hfar z g1 g2 e)⟩
        · rw [q3, hsa] at e; exact absurd e.symm (hno y q1 q2)
        · exact absurd rfl hzy
        · rw [hsa, hse] at e; exact absurd e.symm hk2
        · rw [q3, hse] at e; rw [hse]; exact ⟨hak.1, .inr (hfar y q1 q2 e.symm)⟩
        · rw [hsa, hse] at e; exact absurd e hk2
        · exact absurd rfl hzy
      · obtain ⟨l1, l2, hsp⟩ := List.append_of_mem haa
        have hd := h.dis; rw [hsp, List.pairwise_append] at hd
        have hd2 := List.pairwise_cons.1 hd.2.1
        have n1 : ∀ z ∈ l1, locOf ((s.out.set x.r.toNat (locOf s.out a)).set a.r.toNat ⟨2, s.slots⟩) z = locOf s.out z := fun z hz => hne z (by rw [hsp]; simp [hz]) (hd.2.2 z hz a (by simp))
        have n2 : ∀ z ∈ l2, locOf ((s.out.set x.r.toNat (locOf s.out a)).set a.r.toNat ⟨2, s.slots⟩) z = locOf s.out z := fun z hz => hne z (by rw [hsp]; simp [hz]) (Ne.symm (hd2.1 z hz))
        have hc := k.cnt
        rw [hsp, List.countP_append, List.countP_cons, hak.1] at hc
        rw [hsp, List.countP_append, List.countP_append, List.countP_cons, List.countP_cons, hsa, hse, hak.1,
          countP_congr_mem (q := fun z => decide ((locOf s.out z).k = 2)) (l := l1) (fun z hz => by rw [n1 z hz]),
          countP_congr_mem (q := fun z => decide ((locOf s.out z).k = 2)) (l := l2) (fun z hz => by rw [n2 z hz])]
        simp at hc ⊢
        omega
    · have ht : takeS s x = { act := s.act, free := [], out := s.out.set x.r.toNat ⟨2, s.slots⟩, slots := s.slots + 1 } := by
        simp only [takeS, hfr, hlast]; rw [if_neg (fun e => hb ((laterB_iff a x).1 e))]
      rw [ht]
      simp only
      have hse : locOf (s.out.set x.r.toNat ⟨2, s.slots⟩) x = ⟨2, s.slots⟩ := locOf_self _ hxn
      have hne : ∀ z ∈ pre, locOf (s.out.set x.r.toNat ⟨2, s.slots⟩) z = locOf s.out z := fun z hz => locOf_ne _ hx0.1 (h.rng z hz).1 (Ne.symm (hx z hz))
      have hno : ∀ z ∈ pre, locOf s.out z ≠ ⟨2, s.slots⟩ := fun z hz e => by
        rcases k.rng z hz with g | g
        · rw [e] at g; have := g.1; simp at this
        · rw [e] at g; have := g.2.2; simp at this
      refine ⟨fun z hz => ?_, fun z hz y hy hzy e => ?_, ?_, fun _ => ⟨x, by simp, hfew⟩⟩
      · rcases hx2 z hz with hz | rfl
        · rw [hne z hz]; rcases k.rng z hz with g | g
          · exact .inl g
          · exact .inr ⟨g.1, g.2.1, by omega⟩
        · rw [hse]; exact .inr ⟨rfl, s0, by simp; omega⟩
      · rcases hx2 z hz with hz1 | rfl
        · rw [hne z hz1] at e ⊢
          rcases hx2 y hy with hy1 | rfl
          · rw [hne y hy1] at e; exact k.sep z hz1 y hy1 hzy e
          · rw [hse] at e; exact absurd e (hno z hz1)
        · rw [hse] at e
          rcases hx2 y hy with hy | rfl
          · rw [hne y hy] at e; exact absurd e.symm (hno y hy)
          · exact absurd rfl hzy
      · rw [List.countP_append, countP_congr_mem (q := fun z => decide ((locOf s.out z).k = 2)) (fun z hz => by rw [hne z hz])]
        have : [x].countP (fun z => decide ((locOf (s.out.set x.r.toNat ⟨2, s.slots⟩) z).k = 2)) = 1 := by
          rw [List.countP_cons, hse]; rfl
        rw [this]; have := k.cnt; omega

theorem runL_K (n regs : Nat) (hregs : regs ≤ 8) (h1 : 1 ≤ regs) : ∀ (xs pre : List Iv) (f : Int) (s : St), SortedOk (pre ++ xs) → (∀ z ∈ xs, z.r < n) → (∀ x, xs.head? = some x → f ≤ x.f) → J n regs pre f s → K regs pre s.out s.slots →
    K regs (pre ++ xs) (runL s xs).out (runL s xs).slots
  | [], pre, _, s, _, _, _, _, k => by rw [List.append_nil]; exact k
  | x :: xs, pre, f, s, hso, hn, hf, h, k => by
    have hs1 := List.pairwise_append.1 hso.srt
    have hd1 := List.pairwise_append.1 hso.dis
    have hb := hso.ok x (by simp)
    unfold bad0 at hb
    have hxn := hn x (by simp)
    have hx : ∀ z ∈ pre, z.r ≠ x.r := fun z hz => hd1.2.2 z hz x (by simp)
    have hle : ∀ z ∈ pre, z.f ≤ x.f := fun z hz => by have := hs1.2.2 z hz x (by simp); unfold ltF at this; omega
    have hJ := h.expire (hf x rfl)
    have g1 := (hJ.step (x := x) (l := pre ++ x :: xs) hregs h1 rfl hx (by omega) (by omega)).1
    have g2 : K regs (pre ++ [x]) (stepS s x).out (stepS s x).slots := K.step (n := n) k hJ hregs h1 hx (by omega) (by omega) hle
    have e : pre ++ x :: xs = (pre ++ [x]) ++ xs := by simp
    rw [e] at hso ⊢
    simp only [runL]
    refine runL_K n regs hregs h1 xs (pre ++ [x]) x.f (stepS s x) hso (fun z hz => hn z (by simp [hz])) (fun y hy => ?_) g1 g2
    have hp := List.pairwise_append.1 hso.srt
    have := hp.2.2 x (by simp) y (List.mem_of_mem_head? hy)
    unfold ltF at this; omega

theorem scanL_eq {xs : List Iv} {regs : Int} (hr : ¬ (regs < 1 ∨ regs > 8)) (h : SortedOk xs) : scanL xs regs = ((runL (startS xs regs) xs).out, (runL (startS xs regs) xs).slots, 0) := by
  unfold scanL
  rw [if_neg hr, wrongL_eq, h.right]; rfl

theorem scanL_K {xs : List Iv} {regs : Int} (hr : ¬ (regs < 1 ∨ regs > 8)) (h : SortedOk xs) : K regs.toNat xs (scanL xs regs).1 (scanL xs regs).2.1 := by
  rw [scanL_eq hr h]
  have hb := mostL_bd xs (-1)
  have := runL_K (mostL (-1) xs + 1).toNat regs.toNat (by omega) (by omega) xs [] (match xs with | [] => 0 | x :: _ => x.f) (startS xs regs) h
    (fun x hx => by have := hb.2 x hx; omega) (fun x hx => by cases xs with
          | nil => cases hx
          | cons y ys => cases hx; exact Int.le_refl _)
    ⟨by simp [startS], fun z hz => (List.not_mem_nil hz).elim, .nil, .nil, fun z => by simp [startS], iota_sorted _, by simp [startS]⟩
    ⟨fun z hz => (List.not_mem_nil hz).elim, fun z hz => (List.not_mem_nil hz).elim, rfl, fun h => absurd rfl h⟩
  exact this

theorem scanL_long {xs : List Iv} {regs : Int} (hr : ¬ (regs < 1 ∨ regs > 8)) (h : SortedOk xs) : ∀ z ∈ xs, z.r < ((scanL xs regs).1.length : Int) := fun z hz => by
  rw [scanL_eq hr h]
  simp only [runL_len, startS, List.length_replicate]
  have := (mostL_bd xs (-1)).2 z hz; omega
end Go.Proofs.Ytengcfamhoppbaa
