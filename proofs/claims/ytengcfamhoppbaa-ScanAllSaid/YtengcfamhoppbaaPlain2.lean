/- The plain law, the second half: one step of each answers alike. -/
import Derived.Test.YtengcfamhoppbaaPlain
namespace Go.Proofs.Ytengcfamhoppbaa
set_option linter.unusedSimpArgs false
set_option linter.unusedVariables false

def atI (l : List Iv) (c : Int) : Iv := l.getD c.toNat zIv

theorem lastGo_spec (l : List Iv) (h : List Int) : ∀ (k r : Nat) (last : Int),
    (lastGo l h k r last = last ∨ ∃ r', r ≤ r' ∧ r' < r + k ∧ lastGo l h k r last = h.getD r' 0) ∧
    ¬ ltI (atI l (lastGo l h k r last)) (atI l last) ∧ ∀ r', r ≤ r' → r' < r + k → ¬ ltI (atI l (lastGo l h k r last)) (atI l (h.getD r' 0))
  | 0, r, last => ⟨.inl rfl, ltI_irr _, fun r' h1 h2 => by omega⟩
  | k + 1, r, last => by
    simp only [lastGo]
    have hl : (later2 (l.getD (h.getD r 0).toNat zIv) (l.getD last.toNat zIv)) ↔ ltI (atI l last) (atI l (h.getD r 0)) := later2_iff _ _
    have tr : ∀ a b c : Iv, ¬ ltI a b → ¬ ltI b c → ¬ ltI a c := fun a b c => by unfold ltI; omega
    have asym : ∀ a b : Iv, ltI a b → ¬ ltI b a := fun a b => by unfold ltI; omega
    by_cases hc : ltI (atI l last) (atI l (h.getD r 0))
    · rw [if_pos (hl.2 hc)]
      obtain ⟨g1, g2, g3⟩ := lastGo_spec l h k (r + 1) (h.getD r 0)
      refine ⟨.inr ?_, tr _ _ _ g2 (asym _ _ hc), fun r' h1 h2 => ?_⟩
      · rcases g1 with g1 | ⟨r', a, b, g1⟩
        · exact ⟨r, Nat.le_refl _, by omega, g1⟩
        · exact ⟨r', by omega, by omega, g1⟩
      · rcases Nat.eq_or_lt_of_le h1 with rfl | h1
        · exact g2
        · exact g3 r' h1 (by omega)
    · rw [if_neg fun e => hc (hl.1 e)]
      obtain ⟨g1, g2, g3⟩ := lastGo_spec l h k (r + 1) last
      refine ⟨?_, g2, fun r' h1 h2 => ?_⟩
      · rcases g1 with g1 | ⟨r', a, b, g1⟩
        · exact .inl g1
        · exact .inr ⟨r', by omega, by omega, g1⟩
      · rcases Nat.eq_or_lt_of_le h1 with rfl | h1
        · exact tr _ _ _ g2 hc
        · exact g3 r' h1 (by omega)

/-- what is held at a place, told by what is active -/
structure Hd (pre : List Iv) (out : List Loc) (f : Int) (h : List Int) : Prop where
  spec : ∀ r : Nat, r < 8 → (h.getD r 0 = -1 ∧ ∀ z ∈ pre, Active out f z → (locOf out z).n ≠ r) ∨ ∃ (m : Nat) (z : Iv), h.getD r 0 = (m : Int) ∧ pre[m]? = some z ∧ Active out f z ∧ (locOf out z).n = r

theorem rep_getD (r : Nat) (hr : r < 8) : (List.replicate 8 (-1 : Int)).getD r 0 = -1 := by
  rw [List.getD_eq_getElem?_getD, List.getElem?_replicate, if_pos hr]; rfl

theorem J.bnd {n regs : Nat} {pre : List Iv} {f : Int} {s : St} (h : J n regs pre f s) {z : Iv} (hz : z ∈ s.act) : 0 ≤ (locOf s.out z).n ∧ (locOf s.out z).n < regs := by
  have : (locOf s.out z).n ∈ iota regs := h.prm.mem_iff.1 (List.mem_append_right _ (List.mem_map_of_mem hz))
  exact (iota_mem _ _).1 this

theorem J.hd {n regs : Nat} {pre : List Iv} {f : Int} {s : St} (h : J n regs pre f s) (hregs : regs ≤ 8) : Hd pre s.out f (heldGo s.out f 0 pre (List.replicate 8 (-1))) :=
  ⟨heldGo_spec s.out f pre (fun z hz ha => by have := h.bnd ((h.mem z).2 ⟨hz, ha⟩); omega) 0 pre _ rfl (Nat.zero_le _) (by simp) (fun r hr => .inl ⟨rep_getD r hr, fun z hz => by simp at hz⟩)⟩

theorem J.free {n regs : Nat} {pre : List Iv} {f : Int} {s : St} (h : J n regs pre f s) (hregs : regs ≤ 8) {f0 : Int} {fr : List Int} (hf : s.free = f0 :: fr) :
    freeGo (heldGo s.out f 0 pre (List.replicate 8 (-1))) regs (-1) = f0 ∧ 0 ≤ f0 := by
  obtain ⟨H⟩ := h.hd hregs
  have hp := h.prm
  have hs := h.fsr
  rw [hf] at hp hs
  have h0 : 0 ≤ f0 ∧ f0 < regs := (iota_mem _ _).1 (hp.mem_iff.1 (by simp))
  have hn := hp.nodup_iff.2 (iota_nodup _)
  have e : f0 = (f0.toNat : Int) := by omega
  have hlow : (heldGo s.out f 0 pre (List.replicate 8 (-1))).getD f0.toNat 0 < 0 := by
    rcases H f0.toNat (by omega) with ⟨h1, _⟩ | ⟨m, z, h1, h2, h3, h4⟩
    · omega
    · exfalso
      have hz : z ∈ s.act := (h.mem z).2 ⟨List.mem_of_getElem? h2, h3⟩
      rw [List.nodup_append] at hn
      exact hn.2.2 f0 (by simp) _ (List.mem_map_of_mem hz) (by rw [h4]; exact e)
  refine ⟨?_, h0.1⟩
  rw [freeGo_first _ f0.toNat hlow (fun r hr => ?_) regs (-1) (by omega)]
  · exact e.symm
  · have hr1 : (r : Int) ∈ iota regs := (iota_mem _ _).2 (by omega)
    rcases List.mem_append.1 (hp.mem_iff.2 hr1) with hm | hm
    · rcases List.mem_cons.1 hm with hm | hm
      · omega
      · have := (List.pairwise_cons.1 hs).1 _ hm; omega
    · obtain ⟨z, hz, hzr⟩ := List.mem_map.1 hm
      rcases H r (by omega) with ⟨_, h2⟩ | ⟨m, z, h1, _⟩
      · obtain ⟨a, b⟩ := (h.mem z).1 hz
        exact absurd hzr (h2 z a b)
      · omega

theorem J.full {n regs : Nat} {pre : List Iv} {f : Int} {s : St} (h : J n regs pre f s) (hregs : regs ≤ 8) (hf : s.free = []) :
    freeGo (heldGo s.out f 0 pre (List.replicate 8 (-1))) regs (-1) = -1 ∧ ∀ r : Nat, r < regs → ∃ (m : Nat) (z : Iv), (heldGo s.out f 0 pre (List.replicate 8 (-1))).getD r 0 = (m : Int) ∧ pre[m]? = some z ∧ z ∈ s.act ∧ (locOf s.out z).n = r := by
  obtain ⟨H⟩ := h.hd hregs
  have hp := h.prm
  rw [hf, List.nil_append] at hp
  have key : ∀ r : Nat, r < regs → ∃ (m : Nat) (z : Iv), (heldGo s.out f 0 pre (List.replicate 8 (-1))).getD r 0 = (m : Int) ∧ pre[m]? = some z ∧ z ∈ s.act ∧ (locOf s.out z).n = r := fun r hr => by
    have hr1 : (r : Int) ∈ iota regs := (iota_mem _ _).2 (by omega)
    obtain ⟨z, hz, hzr⟩ := List.mem_map.1 (hp.mem_iff.2 hr1)
    rcases H r (by omega) with ⟨_, h2⟩ | ⟨m, z', h1, h2, h3, h4⟩
    · obtain ⟨a, b⟩ := (h.mem z).1 hz
      exact absurd hzr (h2 z a b)
    · exact ⟨m, z', h1, h2, (h.mem z').2 ⟨List.mem_of_getElem? h2, h3⟩, h4⟩
  exact ⟨freeGo_keep _ _ _ fun r hr hneg => by obtain ⟨m, _, h1, _⟩ := key r hr; omega, key⟩

theorem atI_pre {l pre xs : List Iv} {x z : Iv} (hl : l = pre ++ x :: xs) {m : Nat} (hm : pre[m]? = some z) : atI l m = z ∧ m < pre.length := by
  have hlt : m < pre.length := by
    rcases Nat.lt_or_ge m pre.length with h | h
    · exact h
    · rw [List.getElem?_eq_none h] at hm; cases hm
  refine ⟨?_, hlt⟩
  unfold atI
  rw [Int.toNat_natCast, List.getD_eq_getElem?_getD, hl, List.getElem?_append_left hlt, hm]; rfl
theorem atI_self {l pre xs : List Iv} {x : Iv} (hl : l = pre ++ x :: xs) : atI l (pre.length : Nat) = x := by
  unfold atI
  rw [Int.toNat_natCast, List.getD_eq_getElem?_getD, hl, List.getElem?_append_right (Nat.le_refl _)]; simp

/-- which gives way -/
theorem J.last {n regs : Nat} {pre : List Iv} {f : Int} {s : St} (h : J n regs pre f s) (hregs : regs ≤ 8) (hf : s.free = []) {l xs : List Iv} {x : Iv} (hl : l = pre ++ x :: xs) (hx : ∀ z ∈ pre, z.r ≠ x.r) {init : List Iv} {a : Iv} (ha : s.act = init ++ [a]) :
    (ltI x a → atI l (lastGo l (heldGo s.out f 0 pre (List.replicate 8 (-1))) regs 0 pre.length) = a ∧ lastGo l (heldGo s.out f 0 pre (List.replicate 8 (-1))) regs 0 pre.length ≠ pre.length) ∧
    (¬ ltI x a → lastGo l (heldGo s.out f 0 pre (List.replicate 8 (-1))) regs 0 pre.length = pre.length) := by
  obtain ⟨_, key⟩ := h.full hregs hf
  obtain ⟨g1, g2, g3⟩ := lastGo_spec l (heldGo s.out f 0 pre (List.replicate 8 (-1))) regs 0 pre.length
  have hsrt := h.srt
  rw [ha, List.pairwise_append] at hsrt
  have hle : ∀ z ∈ s.act, z = a ∨ ltI z a := fun z hz => by
    rw [ha] at hz
    rcases List.mem_append.1 hz with hz | hz
    · exact .inr (hsrt.2.2 z hz a (by simp))
    · exact .inl (by simpa using hz)
  have haa : a ∈ s.act := by rw [ha]; simp
  have hn := (h.prm.nodup_iff.2 (iota_nodup _))
  rw [hf, List.nil_append] at hn
  constructor
  · intro hlt
    obtain ⟨b0, b1⟩ := h.bnd haa
    have hb : (locOf s.out a).n = ((locOf s.out a).n.toNat : Int) := by omega
    obtain ⟨m, z, k1, k2, k3, k4⟩ := key (locOf s.out a).n.toNat (by omega)
    have hza : z = a := by
      rcases hle z k3 with e | e
      · exact e
      · exfalso
        have hz : z ∈ init := by
          rw [ha] at k3
          rcases List.mem_append.1 k3 with hz | hz
          · exact hz
          · have : z = a := by simpa using hz
            rw [this] at e; exact absurd e (ltI_irr _)
        rw [ha, List.map_append, List.nodup_append] at hn
        exact hn.2.2 _ (List.mem_map_of_mem hz) (locOf s.out a).n (by simp) (by rw [k4]; exact hb.symm)
    have g4 := g3 _ (Nat.zero_le _) (show (locOf s.out a).n.toNat < 0 + regs by omega)
    rw [k1, (atI_pre hl k2).1, hza] at g4
    rcases g1 with g1 | ⟨r', _, hr', g1⟩
    · rw [g1, atI_self hl] at g4; exact absurd hlt g4
    · obtain ⟨m', z', k1', k2', k3', k4'⟩ := key r' (by omega)
      rw [g1, k1'] at g4 ⊢
      rw [(atI_pre hl k2').1] at g4 ⊢
      refine ⟨(hle z' k3').resolve_right g4, ?_⟩
      have := (atI_pre hl k2').2
      omega
  · intro hlt
    rcases g1 with g1 | ⟨r', _, hr', g1⟩
    · exact g1
    · exfalso
      obtain ⟨m', z', k1', k2', k3', k4'⟩ := key r' (by omega)
      rw [g1, k1', (atI_pre hl k2').1, atI_self hl] at g2
      have hax : ltI a x := (ltI_tot (fun e => hx a ((h.mem a).1 haa).1 e)).resolve_right hlt
      rcases hle z' k3' with e | e
      · subst e; exact g2 hax
      · exact g2 (ltI_trans e hax)

theorem map_loc_congr {out out' : List Loc} {l : List Iv} (h : ∀ z ∈ l, locOf out' z = locOf out z) : (l.map fun z => (locOf out' z).n) = l.map fun z => (locOf out z).n :=
  List.map_congr_left fun z hz => by rw [h z hz]

/-- one step -/
theorem J.step {n regs : Nat} {pre : List Iv} {s : St} {x : Iv} (h : J n regs pre x.f s) (hregs : regs ≤ 8) (h1 : 1 ≤ regs) {l xs : List Iv} (hl : l = pre ++ x :: xs) (hx : ∀ z ∈ pre, z.r ≠ x.r) (hx0 : 0 ≤ x.r ∧ x.r < n) (hxt : x.f ≤ x.t) :
    J n regs (pre ++ [x]) x.f (takeS s x) ∧ refStep l regs pre.length x (s.out, s.slots) = ((takeS s x).out, (takeS s x).slots) := by
  have hheld : heldOf l pre.length x s.out = heldGo s.out x.f 0 pre (List.replicate 8 (-1)) := by unfold heldOf; rw [hl, List.take_left]
  have hxn : x.r.toNat < s.out.length := by rw [h.len]; omega
  have hxpre : x ∉ pre := fun e => hx x e rfl
  have hactr : ∀ z ∈ s.act, z ∈ pre := fun z hz => ((h.mem z).1 hz).1
  have hrng : ∀ z ∈ pre ++ [x], 0 ≤ z.r ∧ z.r < n := fun z hz => by
    rcases List.mem_append.1 hz with hz | hz
    · exact h.rng z hz
    · have : z = x := by simpa using hz
      rw [this]; exact hx0
  have hdis : (pre ++ [x]).Pairwise (fun a b => a.r ≠ b.r) := List.pairwise_append.2 ⟨h.dis, by simp, fun a ha b hb => (show b = x by simpa using hb) ▸ hx a ha⟩
  unfold refStep
  simp only
  rw [hheld]
  cases hfr : s.free with
  | cons f0 fr =>
    obtain ⟨e, e0⟩ := h.free hregs hfr
    have ht : takeS s x = { act := putL laterB s.act x, free := fr, out := s.out.set x.r.toNat ⟨1, f0⟩, slots := s.slots } := by simp only [takeS, hfr]
    rw [e, if_pos e0, ht]
    refine ⟨?_, rfl⟩
    have hne : ∀ z ∈ pre, locOf (s.out.set x.r.toNat ⟨1, f0⟩) z = locOf s.out z := fun z hz => locOf_ne _ hx0.1 (h.rng z hz).1 (Ne.symm (hx z hz))
    have hse : locOf (s.out.set x.r.toNat ⟨1, f0⟩) x = ⟨1, f0⟩ := locOf_self _ hxn
    have hfs := h.fsr; rw [hfr] at hfs
    have hp := h.prm; rw [hfr] at hp
    refine ⟨by simp [h.len], hrng, hdis, putL_sorted laterB_iff (fun _ _ _ => ltI_trans) x _ h.srt (fun y hy => ltI_tot (hx y (hactr y hy))), fun z => ?_, (List.pairwise_cons.1 hfs).2, ?_⟩
    · simp only [putL_mem, h.mem]
      constructor
      · rintro (rfl | ⟨a, b⟩)
        · refine ⟨by simp, ?_⟩
          unfold Active; rw [hse]; exact ⟨rfl, hxt⟩
        · refine ⟨by simp [a], ?_⟩
          unfold Active at b ⊢; rw [hne z a]; exact b
      · rintro ⟨a, b⟩
        rcases List.mem_append.1 a with a | a
        · right; refine ⟨a, ?_⟩
          unfold Active at b ⊢; rw [hne z a] at b; exact b
        · left; simpa using a
    · refine (List.Perm.append_left fr ((putL_perm laterB s.act x).map _)).trans ?_
      simp only [List.map_cons, hse]
      rw [map_loc_congr fun z hz => hne z (hactr z hz)]
      exact List.perm_middle.trans hp
  | nil =>
    obtain ⟨e, key⟩ := h.full hregs hfr
    have hp := h.prm; rw [hfr, List.nil_append] at hp
    have hane : s.act ≠ [] := fun e => by
      rw [e] at hp; have := hp.length_eq; rw [iota_len] at this; simp at this; omega
    obtain ⟨init, a, hact⟩ : ∃ init a, s.act = init ++ [a] := ⟨s.act.dropLast, s.act.getLast hane, (List.dropLast_concat_getLast hane).symm⟩
    have hlast : s.act.getLastD x = a := by rw [hact]; simp
    have hdrop : s.act.dropLast = init := by rw [hact]; simp
    obtain ⟨L1, L2⟩ := h.last hregs hfr hl hx hact
    have haa : a ∈ pre := hactr a (by rw [hact]; simp)
    rw [e, if_neg (by omega)]
    unfold spill
    simp only
    by_cases hb : ltI x a
    · obtain ⟨l1, l2⟩ := L1 hb
      have ht : takeS s x = { act := putL laterB init x, free := [], out := (s.out.set x.r.toNat (locOf s.out a)).set a.r.toNat ⟨2, s.slots⟩, slots := s.slots + 1 } := by
        simp only [takeS, hfr, hlast, hdrop]; rw [if_pos ((laterB_iff a x).2 hb)]; rfl
      have l1' : l.getD (lastGo l (heldGo s.out x.f 0 pre (List.replicate 8 (-1))) regs 0 pre.length).toNat zIv = a := l1
      rw [l1', if_pos l2, ht]
      refine ⟨?_, rfl⟩
      have har := h.rng a haa
      have hax : a.r ≠ x.r := hx a haa
      have hse : locOf ((s.out.set x.r.toNat (locOf s.out a)).set a.r.toNat ⟨2, s.slots⟩) x = locOf s.out a := by
        rw [locOf_ne _ har.1 hx0.1 hax, locOf_self _ hxn]
      have hsa : locOf ((s.out.set x.r.toNat (locOf s.out a)).set a.r.toNat ⟨2, s.slots⟩) a = ⟨2, s.slots⟩ := locOf_self _ (by simp [h.len]; omega)
      have hne : ∀ z ∈ pre, z.r ≠ a.r → locOf ((s.out.set x.r.toNat (locOf s.out a)).set a.r.toNat ⟨2, s.slots⟩) z = locOf s.out z := fun z hz hza => by
        rw [locOf_ne _ har.1 (h.rng z hz).1 (Ne.symm hza), locOf_ne _ hx0.1 (h.rng z hz).1 (Ne.symm (hx z hz))]
      have hsrt := h.srt; rw [hact, List.pairwise_append] at hsrt
      have hina : ∀ z ∈ init, ltI z a := fun z hz => hsrt.2.2 z hz a (by simp)
      have hinp : ∀ z ∈ init, z ∈ pre := fun z hz => hactr z (by rw [hact]; simp [hz])
      have hdr : ∀ z ∈ pre, z ≠ a → z.r ≠ a.r := fun z hz hza => by
        have := h.dis
        obtain ⟨i, hi⟩ := List.getElem?_of_mem hz
        obtain ⟨j, hj⟩ := List.getElem?_of_mem haa
        have hij : i ≠ j := fun e => by rw [e, hj] at hi; exact hza (Option.some.inj hi).symm
        rw [List.pairwise_iff_getElem] at this
        obtain ⟨hi1, hi2⟩ := List.getElem?_eq_some_iff.1 hi
        obtain ⟨hj1, hj2⟩ := List.getElem?_eq_some_iff.1 hj
        rcases Nat.lt_or_gt_of_ne hij with g | g
        · have := this i j hi1 hj1 g; rwa [hi2, hj2] at this
        · have := this j i hj1 hi1 g; rw [hi2, hj2] at this; exact Ne.symm this
      have hinr : ∀ z ∈ init, z.r ≠ a.r := fun z hz => hdr z (hinp z hz) fun e => by have := hina z hz; rw [e] at this; exact ltI_irr _ this
      have haact : Active s.out x.f a := ((h.mem a).1 (by rw [hact]; simp)).2
      refine ⟨by simp [h.len], hrng, hdis, putL_sorted laterB_iff (fun _ _ _ => ltI_trans) x _ hsrt.1 (fun y hy => ltI_tot (hx y (hinp y hy))), fun z => ?_, .nil, ?_⟩
      · simp only [putL_mem]
        constructor
        · rintro (rfl | hz)
          · refine ⟨by simp, ?_⟩
            unfold Active; rw [hse]; exact ⟨haact.1, hxt⟩
          · have := (h.mem z).1 (by rw [hact]; simp [hz])
            refine ⟨by simp [this.1], ?_⟩
            unfold Active at this ⊢; rw [hne z this.1 (hinr z hz)]; exact this.2
        · rintro ⟨b, c⟩
          rcases List.mem_append.1 b with b | b
          · right
            have hza : z ≠ a := fun e => by
              rw [e] at c; unfold Active at c; rw [hsa] at c; simp at c
            unfold Active at c
            rw [hne z b (hdr z b hza)] at c
            have := (h.mem z).2 ⟨b, c⟩
            rw [hact] at this
            rcases List.mem_append.1 this with g | g
            · exact g
            · exact absurd (by simpa using g) hza
          · left; simpa using b
      · rw [List.nil_append]
        refine ((putL_perm laterB init x).map _).trans ?_
        simp only [List.map_cons, hse]
        rw [map_loc_congr fun z hz => hne z (hinp z hz) (hinr z hz)]
        rw [hact, List.map_append] at hp
        exact (List.perm_append_comm (l₁ := [(locOf s.out a).n])).trans hp
    · have ht : takeS s x = { act := s.act, free := [], out := s.out.set x.r.toNat ⟨2, s.slots⟩, slots := s.slots + 1 } := by
        simp only [takeS, hfr, hlast]; rw [if_neg (fun e => hb ((laterB_iff a x).1 e))]
      have l2 := L2 hb
      have lx : l.getD ((pre.length : Int)).toNat zIv = x := atI_self hl
      rw [l2, lx, if_neg (by simp), ht]
      refine ⟨?_, rfl⟩
      have hse : locOf (s.out.set x.r.toNat ⟨2, s.slots⟩) x = ⟨2, s.slots⟩ := locOf_self _ hxn
      have hne : ∀ z ∈ pre, locOf (s.out.set x.r.toNat ⟨2, s.slots⟩) z = locOf s.out z := fun z hz => locOf_ne _ hx0.1 (h.rng z hz).1 (Ne.symm (hx z hz))
      refine ⟨by simp [h.len], hrng, hdis, h.srt, fun z => ?_, .nil, ?_⟩
      · simp only [h.mem]
        constructor
        · rintro ⟨b, c⟩
          refine ⟨by simp [b], ?_⟩
          unfold Active at c ⊢; rw [hne z b]; exact c
        · rintro ⟨b, c⟩
          rcases List.mem_append.1 b with b | b
          · refine ⟨b, ?_⟩
            unfold Active at c ⊢; rw [hne z b] at c; exact c
          · have : z = x := by simpa using b
            rw [this] at c; unfold Active at c; rw [hse] at c; simp at c
      · rw [List.nil_append, map_loc_congr fun z hz => hne z (hactr z hz)]; exact hp

theorem run_eq (n regs : Nat) (hregs : regs ≤ 8) (h1 : 1 ≤ regs) (l : List Iv) : ∀ (xs pre : List Iv) (p : Option Iv) (f : Int) (s : St), l = pre ++ xs → rightGo p pre xs = true → (∀ x ∈ xs, x.r < n) → (∀ x, xs.head? = some x → f ≤ x.f) → J n regs pre f s →
    refRun l regs pre.length xs (s.out, s.slots) = ((runL s xs).out, (runL s xs).slots)
  | [], _, _, _, _, _, _, _, _, _ => rfl
  | x :: xs, pre, p, f, s, hl, hr, hn, hf, h => by
    simp only [rightGo] at hr
    by_cases hb : bad0 x
    · rw [if_pos hb] at hr; cases hr
    rw [if_neg hb] at hr
    split at hr
    · cases hr
    split at hr
    · cases hr
    rename_i hpb hany
    have hx : ∀ z ∈ pre, z.r ≠ x.r := fun z hz e => hany (List.any_eq_true.2 ⟨z, hz, by simpa using e⟩)
    have hb' := hb; unfold bad0 at hb'
    have hxn := hn x (by simp)
    obtain ⟨g1, g2⟩ := (h.expire (hf x rfl)).step (x := x) hregs h1 hl hx (by omega) (by omega)
    simp only [refRun, runL]
    have e : pre.length + 1 = (pre ++ [x]).length := by simp
    have g2' : refStep l regs pre.length x (s.out, s.slots) = ((stepS s x).out, (stepS s x).slots) := g2
    rw [g2', e]
    refine run_eq n regs hregs h1 l xs (pre ++ [x]) (some x) x.f (stepS s x) (by rw [hl]; simp) hr (fun z hz => hn z (by simp [hz])) (fun y hy => ?_) g1
    cases xs with
    | nil => cases hy
    | cons y' ys =>
      cases hy
      simp only [rightGo] at hr
      by_cases hq : prevBad2 (some x) y = true
      · rw [if_pos hq, ite_self] at hr; cases hr
      · have hq' : ¬ badP2 x y := fun e => hq (decide_eq_true e)
        have : ¬ y.f < x.f := fun e => hq' (.inl e)
        omega

theorem iota_sorted (k : Nat) : (iota k).Pairwise (· < ·) := by
  unfold iota
  exact List.pairwise_map.2 (List.pairwise_lt_range.imp fun h => by omega)

/-- the scan and the document's own answer are one -/
theorem scan_ref (xs : List Iv) (regs : Int) : scanL xs regs = refScanL xs regs := by
  unfold scanL refScanL
  split
  · rfl
  · rename_i hregs
    rw [wrongL_eq]
    cases hr : rightL xs with
    | false => rfl
    | true =>
      simp only [Bool.not_true, Bool.false_eq_true, if_false, reduceIte]
      rw [if_neg (by simp)]
      have hb := mostL_bd xs (-1)
      have H := run_eq (mostL (-1) xs + 1).toNat regs.toNat (by omega) (by omega) xs xs [] none (match xs with | [] => 0 | x :: _ => x.f) (startS xs regs) rfl hr
        (fun x hx => by have := hb.2 x hx; omega) (fun x hx => by cases xs with
          | nil => cases hx
          | cons y ys => cases hx; exact Int.le_refl _)
        ⟨by simp [startS], fun z hz => (List.not_mem_nil hz).elim, .nil, .nil, fun z => by simp [startS], iota_sorted _, by simp [startS]⟩
      have e : ((startS xs regs).out, (startS xs regs).slots) = (List.replicate (mostL (-1) xs + 1).toNat (⟨0, 0⟩ : Loc), (0 : Int)) := rfl
      rw [e, List.length_nil] at H
      rw [H]
end Go.Proofs.Ytengcfamhoppbaa
