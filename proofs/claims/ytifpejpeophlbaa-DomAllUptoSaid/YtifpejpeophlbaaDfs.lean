/- The line of the blocks that can be reached, as it is walked: what stays true, that it ends, what it is in the end. -/
import Derived.Test.YtifpejpeophlbaaChk2
namespace Go.Proofs.Ytifpejpeophlbaa
set_option linter.unusedSimpArgs false
set_option linter.unusedVariables false

def deg (tn : Gr) (b : Nat) : Nat := (tn.getD b []).length
theorem deg_at {tn : Gr} {b : Nat} {l : List Nat} (h : tn[b]? = some l) : deg tn b = l.length := by simp [deg, List.getD_eq_getElem?_getD, h]

structure DInv (tn : Gr) (S : List Nat) (way : List (Nat × Nat)) (done : List Nat) : Prop where
  way_seen : ∀ p ∈ way, p.1 ∈ S
  done_seen : ∀ d ∈ done, d ∈ S
  seen : ∀ b ∈ S, b ∈ done ∨ b ∈ way.map Prod.fst
  nodup : (way.map Prod.fst ++ done).Nodup
  reach : ∀ b ∈ S, RA tn (-1) b
  zero : 0 ∈ S
  first : ∀ p ∈ way, ∀ l, tn[p.1]? = some l → ∀ (j : Nat) (c : Nat), j < p.2 → l[j]? = some c → c ∈ S
  closed : ∀ d ∈ done, ∀ c, Edge tn d c → c ∈ S
  stack : ∀ (i : Nat) (p q : Nat × Nat), way[i]? = some p → way[i + 1]? = some q → Edge tn p.1 q.1
  prev : ∀ (i : Nat) (d : Nat), done[i]? = some d → d ≠ 0 → ∃ p, Edge tn p d ∧ ((∃ j, i < j ∧ done[j]? = some p) ∨ p ∈ way.map Prod.fst)
  bottom : ∀ p, way[0]? = some p → p.1 = 0
  last : way = [] → done.getLast? = some 0
  upto : ∀ p ∈ way, p.2 ≤ deg tn p.1

theorem DInv.start {tn : Gr} : DInv tn [0] [(0, 0)] [] := by
  refine ⟨by simp, by simp, by simp, by simp, fun b hb => ?_, by simp, by simp, by simp, by simp, by simp, by simp, by simp, by simp⟩
  simp at hb; subst hb; exact .start (by decide)

section
variable {tn : Gr} {S : List Nat} {w : List (Nat × Nat)} {done : List Nat} {b k : Nat} {l : List Nat}

theorem DInv.top (h : DInv tn S (w ++ [(b, k)]) done) : b ∈ S := h.way_seen (b, k) (by simp)

theorem DInv.fst (h : DInv tn S (w ++ [(b, k)]) done) (k' : Nat) (hk : k' ≤ deg tn b) (hl : ∀ l, tn[b]? = some l → ∀ (j : Nat) (c : Nat), j < k' → l[j]? = some c → c ∈ S) : DInv tn S (w ++ [(b, k')]) done := by
  have hf : (w ++ [(b, k')]).map Prod.fst = (w ++ [(b, k)]).map Prod.fst := by simp
  have hget : ∀ (i : Nat) (p : Nat × Nat), (w ++ [(b, k')])[i]? = some p → ∃ q, (w ++ [(b, k)])[i]? = some q ∧ q.1 = p.1 := fun i p hp => by
    have := congrArg (fun (l : List Nat) => l[i]?) hf
    simp only [List.getElem?_map] at this
    rw [hp] at this
    cases hq : (w ++ [(b, k)])[i]? with
    | none => rw [hq] at this; simp at this
    | some q => rw [hq] at this; simp at this; exact ⟨q, rfl, this.symm⟩
  refine ⟨fun p hp => ?_, h.done_seen, by rw [hf]; exact h.seen, by rw [hf]; exact h.nodup, h.reach, h.zero, fun p hp => ?_, h.closed, fun i p q hp hq => ?_, by rw [hf]; exact h.prev, fun p hp => ?_, by simp, fun p hp => ?_⟩
  · rcases List.mem_append.1 hp with hp | hp
    · exact h.way_seen p (by simp [hp])
    · simp at hp; subst hp; exact h.top
  · rcases List.mem_append.1 hp with hp | hp
    · exact h.first p (by simp [hp])
    · simp at hp; subst hp; exact hl
  · obtain ⟨p', h1, h2⟩ := hget i p hp
    obtain ⟨q', h3, h4⟩ := hget (i + 1) q hq
    rw [← h2, ← h4]; exact h.stack i p' q' h1 h3
  · obtain ⟨p', h1, h2⟩ := hget 0 p hp
    rw [← h2]; exact h.bottom p' h1
  · rcases List.mem_append.1 hp with hp | hp
    · exact h.upto p (by simp [hp])
    · simp at hp; subst hp; exact hk

/-- one more is looked at, which is seen -/
theorem DInv.next (h : DInv tn S (w ++ [(b, k)]) done) (hl : tn[b]? = some l) {c : Nat} (hc : l[k]? = some c) (hs : c ∈ S) : DInv tn S (w ++ [(b, k + 1)]) done := by
  refine h.fst (k + 1) (by rw [deg_at hl]; exact (List.getElem?_eq_some_iff.1 hc).1) fun l' hl' j c' hj hc' => ?_
  rw [hl] at hl'; cases hl'
  by_cases e : j = k
  · subst e; rw [hc] at hc'; cases hc'; exact hs
  · exact h.first (b, k) (by simp) l hl j c' (by omega) hc'

/-- one more is looked at, which is not seen -/
theorem DInv.push (h : DInv tn S (w ++ [(b, k)]) done) (hl : tn[b]? = some l) {c : Nat} (hc : l[k]? = some c) (hs : c ∉ S) : DInv tn (c :: S) ((w ++ [(b, k + 1)]) ++ [(c, 0)]) done := by
  have hbc : Edge tn b c := ⟨l, hl, List.mem_of_getElem? hc⟩
  have hb := h.top
  have mem : ∀ p, p ∈ (w ++ [(b, k + 1)]) ++ [(c, 0)] ↔ p ∈ w ∨ p = (b, k + 1) ∨ p = (c, 0) := by simp
  have hf : ((w ++ [(b, k + 1)]) ++ [(c, 0)]).map Prod.fst = (w ++ [(b, k)]).map Prod.fst ++ [c] := by simp
  refine ⟨fun p hp => ?_, fun d hd => by simp [h.done_seen d hd], fun x hx => ?_, ?_, fun x hx => ?_, by simp [h.zero], fun p hp l' hl' j c' hj hc' => ?_, fun d hd x he => by simp [h.closed d hd x he], fun i p q hp hq => ?_,
    fun i d hd h0 => ?_, fun p hp => ?_, by simp, fun p hp => ?_⟩
  · rcases (mem p).1 hp with hp | rfl | rfl
    · simp [h.way_seen p (by simp [hp])]
    · simp [hb]
    · simp
  · rw [hf]
    rcases List.mem_cons.1 hx with rfl | hx
    · simp
    · rcases h.seen x hx with hx | hx
      · exact .inl hx
      · exact .inr (by simp at hx ⊢; rcases hx with hx | hx <;> simp [hx])
  · rw [hf]
    have h1 := h.nodup
    have h2 : c ∉ (w ++ [(b, k)]).map Prod.fst := fun hc' => by
      obtain ⟨p, hp, e⟩ := List.mem_map.1 hc'
      exact hs (by rw [← e]; exact h.way_seen p hp)
    have h3 : c ∉ done := fun hc' => hs (h.done_seen c hc')
    generalize (w ++ [(b, k)]).map Prod.fst = A at *
    rw [List.nodup_append] at h1 ⊢
    obtain ⟨a1, a2, a3⟩ := h1
    refine ⟨?_, a2, ?_⟩
    · rw [List.nodup_append]
      refine ⟨a1, by simp, fun x hx y hy => ?_⟩
      simp at hy; subst hy; exact fun e => h2 (e ▸ hx)
    · intro x hx y hy
      rcases List.mem_append.1 hx with hx | hx
      · exact a3 x hx y hy
      · simp at hx; subst hx; exact fun e => h3 (e ▸ hy)
  · rcases List.mem_cons.1 hx with rfl | hx
    · exact .step (h.reach b hb) hbc (by omega)
    · exact h.reach x hx
  · rcases (mem p).1 hp with hp | rfl | rfl
    · simp [h.first p (by simp [hp]) l' hl' j c' hj hc']
    · rw [hl] at hl'; cases hl'
      by_cases e : j = k
      · subst e; rw [hc] at hc'; cases hc'; simp
      · simp only at hj
        simp [h.first (b, k) (by simp) l hl j c' (by simp only; omega) hc']
    · simp at hj
  · by_cases hi : i + 1 < w.length + 1
    · have hw : ∀ (j : Nat) (r : Nat × Nat), j < w.length + 1 → ((w ++ [(b, k + 1)]) ++ [(c, 0)])[j]? = some r → ∃ r', (w ++ [(b, k)])[j]? = some r' ∧ r'.1 = r.1 := fun j r hj hr => by
        rw [List.getElem?_append_left (by simp; omega)] at hr
        by_cases e : j < w.length
        · rw [List.getElem?_append_left e] at hr ⊢; exact ⟨r, hr, rfl⟩
        · have : j = w.length := by omega
          subst this
          simp at hr; subst hr; exact ⟨(b, k), by simp, rfl⟩
      obtain ⟨p', h1, h2⟩ := hw i p (by omega) hp
      obtain ⟨q', h3, h4⟩ := hw (i + 1) q hi hq
      rw [← h2, ← h4]; exact h.stack i p' q' h1 h3
    · have hlt := (List.getElem?_eq_some_iff.1 hq).1
      simp at hlt
      have : i = w.length := by omega
      subst this
      simp at hp
      have hq' : ((w ++ [(b, k + 1)]) ++ [(c, 0)])[w.length + 1]? = some (c, 0) := by
        rw [List.getElem?_append_right (by simp)]; simp
      rw [hq'] at hq; cases hq; subst hp; exact hbc
  · obtain ⟨p, h1, h2⟩ := h.prev i d hd h0
    refine ⟨p, h1, h2.imp id fun h3 => ?_⟩
    rw [hf]; simp only [List.mem_append]; exact .inl h3
  · by_cases e : w = []
    · subst e
      simp at hp; subst hp
      exact h.bottom (b, k) (by simp)
    · have hpos : 0 < w.length := List.length_pos_iff.2 e
      rw [List.append_assoc, List.getElem?_append_left hpos] at hp
      exact h.bottom p (by rw [List.getElem?_append_left hpos]; exact hp)
  · rcases (mem p).1 hp with hp | rfl | rfl
    · exact h.upto p (by simp [hp])
    · rw [deg_at hl]; exact (List.getElem?_eq_some_iff.1 hc).1
    · simp

/-- a block is done -/
theorem DInv.pop (h : DInv tn S (w ++ [(b, k)]) done) (hl : tn[b]? = some l) (hk : l.length ≤ k) : DInv tn S w (done ++ [b]) := by
  have hb := h.top
  refine ⟨fun p hp => h.way_seen p (by simp [hp]), fun d hd => ?_, fun x hx => ?_, ?_, h.reach, h.zero, fun p hp => h.first p (by simp [hp]), fun d hd c he => ?_, fun i p q hp hq => ?_, fun i d hd h0 => ?_, fun p hp => ?_, fun e => ?_, fun p hp => h.upto p (by simp [hp])⟩
  · rcases List.mem_append.1 hd with hd | hd
    · exact h.done_seen d hd
    · simp at hd; subst hd; exact hb
  · rcases h.seen x hx with hx | hx
    · exact .inl (by simp [hx])
    · simp only [List.map_append, List.mem_append, List.map_cons, List.map_nil, List.mem_singleton] at hx
      rcases hx with hx | hx
      · exact .inr hx
      · exact .inl (by simp [hx])
  · have := h.nodup
    rw [List.map_append] at this
    simp only [List.map_cons, List.map_nil, List.append_assoc] at this
    refine (List.Perm.nodup_iff ?_).1 this
    refine List.Perm.append_left _ ?_
    simpa using (List.perm_append_comm (l₁ := [b]) (l₂ := done))
  · rcases List.mem_append.1 hd with hd | hd
    · exact h.closed d hd c he
    · simp at hd; subst hd
      obtain ⟨l', h1, h2⟩ := he
      rw [hl] at h1; cases h1
      obtain ⟨j, hj⟩ := List.getElem?_of_mem h2
      exact h.first (d, k) (by simp) l hl j c (by have := (List.getElem?_eq_some_iff.1 hj).1; simp only; omega) hj
  · have h1 := (List.getElem?_eq_some_iff.1 hp).1
    have h2 := (List.getElem?_eq_some_iff.1 hq).1
    exact h.stack i p q (by rw [List.getElem?_append_left h1]; exact hp) (by rw [List.getElem?_append_left h2]; exact hq)
  · by_cases e : i < done.length
    · rw [List.getElem?_append_left e] at hd
      obtain ⟨p, h1, h2⟩ := h.prev i d hd h0
      refine ⟨p, h1, ?_⟩
      rcases h2 with ⟨j, h2, h3⟩ | h2
      · exact .inl ⟨j, h2, by rw [List.getElem?_append_left (List.getElem?_eq_some_iff.1 h3).1]; exact h3⟩
      · simp only [List.map_append, List.mem_append, List.map_cons, List.map_nil, List.mem_singleton] at h2
        rcases h2 with h2 | h2
        · exact .inr h2
        · subst h2; exact .inl ⟨done.length, e, by simp⟩
    · have hlt := (List.getElem?_eq_some_iff.1 hd).1
      simp at hlt
      have : i = done.length := by omega
      subst this
      simp at hd; subst hd
      rcases List.eq_nil_or_concat w with rfl | ⟨w', p, hw⟩
      · exact absurd (h.bottom (b, k) (by simp)) h0
      · rw [List.concat_eq_append] at hw; subst hw
        refine ⟨p.1, ?_, .inr (by simp)⟩
        exact h.stack w'.length p (b, k) (by simp) (by rw [List.append_assoc, List.getElem?_append_right (by omega)]; simp)
  · have hpos := (List.getElem?_eq_some_iff.1 hp).1
    exact h.bottom p (by rw [List.getElem?_append_left hpos]; exact hp)
  · subst e
    have : b = 0 := h.bottom (b, k) (by simp)
    subst this; simp

theorem DInv.lined (h : DInv tn S [] done) : Lined tn done.reverse := by
  have hnd : done.Nodup := by simpa using h.nodup
  have hS : ∀ b, b ∈ S ↔ b ∈ done := fun b => ⟨fun hb => (h.seen b hb).resolve_right (by simp), h.done_seen b⟩
  refine ⟨(List.reverse_perm done).nodup_iff.2 hnd, ?_, fun b => ?_, fun i b hb h0 => ?_⟩
  · have := h.last rfl
    rw [← List.head?_eq_getElem?, List.head?_reverse]; exact this
  · rw [List.mem_reverse, ← hS]
    refine ⟨h.reach b, fun hr => ?_⟩
    exact hr.sub (S := (· ∈ S)) (fun _ => h.zero) fun x c hx he _ => h.closed x ((hS x).1 hx) c he
  · have hlt := (List.getElem?_eq_some_iff.1 hb).1
    rw [List.length_reverse] at hlt
    rw [List.getElem?_reverse hlt] at hb
    obtain ⟨p, h1, h2⟩ := h.prev _ b hb h0
    rcases h2 with ⟨j, h2, h3⟩ | h2
    · have hj := (List.getElem?_eq_some_iff.1 h3).1
      refine ⟨done.length - 1 - j, p, by omega, ?_, h1⟩
      rw [List.getElem?_reverse (by omega)]
      rw [show done.length - 1 - (done.length - 1 - j) = j by omega]; exact h3
    · simp at h2

/-! ### It ends -/
def unseen (tn : Gr) (S : List Nat) : List Nat := (List.range tn.length).filter fun b => decide (b ∉ S)
def meas (tn : Gr) (S : List Nat) (way : List (Nat × Nat)) : Nat := ((unseen tn S).map fun b => deg tn b + 1).sum + (way.map fun p => deg tn p.1 - p.2 + 1).sum

theorem sum_filter_erase (f : Nat → Nat) (c : Nat) (q : Nat → Bool) (hq : q c = true) : ∀ (r : List Nat), r.Nodup → c ∈ r → ((r.filter fun b => q b && decide (b ≠ c)).map f).sum + f c = ((r.filter q).map f).sum
  | [], _, h => by cases h
  | x :: r, hn, h => by
    simp only [List.nodup_cons] at hn
    by_cases e : x = c
    · subst e
      have : (r.filter fun b => q b && decide (b ≠ x)) = r.filter q := by
        refine List.filter_congr fun b hb => ?_
        have : b ≠ x := fun e => hn.1 (e ▸ hb)
        simp [this]
      rw [List.filter_cons_of_neg (by simp), List.filter_cons_of_pos hq, this, List.map_cons, List.sum_cons]; omega
    · have hm : c ∈ r := by rcases List.mem_cons.1 h with h | h; exact absurd h.symm e; exact h
      have ih := sum_filter_erase f c q hq r hn.2 hm
      by_cases hx : q x = true
      · simp [hx, e] at ih ⊢; omega
      · simp [hx] at ih ⊢; exact ih

theorem meas_next {c : Nat} (hk : k < deg tn b) : meas tn S (w ++ [(b, k + 1)]) < meas tn S (w ++ [(b, k)]) := by
  simp only [meas, List.map_append, List.sum_append, List.map_cons, List.map_nil, List.sum_cons, List.sum_nil]; omega
theorem meas_push {c : Nat} (hk : k < deg tn b) (hc : c < tn.length) (hs : c ∉ S) : meas tn (c :: S) ((w ++ [(b, k + 1)]) ++ [(c, 0)]) < meas tn S (w ++ [(b, k)]) := by
  have h1 := sum_filter_erase (fun b => deg tn b + 1) c (fun b => decide (b ∉ S)) (by simpa using hs) (List.range tn.length) List.nodup_range (by simpa using hc)
  have h2 : unseen tn (c :: S) = (List.range tn.length).filter fun b => decide (b ∉ S) && decide (b ≠ c) := by
    unfold unseen
    refine List.filter_congr fun b _ => ?_
    by_cases e1 : b = c <;> by_cases e2 : b ∈ S <;> simp [e1, e2]
  simp only [meas, h2, List.map_append, List.sum_append, List.map_cons, List.map_nil, List.sum_cons, List.sum_nil]
  unfold unseen
  omega
theorem meas_pop : meas tn S w < meas tn S (w ++ [(b, k)]) := by
  simp only [meas, List.map_append, List.sum_append, List.map_cons, List.map_nil, List.sum_cons, List.sum_nil]; omega
end
end Go.Proofs.Ytifpejpeophlbaa
