/- One interval more, behind all that are there: it takes the first register, and nothing else turns. -/
import Derived.Test.YtengcfamhoppbaaPlainK
namespace Go.Proofs.Ytengcfamhoppbaa
set_option linter.unusedSimpArgs false
set_option linter.unusedVariables false

def padS (s : St) (tl : List Loc) : St := { act := s.act, free := s.free, out := s.out ++ tl, slots := s.slots }

theorem outN_pad (out tl : List Loc) (r : Int) (h : r.toNat < out.length) : outN (out ++ tl) r = outN out r := by
  simp [outN, List.getD_eq_getElem?_getD, List.getElem?_append_left h]
theorem expireL_pad (out tl : List Loc) (f : Int) : ∀ (act : List Iv) (fr : List Int), (∀ z ∈ act, z.r.toNat < out.length) → expireL (out ++ tl) f act fr = expireL out f act fr
  | [], fr, _ => rfl
  | a :: act, fr, h => by
    simp only [expireL]
    rw [outN_pad out tl a.r (h a (by simp)), expireL_pad out tl f act _ (fun z hz => h z (by simp [hz]))]
theorem takeS_pad (s : St) (tl : List Loc) (x : Iv) (hx : x.r.toNat < s.out.length) (h : ∀ z ∈ s.act, z.r.toNat < s.out.length) : takeS (padS s tl) x = padS (takeS s x) tl := by
  obtain ⟨act, free, out, slots⟩ := s
  simp only at hx h
  cases free with
  | cons f fr => simp only [takeS, padS]; rw [List.set_append_left _ _ hx]
  | nil =>
    rcases List.eq_nil_or_concat act with rfl | ⟨init, last, hc⟩
    · have hl : ([] : List Iv).getLastD x = x := rfl
      simp only [takeS, padS, hl]
      split
      · rw [List.set_append_left _ _ hx, List.set_append_left _ _ (by simpa using hx)]
        simp [List.getD_eq_getElem?_getD, List.getElem?_append_left hx]
      · rw [List.set_append_left _ _ hx]
    · rw [List.concat_eq_append] at hc; subst hc
      have hl : (init ++ [last]).getLastD x = last := by simp
      have hlt := h last (by simp)
      simp only [takeS, padS, hl]
      split
      · rw [List.set_append_left _ _ hx, List.set_append_left _ _ (by simpa using hlt)]
        simp [List.getD_eq_getElem?_getD, List.getElem?_append_left hlt]
      · rw [List.set_append_left _ _ hx]

theorem runL_pad (n regs : Nat) (h1 : 1 ≤ regs) (tl : List Loc) : ∀ (xs : List Iv) (k : Nat) (s : St), (∀ z ∈ xs, 0 ≤ z.r ∧ z.r < n) → InvS n regs k s → runL (padS s tl) xs = padS (runL s xs) tl
  | [], _, _, _, _ => rfl
  | x :: xs, k, s, hx, hi => by
    have hxr := hx x (by simp)
    have h2 := hi.expire x.f
    have e : stepS (padS s tl) x = padS (stepS s x) tl := by
      have e1 : expireL (s.out ++ tl) x.f s.act s.free = expireL s.out x.f s.act s.free := expireL_pad _ _ _ _ _ (fun z hz => by have := hi.act z hz; rw [hi.out]; omega)
      have e2 := takeS_pad { act := (expireL s.out x.f s.act s.free).1, free := (expireL s.out x.f s.act s.free).2, out := s.out, slots := s.slots } tl x (by show _ < s.out.length; rw [hi.out]; omega) (fun z hz => by have := h2.act z hz; show _ < s.out.length; rw [hi.out]; omega)
      unfold stepS
      rw [← e2]
      show takeS { act := (expireL (s.out ++ tl) x.f s.act s.free).1, free := (expireL (s.out ++ tl) x.f s.act s.free).2, out := s.out ++ tl, slots := s.slots } x = _
      rw [e1]; rfl
    simp only [runL]
    rw [e]
    exact runL_pad n regs h1 tl xs (k + 1) (stepS s x) (fun z hz => hx z (by simp [hz])) (h2.take h1 x hxr)

theorem runL_app (ys : List Iv) : ∀ (xs : List Iv) (s : St), runL s (xs ++ ys) = runL (runL s xs) ys
  | [], _ => rfl
  | x :: xs, s => by simp only [List.cons_append, runL]; exact runL_app ys xs _

theorem runL_J (n regs : Nat) (hregs : regs ≤ 8) (h1 : 1 ≤ regs) : ∀ (xs pre : List Iv) (f : Int) (s : St), SortedOk (pre ++ xs) → (∀ z ∈ xs, z.r < n) → (∀ x, xs.head? = some x → f ≤ x.f) → J n regs pre f s →
    ∃ f', J n regs (pre ++ xs) f' (runL s xs) ∧ (f' = f ∨ ∃ x ∈ xs, f' = x.f)
  | [], pre, f, s, _, _, _, h => ⟨f, by rw [List.append_nil]; exact h, .inl rfl⟩
  | x :: xs, pre, f, s, hso, hn, hf, h => by
    have hs1 := List.pairwise_append.1 hso.srt
    have hd1 := List.pairwise_append.1 hso.dis
    have hb := hso.ok x (by simp)
    unfold bad0 at hb
    have hxn := hn x (by simp)
    have hx : ∀ z ∈ pre, z.r ≠ x.r := fun z hz => hd1.2.2 z hz x (by simp)
    have hJ := h.expire (hf x rfl)
    have g1 := (hJ.step (x := x) (l := pre ++ x :: xs) hregs h1 rfl hx (by omega) (by omega)).1
    have e : pre ++ x :: xs = (pre ++ [x]) ++ xs := by simp
    rw [e] at hso ⊢
    simp only [runL]
    obtain ⟨f', q1, q2⟩ := runL_J n regs hregs h1 xs (pre ++ [x]) x.f (stepS s x) hso (fun z hz => hn z (by simp [hz])) (fun y hy => by
      have hp := List.pairwise_append.1 hso.srt
      have := hp.2.2 x (by simp) y (List.mem_of_mem_head? hy)
      unfold ltF at this; omega) g1
    refine ⟨f', q1, .inr ?_⟩
    rcases q2 with rfl | ⟨y, hy, rfl⟩
    · exact ⟨x, by simp, rfl⟩
    · exact ⟨y, by simp [hy], rfl⟩

theorem mostL_fold : ∀ (l : List Iv) (m : Int), mostL m l = l.foldl (fun m x => max m x.r) m
  | [], _ => rfl
  | x :: xs, m => by simp only [mostL, List.foldl_cons]; exact mostL_fold xs _
theorem mostL_app (l : List Iv) (x : Iv) (m : Int) : mostL m (l ++ [x]) = max (mostL m l) x.r := by rw [mostL_fold, mostL_fold, List.foldl_append]; rfl

theorem scanL_on {o : List Iv} {regs e t : Int} (hr : ¬ (regs < 1 ∨ regs > 8)) (h : SortedOk o) (he : ∀ z ∈ o, z.t ≤ e) (ht : e + 1 ≤ t) (hm : mostL (-1) o < 262143) :
    SortedOk (o ++ [⟨mostL (-1) o + 1, e + 1, t⟩]) ∧ scanL (o ++ [⟨mostL (-1) o + 1, e + 1, t⟩]) regs = ((scanL o regs).1 ++ [⟨1, 0⟩], (scanL o regs).2.1, 0) := by
  have hb := mostL_bd o (-1)
  have hso : SortedOk (o ++ [⟨mostL (-1) o + 1, e + 1, t⟩]) := by
    refine ⟨List.pairwise_append.2 ⟨h.srt, by simp, fun a ha b hbm => ?_⟩, List.pairwise_append.2 ⟨h.dis, by simp, fun a ha b hbm => ?_⟩, fun z hz => ?_⟩
    · have hb' : b = ⟨mostL (-1) o + 1, e + 1, t⟩ := by simpa using hbm
      have h1 := he a ha; have h2 := h.ok a ha; unfold bad0 at h2
      rw [hb']; left; simp only; omega
    · have hb' : b = ⟨mostL (-1) o + 1, e + 1, t⟩ := by simpa using hbm
      have h1 := hb.2 a ha
      rw [hb']; simp only; omega
    · rcases List.mem_append.1 hz with hz | hz
      · exact h.ok z hz
      · have hz' : z = ⟨mostL (-1) o + 1, e + 1, t⟩ := by simpa using hz
        rw [hz']; unfold bad0; simp only; omega
  refine ⟨hso, ?_⟩
  rw [scanL_eq hr hso, scanL_eq hr h]
  have hstart : startS (o ++ [⟨mostL (-1) o + 1, e + 1, t⟩]) regs = padS (startS o regs) [⟨0, 0⟩] := by
    unfold startS padS
    simp only [mostL_app]
    have e1 : (max (mostL (-1) o) (mostL (-1) o + 1) + 1).toNat = (mostL (-1) o + 1).toNat + 1 := by omega
    rw [e1, List.replicate_succ']
  have hJ0 : J (mostL (-1) o + 1).toNat regs.toNat [] (match o with | [] => e | x :: _ => x.f) (startS o regs) :=
    ⟨by simp [startS], fun z hz => (List.not_mem_nil hz).elim, .nil, .nil, fun z => by simp [startS], iota_sorted _, by simp [startS]⟩
  obtain ⟨f', q1, q2⟩ := runL_J (mostL (-1) o + 1).toNat regs.toNat (by omega) (by omega) o [] _ (startS o regs) h
    (fun x hx => by have := hb.2 x hx; omega) (fun x hx => by cases o with
          | nil => cases hx
          | cons y ys => cases hx; exact Int.le_refl _) hJ0
  have hle : f' ≤ e + 1 := by
    have hall : ∀ x ∈ o, x.f ≤ e := fun x hx => by have := he x hx; have h2 := h.ok x hx; unfold bad0 at h2; omega
    rcases q2 with rfl | ⟨x, hx, rfl⟩
    · cases o with
      | nil => show e ≤ e + 1; omega
      | cons y ys => have := hall y (by simp); simp only; omega
    · have := hall x hx; omega
  have hInv0 : InvS (mostL (-1) o + 1).toNat regs.toNat 0 (startS o regs) := ⟨by simp [startS], fun z hz => by simp [startS] at hz, by simp [startS, iota_len], Int.le_refl _, by simp [startS]⟩
  rw [hstart, runL_app, runL_pad _ _ (by omega) _ o 0 (startS o regs) (fun z hz => by have := hb.2 z hz; have h2 := h.ok z hz; unfold bad0 at h2; omega) hInv0]
  obtain ⟨s, hs⟩ : ∃ s, runL (startS o regs) o = s := ⟨_, rfl⟩
  rw [hs] at q1 ⊢
  have q3 := q1.expire hle
  rw [List.nil_append] at q3
  have hact : (expireL s.out (e + 1) s.act s.free).1 = [] := by
    refine List.eq_nil_iff_forall_not_mem.2 fun z hz => ?_
    obtain ⟨g1, g2⟩ := (q3.mem z).1 hz
    have := he z g1; unfold Active at g2; omega
  have hprm := q3.prm
  simp only [hact, List.map_nil, List.append_nil] at hprm
  have hfs := q3.fsr
  simp only at hfs
  have hol : s.out.length = (mostL (-1) o + 1).toNat := q1.len
  have hexp : expireL (s.out ++ [⟨0, 0⟩]) (e + 1) s.act s.free = expireL s.out (e + 1) s.act s.free := expireL_pad _ _ _ _ _ (fun z hz => by
    have := (q1.mem z).1 hz; have h3 := q1.rng z this.1; rw [hol]; omega)
  cases hfr : (expireL s.out (e + 1) s.act s.free).2 with
  | nil => rw [hfr] at hprm; have := hprm.length_eq; rw [iota_len] at this; simp at this; omega
  | cons f0 fr =>
    rw [hfr] at hprm hfs
    have h0 : 0 ≤ f0 := ((iota_mem _ _).1 (hprm.mem_iff.1 (by simp))).1
    have hz : (0 : Int) ∈ f0 :: fr := hprm.mem_iff.2 ((iota_mem _ _).2 (by omega))
    have hf0 : f0 = 0 := by
      rcases List.mem_cons.1 hz with hz | hz
      · exact hz.symm
      · have := (List.pairwise_cons.1 hfs).1 0 hz; omega
    have hstep : stepS (padS s [⟨0, 0⟩]) ⟨mostL (-1) o + 1, e + 1, t⟩ = { act := putL laterB [] ⟨mostL (-1) o + 1, e + 1, t⟩, free := fr, out := s.out ++ [⟨1, 0⟩], slots := s.slots } := by
      unfold stepS padS
      simp only
      rw [hexp, hact, hfr, hf0]
      simp only [takeS]
      have : (s.out ++ [(⟨0, 0⟩ : Loc)]).set (mostL (-1) o + 1).toNat (⟨1, 0⟩ : Loc) = s.out ++ [(⟨1, 0⟩ : Loc)] := by
        rw [← hol, List.set_append_right _ _ (Nat.le_refl _), Nat.sub_self]; rfl
      rw [this]
    simp only [runL]
    rw [hstep]
end Go.Proofs.Ytengcfamhoppbaa
