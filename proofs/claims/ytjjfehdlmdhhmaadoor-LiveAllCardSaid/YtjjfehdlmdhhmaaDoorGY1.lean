/- A function turned: the first register that is set goes to another one. Plain, and what is owned of it. -/
import Derived.Test.YtjjfehdlmdhhmaaDoorGW1
import Derived.Test.YtjjfehdlmdhhmaaDoorGL7
section
/- A function turned: the first register that is set goes to another one. Plain, and what is owned of it. -/
namespace Go.Proofs.YtjjfehdlmdhhmaaDoor
open Go.Sep
set_option linter.unusedSimpArgs false
set_option linter.unusedVariables false
theorem slA_fun {F G : LFun} {v : Value} {a b : SV} (h1 : F.name = G.name) (h2 : F.regs = G.regs) (h3 : F.res = G.res) : slA 25 encFun v [((F, a, b) : RFun)] = slA 25 encFun v [((G, a, b) : RFun)] := by
  funext h
  simp only [slA, encFun, fcs, List.flatMap_cons, List.flatMap_nil, h1, h2, h3, List.length_cons, List.length_nil, List.cons_ne_nil, reduceCtorEq]
attribute [local irreducible] blk slA mp mpF
def Hit (F : LFun) (x : LIns) : Prop := x.op = 1 ∧ 0 ≤ x.dst ∧ x.dst < F.regs
def turnI (F : LFun) (x : LIns) : LIns := { x with dst := (x.dst + 1).tmod F.regs }
def setIB (b : LBlk) (j : Nat) (x : LIns) : LBlk := { b with body := b.body.set j x }
def setIF (F : LFun) (k : Nat) (b : LBlk) (j : Nat) (x : LIns) : LFun := { F with blocks := F.blocks.set k (setIB b j x) }
def NoHit (F : LFun) (b : LBlk) (m : Nat) : Prop := ∀ (j : Nat) (x : LIns), j < m → b.body[j]? = some x → ¬ Hit F x
def NoHitF (F : LFun) (m : Nat) : Prop := ∀ (k : Nat) (b : LBlk), k < m → F.blocks[k]? = some b → NoHit F b b.body.length
/-- what turn makes of a function -/
def TurnOf (F G : LFun) : Prop := (NoHitF F F.blocks.length ∧ G = F) ∨
  ∃ (k : Nat) (b : LBlk) (j : Nat) (x : LIns), F.blocks[k]? = some b ∧ b.body[j]? = some x ∧ Hit F x ∧ NoHitF F k ∧ NoHit F b j ∧ G = setIF F k b j (turnI F x)
theorem turn_uniq {F G H : LFun} (h1 : TurnOf F G) (h2 : TurnOf F H) : G = H := by
  have aux : ∀ {k : Nat} {b : LBlk} {j : Nat} {x : LIns}, F.blocks[k]? = some b → b.body[j]? = some x → Hit F x → ∀ {m : Nat}, NoHitF F m → m ≤ k := by
    intro k b j x g1 g2 g3 m hn
    rcases Nat.lt_or_ge k m with h | h
    · exact absurd g3 (hn k b h g1 j x (List.getElem?_eq_some_iff.1 g2).1 g2)
    · exact h
  rcases h1 with ⟨h1, rfl⟩ | ⟨k, b, j, x, g1, g2, g3, g4, g5, rfl⟩ <;> rcases h2 with ⟨h2, rfl⟩ | ⟨k', b', j', x', q1, q2, q3, q4, q5, rfl⟩
  · rfl
  · have := aux q1 q2 q3 h1
    exact absurd (List.getElem?_eq_some_iff.1 q1).1 (by omega)
  · have := aux g1 g2 g3 h2
    exact absurd (List.getElem?_eq_some_iff.1 g1).1 (by omega)
  · have e1 := aux q1 q2 q3 g4
    have e2 := aux g1 g2 g3 q4
    obtain rfl : k = k' := by omega
    rw [g1] at q1; obtain rfl := Option.some.inj q1
    have e3 : ¬ j' < j := fun h => g5 j' x' h q2 q3
    have e4 : ¬ j < j' := fun h => q5 j x h g2 g3
    obtain rfl : j = j' := by omega
    rw [g2] at q2; obtain rfl := Option.some.inj q2
    rfl
theorem turn_same {F G : LFun} (h : TurnOf F G) : G.name = F.name ∧ G.params = F.params ∧ G.regs = F.regs ∧ G.res = F.res ∧ G.blocks.length = F.blocks.length := by
  rcases h with ⟨_, rfl⟩ | ⟨k, b, j, x, g1, g2, g3, g4, g5, rfl⟩
  · exact ⟨rfl, rfl, rfl, rfl, rfl⟩
  · exact ⟨rfl, rfl, rfl, rfl, by simp [setIF]⟩
theorem turn_blk {F G : LFun} (h : TurnOf F G) {i : Nat} {c : LBlk} (hc : G.blocks[i]? = some c) : ∃ b, F.blocks[i]? = some b ∧ c.kind = b.kind ∧ c.value = b.value ∧ c.to = b.to ∧ c.body.length = b.body.length ∧ ∀ (j : Nat) (y : LIns), c.body[j]? = some y → ∃ x, b.body[j]? = some x ∧ y.args = x.args ∧ y.op = x.op ∧ y.imm = x.imm ∧ (y.dst = x.dst ∨ Hit F x ∧ y.dst = (x.dst + 1).tmod F.regs) := by
  rcases h with ⟨_, rfl⟩ | ⟨k, b, j, x, g1, g2, g3, g4, g5, rfl⟩
  · exact ⟨c, hc, rfl, rfl, rfl, rfl, fun j y hy => ⟨y, hy, rfl, rfl, rfl, .inl rfl⟩⟩
  · simp only [setIF, List.getElem?_set] at hc
    split at hc
    · next e =>
      subst e
      split at hc
      · obtain rfl := Option.some.inj hc
        refine ⟨b, g1, rfl, rfl, rfl, by simp [setIB], fun j' y hy => ?_⟩
        simp only [setIB, List.getElem?_set] at hy
        split at hy
        · next e =>
          subst e
          split at hy
          · obtain rfl := Option.some.inj hy
            exact ⟨x, g2, rfl, rfl, rfl, .inr ⟨g3, rfl⟩⟩
          · cases hy
        · exact ⟨y, hy, rfl, rfl, rfl, .inl rfl⟩
      · cases hc
    · exact ⟨c, hc, rfl, rfl, rfl, rfl, fun j y hy => ⟨y, hy, rfl, rfl, rfl, .inl rfl⟩⟩
/-! ### What is owned of a function, without the marks -/
def rawQ (ws : List SV) (xs : List LIns) : List RIns := List.zipWith (fun w x => (x.op, x.dst, x.imm, w)) ws xs
def rowsQ (ws : List SV) (xs : List LIns) : List (SV × List Int) := List.zipWith (fun w x => (w, x.args)) ws xs
def bodyQ (u : SV) (xs : List LIns) : HProp := fun h => ∃ ws : List SV, ws.length = xs.length ∧ sat [slA 67 encIns u.val (rawQ ws xs), rows 3 (Enc.int .i64) (rowsQ ws xs)] h
def blkQ (r : RBlk) (b : LBlk) : HProp := fun h => ∃ w : SV, r = (r.1, b.kind, b.value, w) ∧ sat [slA 3 (Enc.int .i64) w.val b.to, bodyQ r.1 b.body] h
def funQ (sp sb : SV) (F : LFun) : List RBlk → List HProp := fun rs => [slA 3 (Enc.int .i64) sp.val F.params, slA 56 encBlk sb.val rs, many (List.zipWith blkQ rs F.blocks)]
theorem cut_own {A : Type} {T : TypeId} {E : Enc A} {h : Heap} {w : SV} {xs ms : List A} {sz : Nat} (hz : E.sz = sz) (H : slA T E w.val (xs ++ ms) h) : slA T E (w.cut sz 0 xs.length).val xs h := by
  subst hz
  have := slA_cut H (lo := 0) (hi := xs.length) (Nat.zero_le _) (by simp)
  rw [List.take_left', List.drop_zero] at this
  · simpa [cutV_val] using this
  · rfl
theorem sat_map : ∀ {Γ Δ : List HProp}, Γ.length = Δ.length → (∀ (i : Nat) (A B : HProp), Γ[i]? = some A → Δ[i]? = some B → ∀ h, A h → B h) → ∀ {h : Heap}, sat Γ h → sat Δ h
  | [], [], _, _, _, _ => trivial
  | A :: Γ, B :: Δ, hl, H, h, ⟨h1, h2, g1, g2, hd, e⟩ => ⟨h1, h2, H 0 A B rfl rfl h1 g1, sat_map (by simpa using hl) (fun i => H (i + 1)) g2, hd, e⟩
theorem body_q {u : SV} {xs : List LIns} {h : Heap} (hb : bodyP u xs h) : bodyQ u xs h := by
  obtain ⟨w, ws, rfl, hl, hs⟩ := hb
  refine ⟨List.zipWith (fun w x => w.cut 1 0 x.args.length) ws xs, by simp [hl], ?_⟩
  refine sat_map (by rfl) (fun i A B hA hB => ?_) hs
  match i, hA, hB with
  | 0, hA, hB =>
    obtain rfl := Option.some.inj hA; obtain rfl := Option.some.inj hB
    intro h hh
    have e : rawQ (List.zipWith (fun w x => w.cut 1 0 x.args.length) ws xs) xs = rawA ws xs := by
      apply List.ext_getElem? ; intro i
      simp only [rawQ, rawA, List.getElem?_zipWith]
      cases ws[i]? <;> cases xs[i]? <;> rfl
    rw [e]
    have hl2 : (rawA ws xs).length = xs.length := by simp [rawA, hl]
    rw [← hl2]; exact cut_own rfl hh
  | 1, hA, hB =>
    obtain rfl := Option.some.inj hA; obtain rfl := Option.some.inj hB
    intro h hh
    refine sat_map (Γ := rowsL 3 (Enc.int .i64) (rowsA ws xs)) (by simp [rowsL, rowsA, rowsQ, hl]) (fun i A B hA hB h => ?_) (show sat (rowsL 3 (Enc.int .i64) (rowsA ws xs)) h from hh)
    simp only [rowsL, rowsA, rowsQ, List.getElem?_map, List.getElem?_zipWith] at hA hB
    cases hw : ws[i]? with
    | none => simp [hw] at hA
    | some w => cases hx : xs[i]? with
      | none => simp [hw, hx] at hA
      | some x =>
        simp only [hw, hx, Option.map_some, Option.some.injEq] at hA hB
        subst hA hB
        exact fun hq => cut_own rfl hq
  | i + 2, hA, hB => simp at hA
theorem blk_q {r : RBlk} {b : LBlk} {h : Heap} (hb : blkP r b h) : blkQ r b h := by
  obtain ⟨w, e, hs⟩ := hb
  refine ⟨w.cut 1 0 b.to.length, e, sat_map (by rfl) (fun i A B hA hB => ?_) hs⟩
  match i, hA, hB with
  | 0, hA, hB => obtain rfl := Option.some.inj hA; obtain rfl := Option.some.inj hB; exact fun h hh => cut_own rfl hh
  | 1, hA, hB => obtain rfl := Option.some.inj hA; obtain rfl := Option.some.inj hB; exact fun h hh => body_q hh
  | i + 2, hA, hB => simp at hA
theorem fun_q {sp sb : SV} {F : LFun} {h : Heap} (hb : funP (F, sp, sb) F h) : ∃ rs : List RBlk, rs.length = F.blocks.length ∧ sat (funQ sp sb F rs) h := by
  obtain ⟨wp, w, rs, e, hl, hs⟩ := hb
  simp only [Prod.mk.injEq, true_and] at e
  obtain ⟨rfl, rfl⟩ := e
  refine ⟨rs, hl, sat_map (by rfl) (fun i A B hA hB => ?_) hs⟩
  match i, hA, hB with
  | 0, hA, hB => obtain rfl := Option.some.inj hA; obtain rfl := Option.some.inj hB; exact fun h hh => cut_own rfl hh
  | 1, hA, hB => obtain rfl := Option.some.inj hA; obtain rfl := Option.some.inj hB; rw [← hl]; exact fun h hh => cut_own rfl hh
  | 2, hA, hB =>
    obtain rfl := Option.some.inj hA; obtain rfl := Option.some.inj hB
    intro h hh
    refine sat_map (Γ := List.zipWith blkP rs F.blocks) (by simp) (fun i A B hA hB h => ?_) (show sat (List.zipWith blkP rs F.blocks) h from hh)
    simp only [List.getElem?_zipWith] at hA hB
    cases hw : rs[i]? with
    | none => simp [hw] at hA
    | some w => cases hx : F.blocks[i]? with
      | none => simp [hw, hx] at hA
      | some x =>
        simp only [hw, hx, Option.some.injEq] at hA hB
        subst hA hB
        exact fun hq => blk_q hq
  | i + 3, hA, hB => simp at hA
/-! ### One of many -/
theorem perm_get {A : Type} {xs : List A} {k : Nat} {a : A} (h : xs[k]? = some a) : (a :: xs.eraseIdx k).Perm xs := by
  induction xs generalizing k with
  | nil => simp at h
  | cons x xs ih => cases k with
    | zero => simp at h; subst h; exact List.Perm.refl _
    | succ k => simp only [List.getElem?_cons_succ] at h; exact (List.Perm.swap x a _).trans ((ih h).cons x)
theorem many_take {Θ : List HProp} {k : Nat} {A : HProp} (hk : Θ[k]? = some A) (Γ : List HProp) : ent (many Θ :: Γ) (A :: many (Θ.eraseIdx k) :: Γ) := by
  have h1 := many_out Θ Γ
  have h2 := many_in (Θ.eraseIdx k) Γ
  have hp : Θ.Perm (A :: Θ.eraseIdx k) := by
    exact (perm_get hk).symm
  exact h1.trans ((ent.perm (hp.append_right Γ)).trans (ent.cons (fun _ h => h) h2))
theorem many_put {Θ : List HProp} {k : Nat} (B : HProp) (hk : k < Θ.length) (Γ : List HProp) : ent (B :: many (Θ.eraseIdx k) :: Γ) (many (Θ.set k B) :: Γ) := by
  have h1 := many_in (Θ.set k B) Γ
  have h2 := many_out (Θ.eraseIdx k) Γ
  have hp : (B :: Θ.eraseIdx k).Perm (Θ.set k B) := by
    have := perm_get (xs := Θ.set k B) (k := k) (a := B) (by simp [hk])
    simpa [List.eraseIdx_set_eq] using this
  exact (ent.cons (fun _ h => h) h2).trans ((ent.perm (hp.append_right Γ)).trans h1)
theorem zip_set {A B C : Type} (f : A → B → C) {ws : List A} {xs : List B} {k : Nat} {w : A} {x : B} (h : ws[k]? = some w) : (List.zipWith f ws xs).set k (f w x) = List.zipWith f ws (xs.set k x) := by
  apply List.ext_getElem?; intro i
  simp only [List.getElem?_set, List.getElem?_zipWith, List.length_zipWith]
  have hl := (List.getElem?_eq_some_iff.1 h).1
  by_cases e : k = i
  · subst e; by_cases hx : k < xs.length
    · simp only [List.getElem?_eq_getElem hl, Option.some.injEq] at h
      have : k < min ws.length xs.length := by omega
      simp [hl, hx, h, this]
    · have : ¬ k < min ws.length xs.length := by omega
      simp [hx, this]
  · simp [e]
theorem zip_same {A B C : Type} (f : A → B → C) {ws : List A} {xs : List B} {k : Nat} {x y : B} (h : xs[k]? = some y) (e : ∀ w, f w x = f w y) : List.zipWith f ws (xs.set k x) = List.zipWith f ws xs := by
  apply List.ext_getElem?; intro i
  simp only [List.getElem?_set, List.getElem?_zipWith]
  have hl := (List.getElem?_eq_some_iff.1 h).1
  by_cases e2 : k = i
  · subst e2; rw [h]; cases ws[k]? with
    | none => rfl
    | some w => simp [hl, e]
  · simp [e2]
end Go.Proofs.YtjjfehdlmdhhmaaDoor
end
section
/- turn: walked. -/
namespace Go.Proofs.YtjjfehdlmdhhmaaDoor
open Go.Sep
set_option linter.unusedSimpArgs false
set_option linter.unusedVariables false
attribute [local irreducible] blk slA mp mpF rows rowsBut many
instance (F : LFun) (x : LIns) : Decidable (Hit F x) := inferInstanceAs (Decidable (_ ∧ _ ∧ _))
abbrev turnΓ (lb : Nat) (sv sp sb : SV) (m : Int) (F : LFun) (rs : List RBlk) : List HProp := [blk lb [sv.val, .int .i64 m] 38, slA 25 encFun sv.val [((F, sp, sb) : RFun)], slA 3 (Enc.int .i64) sp.val F.params, slA 56 encBlk sb.val rs, many (List.zipWith blkQ rs F.blocks)]
theorem blkQ_open {r : RBlk} {b : LBlk} {Γ : List HProp} : ∀ h, sat (blkQ r b :: Γ) h → ∃ z : {z : SV × List SV // r = (r.1, b.kind, b.value, z.1) ∧ z.2.length = b.body.length}, sat ([slA 3 (Enc.int .i64) z.1.1.val b.to, slA 67 encIns r.1.val (rawQ z.1.2 b.body), rows 3 (Enc.int .i64) (rowsQ z.1.2 b.body)] ++ Γ) h := by
  rintro h ⟨h1, h2, ⟨w, e, ⟨a1, a2, p1, ⟨a3, a4, ⟨ws, hl, hs⟩, _, d2, e2⟩, d1, e1⟩⟩, g2, hd, eq⟩
  refine ⟨⟨(w, ws), e, hl⟩, sat_append.2 ⟨h1, h2, ?_, g2, hd, eq⟩⟩
  refine ⟨a1, a2, p1, ?_, d1, e1⟩
  rw [e2]; exact sat_mono hs (by rw [e2] at d1; assumption)
theorem blkQ_close {b : LBlk} {u w : SV} {ws : List SV} (hl : ws.length = b.body.length) (Γ : List HProp) : ent (slA 3 (Enc.int .i64) w.val b.to :: slA 67 encIns u.val (rawQ ws b.body) :: rows 3 (Enc.int .i64) (rowsQ ws b.body) :: Γ) (blkQ (u, b.kind, b.value, w) b :: Γ) := by
  refine (show ent ([slA 3 (Enc.int .i64) w.val b.to, slA 67 encIns u.val (rawQ ws b.body), rows 3 (Enc.int .i64) (rowsQ ws b.body)] ++ Γ) _ from ent.pack (fun h hs => ?_) Γ)
  obtain ⟨a1, a2, p1, p2, d1, e1⟩ := hs
  refine ⟨w, rfl, a1, a2, p1, ?_, d1, e1⟩
  exact (show sat [bodyQ u b.body] a2 from ⟨a2, emp, ⟨ws, hl, p2⟩, trivial, fun b => .inr rfl, (un_emp a2 fun _ => rfl).symm⟩)
theorem ent.rot4 (A B C D : HProp) (Γ : List HProp) : ent (A :: B :: C :: D :: Γ) (Γ ++ [A, B, C, D]) := ent.perm (by simpa using (List.perm_append_comm (l₁ := [A, B, C, D]) (l₂ := Γ)))
theorem ent.rot1 (A : HProp) (Γ : List HProp) : ent (A :: Γ) (Γ ++ [A]) := ent.perm (by simpa using (List.perm_append_comm (l₁ := [A]) (l₂ := Γ)))
theorem set_at {A : Type} {xs : List A} {k : Nat} {x : A} (h : xs[k]? = some x) : xs.set k x = xs := by
  apply List.ext_getElem?; intro i
  by_cases e : k = i
  · subst e; rw [List.getElem?_set_self (List.getElem?_eq_some_iff.1 h).1, h]
  · rw [List.getElem?_set_ne e]
set_option maxHeartbeats 1000000 in
set_option maxRecDepth 100000 in
theorem turn_ok (hR : Heap) (lb : Nat) (sv sp sb : SV) (m : Int) (F : LFun) (rs : List RBlk) (hrl : rs.length = F.blocks.length) (hb : F.blocks.length ≤ 1000000) (hS : SmallF F) (hr : F.regs ≤ 1000000) :
    Tri Tryd.prog hR 52 #[.pointer (some ⟨lb, 0, none⟩)] (turnΓ lb sv sp sb m F rs) fun u Γ' => ∃ G, TurnOf F G ∧ Γ' = turnΓ lb sv sp sb m G rs := by
  refine Tri.ent (Tri.of (args := [.pointer (some ⟨lb, 0, none⟩)]) Tryd.func52 rfl Tryd.ntmps52 (by simp) ?_)
  have h1 : [((F, sp, sb) : RFun)].length = 1 := rfl
  refine Zp ?_
  refine Zm ?_
  refine Ze ?_
  refine WP.block ?_
  refine WP.trim [2, 0] [0, 1, 2, 3, 4] ?_
  refine WP.loopC (α := Nat) (fun i => i ≤ 1 ∧ (i = 1 → NoHitF F F.blocks.length)) (fun i => [(2, .int .i64 (i : Int))]) (fun _ => []) (fun i => 1 - i) 0 ⟨by omega, by omega⟩ ?_
  rintro i ⟨hi, hn⟩
  refine WP.trim [2, 0] [0, 1, 2, 3, 4] ?_
  try simp only
  refine WP.seq ?_
  refine Zp ?_
  refine Zm ?_
  refine Zm ?_
  refine Zn ?_
  refine Zf fo_38_0 ?_
  refine Zf fo_36_0 ?_
  refine Zl 0 ag_34 ?_
  refine Run.lenO 1 rfl rfl sl_34 rfl rfl rfl ?_
  refine Zi ?_
  refine Ze ?_
  refine WP.ite rfl (fun hlt => ?_) (fun hge => ?_)
  · refine Zb ?_
    obtain rfl : i = 0 := by omega
    refine WP.seq ?_
    refine WP.block ?_
    refine Zp ?_
    refine Zm ?_
    refine Ze ?_
    refine WP.block ?_
    refine WP.trim [3, 2, 0] [0, 1, 2, 3, 4] ?_
    refine WP.loopC (α := Nat) (fun k => k ≤ rs.length ∧ NoHitF F k) (fun k => [(3, .int .i64 (k : Int))]) (fun _ => []) (fun k => rs.length - k) 0 ⟨by omega, fun k b hk => by omega⟩ ?_
    rintro k ⟨hk, hnk⟩
    refine WP.trim [3, 2, 0] [0, 1, 2, 3, 4] ?_
    try simp only
    refine WP.seq ?_
    refine Zp ?_
    refine Zm ?_
    refine Zm ?_
    refine Zn ?_
    refine Zf fo_38_0 ?_
    refine Zf fo_36_0 ?_
    refine Zl 0 ag_34 ?_
    refine Zm ?_
    refine Run.idxO 1 rfl rfl rfl sl_34 rfl rfl rfl rfl (by omega) (by simp) ?_
    refine Zf fo_25_4 ?_
    refine Run.loadO 1 0 4 rfl rfl ag_23 rfl rfl rfl rfl (y := ((F, sp, sb) : RFun)) rfl rfl ?_
    refine Run.lenO 3 rfl rfl sl_23 rfl rfl rfl ?_
    refine Zi ?_
    refine Ze ?_
    refine WP.ite rfl (fun hlt2 => ?_) (fun hge2 => ?_)
    · refine Zb ?_
      obtain ⟨⟨bu, bk, bv, bt⟩, gR⟩ : ∃ y, rs[k]? = some y := ⟨_, List.getElem?_eq_getElem (by omega)⟩
      obtain ⟨b, gB⟩ : ∃ y, F.blocks[k]? = some y := ⟨_, List.getElem?_eq_getElem (by omega)⟩
      have hb1 := hS.bodies b (List.mem_of_getElem? gB)
      have hz := zip_get blkQ gR gB
      refine WP.trim [3, 2, 0] [4, 0, 1, 2, 3] ?_
      refine WP.via (many_take hz _) ?_
      refine WP.opens blkQ_open ?_
      rintro ⟨⟨bt', ws⟩, e, hwl⟩
      simp only [Prod.mk.injEq, true_and] at e
      obtain ⟨rfl, rfl, rfl⟩ := e
      simp only at hwl
      refine WP.trim [3, 2, 0] [4, 5, 6, 7, 0, 1, 2, 3] ?_
      refine WP.seq ?_
      refine WP.block ?_
      refine Zp ?_
      refine Zm ?_
      refine Ze ?_
      refine WP.block ?_
      refine WP.trim [4, 3, 2, 0] [0, 1, 2, 3, 4, 5, 6, 7] ?_
      refine WP.loopC (α := Nat) (fun j => j ≤ b.body.length ∧ NoHit F b j) (fun j => [(4, .int .i64 (j : Int))]) (fun _ => []) (fun j => b.body.length - j) 0 ⟨by omega, fun j x hj => by omega⟩ ?_
      rintro j ⟨hj, hnj⟩
      refine WP.trim [4, 3, 2, 0] [0, 1, 2, 3, 4, 5, 6, 7] ?_
      try simp only
      have hql : (rawQ ws b.body).length = b.body.length := by simp [rawQ, hwl]
      refine WP.seq ?_
      refine Zp ?_
      refine Zm ?_
      refine Zm ?_
      refine Zn ?_
      refine Zf fo_38_0 ?_
      refine Zf fo_36_0 ?_
      refine Zl 0 ag_34 ?_
      refine Zm ?_
      refine Run.idxO 1 rfl rfl rfl sl_34 rfl rfl rfl rfl (by omega) (by simp) ?_
      refine Zf fo_25_4 ?_
      refine Run.loadO 1 0 4 rfl rfl ag_23 rfl rfl rfl rfl (y := ((F, sp, sb) : RFun)) rfl rfl ?_
      refine Zm ?_
      refine Run.idxO 3 rfl rfl rfl sl_23 rfl rfl rfl rfl (by omega) (by omega) ?_
      refine Zf fo_56_0 ?_
      refine Run.loadO 3 k 0 rfl rfl ag_52 rfl rfl rfl rfl (y := ((bu, b.kind, b.value, bt) : RBlk)) gR rfl ?_
      refine Run.lenO 5 rfl rfl sl_52 rfl rfl rfl ?_
      refine Zi ?_
      refine Ze ?_
      refine WP.ite rfl (fun hlt3 => ?_) (fun hge3 => ?_)
      · refine Zb ?_
        obtain ⟨x, gx⟩ : ∃ y, b.body[j]? = some y := ⟨_, List.getElem?_eq_getElem (by omega)⟩
        obtain ⟨w, gw⟩ : ∃ y, ws[j]? = some y := ⟨_, List.getElem?_eq_getElem (by omega)⟩
        have gr : (rawQ ws b.body)[j]? = some ((x.op, x.dst, x.imm, w) : RIns) := zip_get _ gw gx
        refine WP.seq ?_
        refine WP.block ?_
        refine Zp ?_
        refine Zm ?_
        refine Zn ?_
        refine Zf fo_38_0 ?_
        refine Zf fo_36_0 ?_
        refine Zl 0 ag_34 ?_
        refine Zm ?_
        refine Run.idxO 1 rfl rfl rfl sl_34 rfl rfl rfl rfl (by omega) (by simp) ?_
        refine Zf fo_25_4 ?_
        refine Run.loadO 1 0 4 rfl rfl ag_23 rfl rfl rfl rfl (y := ((F, sp, sb) : RFun)) rfl rfl ?_
        refine Zm ?_
        refine Run.idxO 3 rfl rfl rfl sl_23 rfl rfl rfl rfl (by omega) (by omega) ?_
        refine Zf fo_56_0 ?_
        refine Run.loadO 3 k 0 rfl rfl ag_52 rfl rfl rfl rfl (y := ((bu, b.kind, b.value, bt) : RBlk)) gR rfl ?_
        refine Zm ?_
        refine Run.idxO 5 rfl rfl rfl sl_52 rfl rfl rfl rfl (by omega) (by omega) ?_
        refine Zm ?_
        refine Ze ?_
        refine WP.trim [5, 4, 3, 2, 0] [0, 1, 2, 3, 4, 5, 6, 7] ?_
        refine WP.seqCut [(90, .bool (decide (Hit F x))), (5, .pointer (some (elemAddr bu.val (j * encIns.sz)))), (4, .int .i64 (j : Int)), (3, .int .i64 (k : Int)), (2, .int .i64 ((0 : Nat) : Int)), (0, .pointer (some ⟨lb, 0, none⟩))] [blk lb [sv.val, .int .i64 m] 38, slA 25 encFun sv.val [((F, sp, sb) : RFun)], slA 3 (Enc.int .i64) sp.val F.params, slA 56 encBlk sb.val rs, slA 3 (Enc.int .i64) bt.val b.to, slA 67 encIns bu.val (rawQ ws b.body), rows 3 (Enc.int .i64) (rowsQ ws b.body), many ((List.zipWith blkQ rs F.blocks).eraseIdx k)] ?_ ?_
        · refine WP.drawn0 cf0 mixed rfl (by kernel_rfl) ?_
          all_goals (first | refine Zm ?_)
          all_goals (first | refine Zn ?_)
          all_goals (first | refine Zf fo_67_0 ?_)
          all_goals (first | refine Run.loadO 5 j 0 rfl rfl ag_3 rfl rfl rfl rfl (y := ((x.op, x.dst, x.imm, w) : RIns)) gr rfl ?_)
          all_goals (first | refine Zi ?_)
          all_goals (first | refine Run.tt (by first | assumption | omega) ?_ | refine Run.ff (by first | assumption | omega) ?_ | refine Run.split (fun hc67 => ?_) (fun hc67 => ?_) | refine Run.splitB (fun hc67 => ?_) (fun hc67 => ?_) | skip)
          all_goals (first | refine Zm ?_)
          all_goals (first | refine Zv ?_ | refine Zm ?_)
          all_goals (first | refine Zv ?_ | refine Zn ?_)
          all_goals (first | refine Zv ?_ | refine Zf fo_67_1 ?_)
          all_goals (first | refine Zv ?_ | refine Run.loadO 5 j 1 rfl rfl ag_3 rfl rfl rfl rfl (y := ((x.op, x.dst, x.imm, w) : RIns)) gr rfl ?_)
          all_goals (first | refine Zv ?_ | refine Zi ?_)
          all_goals (first | refine Run.tt (by first | assumption | omega) ?_ | refine Run.ff (by first | assumption | omega) ?_ | refine Run.split (fun hc73 => ?_) (fun hc73 => ?_) | refine Run.splitB (fun hc73 => ?_) (fun hc73 => ?_) | skip)
          all_goals (first | refine Zq ?_)
          all_goals (first | refine Zm ?_)
          all_goals (first | refine Zv ?_ | refine Zm ?_)
          all_goals (first | refine Zv ?_ | refine Zn ?_)
          all_goals (first | refine Zv ?_ | refine Zf fo_67_1 ?_)
          all_goals (first | refine Zv ?_ | refine Run.loadO 5 j 1 rfl rfl ag_3 rfl rfl rfl rfl (y := ((x.op, x.dst, x.imm, w) : RIns)) gr rfl ?_)
          all_goals (first | refine Zv ?_ | refine Zm ?_)
          all_goals (first | refine Zv ?_ | refine Zn ?_)
          all_goals (first | refine Zv ?_ | refine Zf fo_38_0 ?_)
          all_goals (first | refine Zv ?_ | refine Zf fo_36_0 ?_)
          all_goals (first | refine Zv ?_ | refine Zl 0 ag_34 ?_)
          all_goals (first | refine Zv ?_ | refine Zm ?_)
          all_goals (first | refine Zv ?_ | refine Run.idxO 1 rfl rfl rfl sl_34 rfl rfl rfl rfl (by omega) (by simp) ?_)
          all_goals (first | refine Zv ?_ | refine Zf fo_25_2 ?_)
          all_goals (first | refine Zv ?_ | refine Run.loadO 1 0 2 rfl rfl ag_3 rfl rfl rfl rfl (y := ((F, sp, sb) : RFun)) rfl rfl ?_)
          all_goals (first | refine Zv ?_ | refine Zi ?_)
          all_goals (first | refine Zq ?_)
          all_goals (refine Run.nil ?_)
          all_goals refine thn_next ⟨⟨?_, rfl, rfl, rfl, rfl, rfl, trivial⟩, ent.refl _⟩
          all_goals first | (simp [Env.get, Hit, *]; done) | (simp [Env.get, Hit, *]; intro _; assumption)
        refine WP.ite rfl (fun hyes => ?_) (fun hno => ?_)
        · obtain ⟨q1, q2, q3⟩ := hyes
          have hrem : intOpR .rem .i64 (x.dst + 1) F.regs = some (.int .i64 ((x.dst + 1).tmod F.regs)) := by simp only [intOpR]; rw [if_neg (by omega)]
          refine WP.seq ?_
          refine WP.drawn0 cf0 mixed rfl (by kernel_rfl) ?_
          refine Zm ?_
          refine Zm ?_
          refine Zn ?_
          refine Zf fo_67_1 ?_
          refine Run.loadO 5 j 1 rfl rfl ag_3 rfl rfl rfl rfl (y := ((x.op, x.dst, x.imm, w) : RIns)) gr rfl ?_
          refine Za ?_
          refine Zm ?_
          refine Zn ?_
          refine Zf fo_38_0 ?_
          refine Zf fo_36_0 ?_
          refine Zl 0 ag_34 ?_
          refine Zm ?_
          refine Run.idxO 1 rfl rfl rfl sl_34 rfl rfl rfl rfl (by omega) (by simp) ?_
          refine Zf fo_25_2 ?_
          refine Run.loadO 1 0 2 rfl rfl ag_3 rfl rfl rfl rfl (y := ((F, sp, sb) : RFun)) rfl rfl ?_
          refine Run.int2 rfl rfl rfl hrem rfl rfl ?_
          refine Zn ?_
          refine Zf fo_67_1 ?_
          refine Run.storeO 5 j 1 (y' := ((x.op, (x.dst + 1).tmod F.regs, x.imm, w) : RIns)) rfl rfl rfl rfl ag_3 rfl rfl rfl rfl gr rfl rfl ?_
          refine Ze ?_
          refine WP.ret ?_
          repeat first | refine thn_ret ?_ | refine blk_ret ?_
          have hH : Hit F x := ⟨q1, q2, q3⟩
          refine retT [] [] rfl rfl ⟨_, ?_, setIF F k b j (turnI F x), .inr ⟨k, b, j, x, gB, gx, hH, hnk, hnj, rfl⟩, rfl⟩
          have e1 : rawQ ws (setIB b j (turnI F x)).body = (rawQ ws b.body).set j ((x.op, (x.dst + 1).tmod F.regs, x.imm, w) : RIns) := (zip_set _ gw).symm
          have e2 : rowsQ ws (setIB b j (turnI F x)).body = rowsQ ws b.body := zip_same _ gx fun _ => rfl
          have e3 : (List.zipWith blkQ rs F.blocks).set k (blkQ (bu, b.kind, b.value, bt) (setIB b j (turnI F x))) = List.zipWith blkQ rs (setIF F k b j (turnI F x)).blocks := zip_set blkQ (x := setIB b j (turnI F x)) gR
          refine ent.trans (ent.rot4 _ _ _ _ _) ?_
          have c1 := blkQ_close (b := setIB b j (turnI F x)) (u := bu) (w := bt) (ws := ws) (by simp [setIB, hwl]) (many ((List.zipWith blkQ rs F.blocks).eraseIdx k) :: [blk lb [sv.val, .int .i64 m] 38, slA 25 encFun sv.val [((F, sp, sb) : RFun)], slA 3 (Enc.int .i64) sp.val F.params, slA 56 encBlk sb.val rs])
          rw [e1, e2] at c1
          refine ent.trans c1 ?_
          have c2 := many_put (k := k) (Θ := List.zipWith blkQ rs F.blocks) (blkQ (bu, b.kind, b.value, bt) (setIB b j (turnI F x))) (by simp; omega) [blk lb [sv.val, .int .i64 m] 38, slA 25 encFun sv.val [((F, sp, sb) : RFun)], slA 3 (Enc.int .i64) sp.val F.params, slA 56 encBlk sb.val rs]
          rw [e3] at c2
          refine ent.trans c2 ?_
          rw [show slA 25 encFun sv.val [((F, sp, sb) : RFun)] = slA 25 encFun sv.val [((setIF F k b j (turnI F x), sp, sb) : RFun)] from slA_fun rfl rfl rfl]
          exact ent.rot1 _ _
        · refine WP.skip ?_; refine blk_norm ?_; refine thn_next ?_
          refine Zc ?_
          refine Zm ?_
          refine Za ?_
          refine Zm ?_
          refine Run.nil ?_
          refine thn_next ⟨j + 1, ⟨by omega, fun j' x' hj' hx' => ?_⟩, by omega, Ko.go, ent.gc⟩
          rcases Nat.lt_or_ge j' j with h | h
          · exact hnj j' x' h hx'
          · obtain rfl : j' = j := by omega
            rw [gx] at hx'; cases hx'; exact hno
      · refine Zj ?_
        refine blk_norm ?_; refine thn_next ?_
        refine WP.trim [3, 2, 0] [0, 1, 2, 3, 4, 5, 6, 7] ?_
        have e3 : (List.zipWith blkQ rs F.blocks).set k (blkQ (bu, b.kind, b.value, bt) b) = List.zipWith blkQ rs F.blocks := by
          have := zip_set blkQ (x := b) gR (xs := F.blocks)
          rw [set_at gB] at this; exact this
        refine WP.via (ent.rot4 _ _ _ _ _) ?_
        refine WP.via (blkQ_close (b := b) (u := bu) (w := bt) (ws := ws) hwl _) ?_
        refine WP.via (many_put (k := k) (Θ := List.zipWith blkQ rs F.blocks) (blkQ (bu, b.kind, b.value, bt) b) (by simp; omega) _) ?_
        rw [e3]
        refine WP.trim [3, 2, 0] [1, 2, 3, 4, 0] ?_
        refine Zc ?_
        refine Zm ?_
        refine Za ?_
        refine Zm ?_
        refine Run.nil ?_
        refine thn_next ⟨k + 1, ⟨by omega, fun k' b' hk' hb' => ?_⟩, by omega, Ko.go, ent.gc⟩
        rcases Nat.lt_or_ge k' k with h | h
        · exact hnk k' b' h hb'
        · obtain rfl : k' = k := by omega
          rw [gB] at hb'; cases hb'
          intro j' x' hj' hx'
          exact hnj j' x' (by omega) hx'
    · refine Zj ?_
      refine blk_norm ?_; refine thn_next ?_
      refine Zc ?_
      refine Zm ?_
      refine Za ?_
      refine Zm ?_
      refine Run.nil ?_
      refine thn_next ⟨1, ⟨by omega, fun _ k' b' hk' hb' => hnk k' b' (by omega) hb'⟩, by omega, Ko.go, ent.gc⟩
  · refine Zj ?_
    obtain rfl : i = 1 := by omega
    exact retN [] [] rfl rfl ⟨_, ent.refl _, F, .inl ⟨hn rfl, rfl⟩, rfl⟩
end Go.Proofs.YtjjfehdlmdhhmaaDoor
end
