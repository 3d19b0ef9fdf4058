/- expire and take: what a scan does with one interval. -/
import Derived.Test.YtengcfamhoppbaaPut
namespace Go.Proofs.Ytengcfamhoppbaa
set_option linter.unusedSimpArgs false
set_option linter.unusedVariables false
open Go.Sep
attribute [local irreducible] blk slA mp mpF

structure Loc where
  k : Int
  n : Int
def encLoc : Enc Loc := ⟨2, fun x => [.int .i64 x.k, .int .i64 x.n], fun _ => rfl, fun _ => rfl⟩
def outN (out : List Loc) (r : Int) : Int := (out.getD r.toNat ⟨0, 0⟩).n
def expireL (out : List Loc) (from' : Int) : List Iv → List Int → List Iv × List Int
  | [], fr => ([], fr)
  | a :: act, fr => if a.t < from' then expireL out from' act (putL gtB fr (outN out a.r)) else (a :: act, fr)

structure St where
  act : List Iv
  free : List Int
  out : List Loc
  slots : Int
def memS (sb : Nat) (a f o : SV) (s : St) : List HProp :=
  [blk sb [a.val, f.val, o.val, .int .i64 s.slots] 49, slA 35 encIv a.val s.act, slA 3 Enc.int f.val s.free, slA 37 encLoc o.val s.out]

theorem expire_ok (hR : Heap) (sb : Nat) (a f o : SV) (s : St) (from' : Int) (hr : ∀ x ∈ s.act, 0 ≤ x.r ∧ x.r < s.out.length) (hl : s.act.length + s.free.length ≤ 1000000) :
    Tri Try.prog hR 20 #[.pointer (some ⟨sb, 0, none⟩), .int .i64 from'] (memS sb a f o s)
      fun v Γ' => v = .tuple #[] ∧ ∃ a' f', Γ' = memS sb a' f' o { s with act := (expireL s.out from' s.act s.free).1, free := (expireL s.out from' s.act s.free).2 } := by
  refine Tri.of (args := [.pointer (some ⟨sb, 0, none⟩), .int .i64 from']) Try.func20 rfl Try.ntmps20 (by simp) ?_
  refine WP.block ?_
  refine WP.loop (α := (SV × SV) × (List Iv × List Int)) (fun z => expireL s.out from' s.act s.free = expireL s.out from' z.2.1 z.2.2 ∧ (∀ x ∈ z.2.1, 0 ≤ x.r ∧ x.r < s.out.length) ∧ z.2.1.length + z.2.2.length ≤ 1000000)
    (fun _ => [(0, .pointer (some ⟨sb, 0, none⟩)), (1, .int .i64 from')]) (fun z => memS sb z.1.1 z.1.2 o { s with act := z.2.1, free := z.2.2 }) (fun z => z.2.1.length)
    ((a, f), (s.act, s.free)) ⟨rfl, hr, hl⟩ ⟨rfl, rfl, trivial⟩ (ent.refl _) ?_
  rintro ⟨⟨av, fv⟩, ⟨act, fr⟩⟩ ⟨he, hr', hl'⟩
  simp only at he hr' hl' ⊢
  refine WP.seq ?_
  refine WP.seq ?_
  cases act with
  | nil =>
    have hneg : ¬ (([] : List Iv).length : Int) > 0 := by simp
    refine WP.plain cf0 rfl ?_
    all_goals (first | refine Run.mv rfl rfl rfl rfl ?_)
    all_goals (first | refine Run.nilCheck rfl rfl rfl rfl ?_)
    all_goals (first | refine Run.fieldAddr rfl rfl fo_49_0 rfl rfl ?_)
    all_goals (first | refine Run.loadB 0 rfl rfl ag_22 rfl rfl rfl rfl rfl ?_)
    all_goals (first | refine Run.lenO 1 rfl rfl sl_22 rfl rfl rfl ?_)
    all_goals (first | refine Run.int2 rfl rfl rfl rfl rfl rfl ?_)
    all_goals (first | refine Run.tt (by first | assumption | omega) ?_ | refine Run.ff (by first | assumption | omega) ?_ | refine Run.split (fun hc9 => ?_) (fun hc9 => ?_) | refine Run.splitB (fun hc9 => ?_) (fun hc9 => ?_) | skip)
    all_goals (first | refine Run.mv rfl rfl rfl rfl ?_)
    all_goals (first | refine Run.not rfl rfl ?_ | refine Run.mv rfl rfl rfl rfl ?_)
    all_goals (first | refine Run.not rfl rfl ?_ | refine Run.nilCheck rfl rfl rfl rfl ?_)
    all_goals (first | refine Run.not rfl rfl ?_ | refine Run.fieldAddr rfl rfl fo_49_0 rfl rfl ?_)
    all_goals (first | refine Run.not rfl rfl ?_ | refine Run.loadB 0 rfl rfl ag_22 rfl rfl rfl rfl rfl ?_ | refine Run.loadO 0 _ 0 rfl rfl ag_22 rfl rfl rfl rfl (by assumption) rfl ?_ | refine Run.loadO 0 _ _ rfl rfl ag_22 rfl rfl rfl rfl (by assumption) rfl ?_ | refine Run.loadB 1 rfl rfl ag_22 rfl rfl rfl rfl rfl ?_ | refine Run.loadO 1 _ 0 rfl rfl ag_22 rfl rfl rfl rfl (by assumption) rfl ?_ | refine Run.loadO 1 _ _ rfl rfl ag_22 rfl rfl rfl rfl (by assumption) rfl ?_ | refine Run.loadB 2 rfl rfl ag_22 rfl rfl rfl rfl rfl ?_ | refine Run.loadO 2 _ 0 rfl rfl ag_22 rfl rfl rfl rfl (by assumption) rfl ?_ | refine Run.loadO 2 _ _ rfl rfl ag_22 rfl rfl rfl rfl (by assumption) rfl ?_ | refine Run.loadB 3 rfl rfl ag_22 rfl rfl rfl rfl rfl ?_ | refine Run.loadO 3 _ 0 rfl rfl ag_22 rfl rfl rfl rfl (by assumption) rfl ?_ | refine Run.loadO 3 _ _ rfl rfl ag_22 rfl rfl rfl rfl (by assumption) rfl ?_ | refine Run.loadB 4 rfl rfl ag_22 rfl rfl rfl rfl rfl ?_ | refine Run.loadO 4 _ 0 rfl rfl ag_22 rfl rfl rfl rfl (by assumption) rfl ?_ | refine Run.loadO 4 _ _ rfl rfl ag_22 rfl rfl rfl rfl (by assumption) rfl ?_ | refine Run.loadB 5 rfl rfl ag_22 rfl rfl rfl rfl rfl ?_ | refine Run.loadO 5 _ 0 rfl rfl ag_22 rfl rfl rfl rfl (by assumption) rfl ?_ | refine Run.loadO 5 _ _ rfl rfl ag_22 rfl rfl rfl rfl (by assumption) rfl ?_ | refine Run.loadR rfl rfl ag_22 rfl rfl (by first | assumption | exact SlR.cell0 (by assumption) (by assumption) rfl | exact SlR.cell (by assumption) (by assumption) rfl) ?_)
    all_goals (first | refine Run.not rfl rfl ?_ | refine Run.idxO 0 rfl rfl rfl sl_22 rfl rfl rfl rfl (by first | omega | (simp <;> omega)) (by first | omega | (simp <;> omega)) ?_ | refine Run.idxO 1 rfl rfl rfl sl_22 rfl rfl rfl rfl (by first | omega | (simp <;> omega)) (by first | omega | (simp <;> omega)) ?_ | refine Run.idxO 2 rfl rfl rfl sl_22 rfl rfl rfl rfl (by first | omega | (simp <;> omega)) (by first | omega | (simp <;> omega)) ?_ | refine Run.idxO 3 rfl rfl rfl sl_22 rfl rfl rfl rfl (by first | omega | (simp <;> omega)) (by first | omega | (simp <;> omega)) ?_ | refine Run.idxO 4 rfl rfl rfl sl_22 rfl rfl rfl rfl (by first | omega | (simp <;> omega)) (by first | omega | (simp <;> omega)) ?_ | refine Run.idxO 5 rfl rfl rfl sl_22 rfl rfl rfl rfl (by first | omega | (simp <;> omega)) (by first | omega | (simp <;> omega)) ?_ | refine Run.idxR rfl rfl rfl sl_22 rfl rfl (by assumption) (by rfl) (by first | omega | (simp <;> omega)) (by first | omega | (simp <;> omega)) ?_)
    all_goals (first | refine Run.not rfl rfl ?_ | refine Run.fieldAddr rfl rfl fo_35_2 rfl rfl ?_)
    all_goals (first | refine Run.not rfl rfl ?_ | refine Run.loadB 0 rfl rfl ag_3 rfl rfl rfl rfl rfl ?_ | refine Run.loadO 0 _ 0 rfl rfl ag_3 rfl rfl rfl rfl (by assumption) rfl ?_ | refine Run.loadO 0 _ _ rfl rfl ag_3 rfl rfl rfl rfl (by assumption) rfl ?_ | refine Run.loadB 1 rfl rfl ag_3 rfl rfl rfl rfl rfl ?_ | refine Run.loadO 1 _ 0 rfl rfl ag_3 rfl rfl rfl rfl (by assumption) rfl ?_ | refine Run.loadO 1 _ _ rfl rfl ag_3 rfl rfl rfl rfl (by assumption) rfl ?_ | refine Run.loadB 2 rfl rfl ag_3 rfl rfl rfl rfl rfl ?_ | refine Run.loadO 2 _ 0 rfl rfl ag_3 rfl rfl rfl rfl (by assumption) rfl ?_ | refine Run.loadO 2 _ _ rfl rfl ag_3 rfl rfl rfl rfl (by assumption) rfl ?_ | refine Run.loadB 3 rfl rfl ag_3 rfl rfl rfl rfl rfl ?_ | refine Run.loadO 3 _ 0 rfl rfl ag_3 rfl rfl rfl rfl (by assumption) rfl ?_ | refine Run.loadO 3 _ _ rfl rfl ag_3 rfl rfl rfl rfl (by assumption) rfl ?_ | refine Run.loadB 4 rfl rfl ag_3 rfl rfl rfl rfl rfl ?_ | refine Run.loadO 4 _ 0 rfl rfl ag_3 rfl rfl rfl rfl (by assumption) rfl ?_ | refine Run.loadO 4 _ _ rfl rfl ag_3 rfl rfl rfl rfl (by assumption) rfl ?_ | refine Run.loadB 5 rfl rfl ag_3 rfl rfl rfl rfl rfl ?_ | refine Run.loadO 5 _ 0 rfl rfl ag_3 rfl rfl rfl rfl (by assumption) rfl ?_ | refine Run.loadO 5 _ _ rfl rfl ag_3 rfl rfl rfl rfl (by assumption) rfl ?_ | refine Run.loadR rfl rfl ag_3 rfl rfl (by first | assumption | exact SlR.cell0 (by assumption) (by assumption) rfl | exact SlR.cell (by assumption) (by assumption) rfl) ?_)
    all_goals (first | refine Run.not rfl rfl ?_ | refine Run.mv rfl rfl rfl rfl ?_)
    all_goals (first | refine Run.not rfl rfl ?_ | refine Run.int2 rfl rfl rfl rfl rfl rfl ?_)
    all_goals (first | refine Run.pick rfl rfl rfl rfl rfl ?_)
    all_goals (refine Run.nil ?_)
    refine thn_next ?_
    refine WP.cond (t := false) rfl (fun h => by cases h) (fun _ => ?_)
    refine WP.exit ?_; refine thn_exit ?_; refine thn_exit ?_; refine blk_hit ?_
    refine retN [] [] rfl rfl ⟨rfl, av, fv, ?_⟩
    rw [he]; rfl
  | cons x act =>
    have hpos : ((x :: act).length : Int) > 0 := by simp
    have g0 : (x :: act)[(0 : Int).toNat]? = some x := rfl
    obtain ⟨hx0, hx1⟩ := hr' x (by simp)
    obtain ⟨y, gy⟩ : ∃ y, s.out[x.r.toNat]? = some y := ⟨_, List.getElem?_eq_getElem (by omega)⟩
    have hyn : outN s.out x.r = y.n := by simp [outN, List.getD_eq_getElem?_getD, gy]
    refine WP.plain cf0 rfl ?_
    all_goals (first | refine Run.mv rfl rfl rfl rfl ?_)
    all_goals (first | refine Run.nilCheck rfl rfl rfl rfl ?_)
    all_goals (first | refine Run.fieldAddr rfl rfl fo_49_0 rfl rfl ?_)
    all_goals (first | refine Run.loadB 0 rfl rfl ag_22 rfl rfl rfl rfl rfl ?_)
    all_goals (first | refine Run.lenO 1 rfl rfl sl_22 rfl rfl rfl ?_)
    all_goals (first | refine Run.int2 rfl rfl rfl rfl rfl rfl ?_)
    all_goals (first | refine Run.tt (by first | assumption | omega) ?_ | refine Run.ff (by first | assumption | omega) ?_ | refine Run.split (fun hc9 => ?_) (fun hc9 => ?_) | refine Run.splitB (fun hc9 => ?_) (fun hc9 => ?_) | skip)
    all_goals (first | refine Run.mv rfl rfl rfl rfl ?_)
    all_goals (first | refine Run.not rfl rfl ?_ | refine Run.mv rfl rfl rfl rfl ?_)
    all_goals (first | refine Run.not rfl rfl ?_ | refine Run.nilCheck rfl rfl rfl rfl ?_)
    all_goals (first | refine Run.not rfl rfl ?_ | refine Run.fieldAddr rfl rfl fo_49_0 rfl rfl ?_)
    all_goals (first | refine Run.not rfl rfl ?_ | refine Run.loadB 0 rfl rfl ag_22 rfl rfl rfl rfl rfl ?_)
    all_goals (first | refine Run.not rfl rfl ?_ | refine Run.idxO 1 rfl rfl rfl sl_22 rfl rfl rfl rfl (by first | omega | (simp <;> omega)) (by first | omega | (simp <;> omega)) ?_)
    all_goals (first | refine Run.not rfl rfl ?_ | refine Run.fieldAddr rfl rfl fo_35_2 rfl rfl ?_)
    all_goals (first | refine Run.not rfl rfl ?_ | refine Run.loadO 1 _ _ rfl rfl ag_3 rfl rfl rfl rfl (by assumption) rfl ?_)
    all_goals (first | refine Run.not rfl rfl ?_ | refine Run.mv rfl rfl rfl rfl ?_)
    all_goals (first | refine Run.not rfl rfl ?_ | refine Run.int2 rfl rfl rfl rfl rfl rfl ?_)
    all_goals (first | refine Run.pick rfl rfl rfl rfl rfl ?_)
    all_goals (refine Run.nil ?_)
    refine thn_next ?_
    refine WP.ite rfl (fun hlt => ?_) (fun hge => ?_)
    · refine WP.skip ?_; refine thn_next ?_
      refine WP.weaken (ρ' := [(0, .pointer (some ⟨sb, 0, none⟩)), (1, .int .i64 from')]) ⟨rfl, rfl, trivial⟩ (ent.refl _) ?_
      refine WP.block ?_
      refine WP.seq ?_
      refine WP.drawn0 cf0 mixed rfl (by kernel_rfl) ?_
      refine Run.mv rfl rfl rfl rfl ?_
      refine Run.mv rfl rfl rfl rfl ?_
      refine Run.nilCheck rfl rfl rfl rfl ?_
      refine Run.fieldAddr rfl rfl fo_49_1 rfl rfl ?_
      refine Run.loadB 0 rfl rfl ag_47 rfl rfl rfl rfl rfl ?_
      refine Run.mv rfl rfl rfl rfl ?_
      refine Run.nilCheck rfl rfl rfl rfl ?_
      refine Run.fieldAddr rfl rfl fo_49_2 rfl rfl ?_
      refine Run.loadB 0 rfl rfl ag_25 rfl rfl rfl rfl rfl ?_
      refine Run.mv rfl rfl rfl rfl ?_
      refine Run.nilCheck rfl rfl rfl rfl ?_
      refine Run.fieldAddr rfl rfl fo_49_0 rfl rfl ?_
      refine Run.loadB 0 rfl rfl ag_22 rfl rfl rfl rfl rfl ?_
      refine Run.idxO 1 rfl rfl rfl sl_22 rfl rfl rfl rfl (by first | omega | (simp <;> omega)) (by first | omega | (simp <;> omega)) ?_
      refine Run.fieldAddr rfl rfl fo_35_0 rfl rfl ?_
      refine Run.loadO 1 _ 0 rfl rfl ag_3 rfl rfl rfl rfl (by assumption) rfl ?_
      refine Run.idxO 3 rfl rfl rfl sl_25 rfl rfl rfl rfl (by first | omega | (simp <;> omega)) (by first | omega | (simp <;> omega)) ?_
      refine Run.fieldAddr rfl rfl fo_37_1 rfl rfl ?_
      refine Run.loadO 3 _ _ rfl rfl ag_3 rfl rfl rfl rfl (by assumption) rfl ?_
      refine Run.call (Δ := [slA 3 Enc.int fv.val fr]) (Θ := [blk sb [av.val, fv.val, o.val, .int .i64 s.slots] 49, slA 35 encIv av.val (x :: act), slA 37 encLoc o.val s.out]) rfl rfl rfl rfl ok_23 rfl rfl (pick_ent [2] _) (put_int hR _ gtB gt_after fv.val fr y.n (by simp at hl'; omega)) ?_; rintro _ _ ⟨fv', rfl, rfl⟩
      refine Run.nilCheck rfl rfl rfl rfl ?_
      refine Run.fieldAddr rfl rfl fo_49_1 rfl rfl ?_
      refine Run.storeB 1 rfl rfl rfl rfl ag_47 rfl rfl rfl rfl rfl ?_
      refine Run.nil ?_
      refine thn_next ?_
      refine WP.plain cf0 rfl ?_
      refine Run.mv rfl rfl rfl rfl ?_
      refine Run.mv rfl rfl rfl rfl ?_
      refine Run.nilCheck rfl rfl rfl rfl ?_
      refine Run.fieldAddr rfl rfl fo_49_0 rfl rfl ?_
      refine Run.loadB 1 rfl rfl ag_22 rfl rfl rfl rfl rfl ?_
      refine Run.sliceO 2 rfl rfl rfl sl_22 rfl rfl rfl rfl (by first | omega | (simp <;> omega)) (by first | omega | (simp <;> omega)) (by first | omega | (simp <;> omega)) ?_
      refine Run.nilCheck rfl rfl rfl rfl ?_
      refine Run.fieldAddr rfl rfl fo_49_0 rfl rfl ?_
      refine Run.storeB 1 rfl rfl rfl rfl ag_22 rfl rfl rfl rfl rfl ?_
      refine Run.nil ?_
      refine blk_norm ?_
      have hcut : ((x :: act).take ((x :: act).length : Int).toNat).drop (1 : Int).toNat = act := by simp
      refine thn_next ⟨((av.cut 3 1 ((x :: act).length : Int).toNat, fv'), (act, putL gtB fr y.n)), ⟨?_, ?_, ?_⟩, ?_, ⟨rfl, rfl, trivial⟩, ?_⟩
      · simp only; rw [he, expireL, if_pos hlt, hyn]
      · exact fun z hz => hr' z (by simp [hz])
      · simp only [putL_len]; simp at hl'; omega
      · simp
      · refine (pick_only [1, 1, 0, 0] _).trans ?_
        simp only [hcut]
        try exact ent.refl _
    · refine WP.exit ?_; refine thn_exit ?_; refine thn_exit ?_; refine blk_hit ?_
      refine retN [] [] rfl rfl ⟨rfl, av, fv, ?_⟩
      rw [he, expireL, if_neg hge]

def takeS (s : St) (x : Iv) : St :=
  match s.free with
  | f :: fr => { act := putL laterB s.act x, free := fr, out := s.out.set x.r.toNat ⟨1, f⟩, slots := s.slots }
  | [] =>
    if laterB (s.act.getLastD x) x then
      { act := putL laterB s.act.dropLast x, free := [], out := (s.out.set x.r.toNat (s.out.getD (s.act.getLastD x).r.toNat ⟨0, 0⟩)).set (s.act.getLastD x).r.toNat ⟨2, s.slots⟩, slots := s.slots + 1 }
    else { act := s.act, free := [], out := s.out.set x.r.toNat ⟨2, s.slots⟩, slots := s.slots + 1 }

theorem take_ok (hR : Heap) (sb : Nat) (a f o : SV) (s : St) (x : Iv) (hr : ∀ z ∈ s.act, 0 ≤ z.r ∧ z.r < s.out.length) (hx0 : 0 ≤ x.r) (hx1 : x.r < s.out.length) (hl : s.act.length ≤ 100000)
    (hne : s.free = [] → s.act ≠ []) (hs0 : 0 ≤ s.slots) (hs1 : s.slots ≤ 1000000) :
    Tri Try.prog hR 21 #[.pointer (some ⟨sb, 0, none⟩), x.val] (memS sb a f o s)
      fun v Γ' => v = .tuple #[] ∧ ∃ a' f', Γ' = memS sb a' f' o (takeS s x) := by
  refine Tri.of (args := [.pointer (some ⟨sb, 0, none⟩), x.val]) Try.func21 rfl Try.ntmps21 (by simp) ?_
  refine WP.seq ?_
  refine WP.plain cf0 rfl ?_
  refine Run.box rfl rfl rfl rfl rfl ?_
  intro b3
  refine Run.nil ?_
  refine thn_next ?_
  refine WP.seq ?_
  refine WP.seq ?_
  refine WP.plain cf0 rfl ?_
  refine Run.mv rfl rfl rfl rfl ?_
  refine Run.nilCheck rfl rfl rfl rfl ?_
  refine Run.fieldAddr rfl rfl fo_49_1 rfl rfl ?_
  refine Run.loadB 0 rfl rfl ag_47 rfl rfl rfl rfl rfl ?_
  refine Run.lenO 2 rfl rfl sl_47 rfl rfl rfl ?_
  refine Run.int2 rfl rfl rfl rfl rfl rfl ?_
  refine Run.nil ?_
  refine thn_next ?_
  obtain ⟨y0, gx⟩ : ∃ y, s.out[x.r.toNat]? = some y := ⟨_, List.getElem?_eq_getElem (by omega)⟩
  obtain ⟨act, free, out, slots⟩ := s
  simp only at hr hx0 hx1 hl hne hs0 hs1 gx ⊢
  refine WP.via (Γ' := [blk sb [a.val, f.val, o.val, .int .i64 slots] 49, slA 35 encIv a.val act, slA 3 Enc.int f.val free, slA 37 encLoc o.val out, blk b3 (encIv.cells x) 35]) (ent.refl _) ?_
  cases free with
  | cons fh fr =>
    have hpos : ((fh :: fr).length : Int) > 0 := by simp
    refine WP.ite rfl (fun h => ?_) (fun h => absurd hpos h)
    have g0 : (fh :: fr)[(0 : Int).toNat]? = some fh := rfl
    have hcut : ((fh :: fr).take ((fh :: fr).length : Int).toNat).drop (1 : Int).toNat = fr := by simp
    refine WP.seq ?_
    refine WP.drawn0 cf0 mixed rfl (by kernel_rfl) ?_
    refine Run.mv rfl rfl rfl rfl ?_
    refine Run.nilCheck rfl rfl rfl rfl ?_
    refine Run.fieldAddr rfl rfl fo_49_2 rfl rfl ?_
    refine Run.loadB 0 rfl rfl ag_25 rfl rfl rfl rfl rfl ?_
    refine Run.fieldAddr rfl rfl fo_35_0 rfl rfl ?_
    refine Run.loadB 4 rfl rfl ag_3 rfl rfl rfl rfl rfl ?_
    refine Run.mv rfl rfl rfl rfl ?_
    refine Run.nilCheck rfl rfl rfl rfl ?_
    refine Run.fieldAddr rfl rfl fo_49_1 rfl rfl ?_
    refine Run.loadB 0 rfl rfl ag_47 rfl rfl rfl rfl rfl ?_
    refine Run.idxO 2 rfl rfl rfl sl_47 rfl rfl rfl rfl (by first | omega | (simp <;> omega)) (by first | omega | (simp <;> omega)) ?_
    refine Run.loadO 2 _ 0 rfl rfl ag_3 rfl rfl rfl rfl (by assumption) rfl ?_
    refine Run.build rfl bd_37 rfl rfl rfl rfl ?_
    refine Run.idxO 3 rfl rfl rfl sl_25 rfl rfl rfl rfl (by first | omega | (simp <;> omega)) (by first | omega | (simp <;> omega)) ?_
    refine Run.storeO 3 _ 0 rfl rfl rfl rfl ag_37 rfl rfl rfl rfl (y' := ⟨1, fh⟩) gx rfl rfl ?_
    refine Run.nil ?_
    refine thn_next ?_
    refine WP.seq ?_
    refine WP.plain cf0 rfl ?_
    refine Run.mv rfl rfl rfl rfl ?_
    refine Run.mv rfl rfl rfl rfl ?_
    refine Run.nilCheck rfl rfl rfl rfl ?_
    refine Run.fieldAddr rfl rfl fo_49_1 rfl rfl ?_
    refine Run.loadB 0 rfl rfl ag_47 rfl rfl rfl rfl rfl ?_
    refine Run.sliceO 2 rfl rfl rfl sl_47 rfl rfl rfl rfl (by first | omega | (simp <;> omega)) (by first | omega | (simp <;> omega)) (by first | omega | (simp <;> omega)) ?_
    refine Run.nilCheck rfl rfl rfl rfl ?_
    refine Run.fieldAddr rfl rfl fo_49_1 rfl rfl ?_
    refine Run.storeB 0 rfl rfl rfl rfl ag_47 rfl rfl rfl rfl rfl ?_
    refine Run.nil ?_
    rw [hcut]
    refine thn_next ?_
    refine WP.seq ?_
    refine WP.drawn0 cf0 mixed rfl (by kernel_rfl) ?_
    refine Run.mv rfl rfl rfl rfl ?_
    refine Run.mv rfl rfl rfl rfl ?_
    refine Run.nilCheck rfl rfl rfl rfl ?_
    refine Run.fieldAddr rfl rfl fo_49_0 rfl rfl ?_
    refine Run.loadB 0 rfl rfl ag_22 rfl rfl rfl rfl rfl ?_
    refine Run.loadBagg 4 rfl rfl ag_35 rfl rfl rfl rfl rfl ?_
    refine Run.call (Δ := [slA 35 encIv a.val act]) (Θ := _) rfl rfl rfl rfl ok_25 rfl rfl (pick_ent [1] _) (put_iv hR _ laterB later_after a.val act x (by omega)) ?_; rintro _ _ ⟨a', rfl, rfl⟩
    refine Run.nilCheck rfl rfl rfl rfl ?_
    refine Run.fieldAddr rfl rfl fo_49_0 rfl rfl ?_
    refine Run.storeB 1 rfl rfl rfl rfl ag_22 rfl rfl rfl rfl rfl ?_
    refine Run.nil ?_
    refine thn_next ?_
    refine WP.via (pick_only [1, 0, 0, 0] _) ?_
    refine WP.ret ?_; refine thn_ret ?_
    exact retT [] [] rfl rfl ⟨rfl, a', f.cut 1 1 ((fh :: fr).length : Int).toNat, rfl⟩
  | nil =>
    have hneg : ¬ (([] : List Int).length : Int) > 0 := by simp
    refine WP.ite rfl (fun h => absurd h hneg) (fun h => ?_)
    refine WP.skip ?_; refine thn_next ?_
    rcases List.eq_nil_or_concat act with he | ⟨init, last, hc⟩
    · exact absurd he (hne rfl)
    rw [List.concat_eq_append] at hc; subst hc
    have hlast : (init ++ [last]).getLastD x = last := by simp
    obtain ⟨hz0, hz1⟩ := hr last (by simp)
    obtain ⟨y1, gl⟩ : ∃ y, out[last.r.toNat]? = some y := ⟨_, List.getElem?_eq_getElem (by omega)⟩
    have hidx : (((init ++ [last]).length : Int) - 1).toNat = init.length := by simp
    have ga : (init ++ [last])[(((init ++ [last]).length : Int) - 1).toNat]? = some last := by rw [hidx]; simp
    refine WP.seq ?_
    refine WP.drawn0 cf0 mixed rfl (by kernel_rfl) ?_
    refine Run.mv rfl rfl rfl rfl ?_
    refine Run.nilCheck rfl rfl rfl rfl ?_
    refine Run.fieldAddr rfl rfl fo_49_0 rfl rfl ?_
    refine Run.loadB 0 rfl rfl ag_22 rfl rfl rfl rfl rfl ?_
    refine Run.mv rfl rfl rfl rfl ?_
    refine Run.nilCheck rfl rfl rfl rfl ?_
    refine Run.fieldAddr rfl rfl fo_49_0 rfl rfl ?_
    refine Run.loadB 0 rfl rfl ag_22 rfl rfl rfl rfl rfl ?_
    refine Run.lenO 1 rfl rfl sl_22 rfl rfl rfl ?_
    refine Run.sub64 rfl rfl rfl rfl rfl (by first | omega | (simp <;> omega)) (by first | omega | (simp <;> omega)) ?_
    refine Run.idxO 1 rfl rfl rfl sl_22 rfl rfl rfl rfl (by first | omega | (simp <;> omega)) (by first | omega | (simp <;> omega)) ?_
    refine Run.loadOagg 1 _ rfl rfl ag_35 rfl rfl rfl rfl rfl (by assumption) ?_
    refine Run.alloc rfl zr_35 rfl rfl rfl ?_
    intro b4
    refine Run.storeB 5 rfl rfl rfl rfl ag_35 rfl rfl rfl rfl rfl ?_
    refine Run.nil ?_
    refine thn_next ?_
    refine WP.seqMeet (α := SV × Bool) (fun z => z.2 = laterB last x) (fun _ => [(0, .pointer (some ⟨sb, 0, none⟩)), (3, .pointer (some ⟨b3, 0, none⟩))])
      (fun z => memS sb z.1 f o { act := bif z.2 then putL laterB init x else init ++ [last], free := [], out := bif z.2 then out.set x.r.toNat y1 else out, slots := slots } ++ [blk b3 (bif z.2 then encIv.cells last else encIv.cells x) 35]) ?_ ?_
    · refine WP.seq ?_
      refine WP.plain cf0 rfl ?_
      refine Run.loadBagg 5 rfl rfl ag_35 rfl rfl rfl rfl rfl ?_
      refine Run.loadBagg 4 rfl rfl ag_35 rfl rfl rfl rfl rfl ?_
      refine Run.call (Δ := []) (Θ := _) rfl rfl rfl rfl ok_26 rfl rfl (ent.refl _) (later_after.2 hR last x) ?_; rintro _ _ ⟨rfl, rfl⟩
      refine Run.nil ?_
      refine thn_next ?_
      refine WP.cond (t := laterB last x) rfl (fun hb => ?_) (fun hb => ?_)
      · refine WP.seq ?_
        refine WP.drawn0 cf0 mixed rfl (by kernel_rfl) ?_
        refine Run.mv rfl rfl rfl rfl ?_
        refine Run.nilCheck rfl rfl rfl rfl ?_
        refine Run.fieldAddr rfl rfl fo_49_2 rfl rfl ?_
        refine Run.loadB 0 rfl rfl ag_25 rfl rfl rfl rfl rfl ?_
        refine Run.fieldAddr rfl rfl fo_35_0 rfl rfl ?_
        refine Run.loadB 4 rfl rfl ag_3 rfl rfl rfl rfl rfl ?_
        refine Run.mv rfl rfl rfl rfl ?_
        refine Run.nilCheck rfl rfl rfl rfl ?_
        refine Run.fieldAddr rfl rfl fo_49_2 rfl rfl ?_
        refine Run.loadB 0 rfl rfl ag_25 rfl rfl rfl rfl rfl ?_
        refine Run.fieldAddr rfl rfl fo_35_0 rfl rfl ?_
        refine Run.loadB 5 rfl rfl ag_3 rfl rfl rfl rfl rfl ?_
        refine Run.idxO 3 rfl rfl rfl sl_25 rfl rfl rfl rfl (by first | omega | (simp <;> omega)) (by first | omega | (simp <;> omega)) ?_
        refine Run.loadOagg 3 _ rfl rfl ag_37 rfl rfl rfl rfl rfl (by assumption) ?_
        refine Run.idxO 3 rfl rfl rfl sl_25 rfl rfl rfl rfl (by first | omega | (simp <;> omega)) (by first | omega | (simp <;> omega)) ?_
        refine Run.storeO 3 _ 0 rfl rfl rfl rfl ag_37 rfl rfl rfl rfl (y' := y1) gx rfl rfl ?_
        refine Run.nil ?_
        refine thn_next ?_
        refine WP.seq ?_
        have hcut : ((init ++ [last]).take (((init ++ [last]).length : Int) - 1).toNat).drop ((0 : Nat) : Int).toNat = init := by rw [hidx]; simp
        refine WP.drawn0 cf0 mixed rfl (by kernel_rfl) ?_
        refine Run.mv rfl rfl rfl rfl ?_
        refine Run.mv rfl rfl rfl rfl ?_
        refine Run.nilCheck rfl rfl rfl rfl ?_
        refine Run.fieldAddr rfl rfl fo_49_0 rfl rfl ?_
        refine Run.loadB 0 rfl rfl ag_22 rfl rfl rfl rfl rfl ?_
        refine Run.mv rfl rfl rfl rfl ?_
        refine Run.nilCheck rfl rfl rfl rfl ?_
        refine Run.fieldAddr rfl rfl fo_49_0 rfl rfl ?_
        refine Run.loadB 0 rfl rfl ag_22 rfl rfl rfl rfl rfl ?_
        refine Run.lenO 1 rfl rfl sl_22 rfl rfl rfl ?_
        refine Run.sub64 rfl rfl rfl rfl rfl (by first | omega | (simp <;> omega)) (by first | omega | (simp <;> omega)) ?_
        refine Run.sliceO 1 rfl rfl rfl sl_22 rfl rfl rfl rfl (by first | omega | (simp <;> omega)) (by first | omega | (simp <;> omega)) (by first | omega | (simp <;> omega)) ?_
        refine Run.loadBagg 4 rfl rfl ag_35 rfl rfl rfl rfl rfl ?_
        refine Run.call (Δ := [slA 35 encIv (a.cut 3 ((0 : Nat) : Int).toNat (((init ++ [last]).length : Int) - 1).toNat).val init]) (Θ := _) rfl rfl rfl rfl ok_25 rfl rfl (by rw [hcut]; exact pick_ent [1] _) (put_iv hR _ laterB later_after _ init x (by simp at hl; omega)) ?_; rintro _ _ ⟨a', rfl, rfl⟩
        refine Run.nilCheck rfl rfl rfl rfl ?_
        refine Run.fieldAddr rfl rfl fo_49_0 rfl rfl ?_
        refine Run.storeB 1 rfl rfl rfl rfl ag_22 rfl rfl rfl rfl rfl ?_
        refine Run.nil ?_
        refine thn_next ?_
        refine WP.plain cf0 rfl ?_
        refine Run.loadBagg 5 rfl rfl ag_35 rfl rfl rfl rfl rfl ?_
        refine Run.storeB 4 rfl rfl rfl rfl ag_35 rfl rfl rfl rfl rfl ?_
        refine Run.nil ?_
        refine thn_next ⟨(a', true), hb.symm, ⟨rfl, rfl, trivial⟩, ?_⟩
        exact pick_only [1, 0, 0, 0, 0] _
      · refine WP.skip ?_
        refine thn_next ⟨(a, false), hb.symm, ⟨rfl, rfl, trivial⟩, ?_⟩
        exact pick_only [0, 0, 0, 0, 0] _
    · rintro ⟨a', b⟩ hb
      simp only at hb
      cases b with
      | true =>
        obtain ⟨y2, g2⟩ : ∃ y, (out.set x.r.toNat y1)[last.r.toNat]? = some y := ⟨_, List.getElem?_eq_getElem (by rw [List.length_set]; omega)⟩
        refine WP.via (Γ' := [blk sb [a'.val, f.val, o.val, .int .i64 slots] 49, slA 35 encIv a'.val (putL laterB init x), slA 3 Enc.int f.val [], slA 37 encLoc o.val (out.set x.r.toNat y1), blk b3 (encIv.cells last) 35]) (ent.refl _) ?_
        refine WP.seq ?_
        refine WP.drawn0 cf0 mixed rfl (by kernel_rfl) ?_
        refine Run.mv rfl rfl rfl rfl ?_
        refine Run.nilCheck rfl rfl rfl rfl ?_
        refine Run.fieldAddr rfl rfl fo_49_2 rfl rfl ?_
        refine Run.loadB 0 rfl rfl ag_25 rfl rfl rfl rfl rfl ?_
        refine Run.fieldAddr rfl rfl fo_35_0 rfl rfl ?_
        refine Run.loadB 4 rfl rfl ag_3 rfl rfl rfl rfl rfl ?_
        refine Run.mv rfl rfl rfl rfl ?_
        refine Run.nilCheck rfl rfl rfl rfl ?_
        refine Run.fieldAddr rfl rfl fo_49_3 rfl rfl ?_
        refine Run.loadB 0 rfl rfl ag_3 rfl rfl rfl rfl rfl ?_
        refine Run.build rfl bd_37 rfl rfl rfl rfl ?_
        refine Run.idxO 3 rfl rfl rfl sl_25 rfl rfl rfl rfl (by first | omega | (simp <;> omega)) (by first | omega | (simp <;> omega)) ?_
        refine Run.storeO 3 _ 0 rfl rfl rfl rfl ag_37 rfl rfl rfl rfl (y' := ⟨2, slots⟩) g2 rfl rfl ?_
        refine Run.nil ?_
        refine thn_next ?_
        refine WP.plain cf0 rfl ?_
        refine Run.mv rfl rfl rfl rfl ?_
        refine Run.nilCheck rfl rfl rfl rfl ?_
        refine Run.fieldAddr rfl rfl fo_49_3 rfl rfl ?_
        refine Run.loadB 0 rfl rfl ag_3 rfl rfl rfl rfl rfl ?_
        refine Run.add64 rfl rfl rfl rfl rfl (by first | omega | (simp <;> omega)) (by first | omega | (simp <;> omega)) ?_
        refine Run.nilCheck rfl rfl rfl rfl ?_
        refine Run.fieldAddr rfl rfl fo_49_3 rfl rfl ?_
        refine Run.storeB 0 rfl rfl rfl rfl ag_3 rfl rfl rfl rfl rfl ?_
        refine Run.via (pick_only [0, 0, 0, 0] _) ?_
        refine Run.nil ?_
        refine retN [] [] rfl rfl ⟨rfl, a', f, ?_⟩
        have ht : takeS ⟨init ++ [last], [], out, slots⟩ x = ⟨putL laterB init x, [], (out.set x.r.toNat y1).set last.r.toNat ⟨2, slots⟩, slots + 1⟩ := by
          simp only [takeS, hlast]; rw [if_pos hb.symm]; simp [List.getD_eq_getElem?_getD, gl]
        rw [ht]; rfl
      | false =>
        refine WP.via (Γ' := [blk sb [a'.val, f.val, o.val, .int .i64 slots] 49, slA 35 encIv a'.val (init ++ [last]), slA 3 Enc.int f.val [], slA 37 encLoc o.val out, blk b3 (encIv.cells x) 35]) (ent.refl _) ?_
        refine WP.seq ?_
        refine WP.drawn0 cf0 mixed rfl (by kernel_rfl) ?_
        refine Run.mv rfl rfl rfl rfl ?_
        refine Run.nilCheck rfl rfl rfl rfl ?_
        refine Run.fieldAddr rfl rfl fo_49_2 rfl rfl ?_
        refine Run.loadB 0 rfl rfl ag_25 rfl rfl rfl rfl rfl ?_
        refine Run.fieldAddr rfl rfl fo_35_0 rfl rfl ?_
        refine Run.loadB 4 rfl rfl ag_3 rfl rfl rfl rfl rfl ?_
        refine Run.mv rfl rfl rfl rfl ?_
        refine Run.nilCheck rfl rfl rfl rfl ?_
        refine Run.fieldAddr rfl rfl fo_49_3 rfl rfl ?_
        refine Run.loadB 0 rfl rfl ag_3 rfl rfl rfl rfl rfl ?_
        refine Run.build rfl bd_37 rfl rfl rfl rfl ?_
        refine Run.idxO 3 rfl rfl rfl sl_25 rfl rfl rfl rfl (by first | omega | (simp <;> omega)) (by first | omega | (simp <;> omega)) ?_
        refine Run.storeO 3 _ 0 rfl rfl rfl rfl ag_37 rfl rfl rfl rfl (y' := ⟨2, slots⟩) gx rfl rfl ?_
        refine Run.nil ?_
        refine thn_next ?_
        refine WP.plain cf0 rfl ?_
        refine Run.mv rfl rfl rfl rfl ?_
        refine Run.nilCheck rfl rfl rfl rfl ?_
        refine Run.fieldAddr rfl rfl fo_49_3 rfl rfl ?_
        refine Run.loadB 0 rfl rfl ag_3 rfl rfl rfl rfl rfl ?_
        refine Run.add64 rfl rfl rfl rfl rfl (by first | omega | (simp <;> omega)) (by first | omega | (simp <;> omega)) ?_
        refine Run.nilCheck rfl rfl rfl rfl ?_
        refine Run.fieldAddr rfl rfl fo_49_3 rfl rfl ?_
        refine Run.storeB 0 rfl rfl rfl rfl ag_3 rfl rfl rfl rfl rfl ?_
        refine Run.via (pick_only [0, 0, 0, 0] _) ?_
        refine Run.nil ?_
        refine retN [] [] rfl rfl ⟨rfl, a', f, ?_⟩
        have ht : takeS ⟨init ++ [last], [], out, slots⟩ x = ⟨init ++ [last], [], out.set x.r.toNat ⟨2, slots⟩, slots + 1⟩ := by
          simp only [takeS, hlast]; rw [if_neg (by rw [← hb]; simp)]
        rw [ht]; rfl
end Go.Proofs.Ytengcfamhoppbaa
