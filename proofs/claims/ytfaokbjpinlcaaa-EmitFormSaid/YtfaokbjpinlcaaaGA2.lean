/- Slices of literals, make, slicing, structs, maps; the ends of bodies. Over any program. -/
import Derived.Test.YtfaokbjpinlcaaaGA1
import Derived.Laws.StructEq
import Derived.WalkKit
import Derived.ProofKit
import Derived.OpenShut
import Derived.ChangeOld
import Derived.Below
import Derived.SizedLaws
import Derived.Scope
section
/- Slices of literals, make, slicing, structs, maps; the ends of bodies. Over any program. -/
namespace Go.Sep
theorem fill_fold (off : Nat) : ∀ (cs : List Value) (j : Nat) (acc : Array Value), (cs.zipIdx j).foldl (fun a (x : Value × Nat) => a.setIfInBounds (off + x.2) x.1) acc = setMany acc (off + j) cs
  | [], _, _ => rfl
  | c :: cs, j, acc => by simp only [List.zipIdx_cons, List.foldl_cons, setMany]; rw [fill_fold off cs (j + 1)]; simp [Nat.add_assoc]
theorem fill_all (sz : Nat) : ∀ (us : List Value) (k : Nat) (front back : List Value), front.length = k * sz → back.length = us.length * sz → (∀ u ∈ us, u.cells.size = sz) →
    Instr.fill (fun i => some (i * sz, sz)) ⟨front ++ back⟩ (idxd k us) = some ⟨front ++ (us.map fun u => u.cells.toList).flatten⟩
  | [], k, front, back, _, hb, _ => by
    have : back = [] := List.length_eq_zero_iff.1 (by simpa using hb)
    subst this; simp [idxd, Instr.fill]
  | u :: us, k, front, back, hf, hb, hu => by
    have hus : u.cells.size = sz := hu u (by simp)
    simp only [List.length_cons, Nat.add_mul, Nat.one_mul] at hb
    simp only [idxd, Instr.fill]
    rw [if_neg (by simp [hus, hf]; omega)]
    have hfold : u.cells.zipIdx.foldl (fun cs (x : Value × Nat) => cs.setIfInBounds (k * sz + x.2) x.1) (⟨front ++ back⟩ : Array Value) = ⟨front ++ u.cells.toList ++ back.drop sz⟩ := by
      rw [← Array.foldl_toList, Array.toList_zipIdx, fill_fold, Nat.add_zero, setMany_list]
      congr 1
      have hl : u.cells.toList.length = sz := by simpa using hus
      have := splice_mid front [] u.cells.toList back (by omega)
      simp only [List.append_nil, List.length_nil, Nat.add_zero, List.nil_append] at this
      rw [← hf, this, hl]
    have hgoal : (u.cells.zipIdx.foldl (fun cs (x : Value × Nat) => match x with | (c, j) => cs.setIfInBounds (k * sz + j) c) (⟨front ++ back⟩ : Array Value)) = ⟨front ++ u.cells.toList ++ back.drop sz⟩ := hfold
    rw [hgoal]
    rw [fill_all sz us (k + 1) (front ++ u.cells.toList) (back.drop sz) (by simp [hf, hus, Nat.add_mul]) (by rw [List.length_drop]; omega) (fun x hx => hu x (by simp [hx]))]
    simp [List.append_assoc]
section
variable {P : Program} {hR : Heap} {n : Fr} {cf : Op → Cls} {ops : Array Oper} {l : List Oper} {K : Env → List HProp → Prop} {ρ : Env} {Γ : List HProp} {o : Oper} {d : Nat}
variable {A : Type} {TE : TypeId} {E : Enc A} {v : Value} {xs ys : List A}
theorem slA_full (b c : Nat) (h : c = xs.length) : slA TE E (.slice (some ⟨b, 0, none⟩) xs.length c) xs (put emp b (.cells ⟨xs.flatMap E.cells⟩ TE (0, 0))) :=
  .inr ⟨b, 0, c, [], [], rfl, by omega, rfl, by simp [h], by simp⟩
/-- a slice of a literal -/
theorem Run.buildSlice {T : TypeId} {m : Nat} {parts : Array (Nat × Operand)} {us : List Value} {by' : Nat} {z : Value} (hop : o.op = .buildSlice T m parts) (hT : slT P T = some (TE, E.sz, by')) (hz : zr P TE = some z)
    (xs : List A) (hparts' : collectP 0 (parts.toList.map (fun p => (p.1, ρ.val p.2))) = some us) (hus : us.map Value.cells = xs.map fun x => ⟨E.cells x⟩) (hm : m = xs.length)
    (hsmall : m * E.sz ≤ 16777216) (_hd : o.dst = some d) (hs : preC .A n cf ops ρ o d = true)
    (H : ∀ b, Run P hR n cf ops l K ((d, .slice (some ⟨b, 0, none⟩) m m) :: ρ) (Γ ++ [slA TE E (.slice (some ⟨b, 0, none⟩) m m) xs])) : Run P hR n cf ops (o :: l) K ρ Γ :=
  Run.alloc_of (ob := .cells ⟨xs.flatMap E.cells⟩ TE (0, 0)) (val := fun b => .slice (some ⟨b, 0, none⟩) m m) (A := fun b => slA TE E (.slice (some ⟨b, 0, none⟩) m m) xs) hs (fun a ho w => by
    have hparts := collectP_spec hparts'
    obtain ⟨hu, inf, hinf, hisz, _⟩ := slT_spec hT
    have hp : (parts.map fun (p : Nat × Operand) => (p.1, a.eval p.2)).toList = idxd 0 us := by
      rw [Array.toList_map]
      generalize parts.toList = ps at hparts
      generalize idxd 0 us = qs at hparts
      induction ps generalizing qs with
      | nil => cases qs <;> simp at hparts ⊢
      | cons p ps ih =>
        cases qs with
        | nil => simp at hparts
        | cons q qs =>
          simp only [List.map_cons, List.cons.injEq, Prod.mk.injEq] at hparts ⊢
          exact ⟨Prod.ext hparts.1.1 (ho.eval hparts.1.2), ih qs hparts.2⟩
    have hlen : us.length = m := by have := congrArg List.length hus; simpa [hm] using this
    have hcs : ∀ u ∈ us, u.cells.size = E.sz := fun u hu => by
      have : u.cells ∈ us.map Value.cells := List.mem_map.2 ⟨u, hu, rfl⟩
      rw [hus] at this
      obtain ⟨x, _, e⟩ := List.mem_map.1 this
      rw [← e]; simpa using E.len x
    have hflat : (us.map fun u => u.cells.toList).flatten = xs.flatMap E.cells := by
      have : us.map (fun u => u.cells.toList) = xs.map E.cells := by
        have := congrArg (List.map Array.toList) hus
        simpa [Function.comp_def] using this
      rw [this]; rfl
    have hfill : ∀ zs : Array Value, zs.size = m * E.sz → Instr.fill (fun i => some (i * E.sz, E.sz)) zs (idxd 0 us) = some ⟨xs.flatMap E.cells⟩ := fun zs hzs => by
      have := fill_all E.sz us 0 [] zs.toList (by simp) (by simpa [hlen] using hzs) hcs
      simpa [hflat] using this
    have hsm : ¬ (2 ^ 24 < m * E.sz) := by omega
    simp only [execOp, hop, Instr.buildSlice, underlying, Sem.run_bind, run_program, Result.andThen_ok, hu, sizeOf, typeInfo, hinf, Sem.run_pure, hisz]
    rw [if_neg (by simpa using hsm)]
    have hp' : List.map (fun (p : Nat × Operand) => (p.1, a.eval p.2)) parts.toList = idxd 0 us := by simpa using hp
    by_cases h0 : m * E.sz = 0
    · simp [h0, hp']
      rw [hfill _ (by simp [h0])]
      simp [newRow, World.push]
    · simp [h0, zr_spec hz, hp']
      rw [hfill _ (by simp)]
      simp [newRow, World.push]) (fun b => by subst hm; exact slA_full b _ rfl) H
/-- make, of a slice -/
theorem Run.makeSlice {T : TypeId} {x y : Operand} {k1 k2 : IntKind} {m c : Int} {by' : Nat} {z : Value} (z0 : A) (hop : o.op = .makeSlice T x y) (hx : ρ.val x = some (.int k1 m)) (hy : ρ.val y = some (.int k2 c))
    (hT : slT P T = some (TE, E.sz, by')) (hz : zr P TE = some z) (hz0 : z.cells = ⟨E.cells z0⟩) (_hd : o.dst = some d) (hs : preC .A n cf ops ρ o d = true)
    (h0 : 0 ≤ m) (h1 : m ≤ c) (h2 : by' * c ≤ 281474976710656) (h3 : c ≤ 9223372036854775807)
    (H : ∀ b, Run P hR n cf ops l K ((d, .slice (some ⟨b, 0, none⟩) m.toNat c.toNat) :: ρ) (Γ ++ [slA TE E (.slice (some ⟨b, 0, none⟩) m.toNat c.toNat) (List.replicate m.toNat z0)])) : Run P hR n cf ops (o :: l) K ρ Γ := by
  have hrow : ∀ k : Nat, ((Array.range (k * E.sz)).map fun i => z.cells[i % z.cells.size]!) = ⟨(List.replicate k z0).flatMap E.cells⟩ := fun k => by
    apply Array.ext_getElem?
    intro j
    have hl := flat_len E (List.replicate k z0)
    rw [List.length_replicate] at hl
    by_cases hj : j < k * E.sz
    · have hpos : 0 < E.sz := by rcases Nat.eq_zero_or_pos E.sz with e | e; rw [e] at hj; simp at hj; exact e
      have hr : j % E.sz < E.sz := Nat.mod_lt _ hpos
      have hq : j / E.sz < k := Nat.div_lt_of_lt_mul (by rw [Nat.mul_comm]; exact hj)
      have h5 : (List.replicate k z0)[j / E.sz]? = some z0 := by simp [hq]
      have h6 := flat_get E _ _ _ _ h5 hr
      have hkd : j / E.sz * E.sz + j % E.sz = j := by rw [Nat.mul_comm]; exact Nat.div_add_mod j E.sz
      rw [hkd] at h6
      have hzs : z.cells.size = E.sz := by rw [hz0]; simpa using E.len z0
      have h7 : (E.cells z0)[j % E.sz]? = some ((E.cells z0)[j % E.sz]'(by rw [E.len]; exact hr)) := List.getElem?_eq_getElem _
      simp only [Array.getElem?_map, List.getElem?_toArray, h6]
      rw [Array.getElem?_eq_getElem (by simpa using hj)]
      simp only [Array.getElem_range, Option.map_some, hzs, h7]
      congr 1
      rw [hz0]
      have : j % E.sz < (E.cells z0).length := by rw [E.len]; exact hr
      simp [this]
    · rw [Array.getElem?_eq_none (by simp; omega), List.getElem?_toArray, List.getElem?_eq_none (by omega)]
  have hcm : c.toNat * E.sz = m.toNat * E.sz + (c.toNat - m.toNat) * E.sz := by rw [← Nat.add_mul]; congr 1; omega
  refine Run.alloc_of (ob := .cells ⟨(List.replicate c.toNat z0).flatMap E.cells⟩ TE (0, 0)) (val := fun b => .slice (some ⟨b, 0, none⟩) m.toNat c.toNat)
    (A := fun b => slA TE E (.slice (some ⟨b, 0, none⟩) m.toNat c.toNat) (List.replicate m.toNat z0)) hs (fun a ho w => ?_) (fun b => ?_) H
  · obtain ⟨hu, inf, hinf, hisz, hiby⟩ := slT_spec hT
    have e1 : IntKind.i64.wrap m = m := wrapI (by omega) (by omega)
    have e2 : IntKind.i64.wrap c = c := wrapI (by omega) (by omega)
    have t1 : ¬ c < 0 := by omega
    have t2 : ¬ m < 0 := by omega
    have t3 : ¬ c < m := by omega
    have t4 : ¬ (281474976710656 < (by' : Int) * c) := by omega
    by_cases hn : c.toNat * E.sz = 0
    · have hlist : (List.replicate c.toNat z0).flatMap E.cells = [] := List.length_eq_zero_iff.1 (by rw [flat_len, List.length_replicate]; exact hn)
      simp [execOp, hop, ho.eval hx, ho.eval hy, Instr.makeSlice, underlying, hu, asInt, asIntOf, typeInfo, hinf, hiby, e1, e2, t1, t2, t3, t4, sizeOf, hisz, hn, newRow, World.push, hlist]
      have hr0 : Array.map (fun _ => (default : Value)) (Array.range 0) = ⟨[]⟩ := by apply Array.ext'; simp
      rw [hr0]
    · simp [execOp, hop, ho.eval hx, ho.eval hy, Instr.makeSlice, underlying, hu, asInt, asIntOf, typeInfo, hinf, hiby, e1, e2, t1, t2, t3, t4, sizeOf, hisz, hn, newRow, World.push, zr_spec hz]
      rw [hrow]
  · refine .inr ⟨b, 0, c.toNat, [], (List.replicate (c.toNat - m.toNat) z0).flatMap E.cells, by simp, by simp; omega, rfl, ?_, ?_⟩
    · rw [flat_len, List.length_replicate, List.length_replicate]; exact Nat.le_refl _
    · have : List.replicate c.toNat z0 = List.replicate m.toNat z0 ++ List.replicate (c.toNat - m.toNat) z0 := by
        rw [List.replicate_append_replicate]; congr 1; omega
      rw [this, List.flatMap_append]; simp
def optN (x : Option Operand) (ρ : Env) (dflt : Nat) : Option Int :=
  match x with
  | none => some dflt
  | some op => match ρ.val op with | some (.int _ i) => some i | _ => none
/-- what a slice expression makes of a slice -/
def cutV (v : Value) (sz lo hi : Nat) : Value :=
  match v with
  | .slice a _ c => .slice (if c = lo then a else a.map (·.add (lo * sz))) (hi - lo) (c - lo)
  | v => v
end
def SV.cut (v : SV) (sz lo hi : Nat) : SV := ⟨if v.c = lo then v.a else v.a.map (·.add (lo * sz)), hi - lo, v.c - lo⟩
theorem cutV_val (v : SV) (sz lo hi : Nat) : cutV v.val sz lo hi = (v.cut sz lo hi).val := rfl
section
variable {P : Program} {hR : Heap} {n : Fr} {cf : Op → Cls} {ops : Array Oper} {l : List Oper} {K : Env → List HProp → Prop} {ρ : Env} {Γ : List HProp} {o : Oper} {d : Nat}
variable {A : Type} {TE : TypeId} {E : Enc A} {v : Value} {xs ys : List A}
theorem run_cut {T : TypeId} {a : Option Addr} {m c : Nat} {EE : TypeId} {sz by' : Nat} (hT : slT P T = some (EE, sz, by')) {lo hi : Option Operand} {ρl ρh : Int} {A' : Act} (ho : Ok n ρ A') (hl : optN lo ρ 0 = some ρl) (hh : optN hi ρ m = some ρh)
    (h0 : 0 ≤ ρl) (h1 : ρl ≤ ρh) (h2 : ρh ≤ c) (w : World) :
    (Instr.sliceAt T (.slice a m c) (lo.map A'.eval) (hi.map A'.eval) none).run P w = .ok (cutV (.slice a m c) sz ρl.toNat ρh.toNat) w := by
  obtain ⟨hu, inf, hinf, hisz, _⟩ := slT_spec hT
  have key : ∀ (x : Option Operand) (df : Nat) (r : Int), optN x ρ df = some r → (x = none ∧ r = df) ∨ ∃ op k, x = some op ∧ A'.eval op = .int k r := fun x df r hx => by
    unfold optN at hx
    split at hx
    · cases hx; exact .inl ⟨rfl, rfl⟩
    · rename_i op
      split at hx
      · rename_i k i hv; cases hx; exact .inr ⟨op, k, rfl, ho.eval hv⟩
      · cases hx
  rcases key hi m ρh hh with ⟨rfl, rfl⟩ | ⟨oh, kh, rfl, eh⟩ <;> rcases key lo 0 ρl hl with ⟨rfl, rfl⟩ | ⟨ol, kl, rfl, el⟩
  all_goals
    clear hl hh key
  all_goals first
    | (simp_all [Instr.sliceAt, Instr.slice, underlying, Instr.sliceBounds, Instr.sliceBound, asIntOf, sizeOf, typeInfo, cutV]; done)
    | (have g0 : 0 ≤ ρh := by omega
       have g1 : max ρh 0 = ρh := by omega
       simp [Instr.sliceAt, Instr.slice, underlying, Instr.sliceBounds, Instr.sliceBound, asIntOf, sizeOf, typeInfo, cutV, hu, hinf, hisz, eh, el, h0, h1, h2, g0, g1]; done)
theorem slA_cut {g : Heap} (hg : slA TE E v xs g) {lo hi : Nat} (h1 : lo ≤ hi) (h2 : hi ≤ xs.length) : slA TE E (cutV v E.sz lo hi) ((xs.take hi).drop lo) g := by
  rcases hg with ⟨rfl, rfl, rfl⟩ | ⟨b, o', c, pre, post, rfl, q1, q2, q3, rfl⟩
  · simp at h2; subst h2
    have : lo = 0 := by omega
    subst this
    exact .inl ⟨by simp [cutV], by simp, rfl⟩
  · have hlen : ((xs.take hi).drop lo).length = hi - lo := by simp; omega
    have hx : xs = xs.take lo ++ ((xs.take hi).drop lo ++ xs.drop hi) := by
      have e1 : xs = xs.take hi ++ xs.drop hi := (List.take_append_drop hi xs).symm
      have e2 : xs.take hi = xs.take lo ++ (xs.take hi).drop lo := by
        have := (List.take_append_drop lo (xs.take hi)).symm
        rwa [List.take_take, Nat.min_eq_left h1] at this
      rw [← List.append_assoc, ← e2, ← e1]
    have hcells : pre ++ xs.flatMap E.cells ++ post = (pre ++ (xs.take lo).flatMap E.cells) ++ ((xs.take hi).drop lo).flatMap E.cells ++ ((xs.drop hi).flatMap E.cells ++ post) := by
      conv => lhs; rw [hx]
      simp [List.flatMap_append, List.append_assoc]
    have hlo : ((xs.take lo).flatMap E.cells).length = lo * E.sz := by rw [flat_len, List.length_take]; congr 1; omega
    have hdr : ((xs.drop hi).flatMap E.cells).length = (xs.length - hi) * E.sz := by rw [flat_len, List.length_drop]
    by_cases hc : c = lo
    · refine .inr ⟨b, o', 0, pre, xs.flatMap E.cells ++ post, ?_, ?_, q2, by simp, ?_⟩
      · simp only [cutV, hc, if_true, hlen]
        have : hi - lo = 0 := by omega
        simp [this]
      · rw [hlen]; omega
      · have : (xs.take hi).drop lo = [] := List.length_eq_zero_iff.1 (by rw [hlen]; omega)
        rw [this]; simp
    · refine .inr ⟨b, o' + lo * E.sz, c - lo, pre ++ (xs.take lo).flatMap E.cells, (xs.drop hi).flatMap E.cells ++ post, ?_, by rw [hlen]; omega, by rw [List.length_append, hlo, q2], ?_, by rw [hcells]⟩
      · simp only [cutV, if_neg hc, hlen, Option.map_some, add_lit]
      · rw [hlen, List.length_append, hdr]
        have e3 : (c - lo - (hi - lo)) * E.sz = (xs.length - hi) * E.sz + (c - xs.length) * E.sz := by rw [← Nat.add_mul]; congr 1; omega
        rw [e3]; omega
theorem SlR_cut {B : Type} {F : Rd B} {zs : List B} {h : Heap} (hg : SlR F h v zs) {lo hi : Nat} (h1 : lo ≤ hi) (h2 : hi ≤ zs.length) : SlR F h (cutV v F.sz lo hi) ((zs.take hi).drop lo) := by
  obtain ⟨a, c, rfl, q1, q2⟩ := hg
  have hlen : ((zs.take hi).drop lo).length = hi - lo := by simp; omega
  refine ⟨if c = lo then a else a.map (·.add (lo * F.sz)), c - lo, by simp [cutV, hlen], by rw [hlen]; omega, fun hne => ?_⟩
  have hlt : lo < hi := by have := List.length_pos_iff.2 hne; omega
  obtain ⟨ad, rfl, q3⟩ := q2 (by intro e; subst e; simp at h2; omega)
  refine ⟨ad.add (lo * F.sz), by rw [if_neg (by omega)]; rfl, fun i x hx => ?_⟩
  have hx' : zs[lo + i]? = some x := by
    rw [List.getElem?_drop] at hx
    rw [List.getElem?_take] at hx
    split at hx
    · exact hx
    · cases hx
  obtain ⟨cs, g1, g2⟩ := q3 (lo + i) x hx'
  refine ⟨cs, g1, ?_⟩
  rw [add_add, ← Nat.add_mul]; exact g2
/-- x[lo:hi], of an owned slice -/
theorem Run.sliceO (k : Nat) {T EE : TypeId} {x : Operand} {lo hi : Option Operand} {by' : Nat} {il ih : Int} (hop : o.op = .slice T x lo hi none) (hx : ρ.val x = some v)
    (hk : Γ[k]? = some (slA TE E v xs)) (hT : slT P T = some (EE, E.sz, by')) (hl : optN lo ρ 0 = some il) (hh : optN hi ρ xs.length = some ih) (_hd : o.dst = some d) (hs : pre n cf ops ρ o d = true) (h0 : 0 ≤ il) (h1 : il ≤ ih) (h2 : ih ≤ xs.length)
    (H : Run P hR n cf ops l K ((d, cutV v E.sz il.toNat ih.toNat) :: ρ) (Γ.set k (slA TE E (cutV v E.sz il.toNat ih.toNat) ((xs.take ih.toNat).drop il.toNat)))) : Run P hR n cf ops (o :: l) K ρ Γ := by
  have h3 : ent Γ (Γ.set k (slA TE E (cutV v E.sz il.toNat ih.toNat) ((xs.take ih.toNat).drop il.toNat))) := fun h hs' => by
    obtain ⟨h1', h2', g1, hd, e, hset⟩ := sat_get hs' hk
    rw [e]
    exact hset _ h1' (slA_cut g1 (by omega) (by omega)) hd
  refine Run.val hs (fun a h ho ht w => ?_) (Run.via h3 H)
  · obtain ⟨h1', _, g1, _⟩ := sat_get ht hk
    obtain ⟨a0, c0, rfl, hc0, _⟩ := slA_shape g1
    have := run_cut (P := P) (a := a0) (m := xs.length) (c := c0) hT ho hl hh h0 h1 (by omega) w
    simp only [execOp, hop, ho.eval hx, Sem.run_bind, Option.map_none, this, Result.andThen_ok, Sem.run_pure]
end
end Go.Sep
end
section
/- Ways out of code, ends of bodies, small words for walking. Over any program. -/
namespace Go.Sep
section
variable {P : Program} {hR : Heap} {n : Fr} {cf : Op → Cls} {ops : Array Oper} {l : List Oper} {K : Env → List HProp → Prop} {ρ : Env} {Γ : List HProp} {o : Oper} {d : Nat}
variable {nx : Env → List HProp → Prop} {Q : Exit → Env → List HProp → Prop} {id id' : Nat}
theorem thn_next (H : nx ρ Γ) : thn nx Q .normal ρ Γ := H
theorem thn_exit (H : Q (.exit id) ρ Γ) : thn nx Q (.exit id) ρ Γ := H
theorem thn_ret (H : Q .ret ρ Γ) : thn nx Q .ret ρ Γ := H
theorem blk_norm (H : Q .normal ρ Γ) : blk' id Q .normal ρ Γ := H
theorem blk_hit (H : Q .normal ρ Γ) : blk' id Q (.exit id) ρ Γ := by simp only [blk', if_true]; exact H
theorem blk_miss (h : (id' == id) = false) (H : Q (.exit id') ρ Γ) : blk' id Q (.exit id') ρ Γ := by
  simp only [blk']; rw [if_neg (by simpa using h)]; exact H
theorem blk_ret (H : Q .ret ρ Γ) : blk' id Q .ret ρ Γ := H
theorem Run.next (H : nx ρ Γ) : Run P hR n cf ops [] (thn nx Q .normal) ρ Γ := Run.nil H
def tupV : List Value → Value
  | [v] => v
  | vs => .tuple ⟨vs⟩
theorem retA {fn : Func} {R : Value → List HProp → Prop} (ts : List Nat) (vs : List Value) (hres : fn.results = ⟨ts.map ResultVar.tmp⟩) (hv' : collectV (ts.map ρ.get) = some vs) (H : R (tupV vs) Γ) (e : Exit) (he : e = .ret ∨ e = .normal) : retQ P hR n fn R e ρ Γ := by
  have hv := collectV_spec hv'
  refine ⟨he, tupV vs, fun a h w ho _ _ => ?_, H⟩
  have hmap : ∀ (F : ResultVar → Sem Value) (_ : ∀ t, F (.tmp t) = pure (a.tmps.getD t undef)) (ts : List Nat) (vs : List Value), ts.map ρ.get = vs.map some →
      ((ts.map ResultVar.tmp).mapM F).run P w = .ok vs w := fun F hF ts => by
    induction ts with
    | nil => intro vs h; cases vs <;> simp at h ⊢
    | cons t ts ih =>
      intro vs h
      cases vs with
      | nil => simp at h
      | cons v vs =>
        simp only [List.map_cons, List.cons.injEq] at h
        have h1 := ho.get t v h.1
        have h2 := ih vs h.2
        simp only [List.map_cons, List.mapM_cons, hF, Sem.run_bind, Sem.run_pure, Result.andThen_ok, h2, Array.getD_eq_getD_getElem?, h1, Option.getD_some]
  unfold results
  rw [hres]
  rw [List.mapM_toArray]
  simp only [Sem.run_bind, Sem.run_map]
  rw [hmap _ (fun _ => rfl) ts vs hv]
  simp only [Result.andThen_ok, Sem.run_pure]
  congr 1
  match vs with
  | [] => rfl
  | [v] => rfl
  | v :: u :: vs => simp [tupV]
theorem retT {fn : Func} {R : Value → List HProp → Prop} (ts : List Nat) (vs : List Value) (hres : fn.results = ⟨ts.map ResultVar.tmp⟩) (hv' : collectV (ts.map ρ.get) = some vs) (H : R (tupV vs) Γ) : retQ P hR n fn R .ret ρ Γ :=
  retA ts vs hres hv' H .ret (.inl rfl)
theorem retN {fn : Func} {R : Value → List HProp → Prop} (ts : List Nat) (vs : List Value) (hres : fn.results = ⟨ts.map ResultVar.tmp⟩) (hv' : collectV (ts.map ρ.get) = some vs) (H : R (tupV vs) Γ) : retQ P hR n fn R .normal ρ Γ :=
  retA ts vs hres hv' H .normal (.inr rfl)
end
end Go.Sep
end
section
/- Ways that part and meet; maps of integers. Over any program. -/
namespace Go.Sep
theorem ent.right (Γ Δ : List HProp) : ent (Γ ++ Δ) Δ := fun h hs => by
  obtain ⟨x, y, _, a, c, d⟩ := sat_append.1 hs
  rw [d, un_comm c]; exact sat_mono a c.symm
/-- a map from integers: what it tells of each -/
def mpF (b : Nat) (f : Int → Option Value) : HProp := fun h => ∃ es clock, h = put emp b (.map ⟨es⟩ clock) ∧
  (∀ e ∈ es, ∃ k v, e.key = .int .i64 k ∧ e.val = v ∧ f k = some v) ∧ (∀ k v, f k = some v → ∃ e ∈ es, e.key = .int .i64 k) ∧ es.Pairwise (fun x y => x.key ≠ y.key)
theorem mpF_new (b : Nat) : ∀ h, mp b [] 0 h → mpF b (fun _ => none) h := fun _ hh => ⟨[], 0, hh, by simp, by simp, .nil⟩
theorem findNow_int {kd : IntKind} (k : Int) : ∀ (es : List MapEntry) (i : Nat), (∀ e ∈ es, ∃ k', e.key = .int .i64 k') →
    Instr.findNow (.int kd) (.int .i64 k) es i = some ((es.findIdx? (fun e => match e.key with | .int _ k' => k == k' | _ => false)).bind fun j => (es[j]?).map fun e => (i + j, e.val))
  | [], _, _ => rfl
  | e :: es, i, h => by
    obtain ⟨k', hk⟩ := h e (by simp)
    have ih := findNow_int (kd := kd) k es (i + 1) (fun e he => h e (by simp [he]))
    simp only [Instr.findNow, Instr.sameNow, hk, if_true, List.findIdx?_cons]
    by_cases hkk : k = k'
    · subst hkk; simp
    · have : (k == k') = false := by simpa using hkk
      simp only [this, ih, Bool.false_eq_true, if_false]
      cases hf : es.findIdx? (fun e => match e.key with | .int _ k' => k == k' | _ => false) with
      | none => simp
      | some j => simp [Nat.add_assoc, Nat.add_comm 1 j]
theorem run_checkKey_int {P : Program} {TK : TypeId} {kd : IntKind} (hK : P.underlying TK = some (.int kd)) (e : Bool) (k : Int) (w : World) : ∀ m, (Instr.checkKey e (m + 1) TK (.int .i64 k)).run P w = .ok () w := fun m => by
  simp [Instr.checkKey, underlying, hK]
theorem findIdx_spec {es : List MapEntry} {f : Int → Option Value} (h1 : ∀ e ∈ es, ∃ k v, e.key = .int .i64 k ∧ e.val = v ∧ f k = some v) (h2 : ∀ k v, f k = some v → ∃ e ∈ es, e.key = .int .i64 k) (k : Int) :
    (f k = none ∧ es.findIdx? (fun e => match e.key with | .int _ k' => k == k' | _ => false) = none) ∨
    ∃ j e v, es.findIdx? (fun e => match e.key with | .int _ k' => k == k' | _ => false) = some j ∧ es[j]? = some e ∧ e.key = .int .i64 k ∧ e.val = v ∧ f k = some v := by
  cases hf : es.findIdx? (fun e => match e.key with | .int _ k' => k == k' | _ => false) with
  | none =>
    refine .inl ⟨?_, rfl⟩
    cases hk : f k with
    | none => rfl
    | some v =>
      obtain ⟨e, he, hke⟩ := h2 k v hk
      have := List.findIdx?_eq_none_iff.1 hf e he
      rw [hke] at this; simp at this
  | some j =>
    obtain ⟨hlt, hp, _⟩ := List.findIdx?_eq_some_iff_getElem.1 hf
    obtain ⟨k', v, g1, g2, g3⟩ := h1 es[j] (List.getElem_mem hlt)
    rw [g1] at hp
    have : k = k' := by simpa using hp
    subst this
    exact .inr ⟨j, es[j], v, rfl, List.getElem?_eq_getElem hlt, g1, g2, g3⟩
section
variable {P : Program} {hR : Heap} {n : Fr} {cf : Op → Cls} {ops : Array Oper} {l : List Oper} {K : Env → List HProp → Prop} {ρ : Env} {Γ : List HProp} {o : Oper} {d : Nat}
variable {Q : Exit → Env → List HProp → Prop}
theorem Run.split {p : Prop} [Decidable p] (H1 : p → Run P hR n cf ops l K ((d, .bool true) :: ρ) Γ) (H2 : ¬ p → Run P hR n cf ops l K ((d, .bool false) :: ρ) Γ) :
    Run P hR n cf ops l K ((d, .bool (decide p)) :: ρ) Γ := by
  by_cases h : p
  · exact Run.tt h (H1 h)
  · exact Run.ff h (H2 h)
theorem Run.splitB {b : Bool} (H1 : b = true → Run P hR n cf ops l K ((d, .bool true) :: ρ) Γ) (H2 : b = false → Run P hR n cf ops l K ((d, .bool false) :: ρ) Γ) :
    Run P hR n cf ops l K ((d, .bool b) :: ρ) Γ := by
  cases b
  · exact H2 rfl
  · exact H1 rfl
/-- the ways through the first meet ahead of the second -/
theorem WP.seqCut {x y : Code} (ρ1 : Env) (Γ1 : List HProp) (H1 : WP P hR n x (thn (fun ρ' Γ' => covers ρ' ρ1 ∧ ent Γ' Γ1) Q) ρ Γ) (H2 : WP P hR n y Q ρ1 Γ1) : WP P hR n (.seq x y) Q ρ Γ :=
  WP.seq (H1.mono fun e ρ' Γ' h => by
    cases e with
    | normal => exact H2.weaken h.1 h.2
    | _ => exact h)
theorem Run.lookup (i : Nat) {T TK TV : TypeId} {x ix : Operand} {b : Nat} {f : Int → Option Value} {k : Int} {z : Value} {kd : IntKind} (hop : o.op = .lookup T x ix false) (hx : ρ.val x = some (.map (some b)))
    (hi : ρ.val ix = some (.int .i64 k)) (hT : P.underlying T = some (.map TK TV)) (hK : P.underlying TK = some (.int kd)) (hz : zr P TV = some z) (_hd : o.dst = some d) (hs : preC .R n cf ops ρ o d = true)
    (hk : Γ[i]? = some (mpF b f)) (H : Run P hR n cf ops l K ((d, (f k).getD z) :: ρ) Γ) : Run P hR n cf ops (o :: l) K ρ Γ := by
  intro a h ho ht hl
  obtain ⟨h1, h2, h3, h4⟩ := preC_spec hs
  unfold opsRun
  rw [gd_wanted ho h4, if_pos rfl, h3]
  obtain ⟨g1, g2, ⟨es, clock, rfl, q1, q2, q3⟩, hd, e, _⟩ := sat_get ht hk
  have ho' : Ok n ((d, (f k).getD z) :: ρ) (a.put o.dst ((f k).getD z)) := by rw [h1]; exact ho.put h2 _
  refine ⟨_, ⟨b, .map ⟨es⟩ clock, by simp [rblk, hop, ho.eval hx], .inr (by rw [e]; exact un_left_some put_emp_self), fun w hw => ?_⟩, H _ h ho' ht hl⟩
  have hgo : ∀ w' : World, hp w' b = some (.map ⟨es⟩ clock) → (getObj b).run P w' = .ok (.map ⟨es⟩ clock) w' := fun w' hw' => by
    unfold hp at hw'; simp [getObj, Sem.run, hw']
  have hkeys : ∀ e ∈ es, ∃ k', e.key = .int .i64 k' := fun e he => let ⟨k', _, g, _⟩ := q1 e he; ⟨k', g⟩
  have hck : ∀ emp' : Bool, (Instr.checkKey emp' 10000 TK (.int .i64 k)).run P w = .ok () w := fun emp' => run_checkKey_int hK emp' k w 9999
  have hfind := findNow_int (kd := kd) k es 0 hkeys
  rcases findIdx_spec q1 q2 k with ⟨hn, hx'⟩ | ⟨j, ee, v, hx', hj, g1', g2', g3'⟩
  · rw [hx'] at hfind
    simp only [Option.bind_none] at hfind
    simp [execOp, hop, ho.eval hx, ho.eval hi, Instr.lookup, underlying, hT, hgo w hw, hck, Instr.findKey, hK, hfind, zr_spec hz, hn]
  · rw [hx'] at hfind
    simp only [Option.bind_some, hj, Option.map_some, Nat.zero_add] at hfind
    simp [execOp, hop, ho.eval hx, ho.eval hi, Instr.lookup, underlying, hT, hgo w hw, hck, Instr.findKey, hK, hfind, g2', g3']
theorem Run.makeMapF {T : TypeId} (hop : o.op = .makeMap T none) (hd : o.dst = some d) (hs : preC .A n cf ops ρ o d = true)
    (H : ∀ b, Run P hR n cf ops l K ((d, .map (some b)) :: ρ) (Γ ++ [mpF b fun _ => none])) : Run P hR n cf ops (o :: l) K ρ Γ :=
  Run.makeMap hop hd hs fun b => (H b).via (ent.app (ent.refl _) (ent.cons (mpF_new b) (ent.refl _)))
def upd (f : Int → Option Value) (k : Int) (v : Value) : Int → Option Value := fun k' => if k' = k then some v else f k'
theorem Run.mapPut (i : Nat) {T TK TV : TypeId} {x ix y : Operand} {b : Nat} {f : Int → Option Value} {k : Int} {v : Value} {kd : IntKind} (hop' : o.op = .mapUpdate T x ix y ∨ o.op = .insert T x ix y) (hx : ρ.val x = some (.map (some b)))
    (hi : ρ.val ix = some (.int .i64 k)) (hy : ρ.val y = some v) (hT : P.underlying T = some (.map TK TV)) (hK : P.underlying TK = some (.int kd)) (hs : preN .E cf ops ρ o = true)
    (hk : Γ[i]? = some (mpF b f)) (H : Run P hR n cf ops l K ρ (Γ.set i (mpF b (upd f k v)))) : Run P hR n cf ops (o :: l) K ρ Γ :=
  Run.write_of i hs hk (fun a ho h1 hA => by
    obtain ⟨es, clock, rfl, q1, q2, q3⟩ := hA
    have hkeys : ∀ e ∈ es, ∃ k', e.key = .int .i64 k' := fun e he => let ⟨k', _, g, _⟩ := q1 e he; ⟨k', g⟩
    have hck : ∀ (w : World), (Instr.checkKey false 10000 TK (.int .i64 k)).run P w = .ok () w := fun w => run_checkKey_int hK false k w 9999
    have hgo : ∀ w' : World, hp w' b = some (.map ⟨es⟩ clock) → (getObj b).run P w' = .ok (.map ⟨es⟩ clock) w' := fun w' hw' => by
      unfold hp at hw'; simp [getObj, Sem.run, hw']
    have hso : ∀ (w' : World) (ob : Obj), hp w' b = some (.map ⟨es⟩ clock) → (setObj b ob).run P w' = .ok () (World.setObj w' b ob) := fun w' ob hw' => by
      unfold hp at hw'; simp [Go.setObj, Sem.run, hw', World.setObj]
    have hfind := findNow_int (kd := kd) k es 0 hkeys
    rcases findIdx_spec q1 q2 k with ⟨hn, hx'⟩ | ⟨j, ee, v0, hx', hj, g1', g2', g3'⟩
    · rw [hx'] at hfind
      simp only [Option.bind_none] at hfind
      refine ⟨b, _, .map ⟨es ++ [{ key := .int .i64 k, val := v, born := clock }]⟩ (clock + 1), rfl, ⟨_, _, rfl, ?_, ?_, ?_⟩, fun w hw => ?_⟩
      · intro e he
        rcases List.mem_append.1 he with he | he
        · obtain ⟨k', u, g1, g2, g3⟩ := q1 e he
          refine ⟨k', u, g1, g2, ?_⟩
          unfold upd; rw [if_neg]; exact g3
          intro e'; subst e'; rw [hn] at g3; cases g3
        · simp at he; subst he; exact ⟨k, v, rfl, rfl, by simp [upd]⟩
      · intro k' u hu
        unfold upd at hu
        split at hu
        · rename_i e; subst e; exact ⟨{ key := .int .i64 k', val := v, born := clock }, by simp, rfl⟩
        · obtain ⟨e, he, hke⟩ := q2 k' u hu; exact ⟨e, List.mem_append_left _ he, hke⟩
      · refine List.pairwise_append.2 ⟨q3, by simp, fun e he e' he' => ?_⟩
        simp at he'; subst he'
        obtain ⟨k', u, g1, g2, g3⟩ := q1 e he
        intro hc; simp only at hc; rw [g1] at hc; cases hc; rw [hn] at g3; cases g3
      · rcases hop' with hop | hop <;> simp [execOp, hop, ho.eval hx, ho.eval hi, ho.eval hy, Instr.mapUpdate, underlying, hT, hgo w hw, hck, Instr.findKey, hK, hfind, hso w _ hw]
    · rw [hx'] at hfind
      simp only [Option.bind_some, hj, Option.map_some, Nat.zero_add] at hfind
      have hjl := (List.getElem?_eq_some_iff.1 hj).1
      have hje := (List.getElem?_eq_some_iff.1 hj).2
      refine ⟨b, _, .map ⟨es.set j { ee with key := .int .i64 k, val := v }⟩ clock, rfl, ⟨_, _, rfl, ?_, ?_, ?_⟩, fun w hw => ?_⟩
      · intro e he
        obtain ⟨m, hm, hme⟩ := List.getElem_of_mem he
        rw [List.getElem_set] at hme
        split at hme
        · subst hme; exact ⟨k, v, rfl, rfl, by simp [upd]⟩
        · rename_i hne
          have hm' : m < es.length := by simpa using hm
          obtain ⟨k', u, g1, g2, g3⟩ := q1 es[m] (List.getElem_mem hm')
          subst hme
          refine ⟨k', u, g1, g2, ?_⟩
          unfold upd; rw [if_neg]; exact g3
          intro e'; subst e'
          have hjm : es[j].key ≠ es[m].key := by
            rcases Nat.lt_or_gt_of_ne hne with hlt | hgt
            · exact List.pairwise_iff_getElem.1 q3 j m hjl hm' hlt
            · exact fun hc => List.pairwise_iff_getElem.1 q3 m j hm' hjl hgt hc.symm
          rw [hje, g1', g1] at hjm; exact hjm rfl
      · intro k' u hu
        unfold upd at hu
        split at hu
        · rename_i e; subst e; exact ⟨{ ee with key := .int .i64 k', val := v }, List.mem_set hjl _, rfl⟩
        · rename_i hne
          obtain ⟨e, he, hke⟩ := q2 k' u hu
          obtain ⟨m, hm, hme⟩ := List.getElem_of_mem he
          have hmj : j ≠ m := fun e' => by subst e'; rw [hje] at hme; subst hme; rw [g1'] at hke; cases hke; exact hne rfl
          refine ⟨e, ?_, hke⟩
          have : (es.set j { ee with key := .int .i64 k, val := v })[m]? = some e := by rw [List.getElem?_set_ne hmj, List.getElem?_eq_getElem hm, hme]
          exact List.mem_of_getElem? this
      · rw [List.pairwise_iff_getElem] at q3 ⊢
        intro m1 m2 hm1 hm2 hlt
        have hk1 : ∀ m (hm : m < (es.set j { ee with key := .int .i64 k, val := v }).length), (es.set j { ee with key := .int .i64 k, val := v })[m].key = (es[m]'(by simpa using hm)).key := fun m hm => by
          rw [List.getElem_set]; split
          · rename_i e'; subst e'; rw [hje, g1']
          · rfl
        rw [hk1, hk1]
        exact q3 m1 m2 (by simpa using hm1) (by simpa using hm2) hlt
      · have hkeep : (Instr.keyThatStays ee.key (.int .i64 k)).run P w = .ok (.int .i64 k) w := by
          rw [g1']; simp [Instr.keyThatStays, Instr.sameBits]
        have hset : es.modify j (fun e => { e with key := .int .i64 k, val := v }) = es.set j { ee with key := .int .i64 k, val := v } := by
          apply List.ext_getElem?
          intro m
          rw [List.getElem?_modify]
          by_cases hm : j = m
          · subst hm; simp [hjl, hje]
          · simp [hm, List.getElem?_set_ne hm]
        rcases hop' with hop | hop <;> simp [execOp, hop, ho.eval hx, ho.eval hi, ho.eval hy, Instr.mapUpdate, underlying, hT, hgo w hw, hck, Instr.findKey, hK, hfind, hj, hkeep, hset, hso w _ hw]) H
theorem Run.mapUpdate (i : Nat) {T TK TV : TypeId} {x ix y : Operand} {b : Nat} {f : Int → Option Value} {k : Int} {v : Value} {kd : IntKind} (hop : o.op = .mapUpdate T x ix y) (hx : ρ.val x = some (.map (some b)))
    (hi : ρ.val ix = some (.int .i64 k)) (hy : ρ.val y = some v) (hT : P.underlying T = some (.map TK TV)) (hK : P.underlying TK = some (.int kd)) (hs : preN .E cf ops ρ o = true)
    (hk : Γ[i]? = some (mpF b f)) (H : Run P hR n cf ops l K ρ (Γ.set i (mpF b (upd f k v)))) : Run P hR n cf ops (o :: l) K ρ Γ := Run.mapPut i (.inl hop) hx hi hy hT hK hs hk H
end
end Go.Sep
end
section
/- Structs that are built; fields of struct values. Over any program. -/
namespace Go.Sep
def collectN : List (Nat × Option Value) → Option (List (Nat × Value))
  | [] => some []
  | (i, some v) :: r => match collectN r with | some vs => some ((i, v) :: vs) | none => none
  | (_, none) :: _ => none
theorem collectN_spec : ∀ {xs : List (Nat × Option Value)} {vs : List (Nat × Value)}, collectN xs = some vs → xs = vs.map fun p => (p.1, some p.2)
  | [], _, h => by simp only [collectN, Option.some.injEq] at h; subst h; rfl
  | (i, some v) :: r, vs, h => by
    simp only [collectN] at h
    split at h
    · rename_i us hu; cases h; simp [← collectN_spec hu]
    · cases h
  | (_, none) :: _, _, h => by simp [collectN] at h
def fillL (places : List (Nat × Nat)) (cs : List Value) : List (Nat × Value) → Option (List Value)
  | [] => some cs
  | (i, v) :: r => match places[i]? with
    | some (off, size) => bif Nat.beq v.cells.size size && Nat.ble (off + size) cs.length then fillL places (setManyL cs off v.cells.toList) r else none
    | none => none
theorem fillL_spec (places : List (Nat × Nat)) : ∀ (parts : List (Nat × Value)) (cs rs : List Value), fillL places cs parts = some rs → Instr.fill (fun i => places[i]?) ⟨cs⟩ parts = some ⟨rs⟩
  | [], cs, rs, h => by simp only [fillL, Option.some.injEq] at h; subst h; rfl
  | (i, v) :: r, cs, rs, h => by
    simp only [fillL] at h
    split at h
    · rename_i off size hp
      cases hb : (Nat.beq v.cells.size size && Nat.ble (off + size) cs.length) with
      | false => rw [hb] at h; cases h
      | true =>
        rw [hb] at h
        simp only [cond_true] at h
        simp only [Bool.and_eq_true] at hb
        have e1 := Nat.eq_of_beq_eq_true hb.1
        have e2 := Nat.le_of_ble_eq_true hb.2
        simp only [Instr.fill, hp]
        rw [if_neg (by simp [e1]; omega)]
        have hfold : v.cells.zipIdx.foldl (fun cs (x : Value × Nat) => match x with | (c, j) => cs.setIfInBounds (off + j) c) (⟨cs⟩ : Array Value) = ⟨setManyL cs off v.cells.toList⟩ := by
          have := fill_fold off v.cells.toList 0 ⟨cs⟩
          rw [Nat.add_zero, setMany_list] at this
          rw [← Array.foldl_toList, Array.toList_zipIdx]
          exact this
        rw [hfold]
        exact fillL_spec places r _ rs h
    · cases h
/-- of a struct's type: its zero's cells, and where each field lies -/
def bdT (P : Program) (T : TypeId) : Option (List Value × List (Nat × Nat)) :=
  match P.underlying T, P.info? T with
  | some (.struct fs), some i => match i.zero, collectPl (fs.toList.map fun f => (P.info? f.type).map fun j => (f.offset, j.size)) with
    | some z, some pl => some (z.cells.toList, pl)
    | _, _ => none
  | _, _ => none
  where collectPl : List (Option (Nat × Nat)) → Option (List (Nat × Nat))
  | [] => some []
  | some v :: r => match collectPl r with | some vs => some (v :: vs) | none => none
  | none :: _ => none
theorem collectPl_spec : ∀ {xs : List (Option (Nat × Nat))} {vs : List (Nat × Nat)}, bdT.collectPl xs = some vs → xs = vs.map some
  | [], _, h => by simp only [bdT.collectPl, Option.some.injEq] at h; subst h; rfl
  | some v :: r, vs, h => by
    simp only [bdT.collectPl] at h
    split at h
    · rename_i us hu; cases h; simp [← collectPl_spec hu]
    · cases h
  | none :: _, _, h => by simp [bdT.collectPl] at h
section
variable {P : Program} {hR : Heap} {n : Fr} {cf : Op → Cls} {ops : Array Oper} {l : List Oper} {K : Env → List HProp → Prop} {ρ : Env} {Γ : List HProp} {o : Oper} {d : Nat}
theorem run_build {T : TypeId} {zs : List Value} {pl : List (Nat × Nat)} {parts : List (Nat × Value)} {rs : List Value} (h : bdT P T = some (zs, pl)) (hf : fillL pl zs parts = some rs) (ps : Array (Nat × Value)) (hps : ps.toList = parts) (w : World) :
    (Instr.build T ps).run P w = .ok (.agg ⟨rs⟩) w := by
  unfold bdT at h
  split at h
  · rename_i fs i hu hi
    split at h
    · rename_i z pl' hz hpl
      cases h
      have h1 := collectPl_spec hpl
      have hplaces : (fs.mapM fun f => (do pure (f.offset, ← sizeOf f.type) : Sem (Nat × Nat))).run P w = .ok ⟨pl⟩ w := by
        rw [Array.mapM_eq_mapM_toList]
        simp only [Sem.run_map]
        have : ∀ (l : List Field) (pl : List (Nat × Nat)), l.map (fun f => (P.info? f.type).map fun j => (f.offset, j.size)) = pl.map some → (l.mapM fun f => (do pure (f.offset, ← sizeOf f.type) : Sem (Nat × Nat))).run P w = .ok pl w := fun l => by
          induction l with
          | nil => intro pl h; cases pl <;> simp at h ⊢
          | cons f l ih =>
            intro pl h
            cases pl with
            | nil => simp at h
            | cons p pl =>
              simp only [List.map_cons, List.cons.injEq] at h
              cases hi : P.info? f.type with
              | none => rw [hi] at h; simp at h
              | some j =>
                rw [hi] at h
                simp only [Option.map_some, Option.some.injEq] at h
                have hs : (sizeOf f.type).run P w = .ok j.size w := by simp [sizeOf, typeInfo, hi]
                simp only [List.mapM_cons, Sem.run_bind, hs, Result.andThen_ok, Sem.run_pure, ih pl h.2, h.1]
        rw [this _ _ h1]; rfl
      have hfill := fillL_spec pl parts z.cells.toList rs hf
      have hz' : (zeroValue T).run P w = .ok z w := zr_spec (by unfold zr; rw [hi]; simpa using hz) w
      simp only [Instr.build, Sem.run_bind, hz', Result.andThen_ok, underlying, run_program, hu, Sem.run_pure, hplaces, hps]
      have : Instr.fill (fun x : Nat => (⟨pl⟩ : Array (Nat × Nat))[x]?) z.cells parts = some ⟨rs⟩ := by
        have e : (fun x : Nat => (⟨pl⟩ : Array (Nat × Nat))[x]?) = fun i : Nat => pl[i]? := by funext i; simp
        rw [e]; exact hfill
      rw [this]; rfl
    · cases h
  · cases h
theorem Run.build {T : TypeId} {parts : Array (Nat × Operand)} {zs : List Value} {pl : List (Nat × Nat)} {us : List (Nat × Value)} {rs : List Value} (hop : o.op = .build T parts) (hb : bdT P T = some (zs, pl))
    (hp : collectN (parts.toList.map fun p => (p.1, ρ.val p.2)) = some us) (hf : fillL pl zs us = some rs) (_hd : o.dst = some d) (hs : pre n cf ops ρ o d = true)
    (H : Run P hR n cf ops l K ((d, .agg ⟨rs⟩) :: ρ) Γ) : Run P hR n cf ops (o :: l) K ρ Γ :=
  Run.val hs (fun a h ho ht w => by
    have hps : (parts.map fun (i, x) => (i, a.eval x)).toList = us := by
      rw [Array.toList_map]
      have hparts := collectN_spec hp
      generalize parts.toList = ps at hparts
      clear hf hp
      induction ps generalizing us with
      | nil => cases us <;> simp at hparts ⊢
      | cons p ps ih =>
        cases us with
        | nil => simp at hparts
        | cons q qs =>
          simp only [List.map_cons, List.cons.injEq, Prod.mk.injEq] at hparts ⊢
          exact ⟨Prod.ext hparts.1.1 (ho.eval hparts.1.2), ih hparts.2⟩
    simp only [execOp, hop, Sem.run_bind, run_build hb hf _ hps w, Result.andThen_ok, Sem.run_pure]) H
end
end Go.Sep
end
section
/- Structs of integers held against each other; slices that are cut and stay; what is known of pieces; lending. Over any program. -/
namespace Go.Sep
def eqInts : List Value → List Value → Option Bool
  | [], [] => some true
  | .int .i64 a :: xs, .int .i64 b :: ys => match eqInts xs ys with | some r => some (decide (a = b) && r) | none => none
  | _, _ => none
def chkF (P : Program) : List Field → Nat → Bool
  | [], _ => true
  | f :: fs, i => decide (f.name ≠ "_") && Nat.beq f.offset i && (match P.underlying f.type with | some (.int _) => true | _ => false) && chkF P fs (i + 1)
def intS (P : Program) (T : TypeId) : Bool :=
  match P.underlying T with
  | some (.struct fs) => !P.stoodInHeld T && !P.eqGuardType P.depth T && chkF P fs.toList 0
  | _ => false
theorem run_eqFields {P : Program} (d : Nat) (w : World) : ∀ (fs : List Field) (i : Nat) (xs ys us vs : List Value) (b : Bool), chkF P fs i = true → us.length = fs.length → eqInts us vs = some b → xs.drop i = us → ys.drop i = vs →
    (Op.eqFields (d + 1) ⟨xs⟩ ⟨ys⟩ fs).run P w = .ok b w
  | [], i, xs, ys, us, vs, b, _, hl, he, _, _ => by
    have : us = [] := List.length_eq_zero_iff.1 (by simpa using hl)
    subst this
    cases vs with
    | nil => simp only [eqInts, Option.some.injEq] at he; subst he; rfl
    | cons v vs => simp [eqInts] at he
  | f :: fs, i, xs, ys, us, vs, b, hc, hl, he, hx, hy => by
    simp only [chkF, Bool.and_eq_true, decide_eq_true_eq] at hc
    obtain ⟨⟨⟨h1, h2⟩, h3⟩, h4⟩ := hc
    have h2' := Nat.eq_of_beq_eq_true h2
    cases us with
    | nil => simp at hl
    | cons u us =>
      cases vs with
      | nil => cases u <;> first | (simp [eqInts] at he; done) | (rename_i k a; cases k <;> simp [eqInts] at he)
      | cons v vs =>
        have hu : ∃ a c, u = .int .i64 a ∧ v = .int .i64 c := by
          cases u <;> try (simp [eqInts] at he; done)
          rename_i k a; cases k <;> try (simp [eqInts] at he; done)
          cases v <;> try (simp [eqInts] at he; done)
          rename_i k c; cases k <;> try (simp [eqInts] at he; done)
          exact ⟨a, c, rfl, rfl⟩
        obtain ⟨a, c, rfl, rfl⟩ := hu
        simp only [eqInts] at he
        split at he
        · rename_i r hr
          cases he
          have hx0 : xs[i]? = some (.int .i64 a) := by have := congrArg List.head? hx; rw [List.head?_drop] at this; simpa using this
          have hy0 : ys[i]? = some (.int .i64 c) := by have := congrArg List.head? hy; rw [List.head?_drop] at this; simpa using this
          have hx1 : xs.drop (i + 1) = us := by have := congrArg List.tail hx; rw [List.tail_drop] at this; simpa using this
          have hy1 : ys.drop (i + 1) = vs := by have := congrArg List.tail hy; rw [List.tail_drop] at this; simpa using this
          have ih := run_eqFields d w fs (i + 1) xs ys us vs r h4 (by simpa using hl) hr hx1 hy1
          split at h3
          · rename_i k hk
            have hag : (isAgg f.type).run P w = .ok false w := by simp [isAgg, underlying, hk]
            have hp : ∀ (zs : List Value) (z : Value), zs[i]? = some z → (part f.type ⟨zs⟩ f.offset).run P w = .ok z w := fun zs z hz => by
              simp [part, hag, h2', hz]
            have he := run_equalIn_int (P := P) w d f.type .i64 k a c hk
            simp only [Op.eqFields]
            rw [if_pos h1]
            simp only [Sem.run_bind, hp xs _ hx0, hp ys _ hy0, he, Result.andThen_ok, Sem.run_ite]
            by_cases hac : a = c
            · subst hac; simp [ih]
            · simp [hac]
          · cases h3
        · cases he
section
variable {P : Program} {hR : Heap} {n : Fr} {cf : Op → Cls} {ops : Array Oper} {l : List Oper} {K : Env → List HProp → Prop} {ρ : Env} {Γ : List HProp} {o : Oper} {d : Nat}

def nfields (P : Program) (T : TypeId) : Nat := match P.underlying T with | some (.struct fs) => fs.size | _ => 0
theorem run_eqS {T : TypeId} (h : intS P T = true) {xs ys : List Value} {b : Bool} (hx : xs.length = nfields P T) (he : eqInts xs ys = some b) (x y : Operand) (op : BinOp) (w : World) :
    (eqGuard op T x y (.agg ⟨xs⟩) (.agg ⟨ys⟩)).run P w = .ok () w ∧ (Op.equalIn 10000 T (.agg ⟨xs⟩) (.agg ⟨ys⟩)).run P w = .ok b w := by
  unfold intS at h
  unfold nfields at hx
  split at h
  · rename_i fs hu
    rw [hu] at hx
    simp only [Bool.and_eq_true, Bool.not_eq_true'] at h
    have hf : P.fieldsOf T = fs := by simp [Program.fieldsOf, hu]
    refine ⟨run_eqGuard_agg w op T x y _ _ h.1.2, ?_⟩
    rw [run_equalIn_struct w 9999 T _ _ (by rw [hf]; exact hu) h.1.1, hf]
    exact run_eqFields 9998 w fs.toList 0 xs ys xs ys b h.2 (by simpa using hx) he (by simp) (by simp)
  · cases h
theorem Run.eqS {T T' : TypeId} {x y : Operand} {xs ys : List Value} {b : Bool} {m : Nat} (hop : o.op = .binOp .eql T x y T') (hx : ρ.val x = some (.agg ⟨xs⟩)) (hy : ρ.val y = some (.agg ⟨ys⟩)) (hT : intS P T = true) (hm : nfields P T = m)
    (he : eqInts xs ys = some b) (_hd : o.dst = some d) (hs : pre n cf ops ρ o d = true) (hl : Nat.beq xs.length m = true) (H : Run P hR n cf ops l K ((d, .bool b) :: ρ) Γ) : Run P hR n cf ops (o :: l) K ρ Γ :=
  Run.val hs (fun A h ho ht w => by
    have h2 := run_eqS hT (by rw [Nat.eq_of_beq_eq_true hl, hm]) he x y .eql w
    simp only [execOp, hop, ho.eval hx, ho.eval hy, Sem.run_bind, h2.1, Result.andThen_ok, run_eql_struct, h2.2, Sem.run_pure]) H
theorem Run.neS {T T' : TypeId} {x y : Operand} {xs ys : List Value} {b : Bool} {m : Nat} (hop : o.op = .binOp .neq T x y T') (hx : ρ.val x = some (.agg ⟨xs⟩)) (hy : ρ.val y = some (.agg ⟨ys⟩)) (hT : intS P T = true) (hm : nfields P T = m)
    (he : eqInts xs ys = some b) (_hd : o.dst = some d) (hs : pre n cf ops ρ o d = true) (hl : Nat.beq xs.length m = true) (H : Run P hR n cf ops l K ((d, .bool (!b)) :: ρ) Γ) : Run P hR n cf ops (o :: l) K ρ Γ :=
  Run.val hs (fun A h ho ht w => by
    have h2 := run_eqS hT (by rw [Nat.eq_of_beq_eq_true hl, hm]) he x y .neq w
    simp only [execOp, hop, ho.eval hx, ho.eval hy, Sem.run_bind, h2.1, Result.andThen_ok, run_neq_struct, h2.2, Sem.run_pure]) H
/-- x[lo:hi]: the value alone; the memory stays as it is known -/
theorem Run.sliceV {T EE : TypeId} {x : Operand} {lo hi : Option Operand} {sz by' : Nat} {il ih : Int} {sv : SV} (hop : o.op = .slice T x lo hi none) (hx : ρ.val x = some sv.val) (hT : slT P T = some (EE, sz, by'))
    (hl : optN lo ρ 0 = some il) (hh : optN hi ρ sv.n = some ih) (_hd : o.dst = some d) (hs : pre n cf ops ρ o d = true) (h0 : 0 ≤ il) (h1 : il ≤ ih) (h2 : ih ≤ sv.c)
    (H : Run P hR n cf ops l K ((d, (sv.cut sz il.toNat ih.toNat).val) :: ρ) Γ) : Run P hR n cf ops (o :: l) K ρ Γ :=
  Run.val hs (fun a h ho ht w => by
    have := run_cut (P := P) (a := sv.a) (m := sv.n) (c := sv.c) hT ho hl hh h0 h1 h2 w
    have hv : a.eval x = .slice sv.a sv.n sv.c := ho.eval hx
    simp only [execOp, hop, hv, Sem.run_bind, Option.map_none, this, Result.andThen_ok, Sem.run_pure]; rfl) H
/-- an owned slice, lent -/
theorem lent_at {A : Type} {T : TypeId} {E : Enc A} {v : Value} {xs : List A} {Θ : List HProp} {g : Heap} (k : Nat) (hk : Θ[k]? = some (slA T E v xs)) (hs : sat Θ g) (hd : Disj hR g) : SlR E.rd (un hR g) v xs := by
  obtain ⟨h1, h2, g1, hd', e, _⟩ := sat_get hs hk
  subst e
  exact slA_lend g1 ((sub_un_left h1 h2).trans (sub_un_right hd))
end
end Go.Sep
end
section
/- Arrays of integers behind a pointer. Over any program. -/
namespace Go.Sep
section
variable {P : Program} {hR : Heap} {n : Fr} {cf : Op → Cls} {ops : Array Oper} {l : List Oper} {K : Env → List HProp → Prop} {ρ : Env} {Γ : List HProp} {o : Oper} {d : Nat}
/-- of an array's type: its length, its element's cells -/
def arT (P : Program) (T : TypeId) : Option (Nat × Nat) :=
  match P.underlying T with
  | some (.array len e) => (P.info? e).map fun i => (len, i.size)
  | _ => none
theorem Run.idxArr {T : TypeId} {x ix : Operand} {k : IntKind} {i : Int} {p : Addr} {len sz : Nat} (hop : o.op = .indexAddr T x ix) (hx : ρ.val x = some (.pointer (some p)))
    (hi : ρ.val ix = some (.int k i)) (hT : arT P T = some (len, sz)) (_hd : o.dst = some d) (hs : pre n cf ops ρ o d = true) (h0 : 0 ≤ i) (h1 : i < len)
    (H : Run P hR n cf ops l K ((d, .pointer (some (p.add (i.toNat * sz)))) :: ρ) Γ) : Run P hR n cf ops (o :: l) K ρ Γ :=
  Run.val hs (fun A h ho ht w => by
    unfold arT at hT
    split at hT
    · rename_i len' e hu
      cases hinf : P.info? e with
      | none => simp [hinf] at hT
      | some inf =>
        simp [hinf] at hT
        obtain ⟨rfl, hsz⟩ := hT
        simp [execOp, hop, ho.eval hx, ho.eval hi, Instr.indexAt, underlying, hu, asIntOf, h0, h1, sizeOf, typeInfo, hinf, hsz, Instr.sureAddr]
    · cases hT) H
def ints (h : List Int) : List Value := h.map (Value.int .i64)
theorem ints_set (h : List Int) (i : Nat) (v : Int) (_hi : i < h.length) : setManyL (ints h) (0 + i * 1) [.int .i64 v] = ints (h.set i v) := by
  simp [setManyL, ints, List.map_set]
theorem Run.loadArr (k : Nat) {T U : TypeId} {x : Operand} {p : Addr} {s b i : Nat} {h : List Int} {v : Int} (hop : o.op = .load T x) (hx : ρ.val x = some (.pointer (some p))) (hT : ag P T = some (false, s))
    (_hd : o.dst = some d) (hs : preC .R n cf ops ρ o d = true) (hk : Γ[k]? = some (blk b (ints h) U)) (hp' : p = (⟨b, 0, none⟩ : Addr).add (i * 1)) (hv : h[i]? = some v) (H : Run P hR n cf ops l K ((d, .int .i64 v) :: ρ) Γ) :
    Run P hR n cf ops (o :: l) K ρ Γ :=
  Run.loadB k hop hx hT _hd hs hk (by rw [hp', add_lit]) (by simp [ints, hv]) H
theorem Run.storeArr (k : Nat) {T U : TypeId} {x y : Operand} {p : Addr} {v : Int} {b i : Nat} {h : List Int} {g : Bool} (hop : o.op = .store T x y) (hx : ρ.val x = some (.pointer (some p)))
    (hy : ρ.val y = some (.int .i64 v)) (hT : ag P T = some (g, 1)) (hs : preN .E cf ops ρ o = true) (hk : Γ[k]? = some (blk b (ints h) U)) (hp' : p = (⟨b, 0, none⟩ : Addr).add (i * 1)) (hi : i < h.length)
    (H : Run P hR n cf ops l K ρ (Γ.set k (blk b (ints (h.set i v)) U))) : Run P hR n cf ops (o :: l) K ρ Γ := by
  refine Run.storeB k hop hx hy rfl hT rfl hs hk (by rw [hp', add_lit]) (Nat.ble_eq_true_of_le (by simp [ints]; omega)) ?_
  rw [ints_set h i v hi]; exact H
end
end Go.Sep
end
section
/- What an argument's reading tells of memory, and a walked call's ending as a row wants it. Over any program. -/
namespace Go.Sep
open Go.ChangeShapes Go.WideShapes Go.ChangeAt Go.RowKit
theorem cellH_of {w : World} {p : Addr} {v : Value} (h : w.cell? p = some v) : cellH (hp w) p v := by
  unfold World.cell? at h
  split at h
  · rename_i c T fz hc
    split at h
    · cases h
    · rename_i hs
      exact ⟨c, T, fz, hc, by simpa using hs, h⟩
  · cases h
theorem rowH_of {w : World} {base : Nat} {a : Addr} {n : Nat} {cs : List Value} (h : w.cells? base a n = some cs) : rowH (hp w) a cs := by
  obtain ⟨_, h1, h2⟩ := World.cells?_some h
  intro j v hj
  have hlt : j < n := by rw [← h1]; exact (List.getElem?_eq_some_iff.1 hj).1
  exact cellH_of ((h2 j hlt).trans hj)
/-- a type's reading opens -/
def Opens {A : Type} (P : Program) (w : World) (t : TypeId) (E : Rd A) (G : A → Prop) : Prop :=
  ∀ {H : Type} {enc : TypeId × Value → H} {base : Nat} {spare : Nat → Bool} {held : Bool} {fuel : Nat} {cs : List Value} {x : DataW H × List MemPlace},
    DataW.trod enc P w base spare held fuel t cs = some x → ∃ a, E.rel (hp w) a cs ∧ G a
section
variable {P : Program} {w : World} {t e : TypeId}
theorem Opens.int {k : IntKind} (ht : P.underlying t = some (.int k)) : Opens P w t (Enc.int k).rd (fun n => (Lit.int k n).wf = true) := fun h => by
  obtain ⟨n, rfl, _, hw⟩ := DataW.trod_int ht h
  exact ⟨n, rfl, hw⟩
theorem Opens.bool (ht : P.underlying t = some .bool) : Opens P w t Enc.bool.rd (fun _ => True) := fun h => by
  obtain ⟨b, rfl, _⟩ := DataW.trod_bool ht h
  exact ⟨b, rfl, trivial⟩
theorem choose_list {B : Type} {q : Nat → B → Prop} : ∀ n : Nat, (∀ i, i < n → ∃ b, q i b) → ∃ xs : List B, xs.length = n ∧ ∀ i b, xs[i]? = some b → q i b
  | 0, _ => ⟨[], rfl, fun i b h => by simp at h⟩
  | n + 1, hq => by
    obtain ⟨xs, h1, h2⟩ := choose_list n fun i hi => hq i (by omega)
    obtain ⟨b, hb⟩ := hq n (by omega)
    refine ⟨xs ++ [b], by simp [h1], fun i c hc => ?_⟩
    by_cases hi : i < xs.length
    · rw [List.getElem?_append_left hi] at hc; exact h2 i c hc
    · have hl := (List.getElem?_eq_some_iff.1 hc).1
      simp only [List.length_append, List.length_cons, List.length_nil] at hl
      have : i = xs.length := by omega
      subst this
      rw [List.getElem?_append_right (Nat.le_refl _), Nat.sub_self] at hc
      cases hc
      rw [h1]; exact hb
theorem Opens.slice {A : Type} {E : Rd A} {G : A → Prop} (ht : P.underlying t = some (.slice e)) (hc : P.cellsOf e = E.sz) (HE : Opens P w e E G) :
    Opens P w t E.slice (fun xs => ∀ x ∈ xs, G x) := fun {H enc base spare held fuel cs x} h => by
  rcases DataW.trod_slice ht h with ⟨rfl, _⟩ | ⟨a, len, cap, elems, rest, n, _, rfl, _, _, hle, _, hlen, hel, _⟩
  · exact ⟨[], ⟨_, rfl, none, 0, rfl, Nat.le_refl _, fun h => absurd rfl h⟩, fun x hx => by cases hx⟩
  · have each : ∀ i, i < len → ∃ y : A, (∃ cs, E.rel (hp w) y cs ∧ rowH (hp w) (a.add (i * E.sz)) cs) ∧ G y := fun i hi => by
      have h1 := hel i hi
      rw [List.getElem?_eq_getElem (by omega)] at h1
      obtain ⟨cs', h2, h3⟩ := Option.bind_eq_some_iff.1 h1
      obtain ⟨y, h4, h5⟩ := HE h3
      rw [hc] at h2
      exact ⟨y, ⟨cs', h4, rowH_of h2⟩, h5⟩
    obtain ⟨xs, hx1, hx2⟩ := choose_list len each
    refine ⟨xs, ⟨_, rfl, some a, cap, by rw [hx1], by rw [hx1]; exact hle, fun _ => ⟨a, rfl, fun i y hy => (hx2 i y hy).1⟩⟩, fun y hy => ?_⟩
    obtain ⟨i, hi⟩ := List.getElem?_of_mem hy
    exact (hx2 i y hi).2
/-- a struct of whole numbers -/
theorem Opens.ints {fs : Array Field} (ht : P.underlying t = some (.struct fs)) (hc : P.cellsOf t = fs.size) (hf : ∀ (i : Nat) (f : Field), fs[i]? = some f → f.offset = i ∧ P.cellsOf f.type = 1 ∧ P.underlying f.type = some (.int .i64))
    {H : Type} {enc : TypeId × Value → H} {base : Nat} {spare : Nat → Bool} {held : Bool} {fuel : Nat} {cs : List Value} {x : DataW H × List MemPlace} (h : DataW.trod enc P w base spare held fuel t cs = some x) :
    ∃ ns : List Int, ns.length = fs.size ∧ cs = ns.map (.int .i64) ∧ ∀ n ∈ ns, (Lit.int .i64 n).wf = true := by
  obtain ⟨xs, n, _, _, h1, h2, h3⟩ := DataW.trod_struct ht h
  have each : ∀ i, i < fs.size → ∃ m : Int, cs[i]? = some (.int .i64 m) ∧ (Lit.int .i64 m).wf = true := fun i hi => by
    have hfi : fs[i]? = some fs[i] := Array.getElem?_eq_getElem hi
    obtain ⟨q1, q2, q3⟩ := hf i _ hfi
    have g := h3 i _ hfi
    rw [q1, q2, List.getElem?_eq_getElem (by omega)] at g
    obtain ⟨m, g1, _, g2⟩ := DataW.trod_int q3 g
    refine ⟨m, ?_, g2⟩
    have := congrArg (fun l => l[0]?) g1
    simpa [List.getElem?_take, List.getElem?_drop] using this
  obtain ⟨ns, hn1, hn2⟩ := choose_list fs.size each
  refine ⟨ns, hn1, ?_, fun m hm => ?_⟩
  · refine List.ext_getElem? fun i => ?_
    rw [List.getElem?_map]
    cases hi : ns[i]? with
    | none =>
      have : fs.size ≤ i := by have := List.getElem?_eq_none_iff.1 hi; omega
      rw [List.getElem?_eq_none (by omega)]; rfl
    | some m => exact (hn2 i m hi).1
  · obtain ⟨i, hi⟩ := List.getElem?_of_mem hm
    exact (hn2 i m hi).2
theorem Tri.below {f : FuncId} {args : Array Value} {R : Value → List HProp → Prop} (T : Tri P (hp w) f args [] R) :
    Calls P f args w fun e w' => (∃ v Γ', e = .returned v ∧ R v Γ') ∧ Below w.heap.size w w' := by
  refine Calls.mono (T emp w (by simp [sat]) ⟨fun _ _ h => h, (fun b o h => by cases h), fun b => .inr rfl⟩) ?_
  rintro e w' ⟨v, h', Γ', rfl, s, _, r⟩
  exact ⟨⟨v, Γ', rfl, r⟩, ⟨s.same.os, s.same.tape, s.same.output, s.size, fun k hk => s.keep k hk rfl⟩⟩
end
end Go.Sep
end
section
/- Two truth values compared. Over any program. -/
namespace Go.Sep
section
variable {P : Program} {hR : Heap} {n : Fr} {cf : Op → Cls} {ops : Array Oper} {l : List Oper} {K : Env → List HProp → Prop} {ρ : Env} {Γ : List HProp} {o : Oper} {d : Nat}
theorem Run.eqB {T T' : TypeId} {x y : Operand} {a b : Bool} (hop : o.op = .binOp .eql T x y T') (hx : ρ.val x = some (.bool a)) (hy : ρ.val y = some (.bool b)) (hT : P.underlying T = some .bool)
    (_hd : o.dst = some d) (hs : pre n cf ops ρ o d = true) (H : Run P hR n cf ops l K ((d, .bool (a == b)) :: ρ) Γ) : Run P hR n cf ops (o :: l) K ρ Γ :=
  Run.val hs (fun A h ho ht w => by
    have e := run_equalIn_bool' (P := P) w 9999 T a b hT
    have g : (Op.equal T (.bool a) (.bool b)).run P w = .ok (a == b) w := e
    simp [execOp, hop, ho.eval hx, ho.eval hy, eqGuard, binOp, g]) H
end
end Go.Sep
end
section
/- Slices of slices and structs of two parts, read and opened. Over any program. -/
namespace Go.Sep
open Go.ChangeShapes Go.WideShapes Go.ChangeAt Go.RowKit
end Go.Sep
end
section
/- A scope that is run through straight. Over any program. -/
namespace Go.Sep
section
variable {P : Program} {hR : Heap} {n : Fr} {Q : Exit → Env → List HProp → Prop} {ρ : Env} {Γ : List HProp}
def noG (Q : Exit → Env → List HProp → Prop) : Exit → Env → List HProp → Prop
  | .goto _, _, _ => False
  | e, ρ, Γ => Q e ρ Γ
theorem WP.scope {c : Code} {k : Nat} {ds : List Deferred} (H : WP P hR ⟨k, ds, none⟩ c (noG Q) ρ Γ) : WP P hR ⟨k, ds, none⟩ (.scope c) Q ρ Γ := fun a h w ho hs hf => by
  refine wpIn_wide.2 (wp_scope_straight (wp_mono (wpIn_wide.1 (H a h w ho hs hf)) ?_))
  rintro e a1 w1 ⟨h1, ρ1, Γ1, s, o1, t1, q⟩
  cases e with
  | goto l => exact q.elim
  | _ => exact ⟨h1, ρ1, Γ1, s, o1, t1, q⟩
theorem scp_ret (H : Q .ret ρ Γ) : noG Q .ret ρ Γ := H
end
end Go.Sep
end
section
/- Natural numbers in cells; rows of slices as one piece. Over any program. -/
namespace Go.Sep
def Enc.nat : Enc Nat := ⟨1, fun b => [.int .i64 (b : Int)], fun _ => rfl, fun _ => rfl⟩
/-- what is read as one thing is read as another -/
theorem SlR.turn {A B : Type} {E : Rd A} {F : Rd B} {h : Heap} {v : Value} {xs : List A} {ys : List B} (hl : ys.length = xs.length) (hs : F.sz = E.sz)
    (ht : ∀ (i : Nat) (x : A) (y : B), xs[i]? = some x → ys[i]? = some y → ∀ cs, E.rel h x cs → F.rel h y cs) (H : SlR E h v xs) : SlR F h v ys := by
  obtain ⟨a, c, h1, h2, h3⟩ := H
  refine ⟨a, c, by rw [hl]; exact h1, by rw [hl]; exact h2, fun hne => ?_⟩
  obtain ⟨ad, e, h4⟩ := h3 (fun e => hne (List.length_eq_zero_iff.1 (by rw [hl, e]; rfl)))
  refine ⟨ad, e, fun i y hy => ?_⟩
  have hlt := (List.getElem?_eq_some_iff.1 hy).1
  have hx : xs[i]? = some (xs[i]'(by omega)) := List.getElem?_eq_getElem _
  obtain ⟨cs, g1, g2⟩ := h4 i _ hx
  exact ⟨cs, ht i _ y hx hy cs g1, by rw [hs]; exact g2⟩
def toI (l : List Nat) : List Int := l.map fun (b : Nat) => (b : Int)
theorem SlR.nat {h : Heap} {v : Value} {l : List Nat} (H : SlR (Enc.int .i64).rd h v (toI l)) : SlR Enc.nat.rd h v l :=
  SlR.turn (E := (Enc.int .i64).rd) (F := Enc.nat.rd) (H := H) (by simp [toI]) rfl fun i x y hx hy cs hc => by
    simp only [toI, List.getElem?_map, hy, Option.map_some, Option.some.injEq] at hx
    subst hx; exact hc
theorem SlR.int {h : Heap} {v : Value} {l : List Nat} (H : SlR Enc.nat.rd h v l) : SlR (Enc.int .i64).rd h v (toI l) :=
  SlR.turn (E := Enc.nat.rd) (F := (Enc.int .i64).rd) (H := H) (by simp [toI]) rfl fun i x y hx hy cs hc => by
    simp only [toI, List.getElem?_map, hx, Option.map_some, Option.some.injEq] at hy
    subst hy; exact hc
section
variable {P : Program} {hR : Heap} {n : Fr} {cf : Op → Cls} {ops : Array Oper} {l : List Oper} {K : Env → List HProp → Prop} {ρ : Env} {Γ : List HProp} {o : Oper} {d : Nat}
end
/-! ### many pieces as one -/
def many (Θ : List HProp) : HProp := fun h => sat Θ h
theorem ent.at0 {Γ Δ Θ : List HProp} (h : ent Γ Δ) : ent (Γ ++ Θ) (Δ ++ Θ) := ent.app h (ent.refl _)
section
variable {A : Type} (T : TypeId) (E : Enc A)
def rowsL (p : List (SV × List A)) : List HProp := p.map fun q => slA T E q.1.val q.2
/-- rows of slices, each owned -/
def rows (p : List (SV × List A)) : HProp := many (rowsL T E p)
def rowsBut (i : Nat) (p : List (SV × List A)) : HProp := many ((rowsL T E p).eraseIdx i)
variable {T E}
end
end Go.Sep
end
section
/- What is owned is frozen for a piece of code: it is only read there. Rows of nothing. Over any program. -/
namespace Go.Sep
section
variable {P : Program} {hR : Heap} {n : Fr} {Q : Exit → Env → List HProp → Prop} {ρ : Env} {Γ : List HProp}
theorem WP.freeze {c : Code} (Θ : List HProp) (H : ∀ g, sat Θ g → Disj hR g → WP P (un hR g) n c (fun e ρ' Γ' => Q e ρ' (Γ' ++ Θ)) ρ Γ) : WP P hR n c Q ρ (Γ ++ Θ) := by
  intro a h w ho hs hf
  obtain ⟨h1, h2, g1, g2, hd, rfl⟩ := sat_append.1 hs
  have hRg : Disj hR h2 := (hf.right hd).apart
  have hf' : Fits (un hR h2) h1 w := by
    refine ⟨fun b o hb => ?_, hf.left.own, un_disj.2 ⟨hf.left.apart, hd.symm⟩⟩
    unfold un at hb
    cases hx : hR b with
    | some o => simp [hx] at hb; subst hb; exact hf.ro b _ hx
    | none => simp [hx] at hb; exact (hf.right hd).own b o hb
  refine wpIn_mono (H h2 g2 hRg a h1 w ho g1 hf') ?_
  rintro e a1 w1 ⟨h', ρ1, Γ1, s, o1, t1, q⟩
  obtain ⟨s', hd'⟩ := s.frame (hf.right hd).own hd
  exact ⟨un h' h2, ρ1, Γ1 ++ Θ, s', o1, sat_append.2 ⟨h', h2, t1, g2, hd', rfl⟩, q⟩
theorem Sub.un_left (h g : Heap) : Sub h (un h g) := sub_un_left h g
end
section
variable {A : Type} {T : TypeId} {E : Enc A}
end
end Go.Sep
end
section
/- What is frozen is read at any time: its reading stands in no order. Over any program. -/
namespace Go.Sep
def cfF : Op → Cls
  | .load .. => .P
  | o => cf0 o
section
variable {P : Program} {hR : Heap} {n : Fr} {cf : Op → Cls} {ops : Array Oper} {l : List Oper} {K : Env → List HProp → Prop} {ρ : Env} {Γ : List HProp} {o : Oper} {d : Nat}
theorem Run.loadF_of {T : TypeId} {x : Operand} {p : Addr} {v : Value} (hop : o.op = .load T x) (hx : ρ.val x = some (.pointer (some p))) (hs : preC .P n cf ops ρ o d = true)
    (hv : ∃ ob, hR p.block = some ob ∧ ∀ w, hp w p.block = some ob → (loadVar T p).run P w = .ok v w) (H : Run P hR n cf ops l K ((d, v) :: ρ) Γ) : Run P hR n cf ops (o :: l) K ρ Γ := by
  intro a h ho ht hl
  obtain ⟨h1, h2, h3, h4⟩ := preC_spec hs
  unfold opsRun
  rw [gd_wanted ho h4, if_pos rfl, h3]
  obtain ⟨ob, hob, hrun⟩ := hv
  have ho' : Ok n ((d, v) :: ρ) (a.put o.dst v) := by rw [h1]; exact ho.put h2 v
  refine ⟨v, fun w hw => ?_, H _ h ho' ht hl⟩
  simp only [execOp, hop, ho.eval hx, Instr.loadAt, Instr.sureAddr, Sem.run_bind, Sem.run_pure, Result.andThen_ok, hrun w (hw _ _ hob)]
theorem Run.loadF {T : TypeId} {x : Operand} {p : Addr} {v : Value} {s : Nat} (hop : o.op = .load T x) (hx : ρ.val x = some (.pointer (some p))) (hT : ag P T = some (false, s))
    (_hd : o.dst = some d) (hs : preC .P n cf ops ρ o d = true) (hv : cellH hR p v) (H : Run P hR n cf ops l K ((d, v) :: ρ) Γ) : Run P hR n cf ops (o :: l) K ρ Γ :=
  Run.loadF_of hop hx hs (by
    obtain ⟨c, U, fz, h1, h2, h3⟩ := hv
    exact ⟨_, h1, fun w hw => loadVar_cell hT h2 h3 w hw⟩) H
theorem Run.loadFagg {T : TypeId} {x : Operand} {p : Addr} {cs : List Value} {m : Nat} (hop : o.op = .load T x) (hx : ρ.val x = some (.pointer (some p))) (hT' : ag P T = some (true, m + 1))
    (_hd : o.dst = some d) (hs : preC .P n cf ops ρ o d = true) (hv : rowH hR p cs) (hm : cs.length = m + 1) (H : Run P hR n cf ops l K ((d, .agg ⟨cs⟩) :: ρ) Γ) : Run P hR n cf ops (o :: l) K ρ Γ :=
  Run.loadF_of hop hx hs (by
    have hT : ag P T = some (true, cs.length) := by rw [hm]; exact hT'
    obtain ⟨c, U, fz, h1, h2, h3⟩ := rowH_block hv (by intro e; rw [e] at hm; simp at hm)
    exact ⟨_, h1, fun w hw => loadVar_row hT w fun j v hj => cell?_of (by rw [add_block]; exact hw) (add_spot _ h2) (by rw [add_off]; exact h3 j v hj)⟩) H
end
end Go.Sep
end
