/- Slices of literals, make, slicing, structs, maps; the ends of bodies. Over any program. -/
import Derived.Test.YtengcfamhoppbaaS8
namespace Go.Sep

theorem fill_fold (off : Nat) : ∀ (cs : List Value) (j : Nat) (acc : Array Value), (cs.zipIdx j).foldl (fun a (x : Value × Nat) => a.setIfInBounds (off + x.2) x.1) acc = setMany acc (off + j) cs
  | [], _, _ => rfl
  | c :: cs, j, acc => by simp only [List.zipIdx_cons, List.foldl_cons, setMany]; rw [fill_fold off cs (j + 1)]; simp [Nat.add_assoc]

theorem fill_all (sz : Nat) : ∀ (us : List Value) (k : Nat) (front back : List Value), front.length = k * sz → back.length = us.length * sz → (∀ u ∈ us, u.cells.size = sz) →
    Instr.fill (fun i => some (i * sz, sz)) ⟨front ++ back⟩ (idxd k us) = some ⟨front ++ (us.map fun u => u.cells.toList).flatten⟩
  | [], k, front, back, _, hb, _ => by
    have : back = [] := List.length_eq_zero_iff.1 (by simpa using hb)
    subst this; simp [idxd, Instr.fill]
  | u :: us, k, front, back, hf, hb, hu => by
    have hus : u.cells.size = sz := hu u (by simp)
    simp only [List.length_cons, Nat.add_mul, Nat.one_mul] at hb
    simp only [idxd, Instr.fill]
    rw [if_neg (by simp [hus, hf]; omega)]
    have hfold : u.cells.zipIdx.foldl (fun cs (x : Value × Nat) => cs.setIfInBounds (k * sz + x.2) x.1) (⟨front ++ back⟩ : Array Value) = ⟨front ++ u.cells.toList ++ back.drop sz⟩ := by
      rw [← Array.foldl_toList, Array.toList_zipIdx, fill_fold, Nat.add_zero, setMany_list]
      congr 1
      have hl : u.cells.toList.length = sz := by simpa using hus
      have := splice_mid front [] u.cells.toList back (by omega)
      simp only [List.append_nil, List.length_nil, Nat.add_zero, List.nil_append] at this
      rw [← hf, this, hl]
    have hgoal : (u.cells.zipIdx.foldl (fun cs (x : Value × Nat) => match x with | (c, j) => cs.setIfInBounds (k * sz + j) c) (⟨front ++ back⟩ : Array Value)) = ⟨front ++ u.cells.toList ++ back.drop sz⟩ := hfold
    rw [hgoal]
    rw [fill_all sz us (k + 1) (front ++ u.cells.toList) (back.drop sz) (by simp [hf, hus, Nat.add_mul]) (by rw [List.length_drop]; omega) (fun x hx => hu x (by simp [hx]))]
    simp [List.append_assoc]

section
variable {P : Program} {hR : Heap} {n : Nat} {cf : Op → Cls} {ops : Array Oper} {l : List Oper} {K : Env → List HProp → Prop} {ρ : Env} {Γ : List HProp} {o : Oper} {d : Nat}
variable {A : Type} {TE : TypeId} {E : Enc A} {v : Value} {xs ys : List A}

theorem slA_full (b c : Nat) (h : c = xs.length) : slA TE E (.slice (some ⟨b, 0, none⟩) xs.length c) xs (put emp b (.cells ⟨xs.flatMap E.cells⟩ TE (0, 0))) :=
  .inr ⟨b, 0, c, [], [], rfl, by omega, rfl, by simp [h], by simp⟩

/-- a slice of a literal -/
theorem Run.buildSlice {T : TypeId} {m : Nat} {parts : Array (Nat × Operand)} {us : List Value} {by' : Nat} {z : Value} (hop : o.op = .buildSlice T m parts) (hT : slT P T = some (TE, E.sz, by')) (hz : zr P TE = some z)
    (xs : List A) (hparts' : collectP 0 (parts.toList.map (fun p => (p.1, ρ.val p.2))) = some us) (hus : us.map Value.cells = xs.map fun x => ⟨E.cells x⟩) (hm : m = xs.length)
    (hsmall : m * E.sz ≤ 16777216) (_hd : o.dst = some d) (hs : preC .A n cf ops ρ o d = true)
    (H : ∀ b, Run P hR n cf ops l K ((d, .slice (some ⟨b, 0, none⟩) m m) :: ρ) (Γ ++ [slA TE E (.slice (some ⟨b, 0, none⟩) m m) xs])) : Run P hR n cf ops (o :: l) K ρ Γ :=
  Run.alloc_of (ob := .cells ⟨xs.flatMap E.cells⟩ TE (0, 0)) (val := fun b => .slice (some ⟨b, 0, none⟩) m m) (A := fun b => slA TE E (.slice (some ⟨b, 0, none⟩) m m) xs) hs (fun a ho w => by
    have hparts := collectP_spec hparts'
    obtain ⟨hu, inf, hinf, hisz, _⟩ := slT_spec hT
    have hp : (parts.map fun (p : Nat × Operand) => (p.1, a.eval p.2)).toList = idxd 0 us := by
      rw [Array.toList_map]
      generalize parts.toList = ps at hparts
      generalize idxd 0 us = qs at hparts
      induction ps generalizing qs with
      | nil => cases qs <;> simp at hparts ⊢
      | cons p ps ih =>
        cases qs with
        | nil => simp at hparts
        | cons q qs =>
          simp only [List.map_cons, List.cons.injEq, Prod.mk.injEq] at hparts ⊢
          exact ⟨Prod.ext hparts.1.1 (ho.eval hparts.1.2), ih qs hparts.2⟩
    have hlen : us.length = m := by have := congrArg List.length hus; simpa [hm] using this
    have hcs : ∀ u ∈ us, u.cells.size = E.sz := fun u hu => by
      have : u.cells ∈ us.map Value.cells := List.mem_map.2 ⟨u, hu, rfl⟩
      rw [hus] at this
      obtain ⟨x, _, e⟩ := List.mem_map.1 this
      rw [← e]; simpa using E.len x
    have hflat : (us.map fun u => u.cells.toList).flatten = xs.flatMap E.cells := by
      have : us.map (fun u => u.cells.toList) = xs.map E.cells := by
        have := congrArg (List.map Array.toList) hus
        simpa [Function.comp_def] using this
      rw [this]; rfl
    have hfill : ∀ zs : Array Value, zs.size = m * E.sz → Instr.fill (fun i => some (i * E.sz, E.sz)) zs (idxd 0 us) = some ⟨xs.flatMap E.cells⟩ := fun zs hzs => by
      have := fill_all E.sz us 0 [] zs.toList (by simp) (by simpa [hlen] using hzs) hcs
      simpa [hflat] using this
    have hsm : ¬ (2 ^ 24 < m * E.sz) := by omega
    simp only [execOp, hop, Instr.buildSlice, underlying, Sem.run_bind, run_program, Result.andThen_ok, hu, sizeOf, typeInfo, hinf, Sem.run_pure, hisz]
    rw [if_neg (by simpa using hsm)]
    have hp' : List.map (fun (p : Nat × Operand) => (p.1, a.eval p.2)) parts.toList = idxd 0 us := by simpa using hp
    by_cases h0 : m * E.sz = 0
    · simp [h0, hp']
      rw [hfill _ (by simp [h0])]
      simp [newRow, World.push]
    · simp [h0, zr_spec hz, hp']
      rw [hfill _ (by simp)]
      simp [newRow, World.push]) (fun b => by subst hm; exact slA_full b _ rfl) H

/-- make, of a slice -/
theorem Run.makeSlice {T : TypeId} {x y : Operand} {k1 k2 : IntKind} {m c : Int} {by' : Nat} {z : Value} (z0 : A) (hop : o.op = .makeSlice T x y) (hx : ρ.val x = some (.int k1 m)) (hy : ρ.val y = some (.int k2 c))
    (hT : slT P T = some (TE, E.sz, by')) (hz : zr P TE = some z) (hz0 : z.cells = ⟨E.cells z0⟩) (_hd : o.dst = some d) (hs : preC .A n cf ops ρ o d = true)
    (h0 : 0 ≤ m) (h1 : m ≤ c) (h2 : by' * c ≤ 281474976710656) (h3 : c ≤ 9223372036854775807)
    (H : ∀ b, Run P hR n cf ops l K ((d, .slice (some ⟨b, 0, none⟩) m.toNat c.toNat) :: ρ) (Γ ++ [slA TE E (.slice (some ⟨b, 0, none⟩) m.toNat c.toNat) (List.replicate m.toNat z0)])) : Run P hR n cf ops (o :: l) K ρ Γ := by
  have hrow : ∀ k : Nat, ((Array.range (k * E.sz)).map fun i => z.cells[i % z.cells.size]!) = ⟨(List.replicate k z0).flatMap E.cells⟩ := fun k => by
    apply Array.ext_getElem?
    intro j
    have hl := flat_len E (List.replicate k z0)
    rw [List.length_replicate] at hl
    by_cases hj : j < k * E.sz
    · have hpos : 0 < E.sz := by rcases Nat.eq_zero_or_pos E.sz with e | e; rw [e] at hj; simp at hj; exact e
      have hr : j % E.sz < E.sz := Nat.mod_lt _ hpos
      have hq : j / E.sz < k := Nat.div_lt_of_lt_mul (by rw [Nat.mul_comm]; exact hj)
      have h5 : (List.replicate k z0)[j / E.sz]? = some z0 := by simp [hq]
      have h6 := flat_get E _ _ _ _ h5 hr
      have hkd : j / E.sz * E.sz + j % E.sz = j := by rw [Nat.mul_comm]; exact Nat.div_add_mod j E.sz
      rw [hkd] at h6
      have hzs : z.cells.size = E.sz := by rw [hz0]; simpa using E.len z0
      have h7 : (E.cells z0)[j % E.sz]? = some ((E.cells z0)[j % E.sz]'(by rw [E.len]; exact hr)) := List.getElem?_eq_getElem _
      simp only [Array.getElem?_map, List.getElem?_toArray, h6]
      rw [Array.getElem?_eq_getElem (by simpa using hj)]
      simp only [Array.getElem_range, Option.map_some, hzs, h7]
      congr 1
      rw [hz0]
      have : j % E.sz < (E.cells z0).length := by rw [E.len]; exact hr
      simp [this]
    · rw [Array.getElem?_eq_none (by simp; omega), List.getElem?_toArray, List.getElem?_eq_none (by omega)]
  have hcm : c.toNat * E.sz = m.toNat * E.sz + (c.toNat - m.toNat) * E.sz := by rw [← Nat.add_mul]; congr 1; omega
  refine Run.alloc_of (ob := .cells ⟨(List.replicate c.toNat z0).flatMap E.cells⟩ TE (0, 0)) (val := fun b => .slice (some ⟨b, 0, none⟩) m.toNat c.toNat)
    (A := fun b => slA TE E (.slice (some ⟨b, 0, none⟩) m.toNat c.toNat) (List.replicate m.toNat z0)) hs (fun a ho w => ?_) (fun b => ?_) H
  · obtain ⟨hu, inf, hinf, hisz, hiby⟩ := slT_spec hT
    have e1 : IntKind.i64.wrap m = m := wrapI (by omega) (by omega)
    have e2 : IntKind.i64.wrap c = c := wrapI (by omega) (by omega)
    have t1 : ¬ c < 0 := by omega
    have t2 : ¬ m < 0 := by omega
    have t3 : ¬ c < m := by omega
    have t4 : ¬ (281474976710656 < (by' : Int) * c) := by omega
    by_cases hn : c.toNat * E.sz = 0
    · have hlist : (List.replicate c.toNat z0).flatMap E.cells = [] := List.length_eq_zero_iff.1 (by rw [flat_len, List.length_replicate]; exact hn)
      simp [execOp, hop, ho.eval hx, ho.eval hy, Instr.makeSlice, underlying, hu, asInt, asIntOf, typeInfo, hinf, hiby, e1, e2, t1, t2, t3, t4, sizeOf, hisz, hn, newRow, World.push, hlist]
      have hr0 : Array.map (fun _ => (default : Value)) (Array.range 0) = ⟨[]⟩ := by apply Array.ext'; simp
      rw [hr0]
    · simp [execOp, hop, ho.eval hx, ho.eval hy, Instr.makeSlice, underlying, hu, asInt, asIntOf, typeInfo, hinf, hiby, e1, e2, t1, t2, t3, t4, sizeOf, hisz, hn, newRow, World.push, zr_spec hz]
      rw [hrow]
  · refine .inr ⟨b, 0, c.toNat, [], (List.replicate (c.toNat - m.toNat) z0).flatMap E.cells, by simp, by simp; omega, rfl, ?_, ?_⟩
    · rw [flat_len, List.length_replicate, List.length_replicate]; exact Nat.le_refl _
    · have : List.replicate c.toNat z0 = List.replicate m.toNat z0 ++ List.replicate (c.toNat - m.toNat) z0 := by
        rw [List.replicate_append_replicate]; congr 1; omega
      rw [this, List.flatMap_append]; simp

def optN (x : Option Operand) (ρ : Env) (dflt : Nat) : Option Int :=
  match x with
  | none => some dflt
  | some op => match ρ.val op with | some (.int _ i) => some i | _ => none

/-- what a slice expression makes of a slice -/
def cutV (v : Value) (sz lo hi : Nat) : Value :=
  match v with
  | .slice a _ c => .slice (if c = lo then a else a.map (·.add (lo * sz))) (hi - lo) (c - lo)
  | v => v

end
def SV.cut (v : SV) (sz lo hi : Nat) : SV := ⟨if v.c = lo then v.a else v.a.map (·.add (lo * sz)), hi - lo, v.c - lo⟩
theorem cutV_val (v : SV) (sz lo hi : Nat) : cutV v.val sz lo hi = (v.cut sz lo hi).val := rfl
section
variable {P : Program} {hR : Heap} {n : Nat} {cf : Op → Cls} {ops : Array Oper} {l : List Oper} {K : Env → List HProp → Prop} {ρ : Env} {Γ : List HProp} {o : Oper} {d : Nat}
variable {A : Type} {TE : TypeId} {E : Enc A} {v : Value} {xs ys : List A}
theorem run_cut {T : TypeId} {a : Option Addr} {m c : Nat} {EE : TypeId} {sz by' : Nat} (hT : slT P T = some (EE, sz, by')) {lo hi : Option Operand} {ρl ρh : Int} {A' : Act} (ho : Ok n ρ A') (hl : optN lo ρ 0 = some ρl) (hh : optN hi ρ m = some ρh)
    (h0 : 0 ≤ ρl) (h1 : ρl ≤ ρh) (h2 : ρh ≤ c) (w : World) :
    (Instr.sliceAt T (.slice a m c) (lo.map A'.eval) (hi.map A'.eval) none).run P w = .ok (cutV (.slice a m c) sz ρl.toNat ρh.toNat) w := by
  obtain ⟨hu, inf, hinf, hisz, _⟩ := slT_spec hT
  have key : ∀ (x : Option Operand) (df : Nat) (r : Int), optN x ρ df = some r → (x = none ∧ r = df) ∨ ∃ op k, x = some op ∧ A'.eval op = .int k r := fun x df r hx => by
    unfold optN at hx
    split at hx
    · cases hx; exact .inl ⟨rfl, rfl⟩
    · rename_i op
      split at hx
      · rename_i k i hv; cases hx; exact .inr ⟨op, k, rfl, ho.eval hv⟩
      · cases hx
  rcases key hi m ρh hh with ⟨rfl, rfl⟩ | ⟨oh, kh, rfl, eh⟩ <;> rcases key lo 0 ρl hl with ⟨rfl, rfl⟩ | ⟨ol, kl, rfl, el⟩
  all_goals
    clear hl hh key
  all_goals first
    | (simp_all [Instr.sliceAt, Instr.slice, underlying, Instr.sliceBounds, Instr.sliceBound, asIntOf, sizeOf, typeInfo, cutV]; done)
    | (have g0 : 0 ≤ ρh := by omega
       have g1 : max ρh 0 = ρh := by omega
       simp [Instr.sliceAt, Instr.slice, underlying, Instr.sliceBounds, Instr.sliceBound, asIntOf, sizeOf, typeInfo, cutV, hu, hinf, hisz, eh, el, h0, h1, h2, g0, g1]; done)

theorem elemAddr_cut (a : Addr) (m c sz lo hi k : Nat) (h : lo < c) : elemAddr (cutV (.slice (some a) m c) sz lo hi) k = elemAddr (.slice (some a) m c) (lo * sz + k) := by
  simp only [cutV, elemAddr]
  rw [if_neg (by omega)]
  simp [add_add]

theorem slA_cut {g : Heap} (hg : slA TE E v xs g) {lo hi : Nat} (h1 : lo ≤ hi) (h2 : hi ≤ xs.length) : slA TE E (cutV v E.sz lo hi) ((xs.take hi).drop lo) g := by
  rcases hg with ⟨rfl, rfl, rfl⟩ | ⟨b, o', c, pre, post, rfl, q1, q2, q3, rfl⟩
  · simp at h2; subst h2
    have : lo = 0 := by omega
    subst this
    exact .inl ⟨by simp [cutV], by simp, rfl⟩
  · have hlen : ((xs.take hi).drop lo).length = hi - lo := by simp; omega
    have hx : xs = xs.take lo ++ ((xs.take hi).drop lo ++ xs.drop hi) := by
      have e1 : xs = xs.take hi ++ xs.drop hi := (List.take_append_drop hi xs).symm
      have e2 : xs.take hi = xs.take lo ++ (xs.take hi).drop lo := by
        have := (List.take_append_drop lo (xs.take hi)).symm
        rwa [List.take_take, Nat.min_eq_left h1] at this
      rw [← List.append_assoc, ← e2, ← e1]
    have hcells : pre ++ xs.flatMap E.cells ++ post = (pre ++ (xs.take lo).flatMap E.cells) ++ ((xs.take hi).drop lo).flatMap E.cells ++ ((xs.drop hi).flatMap E.cells ++ post) := by
      conv => lhs; rw [hx]
      simp [List.flatMap_append, List.append_assoc]
    have hlo : ((xs.take lo).flatMap E.cells).length = lo * E.sz := by rw [flat_len, List.length_take]; congr 1; omega
    have hdr : ((xs.drop hi).flatMap E.cells).length = (xs.length - hi) * E.sz := by rw [flat_len, List.length_drop]
    by_cases hc : c = lo
    · refine .inr ⟨b, o', 0, pre, xs.flatMap E.cells ++ post, ?_, ?_, q2, by simp, ?_⟩
      · simp only [cutV, hc, if_true, hlen]
        have : hi - lo = 0 := by omega
        simp [this]
      · rw [hlen]; omega
      · have : (xs.take hi).drop lo = [] := List.length_eq_zero_iff.1 (by rw [hlen]; omega)
        rw [this]; simp
    · refine .inr ⟨b, o' + lo * E.sz, c - lo, pre ++ (xs.take lo).flatMap E.cells, (xs.drop hi).flatMap E.cells ++ post, ?_, by rw [hlen]; omega, by rw [List.length_append, hlo, q2], ?_, by rw [hcells]⟩
      · simp only [cutV, if_neg hc, hlen, Option.map_some, add_lit]
      · rw [hlen, List.length_append, hdr]
        have e3 : (c - lo - (hi - lo)) * E.sz = (xs.length - hi) * E.sz + (c - xs.length) * E.sz := by rw [← Nat.add_mul]; congr 1; omega
        rw [e3]; omega

theorem SlR_cut {B : Type} {F : Rd B} {zs : List B} {h : Heap} (hg : SlR F h v zs) {lo hi : Nat} (h1 : lo ≤ hi) (h2 : hi ≤ zs.length) : SlR F h (cutV v F.sz lo hi) ((zs.take hi).drop lo) := by
  obtain ⟨a, c, rfl, q1, q2⟩ := hg
  have hlen : ((zs.take hi).drop lo).length = hi - lo := by simp; omega
  refine ⟨if c = lo then a else a.map (·.add (lo * F.sz)), c - lo, by simp [cutV, hlen], by rw [hlen]; omega, fun hne => ?_⟩
  have hlt : lo < hi := by have := List.length_pos_iff.2 hne; omega
  obtain ⟨ad, rfl, q3⟩ := q2 (by intro e; subst e; simp at h2; omega)
  refine ⟨ad.add (lo * F.sz), by rw [if_neg (by omega)]; rfl, fun i x hx => ?_⟩
  have hx' : zs[lo + i]? = some x := by
    rw [List.getElem?_drop] at hx
    rw [List.getElem?_take] at hx
    split at hx
    · exact hx
    · cases hx
  obtain ⟨cs, g1, g2⟩ := q3 (lo + i) x hx'
  refine ⟨cs, g1, ?_⟩
  rw [add_add, ← Nat.add_mul]; exact g2

/-- x[lo:hi], of an owned slice -/
theorem Run.sliceO (k : Nat) {T EE : TypeId} {x : Operand} {lo hi : Option Operand} {by' : Nat} {il ih : Int} (hop : o.op = .slice T x lo hi none) (hx : ρ.val x = some v)
    (hk : Γ[k]? = some (slA TE E v xs)) (hT : slT P T = some (EE, E.sz, by')) (hl : optN lo ρ 0 = some il) (hh : optN hi ρ xs.length = some ih) (_hd : o.dst = some d) (hs : pre n cf ops ρ o d = true) (h0 : 0 ≤ il) (h1 : il ≤ ih) (h2 : ih ≤ xs.length)
    (H : Run P hR n cf ops l K ((d, cutV v E.sz il.toNat ih.toNat) :: ρ) (Γ.set k (slA TE E (cutV v E.sz il.toNat ih.toNat) ((xs.take ih.toNat).drop il.toNat)))) : Run P hR n cf ops (o :: l) K ρ Γ := by
  have h3 : ent Γ (Γ.set k (slA TE E (cutV v E.sz il.toNat ih.toNat) ((xs.take ih.toNat).drop il.toNat))) := fun h hs' => by
    obtain ⟨h1', h2', g1, hd, e, hset⟩ := sat_get hs' hk
    rw [e]
    exact hset _ h1' (slA_cut g1 (by omega) (by omega)) hd
  refine Run.val hs (fun a h ho ht w => ?_) (Run.via h3 H)
  · obtain ⟨h1', _, g1, _⟩ := sat_get ht hk
    obtain ⟨a0, c0, rfl, hc0, _⟩ := slA_shape g1
    have := run_cut (P := P) (a := a0) (m := xs.length) (c := c0) hT ho hl hh h0 h1 (by omega) w
    simp only [execOp, hop, ho.eval hx, Sem.run_bind, Option.map_none, this, Result.andThen_ok, Sem.run_pure]

end
end Go.Sep
