/- Ways that part and meet; maps of integers. Over any program. -/
import Derived.Test.YtengcfamhoppbaaS10
namespace Go.Sep

theorem ent.right (Γ Δ : List HProp) : ent (Γ ++ Δ) Δ := fun h hs => by
  obtain ⟨x, y, _, a, c, d⟩ := sat_append.1 hs
  rw [d, un_comm c]; exact sat_mono a c.symm

/-- a map from integers: what it tells of each -/
def mpF (b : Nat) (f : Int → Option Value) : HProp := fun h => ∃ es clock, h = put emp b (.map ⟨es⟩ clock) ∧
  (∀ e ∈ es, ∃ k v, e.key = .int .i64 k ∧ e.val = v ∧ f k = some v) ∧ (∀ k v, f k = some v → ∃ e ∈ es, e.key = .int .i64 k) ∧ es.Pairwise (fun x y => x.key ≠ y.key)

theorem mpF_new (b : Nat) : ∀ h, mp b [] 0 h → mpF b (fun _ => none) h := fun _ hh => ⟨[], 0, hh, by simp, by simp, .nil⟩

theorem findNow_int {kd : IntKind} (k : Int) : ∀ (es : List MapEntry) (i : Nat), (∀ e ∈ es, ∃ k', e.key = .int .i64 k') →
    Instr.findNow (.int kd) (.int .i64 k) es i = some ((es.findIdx? (fun e => match e.key with | .int _ k' => k == k' | _ => false)).bind fun j => (es[j]?).map fun e => (i + j, e.val))
  | [], _, _ => rfl
  | e :: es, i, h => by
    obtain ⟨k', hk⟩ := h e (by simp)
    have ih := findNow_int (kd := kd) k es (i + 1) (fun e he => h e (by simp [he]))
    simp only [Instr.findNow, Instr.sameNow, hk, if_true, List.findIdx?_cons]
    by_cases hkk : k = k'
    · subst hkk; simp
    · have : (k == k') = false := by simpa using hkk
      simp only [this, ih, Bool.false_eq_true, if_false]
      cases hf : es.findIdx? (fun e => match e.key with | .int _ k' => k == k' | _ => false) with
      | none => simp
      | some j => simp [Nat.add_assoc, Nat.add_comm 1 j]

theorem run_checkKey_int {P : Program} {TK : TypeId} {kd : IntKind} (hK : P.underlying TK = some (.int kd)) (e : Bool) (k : Int) (w : World) : ∀ m, (Instr.checkKey e (m + 1) TK (.int .i64 k)).run P w = .ok () w := fun m => by
  simp [Instr.checkKey, underlying, hK]

theorem findIdx_spec {es : List MapEntry} {f : Int → Option Value} (h1 : ∀ e ∈ es, ∃ k v, e.key = .int .i64 k ∧ e.val = v ∧ f k = some v) (h2 : ∀ k v, f k = some v → ∃ e ∈ es, e.key = .int .i64 k) (k : Int) :
    (f k = none ∧ es.findIdx? (fun e => match e.key with | .int _ k' => k == k' | _ => false) = none) ∨
    ∃ j e v, es.findIdx? (fun e => match e.key with | .int _ k' => k == k' | _ => false) = some j ∧ es[j]? = some e ∧ e.key = .int .i64 k ∧ e.val = v ∧ f k = some v := by
  cases hf : es.findIdx? (fun e => match e.key with | .int _ k' => k == k' | _ => false) with
  | none =>
    refine .inl ⟨?_, rfl⟩
    cases hk : f k with
    | none => rfl
    | some v =>
      obtain ⟨e, he, hke⟩ := h2 k v hk
      have := List.findIdx?_eq_none_iff.1 hf e he
      rw [hke] at this; simp at this
  | some j =>
    obtain ⟨hlt, hp, _⟩ := List.findIdx?_eq_some_iff_getElem.1 hf
    obtain ⟨k', v, g1, g2, g3⟩ := h1 es[j] (List.getElem_mem hlt)
    rw [g1] at hp
    have : k = k' := by simpa using hp
    subst this
    exact .inr ⟨j, es[j], v, rfl, List.getElem?_eq_getElem hlt, g1, g2, g3⟩

section
variable {P : Program} {hR : Heap} {n : Nat} {cf : Op → Cls} {ops : Array Oper} {l : List Oper} {K : Env → List HProp → Prop} {ρ : Env} {Γ : List HProp} {o : Oper} {d : Nat}
variable {Q : Exit → Env → List HProp → Prop}

theorem Run.split {p : Prop} [Decidable p] (H1 : p → Run P hR n cf ops l K ((d, .bool true) :: ρ) Γ) (H2 : ¬ p → Run P hR n cf ops l K ((d, .bool false) :: ρ) Γ) :
    Run P hR n cf ops l K ((d, .bool (decide p)) :: ρ) Γ := by
  by_cases h : p
  · exact Run.tt h (H1 h)
  · exact Run.ff h (H2 h)
theorem Run.splitB {b : Bool} (H1 : b = true → Run P hR n cf ops l K ((d, .bool true) :: ρ) Γ) (H2 : b = false → Run P hR n cf ops l K ((d, .bool false) :: ρ) Γ) :
    Run P hR n cf ops l K ((d, .bool b) :: ρ) Γ := by
  cases b
  · exact H2 rfl
  · exact H1 rfl

/-- the ways through the first meet ahead of the second -/
theorem WP.seqCut {x y : Code} (ρ1 : Env) (Γ1 : List HProp) (H1 : WP P hR n x (thn (fun ρ' Γ' => covers ρ' ρ1 ∧ ent Γ' Γ1) Q) ρ Γ) (H2 : WP P hR n y Q ρ1 Γ1) : WP P hR n (.seq x y) Q ρ Γ :=
  WP.seq (H1.mono fun e ρ' Γ' h => by
    cases e with
    | normal => exact H2.weaken h.1 h.2
    | _ => exact h)

/-- the same, with something that is known there -/
theorem WP.seqMeet {α : Type} {x y : Code} (good : α → Prop) (env : α → Env) (mem : α → List HProp) (H1 : WP P hR n x (thn (fun ρ' Γ' => ∃ z, good z ∧ covers ρ' (env z) ∧ ent Γ' (mem z)) Q) ρ Γ)
    (H2 : ∀ z, good z → WP P hR n y Q (env z) (mem z)) : WP P hR n (.seq x y) Q ρ Γ :=
  WP.seq (H1.mono fun e ρ' Γ' h => by
    cases e with
    | normal => obtain ⟨z, g, h1, h2⟩ := h; exact (H2 z g).weaken h1 h2
    | _ => exact h)

theorem Run.lookup (i : Nat) {T TK TV : TypeId} {x ix : Operand} {b : Nat} {f : Int → Option Value} {k : Int} {z : Value} {kd : IntKind} (hop : o.op = .lookup T x ix false) (hx : ρ.val x = some (.map (some b)))
    (hi : ρ.val ix = some (.int .i64 k)) (hT : P.underlying T = some (.map TK TV)) (hK : P.underlying TK = some (.int kd)) (hz : zr P TV = some z) (_hd : o.dst = some d) (hs : preC .R n cf ops ρ o d = true)
    (hk : Γ[i]? = some (mpF b f)) (H : Run P hR n cf ops l K ((d, (f k).getD z) :: ρ) Γ) : Run P hR n cf ops (o :: l) K ρ Γ := by
  intro a h ho ht hl
  obtain ⟨h1, h2, h3, h4⟩ := preC_spec hs
  unfold opsRun
  rw [gd_wanted ho h4, if_pos rfl, h3]
  obtain ⟨g1, g2, ⟨es, clock, rfl, q1, q2, q3⟩, hd, e, _⟩ := sat_get ht hk
  have ho' : Ok n ((d, (f k).getD z) :: ρ) (a.put o.dst ((f k).getD z)) := by rw [h1]; exact ho.put h2 _
  refine ⟨_, ⟨b, .map ⟨es⟩ clock, by simp [rblk, hop, ho.eval hx], .inr (by rw [e]; exact un_left_some put_emp_self), fun w hw => ?_⟩, H _ h ho' ht hl⟩
  have hgo : ∀ w' : World, hp w' b = some (.map ⟨es⟩ clock) → (getObj b).run P w' = .ok (.map ⟨es⟩ clock) w' := fun w' hw' => by
    unfold hp at hw'; simp [getObj, Sem.run, hw']
  have hkeys : ∀ e ∈ es, ∃ k', e.key = .int .i64 k' := fun e he => let ⟨k', _, g, _⟩ := q1 e he; ⟨k', g⟩
  have hck : ∀ emp' : Bool, (Instr.checkKey emp' 10000 TK (.int .i64 k)).run P w = .ok () w := fun emp' => run_checkKey_int hK emp' k w 9999
  have hfind := findNow_int (kd := kd) k es 0 hkeys
  rcases findIdx_spec q1 q2 k with ⟨hn, hx'⟩ | ⟨j, ee, v, hx', hj, g1', g2', g3'⟩
  · rw [hx'] at hfind
    simp only [Option.bind_none] at hfind
    simp [execOp, hop, ho.eval hx, ho.eval hi, Instr.lookup, underlying, hT, hgo w hw, hck, Instr.findKey, hK, hfind, zr_spec hz, hn]
  · rw [hx'] at hfind
    simp only [Option.bind_some, hj, Option.map_some, Nat.zero_add] at hfind
    simp [execOp, hop, ho.eval hx, ho.eval hi, Instr.lookup, underlying, hT, hgo w hw, hck, Instr.findKey, hK, hfind, g2', g3']

theorem Run.makeMapF {T : TypeId} (hop : o.op = .makeMap T none) (hd : o.dst = some d) (hs : preC .A n cf ops ρ o d = true)
    (H : ∀ b, Run P hR n cf ops l K ((d, .map (some b)) :: ρ) (Γ ++ [mpF b fun _ => none])) : Run P hR n cf ops (o :: l) K ρ Γ :=
  Run.makeMap hop hd hs fun b => (H b).via (ent.app (ent.refl _) (ent.cons (mpF_new b) (ent.refl _)))

def upd (f : Int → Option Value) (k : Int) (v : Value) : Int → Option Value := fun k' => if k' = k then some v else f k'

theorem Run.mapPut (i : Nat) {T TK TV : TypeId} {x ix y : Operand} {b : Nat} {f : Int → Option Value} {k : Int} {v : Value} {kd : IntKind} (hop' : o.op = .mapUpdate T x ix y ∨ o.op = .insert T x ix y) (hx : ρ.val x = some (.map (some b)))
    (hi : ρ.val ix = some (.int .i64 k)) (hy : ρ.val y = some v) (hT : P.underlying T = some (.map TK TV)) (hK : P.underlying TK = some (.int kd)) (hs : preN .E cf ops ρ o = true)
    (hk : Γ[i]? = some (mpF b f)) (H : Run P hR n cf ops l K ρ (Γ.set i (mpF b (upd f k v)))) : Run P hR n cf ops (o :: l) K ρ Γ :=
  Run.write_of i hs hk (fun a ho h1 hA => by
    obtain ⟨es, clock, rfl, q1, q2, q3⟩ := hA
    have hkeys : ∀ e ∈ es, ∃ k', e.key = .int .i64 k' := fun e he => let ⟨k', _, g, _⟩ := q1 e he; ⟨k', g⟩
    have hck : ∀ (w : World), (Instr.checkKey false 10000 TK (.int .i64 k)).run P w = .ok () w := fun w => run_checkKey_int hK false k w 9999
    have hgo : ∀ w' : World, hp w' b = some (.map ⟨es⟩ clock) → (getObj b).run P w' = .ok (.map ⟨es⟩ clock) w' := fun w' hw' => by
      unfold hp at hw'; simp [getObj, Sem.run, hw']
    have hso : ∀ (w' : World) (ob : Obj), hp w' b = some (.map ⟨es⟩ clock) → (setObj b ob).run P w' = .ok () (World.setObj w' b ob) := fun w' ob hw' => by
      unfold hp at hw'; simp [Go.setObj, Sem.run, hw', World.setObj]
    have hfind := findNow_int (kd := kd) k es 0 hkeys
    rcases findIdx_spec q1 q2 k with ⟨hn, hx'⟩ | ⟨j, ee, v0, hx', hj, g1', g2', g3'⟩
    · rw [hx'] at hfind
      simp only [Option.bind_none] at hfind
      refine ⟨b, _, .map ⟨es ++ [{ key := .int .i64 k, val := v, born := clock }]⟩ (clock + 1), rfl, ⟨_, _, rfl, ?_, ?_, ?_⟩, fun w hw => ?_⟩
      · intro e he
        rcases List.mem_append.1 he with he | he
        · obtain ⟨k', u, g1, g2, g3⟩ := q1 e he
          refine ⟨k', u, g1, g2, ?_⟩
          unfold upd; rw [if_neg]; exact g3
          intro e'; subst e'; rw [hn] at g3; cases g3
        · simp at he; subst he; exact ⟨k, v, rfl, rfl, by simp [upd]⟩
      · intro k' u hu
        unfold upd at hu
        split at hu
        · rename_i e; subst e; exact ⟨{ key := .int .i64 k', val := v, born := clock }, by simp, rfl⟩
        · obtain ⟨e, he, hke⟩ := q2 k' u hu; exact ⟨e, List.mem_append_left _ he, hke⟩
      · refine List.pairwise_append.2 ⟨q3, by simp, fun e he e' he' => ?_⟩
        simp at he'; subst he'
        obtain ⟨k', u, g1, g2, g3⟩ := q1 e he
        intro hc; simp only at hc; rw [g1] at hc; cases hc; rw [hn] at g3; cases g3
      · rcases hop' with hop | hop <;> simp [execOp, hop, ho.eval hx, ho.eval hi, ho.eval hy, Instr.mapUpdate, underlying, hT, hgo w hw, hck, Instr.findKey, hK, hfind, hso w _ hw]
    · rw [hx'] at hfind
      simp only [Option.bind_some, hj, Option.map_some, Nat.zero_add] at hfind
      have hjl := (List.getElem?_eq_some_iff.1 hj).1
      have hje := (List.getElem?_eq_some_iff.1 hj).2
      refine ⟨b, _, .map ⟨es.set j { ee with key := .int .i64 k, val := v }⟩ clock, rfl, ⟨_, _, rfl, ?_, ?_, ?_⟩, fun w hw => ?_⟩
      · intro e he
        obtain ⟨m, hm, hme⟩ := List.getElem_of_mem he
        rw [List.getElem_set] at hme
        split at hme
        · subst hme; exact ⟨k, v, rfl, rfl, by simp [upd]⟩
        · rename_i hne
          have hm' : m < es.length := by simpa using hm
          obtain ⟨k', u, g1, g2, g3⟩ := q1 es[m] (List.getElem_mem hm')
          subst hme
          refine ⟨k', u, g1, g2, ?_⟩
          unfold upd; rw [if_neg]; exact g3
          intro e'; subst e'
          have hjm : es[j].key ≠ es[m].key := by
            rcases Nat.lt_or_gt_of_ne hne with hlt | hgt
            · exact List.pairwise_iff_getElem.1 q3 j m hjl hm' hlt
            · exact fun hc => List.pairwise_iff_getElem.1 q3 m j hm' hjl hgt hc.symm
          rw [hje, g1', g1] at hjm; exact hjm rfl
      · intro k' u hu
        unfold upd at hu
        split at hu
        · rename_i e; subst e; exact ⟨{ ee with key := .int .i64 k', val := v }, List.mem_set hjl _, rfl⟩
        · rename_i hne
          obtain ⟨e, he, hke⟩ := q2 k' u hu
          obtain ⟨m, hm, hme⟩ := List.getElem_of_mem he
          have hmj : j ≠ m := fun e' => by subst e'; rw [hje] at hme; subst hme; rw [g1'] at hke; cases hke; exact hne rfl
          refine ⟨e, ?_, hke⟩
          have : (es.set j { ee with key := .int .i64 k, val := v })[m]? = some e := by rw [List.getElem?_set_ne hmj, List.getElem?_eq_getElem hm, hme]
          exact List.mem_of_getElem? this
      · rw [List.pairwise_iff_getElem] at q3 ⊢
        intro m1 m2 hm1 hm2 hlt
        have hk1 : ∀ m (hm : m < (es.set j { ee with key := .int .i64 k, val := v }).length), (es.set j { ee with key := .int .i64 k, val := v })[m].key = (es[m]'(by simpa using hm)).key := fun m hm => by
          rw [List.getElem_set]; split
          · rename_i e'; subst e'; rw [hje, g1']
          · rfl
        rw [hk1, hk1]
        exact q3 m1 m2 (by simpa using hm1) (by simpa using hm2) hlt
      · have hkeep : (Instr.keyThatStays ee.key (.int .i64 k)).run P w = .ok (.int .i64 k) w := by
          rw [g1']; simp [Instr.keyThatStays, Instr.sameBits]
        have hset : es.modify j (fun e => { e with key := .int .i64 k, val := v }) = es.set j { ee with key := .int .i64 k, val := v } := by
          apply List.ext_getElem?
          intro m
          rw [List.getElem?_modify]
          by_cases hm : j = m
          · subst hm; simp [hjl, hje]
          · simp [hm, List.getElem?_set_ne hm]
        rcases hop' with hop | hop <;> simp [execOp, hop, ho.eval hx, ho.eval hi, ho.eval hy, Instr.mapUpdate, underlying, hT, hgo w hw, hck, Instr.findKey, hK, hfind, hj, hkeep, hset, hso w _ hw]) H

theorem Run.mapUpdate (i : Nat) {T TK TV : TypeId} {x ix y : Operand} {b : Nat} {f : Int → Option Value} {k : Int} {v : Value} {kd : IntKind} (hop : o.op = .mapUpdate T x ix y) (hx : ρ.val x = some (.map (some b)))
    (hi : ρ.val ix = some (.int .i64 k)) (hy : ρ.val y = some v) (hT : P.underlying T = some (.map TK TV)) (hK : P.underlying TK = some (.int kd)) (hs : preN .E cf ops ρ o = true)
    (hk : Γ[i]? = some (mpF b f)) (H : Run P hR n cf ops l K ρ (Γ.set i (mpF b (upd f k v)))) : Run P hR n cf ops (o :: l) K ρ Γ := Run.mapPut i (.inl hop) hx hi hy hT hK hs hk H
theorem Run.mapInsert (i : Nat) {T TK TV : TypeId} {x ix y : Operand} {b : Nat} {f : Int → Option Value} {k : Int} {v : Value} {kd : IntKind} (hop : o.op = .insert T x ix y) (hx : ρ.val x = some (.map (some b)))
    (hi : ρ.val ix = some (.int .i64 k)) (hy : ρ.val y = some v) (hT : P.underlying T = some (.map TK TV)) (hK : P.underlying TK = some (.int kd)) (hs : preN .E cf ops ρ o = true)
    (hk : Γ[i]? = some (mpF b f)) (H : Run P hR n cf ops l K ρ (Γ.set i (mpF b (upd f k v)))) : Run P hR n cf ops (o :: l) K ρ Γ := Run.mapPut i (.inr hop) hx hi hy hT hK hs hk H
end
end Go.Sep
