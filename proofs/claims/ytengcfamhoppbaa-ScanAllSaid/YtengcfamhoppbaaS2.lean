/- A region that draws its order: what holds of the operations taken in one order holds of them in every order that the edges allow, where a check finds that those in no order do not meet. Over any program. -/
import Derived.Test.YtengcfamhoppbaaS1
namespace Go.Sep
section
variable {P : Program} {hR : Heap} {ops : Array Oper} {cl : Nat → Cls}

/-- two neighbours change places -/
theorem AStep.swap {i j : Nat} {oi oj : Oper} (hi : ops[i]? = some oi) (hj : ops[j]? = some oj) (hap : oi.apart ops oj = true)
    (hsi : ∀ cs b, oi.op ≠ .select cs b) (hsj : ∀ cs b, oj.op ≠ .select cs b) (hc : swapC (cl j) (cl i) = true)
    {a : Act} {h : Heap} {K : Act → Heap → Prop} (hl : Live hR h)
    (H : AStep P hR cl ops j a h fun a' h' => AStep P hR cl ops i a' h' K) : AStep P hR cl ops i a h fun a' h' => AStep P hR cl ops j a' h' K := by
  obtain ⟨h1, h2, h3⟩ := Oper.apart_spec hap
  have h2' : ∀ d, oj.dst = some d → oi.dst ≠ some d := fun d e e' => h2 d e' e
  have hei : ∀ (a : Act) u, execOp (a.put oj.dst u).eval oi = execOp a.eval oi := fun a u => execOp_put oi hsi a oj.dst u h3
  have hej : ∀ (a : Act) u, execOp (a.put oi.dst u).eval oj = execOp a.eval oj := fun a u => execOp_put oj hsj a oi.dst u h1
  have hwi : ∀ (a : Act) u, Region.wanted oi (yielded ops (a.put oj.dst u).tmps) = Region.wanted oi (yielded ops a.tmps) := fun a u => wanted_put oi a oj.dst u h3
  have hwj : ∀ (a : Act) u, Region.wanted oj (yielded ops (a.put oi.dst u).tmps) = Region.wanted oj (yielded ops a.tmps) := fun a u => wanted_put oj a oi.dst u h1
  by_cases hpi : Region.wanted oi (yielded ops a.tmps) = true → cl i = .P
  · -- the second one only reckons
    have keepD : ∀ (d : Deferred) u v, YieldsF P hR ops oi v (({ a with defers := d :: a.defers } : Act).put oj.dst u) → YieldsF P hR ops oi v a := fun d u v hy => by
      have h0 : YieldsF P hR ops oi v ({ a with defers := d :: a.defers } : Act) := hy.of_same (hei _ u).symm (hwi _ u).symm
      exact h0.of_same rfl rfl
    have keep : ∀ u v, YieldsF P hR ops oi v (a.put oj.dst u) → YieldsF P hR ops oi v a := fun u v hy => hy.of_same (hei a u).symm (hwi a u).symm
    have hback : ∀ a' : Act, ((∃ u, a' = a.put oj.dst u ∨ ∃ d, a' = ({ a with defers := d :: a.defers } : Act).put oj.dst u)) →
        (∀ v, YieldsF P hR ops oi v a' → YieldsF P hR ops oi v a) ∧ (Region.wanted oi (yielded ops a'.tmps) = true → cl i = .P) := fun a' ⟨u, hu⟩ => by
      rcases hu with rfl | ⟨d, rfl⟩
      · exact ⟨keep u, fun hw => hpi (by rw [hwi] at hw; exact hw)⟩
      · exact ⟨keepD d u, fun hw => hpi (by rw [hwi] at hw; exact hw)⟩
    -- an outcome tells the value
    obtain ⟨a1, g1, k1, l1, hu1⟩ := AStep.outcome hj hl H
    obtain ⟨v, hy1, _⟩ := k1.yields hi (hback a1 hu1).2
    have hy := (hback a1 hu1).1 v hy1
    refine AStep.of_yields hi hpi hy ?_
    -- the first one, behind it
    unfold AStep at H ⊢
    simp only [hj, hwj] at H ⊢
    have fin : ∀ a' h', ((∃ u, a' = a.put oj.dst u ∨ ∃ d, a' = ({ a with defers := d :: a.defers } : Act).put oj.dst u)) → AStep P hR cl ops i a' h' K → K (a'.put oi.dst v) h' := fun a' h' hu hk => by
      obtain ⟨v', hy', hk'⟩ := hk.yields hi (hback a' hu).2
      rw [yields_unique hl ((hback a' hu).1 v' hy') hy] at hk'
      exact hk'
    have hc' : ∀ u, (a.put oi.dst v).put oj.dst u = (a.put oj.dst u).put oi.dst v := fun u => Act.put_comm a v u h2
    split
    · rename_i hw
      simp only [hw, if_true] at H
      generalize cl j = c at H
      cases c with
      | P => obtain ⟨u, g1, g2⟩ := H; exact ⟨u, by rw [hej]; exact g1, by rw [hc']; exact fin _ _ ⟨u, .inl rfl⟩ g2⟩
      | R =>
        obtain ⟨u, ⟨b, ob, q0, q1, q2⟩, g2⟩ := H
        exact ⟨u, ⟨b, ob, by rw [rblk_put h1]; exact q0, q1, by rw [hej]; exact q2⟩, by rw [hc']; exact fin _ _ ⟨u, .inl rfl⟩ g2⟩
      | A =>
        obtain ⟨ob, val, g1, g2⟩ := H
        exact ⟨ob, val, by unfold Allocs; rw [hej]; exact g1, fun b hb hb' => by rw [hc']; exact fin _ _ ⟨_, .inl rfl⟩ (g2 b hb hb')⟩
      | E =>
        intro w f
        have g := H w f
        unfold Oper.wp at *
        rw [hej]
        generalize (execOp a.eval oj).run P w = r at *
        cases r with
        | ok n w' =>
          cases n <;> simp only [Oper.upon] at g ⊢
          case value u => obtain ⟨h', s, k⟩ := g; exact ⟨h', s, by rw [hc']; exact fin _ _ ⟨u, .inl rfl⟩ k⟩
          case skip => obtain ⟨h', s, k⟩ := g; exact ⟨h', s, by rw [hc']; exact fin _ _ ⟨undef, .inl rfl⟩ k⟩
          case defer d =>
            obtain ⟨h', s, k⟩ := g
            refine ⟨h', s, ?_⟩
            rw [Act.put_defers, Act.put_comm _ v undef h2]
            exact fin _ _ ⟨undef, .inr ⟨d, rfl⟩⟩ k
          case enter fn args =>
            refine Calls.mono g ?_
            intro e w'' hx
            cases e with
            | returned u => obtain ⟨h', s, k⟩ := hx; exact ⟨h', s, by rw [hc']; exact fin _ _ ⟨u, .inl rfl⟩ k⟩
            | panicked c => exact hx
            | outgrown => exact hx
          case row row args => exact Rows.mono g (fun u w'' hx => by obtain ⟨h', s, k⟩ := hx; exact ⟨h', s, by rw [hc']; exact fin _ _ ⟨u, .inl rfl⟩ k⟩)
        | halt x w' => cases x <;> simp only [Oper.upon] at g ⊢
    · rename_i hw
      simp only [hw] at H
      rw [hc']
      exact fin _ _ ⟨undef, .inl rfl⟩ H
  · by_cases hpj : Region.wanted oj (yielded ops a.tmps) = true → cl j = .P
    · -- the first one only reckons
      obtain ⟨v, hy, hk⟩ := H.yields hj hpj
      have hs := hk.put_slot hi hsi h3 h2'
      have keep : ∀ u, YieldsF P hR ops oj v (a.put oi.dst u) := fun u => hy.of_same (hej a u) (hwj a u)
      have keepD : ∀ (d : Deferred) u, YieldsF P hR ops oj v (({ a with defers := d :: a.defers } : Act).put oi.dst u) := fun d u =>
        (hy.of_same (a' := ({ a with defers := d :: a.defers } : Act)) rfl rfl).of_same (hej _ u) (hwj _ u)
      have fin : ∀ a' h', ((∃ u, a' = a.put oi.dst u ∨ ∃ d, a' = ({ a with defers := d :: a.defers } : Act).put oi.dst u)) → K (a'.put oj.dst v) h' → AStep P hR cl ops j a' h' K := fun a' h' ⟨u, hu⟩ hk => by
        refine AStep.of_yields (v := v) hj (fun hw => hpj ?_) ?_ hk
        · rcases hu with rfl | ⟨d, rfl⟩ <;> rw [hwj] at hw <;> exact hw
        · rcases hu with rfl | ⟨d, rfl⟩
          · exact keep u
          · exact keepD d u
      unfold AStep at hs
      unfold AStep
      simp only [hi] at hs ⊢
      split
      · rename_i hw
        simp only [hw, if_true] at hs
        generalize cl i = c at hs
        cases c with
        | P => obtain ⟨u, g1, g2⟩ := hs; exact ⟨u, g1, fin _ _ ⟨u, .inl rfl⟩ g2⟩
        | R => obtain ⟨u, g1, g2⟩ := hs; exact ⟨u, g1, fin _ _ ⟨u, .inl rfl⟩ g2⟩
        | A => obtain ⟨ob, val, g1, g2⟩ := hs; exact ⟨ob, val, g1, fun b hb hb' => fin _ _ ⟨_, .inl rfl⟩ (g2 b hb hb')⟩
        | E =>
          intro w f
          have g := hs w f
          unfold Oper.wp at *
          generalize (execOp a.eval oi).run P w = r at *
          cases r with
          | ok n w' =>
            cases n <;> simp only [Oper.upon] at g ⊢
            case value u => obtain ⟨h', s, k⟩ := g; exact ⟨h', s, fin _ _ ⟨u, .inl rfl⟩ k⟩
            case skip => obtain ⟨h', s, k⟩ := g; exact ⟨h', s, fin _ _ ⟨undef, .inl rfl⟩ k⟩
            case defer d => obtain ⟨h', s, k⟩ := g; exact ⟨h', s, fin _ _ ⟨undef, .inr ⟨d, rfl⟩⟩ k⟩
            case enter fn args =>
              refine Calls.mono g ?_
              intro e w'' hx
              cases e with
              | returned u => obtain ⟨h', s, k⟩ := hx; exact ⟨h', s, fin _ _ ⟨u, .inl rfl⟩ k⟩
              | panicked c => exact hx
              | outgrown => exact hx
            case row row args => exact Rows.mono g (fun u w'' hx => by obtain ⟨h', s, k⟩ := hx; exact ⟨h', s, fin _ _ ⟨u, .inl rfl⟩ k⟩)
          | halt x w' => cases x <;> simp only [Oper.upon] at g ⊢
      · rename_i hw
        simp only [hw] at hs
        exact fin _ _ ⟨undef, .inl rfl⟩ hs
    · -- both do more
      have hwi0 : Region.wanted oi (yielded ops a.tmps) = true := by
        cases hb : Region.wanted oi (yielded ops a.tmps) with
        | true => rfl
        | false => exact absurd (fun h => by rw [hb] at h; cases h) hpi
      have hwj0 : Region.wanted oj (yielded ops a.tmps) = true := by
        cases hb : Region.wanted oj (yielded ops a.tmps) with
        | true => rfl
        | false => exact absurd (fun h => by rw [hb] at h; cases h) hpj
      have hni : cl i ≠ .P := fun e => hpi fun _ => e
      have hnj : cl j ≠ .P := fun e => hpj fun _ => e
      have hcm : ∀ u v, (a.put oj.dst u).put oi.dst v = (a.put oi.dst v).put oj.dst u := fun u v => Act.put_comm a u v h2'
      have H1 := H.to_op hj hwj0
      have inner : ∀ u h', AStep P hR cl ops i (a.put oj.dst u) h' K → AOp P hR (cl i) oi (a.put oj.dst u) h' K := fun u h' g => g.to_op hi (by rw [hwi]; exact hwi0)
      refine AStep.of_op hi hwi0 ?_
      have outer : ∀ u h', AOp P hR (cl j) oj (a.put oi.dst u) h' K → AStep P hR cl ops j (a.put oi.dst u) h' K := fun u h' g => g |> AStep.of_op hj (by rw [hwj]; exact hwj0)
      have ri : ∀ u, rblk oi (a.put oj.dst u) = rblk oi a := fun u => rblk_put h3
      have rj : ∀ u, rblk oj (a.put oi.dst u) = rblk oj a := fun u => rblk_put h1
      generalize hci : cl i = ci at *
      generalize hcj : cl j = cj at *
      cases cj <;> cases ci <;> first | (exact absurd rfl hni) | (exact absurd rfl hnj) | (exact absurd hc (Bool.eq_false_iff.1 rfl)) | skip
      · -- R, R
        obtain ⟨u, ⟨b, ob, q0, q1, q2⟩, g2⟩ := H1
        obtain ⟨v, ⟨b', ob', r0, r1, r2⟩, g3⟩ := inner _ _ g2
        refine ⟨v, ⟨b', ob', by rw [ri] at r0; exact r0, r1, by rw [hei] at r2; exact r2⟩, outer _ _ ⟨u, ⟨b, ob, by rw [rj]; exact q0, q1, by rw [hej]; exact q2⟩, ?_⟩⟩
        rw [← hcm]; exact g3
      · -- R, A
        obtain ⟨u, ⟨b, ob, q0, q1, q2⟩, g2⟩ := H1
        obtain ⟨ob', val, r1, r2⟩ := inner _ _ g2
        unfold Allocs at r1; rw [hei] at r1
        refine ⟨ob', val, r1, fun b' hb hb' => outer _ _ ⟨u, ⟨b, ob, by rw [rj]; exact q0, ?_, by rw [hej]; exact q2⟩, ?_⟩⟩
        · exact q1.imp id (sub_put ob' hb' b ob)
        · rw [← hcm]; exact r2 b' hb hb'
      · -- A, R
        obtain ⟨ob, val, q1, q2⟩ := H1
        have key : ∀ b, hR b = none → h b = none → ∃ v, Reads P hR oi a (put h b ob) v ∧ K ((a.put oi.dst v).put oj.dst (val b)) (put h b ob) := fun b hb hb' => by
          obtain ⟨v, ⟨b', ob', r0, r1, r2⟩, g3⟩ := inner _ _ (q2 b hb hb')
          exact ⟨v, ⟨b', ob', by rw [ri] at r0; exact r0, r1, by rw [hei] at r2; exact r2⟩, by rw [← hcm]; exact g3⟩
        have uniq : ∀ b, hR b = none → h b = none → ∀ v ob', Reads P hR oi a (put h b ob) v → (∀ c, rblk oi a = some c → hR c = some ob' ∨ h c = some ob') → ∀ v', (∀ c, rblk oi a = some c → ∀ w, hp w c = some ob' → (execOp a.eval oi).run P w = .ok (.value v') w) → v = v' := fun b hb hb' v ob' ⟨b1, ob1, r0, r1, r2⟩ hob v' hv' => by
          have e : ob1 = ob' := by
            rcases hob b1 r0 with x | x <;> rcases r1 with y | y
            · rw [x] at y; cases y; rfl
            · unfold put at y; split at y
              · rename_i e; subst e; rw [hb] at x; cases x
              · obtain ⟨w, f⟩ := hl; exact absurd ((f.apart b1).resolve_right (by rw [y]; simp)) (by rw [x]; simp)
            · obtain ⟨w, f⟩ := hl; exact absurd ((f.apart b1).resolve_right (by rw [x]; simp)) (by rw [y]; simp)
            · unfold put at y; split at y
              · rename_i e; subst e; rw [hb'] at x; cases x
              · rw [x] at y; cases y; rfl
          subst e
          have hw : hp (World.fill default b1 ob1) b1 = some ob1 := hp_fill_self _ _ _
          have := (r2 _ hw).symm.trans (hv' b1 r0 _ hw)
          simpa using this
        -- a block that the reading does not mean
        obtain ⟨b0, hb0, hb1, hb2⟩ := hl.fresh ((rblk oi a).getD 0)
        obtain ⟨v, ⟨b', ob', r0, r1, r2⟩, g3⟩ := key b0 hb1 hb2
        have hne : b' ≠ b0 := by intro e; rw [r0] at hb0; simp at hb0; omega
        have r1' : hR b' = some ob' ∨ h b' = some ob' := by
          refine r1.imp id fun y => ?_
          unfold put at y; rw [if_neg hne] at y; exact y
        refine ⟨v, ⟨b', ob', r0, r1', r2⟩, outer _ _ ⟨ob, val, by unfold Allocs; rw [hej]; exact q1, fun b hb hb' => ?_⟩⟩
        obtain ⟨v2, hr2, hk2⟩ := key b hb hb'
        have : v2 = v := uniq b hb hb' v2 ob' hr2 (fun c hc => by rw [r0] at hc; cases hc; exact r1') v (fun c hc w hw => by rw [r0] at hc; cases hc; exact r2 w hw)
        rw [this] at hk2
        exact hk2
      · -- A, A
        obtain ⟨ob, val, q1, q2⟩ := H1
        have key : ∀ b, hR b = none → h b = none → ∃ ob' val', Allocs P oi a ob' val' ∧ ∀ c, hR c = none → put h b ob c = none → K ((a.put oi.dst (val' c)).put oj.dst (val b)) (put (put h b ob) c ob') := fun b hb hb' => by
          obtain ⟨ob', val', r1, r2⟩ := inner _ _ (q2 b hb hb')
          unfold Allocs at r1; rw [hei] at r1
          exact ⟨ob', val', r1, fun c hc hc' => by have := r2 c hc hc'; rw [hcm] at this; exact this⟩
        obtain ⟨b0, _, hb1, hb2⟩ := hl.fresh 0
        obtain ⟨ob', val', r1, _⟩ := key b0 hb1 hb2
        refine ⟨ob', val', r1, fun c hc hc' => outer _ _ ⟨ob, val, by unfold Allocs; rw [hej]; exact q1, fun b hb hb' => ?_⟩⟩
        have hne : b ≠ c := fun e => by subst e; unfold put at hb'; simp at hb'
        have hb'' : h b = none := by unfold put at hb'; rw [if_neg hne] at hb'; exact hb'
        obtain ⟨ob2, val2, s1, s2⟩ := key b hb hb''
        obtain ⟨rfl, rfl⟩ := allocs_unique r1 s1
        have := s2 c hc (by unfold put; rw [if_neg (Ne.symm hne)]; exact hc')
        rw [put_comm _ _ hne] at this
        exact this
      · -- E, A
        have allocs : ∃ ob val, Allocs P oi a ob val := by
          obtain ⟨a1, g1, k1, l1, u, hu⟩ := AStep.outcome hj hl H
          unfold AStep at k1
          simp only [hi, hci] at k1
          have hw1 : Region.wanted oi (yielded ops a1.tmps) = true := by
            rcases hu with rfl | ⟨d, rfl⟩ <;> rw [hwi] <;> exact hwi0
          simp only [hw1, if_true] at k1
          obtain ⟨ob, val, r1, _⟩ := k1
          refine ⟨ob, val, ?_⟩
          unfold Allocs at r1 ⊢
          rcases hu with rfl | ⟨d, rfl⟩
          · rw [hei] at r1; exact r1
          · rw [hei] at r1; exact r1
        obtain ⟨ob, val, r1⟩ := allocs
        refine ⟨ob, val, r1, fun b hb hb' => outer _ _ ?_⟩
        intro w f
        have f0 : Fits hR h w := f.sub (sub_put ob hb')
        have hbw : hp w b = some ob := f.own b ob (by unfold put; simp)
        have g := H1 w f0
        have fin : ∀ a' h' w', ((∃ u, a' = a.put oj.dst u ∨ ∃ d, a' = ({ a with defers := d :: a.defers } : Act).put oj.dst u)) → Step w h w' h' → AStep P hR cl ops i a' h' K →
            Step w (put h b ob) w' (put h' b ob) ∧ K (a'.put oi.dst (val b)) (put h' b ob) := fun a' h' w' ⟨u, hu⟩ s k => by
          have hfresh : h' b = none := by
            cases hx : h' b with
            | none => rfl
            | some o =>
              rcases s.dom b (by simp [hx]) with y | y
              · exact absurd hb' y
              · have := hp_lt hbw; omega
          refine ⟨⟨fun c x hc => ?_, s.size, fun c hc hn => ?_, fun c hc => ?_, s.same⟩, ?_⟩
          · unfold put at hc
            split at hc
            · rename_i e; subst e; cases hc; rw [s.keep c (hp_lt hbw) hb']; exact hbw
            · exact s.sub c x hc
          · unfold put at hn
            split at hn
            · cases hn
            · exact s.keep c hc hn
          · unfold put at hc ⊢
            split
            · exact .inl (by simp)
            · rename_i e; rw [if_neg e] at hc; exact s.dom c hc
          · unfold AStep at k
            simp only [hi, hci] at k
            have hw1 : Region.wanted oi (yielded ops a'.tmps) = true := by
              rcases hu with rfl | ⟨d, rfl⟩ <;> rw [hwi] <;> exact hwi0
            simp only [hw1, if_true] at k
            obtain ⟨ob2, val2, r2, k2⟩ := k
            have r2' : Allocs P oi a ob2 val2 := by
              unfold Allocs at r2 ⊢
              rcases hu with rfl | ⟨d, rfl⟩
              · rw [hei] at r2; exact r2
              · rw [hei] at r2; exact r2
            obtain ⟨rfl, rfl⟩ := allocs_unique r1 r2'
            exact k2 b hb hfresh
        have hcm' : ∀ u, (a.put oi.dst (val b)).put oj.dst u = (a.put oj.dst u).put oi.dst (val b) := fun u => (hcm u _).symm
        unfold Oper.wp at *
        rw [hej]
        generalize (execOp a.eval oj).run P w = r at *
        cases r with
        | ok n w' =>
          cases n <;> simp only [Oper.upon] at g ⊢
          case value u => obtain ⟨h', s, k⟩ := g; have := fin _ h' _ ⟨u, .inl rfl⟩ s k; exact ⟨_, this.1, by rw [hcm']; exact this.2⟩
          case skip => obtain ⟨h', s, k⟩ := g; have := fin _ h' _ ⟨undef, .inl rfl⟩ s k; exact ⟨_, this.1, by rw [hcm']; exact this.2⟩
          case defer d =>
            obtain ⟨h', s, k⟩ := g
            have := fin _ h' _ ⟨undef, .inr ⟨d, rfl⟩⟩ s k
            refine ⟨_, this.1, ?_⟩
            rw [Act.put_defers, Act.put_comm _ (val b) undef h2]
            exact this.2
          case enter fn args =>
            refine Calls.mono g ?_
            intro e w'' hx
            cases e with
            | returned u => obtain ⟨h', s, k⟩ := hx; have := fin _ h' _ ⟨u, .inl rfl⟩ s k; exact ⟨_, this.1, by simp only [hcm']; exact this.2⟩
            | panicked c => exact hx
            | outgrown => exact hx
          case row row args => exact Rows.mono g (fun u w'' hx => by obtain ⟨h', s, k⟩ := hx; have := fin _ h' _ ⟨u, .inl rfl⟩ s k; exact ⟨_, this.1, by simp only [hcm']; exact this.2⟩)
        | halt x w' => cases x <;> simp only [Oper.upon] at g ⊢
end
end Go.Sep
