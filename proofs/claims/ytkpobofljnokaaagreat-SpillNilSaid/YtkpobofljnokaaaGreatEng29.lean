/- The engine, twenty-ninth part: calls, rounds; the engine's run is the machine's. -/
import Derived.Test.YtkpobofljnokaaaGreatEng28
namespace Go.Eng
section
variable {K : Cfg} {ρ : Rho} {μ : Mu} {S : Ids} {H H' Hc : AH} {w : World} {a : Act} {F : Fence} {rec : Rec} {Q : Exit → Act → World → Prop}

theorem paramsB_get : ∀ (l : List AVal) (i : Nat) (m : PM AVal) (j : Nat) (v : AVal), (paramsB l i m).get j = some v → (i ≤ j ∧ l[j - i]? = some v) ∨ m.get j = some v
  | [], _, _, _, _, h => .inr h
  | x :: l, i, m, j, v, h => by
    rcases paramsB_get l (i + 1) _ j v h with ⟨h1, h2⟩ | h
    · exact .inl ⟨by omega, by rw [show j - i = (j - (i + 1)) + 1 by omega]; simpa using h2⟩
    · rcases PM.get_set h with ⟨h1, h2⟩ | ⟨_, h2⟩
      · subst h1; exact .inl ⟨Nat.le_refl _, by simpa using h2⟩
      · exact .inr h2

theorem params_env {args : List AVal} (hv : VRs ρ μ S args) (n : Nat) :
    EnvRel ρ μ S n (paramsB args 0 .e) ((concs μ ρ args).toArray ++ Array.replicate (n - (concs μ ρ args).toArray.size) undef) := by
  refine ⟨by simp; omega, fun t v ht => ?_⟩
  rcases paramsB_get args 0 .e t v ht with ⟨_, h⟩ | h
  · rw [Nat.sub_zero] at h
    have hlt : t < args.length := (List.getElem?_eq_some_iff.1 h).1
    refine ⟨?_, hv.get h⟩
    rw [Array.getElem?_append_left (by simpa [concs_length] using hlt)]
    exact concs_getElem? args t h
  · cases h

theorem resB_run (hK : COK K) (h : Rel ρ μ S H w) {n : Nat} {m : PM AVal} {tmps : Array Value} (he : EnvRel ρ μ S n m tmps) {f : ResultVar → Sem Value} (f1 : ∀ t, f (.tmp t) = pure (tmps.getD t undef))
    (f2 : ∀ b t, f (.cell b t) = (do loadVar t (← asAddr (tmps.getD b undef)))) : ∀ (l : List ResultVar) (vs : List AVal), resB K H m l = some vs → (l.mapM f).run K.P w = .ok (concs μ ρ vs) w ∧ VRs ρ μ S vs
  | [], vs, hr => by
    simp only [resB, Option.some.injEq] at hr
    subst hr
    exact ⟨by simp [concs], VRs.nil⟩
  | x :: l, vs, hr => by
    unfold resB at hr
    split at hr
    · rename_i v hv
      split at hr
      · rename_i vs' hvs
        cases hr
        obtain ⟨h1, h2⟩ := resB_run hK h he f1 f2 l vs' hvs
        cases x with
        | tmp t =>
          obtain ⟨g1, g2⟩ := he.get t v hv
          have g1' : tmps.getD t undef = conc μ ρ v := by simp [Array.getD_eq_getD_getElem?, g1]
          exact ⟨by simp only [List.mapM_cons, Sem.run_bind, f1, g1', Sem.run_pure, Result.andThen_ok, h1, concs], VRs.cons g2 h2⟩
        | cell b t =>
          simp only [resV, vLoad] at hv
          split at hv
          · rename_i bb o hb
            obtain ⟨g1, g2⟩ := he.get b _ hb
            obtain ⟨g3, g4⟩ := run_loadB hK h (fun _ _ q => q) hv
            have g1' : tmps.getD b undef = .pointer (some ⟨(μ bb).blk, (μ bb).sh + o, none⟩) := by simp [Array.getD_eq_getD_getElem?, g1, conc]
            have g5 : ∀ a : Addr, asAddr (.pointer (some a)) = pure a := fun _ => rfl
            exact ⟨by simp only [List.mapM_cons, Sem.run_bind, f2, g1', g5, Sem.run_pure, Result.andThen_ok, g3, h1, concs], VRs.cons g4 h2⟩
          · cases hv
      · cases hr
    · cases hr

theorem results_run (hK : COK K) (h : Rel ρ μ S H w) {n : Nat} {m : PM AVal} {tmps : Array Value} (he : EnvRel ρ μ S n m tmps) {fn : Func} {vs : List AVal} (hr : resB K H m fn.results.toList = some vs) :
    (results fn tmps).run K.P w = .ok (conc μ ρ (oneB vs)) w ∧ VR ρ μ S (oneB vs) := by
  have h3 : VRs ρ μ S vs → VR ρ μ S (oneB vs) := by
    intro h2
    unfold oneB
    split
    · exact h2 _ (.head _)
    · exact VR.tuple h2
  unfold results
  rw [Array.mapM_eq_mapM_toList, Sem.run_bind]
  obtain ⟨h1, h2⟩ := resB_run hK h he (f := fun | .tmp t => pure (tmps.getD t undef) | .cell a t => do loadVar t (← asAddr (tmps.getD a undef))) (fun _ => rfl) (fun _ _ => rfl) _ _ hr
  refine ⟨?_, h3 h2⟩
  rw [map_eq_pure_bind, Sem.run_bind]
  refine (congrArg (fun r => (Result.andThen r _).andThen _) h1).trans ?_
  simp only [Result.andThen_ok, Sem.run_pure]
  match vs with
  | [] => simp [oneB, conc, concs]
  | [v] => simp [oneB, concs]
  | v :: u :: l => simp [oneB, conc, concs]

theorem closeB_run {fn : Func} {tmps : Array Value} {R : Ending → World → Prop} {P : Program} : ∀ (marks : List Nat) (H Hc : AH) (w : World), closeB marks H = some Hc → Rel ρ μ S H w →
    (∀ w', Step ρ μ S H w μ S Hc w' → LeavesIn F 0 P fn tmps R [] .returning w') →
    LeavesInM F 0 P fn tmps R (marks.map fun r => ({ target := .collected (μ r).blk, args := #[] } : Deferred)) .returning w
  | [], H, Hc, w, hc, h, hl => by
    simp only [closeB, Option.some.injEq] at hc
    subst hc
    exact hl w (Step.refl h)
  | r :: marks, H, Hc, w, hc, h, hl => by
    unfold closeB at hc
    split at hc
    · rename_i hg
      obtain ⟨hS, hb⟩ := h.blk r _ hg
      have hb' : w.heap[(μ r).blk]? = some (.deferred (some [])) := hb
      have hs : Step ρ μ S H w μ S (H.put r (.dfr false)) (w.putObj (μ r).blk (.deferred none)) :=
        Step.set (o' := .deferred none) (c := .dfr false) h hg rfl rfl rfl rfl hb' fun w' hw => hw
      exact ⟨by simp, .inl ⟨(μ r).blk, _, rfl, run_takeDeferred hb', closeB_run marks _ Hc _ hc hs.rel fun w' hw => hl w' (hs.trans hw)⟩⟩
    · cases hc

theorem call_ok (hK : COK K) (hrec : RecOK K ρ rec) {f : FuncId} {args : List AVal} {out : Out} (h : sCall K rec args H (K.fn.get f) = some (out, H')) : JobOK K ρ H H' (.call f args) out := by
  unfold sCall at h
  split at h
  · rename_i fn hf
    have hpf := hK.fn f fn hf
    unfold sFunc at h
    split at h
    · rename_i c hbody
      unfold sBody at h
      split at h
      · rename_i hname
        have hname' : (fn.name == "runtime.NumGoroutine") = false := hname
        cases hx : rec (.code c ⟨fn.ntmps, paramsB args 0 .e, [], false⟩) H with
        | none => rw [hx] at h; cases h
        | some q =>
          obtain ⟨o1, H1⟩ := q
          obtain ⟨x, e1, rfl, hi, n1, h1⟩ := (hrec _ _ _ _ hx).code
          rw [hx] at h
          have key : (x = .normal ∨ x = .ret) ∧ ∃ Hc vs, closeB e1.marks H1 = some Hc ∧ resB K Hc e1.m fn.results.toList = some vs ∧ out = .val (oneB vs) ∧ H' = Hc := by
            unfold sRet at h
            have fin : ∀ {e : Env} {o : Option AH}, sLeave K fn e o = some (out, H') → ∃ Hc vs, o = some Hc ∧ resB K Hc e.m fn.results.toList = some vs ∧ out = .val (oneB vs) ∧ H' = Hc := by
              intro e o h
              unfold sLeave at h
              split at h
              · rename_i Hc
                unfold sRes at h
                split at h
                · rename_i vs hvs
                  cases h
                  exact ⟨_, vs, rfl, hvs, rfl, rfl⟩
                · cases h
              · cases h
            split at h
            · rename_i e2 H2 he; cases he; exact ⟨.inl rfl, fin h⟩
            · rename_i e2 H2 he; cases he; exact ⟨.inr rfl, fin h⟩
            · cases h
          obtain ⟨hxx, Hc, vs, hcl, hrs, rfl, rfl⟩ := key
          intro μ S w hR hv R hRR
          have h2 : fn.name ≠ "runtime.NumGoroutine" := by simpa using hname'
          refine ⟨fun args' => by simp [callFunc, hpf, h2, hbody], ?_⟩
          refine callsIn_of_wp_marks hpf hbody trivial (walk.wp (h1 μ S w _ Fence.wide hR ⟨params_env hv fn.ntmps, rfl, fun _ h => by cases h⟩ FOK.wide' _ fun μ1 S1 a1 w1 hs1 hE1 => ?_))
          have hl : LeavesInM Fence.wide 0 K.P fn a1.tmps R a1.defers .returning w1 := by
            rw [hE1.marks]
            refine closeB_run e1.marks H1 H' w1 hcl hs1.rel fun w2 hs2 => ?_
            obtain ⟨g1, g2⟩ := results_run hK hs2.rel hE1.env hrs
            exact ⟨_, g1, hRR μ1 S1 w2 (hs1.trans hs2) g2⟩
          rcases hxx with rfl | rfl
          · exact hl
          · exact hl
      · cases h
    · cases h
  · cases h

theorem putsB_sound : ∀ (ps : List Tmp) (args : List AVal) (e e' : Env), putsB ps args e = some e' → e'.inr = e.inr ∧ e'.n = e.n ∧ e'.marks = e.marks ∧ ps.length = args.length ∧
    ∀ tmps : Array Value, EnvRel ρ μ S e.n e.m tmps → VRs ρ μ S args → EnvRel ρ μ S e'.n e'.m ((ps.zip (concs μ ρ args)).foldl (fun tmps q => tmps.setIfInBounds q.1 q.2) tmps)
  | [], [], e, e', h => by
    simp only [putsB, Option.some.injEq] at h
    subst h
    exact ⟨rfl, rfl, rfl, rfl, fun _ h _ => h⟩
  | [], _ :: _, e, e', h => by cases h
  | _ :: _, [], e, e', h => by cases h
  | t :: ps, v :: args, e, e', h => by
    unfold putsB at h
    split at h
    · rename_i e1 hp
      obtain ⟨h1, h2, h3, h4, h5⟩ := putsB_sound ps args e1 e' h
      unfold Env.put at hp
      split at hp
      · rename_i he; cases he
      · rename_i t' he
        cases he
        split at hp
        · rename_i hb
          cases hp
          refine ⟨h1, h2, h3, by simp [h4], fun tmps ht hv => ?_⟩
          have hlt : t < e.n := Nat.le_of_ble_eq_true hb
          have := EnvRel.put (a := { tmps := tmps, defers := [] }) ht hlt (hv v (.head _))
          simp only [concs, List.zip_cons_cons, List.foldl_cons]
          exact h5 _ this fun x hx => hv x (.tail _ hx)
        · cases hp
    · cases h

theorem loop_blk (h : Rel ρ μ S H w) {l : Nat} {st : LoopState} {pend : Option Code} {n : Nat} {tm : PM AVal} {ps : List Tmp} {asg body : Code} {d : Nat} (hg : H.m.get l = some (.loop st pend n tm ps asg body d)) :
    ∃ fn tmps, w.heap[(μ l).blk]? = some (.loop ⟨st, pend, fn, tmps, ps.toArray, asg, body, (μ d).blk⟩) ∧ EnvRel ρ μ S n tm tmps ∧
      ∀ st' pend', Step ρ μ S H w μ S (H.put l (.loop st' pend' n tm ps asg body d)) (w.putObj (μ l).blk (.loop ⟨st', pend', fn, tmps, ps.toArray, asg, body, (μ d).blk⟩)) := by
  obtain ⟨hS, hd, ht, fn, tmps, g1, g2, g3⟩ := h.blk l _ hg
  exact ⟨fn, tmps, g1, ⟨g2, fun t v hv => ⟨g3 t v hv, ht t v hv⟩⟩, fun st' pend' => Step.set h hg rfl rfl rfl rfl g1 fun w' hw => ⟨hd, ht, fn, tmps, hw, g2, g3⟩⟩

theorem round_ok (hrec : RecOK K ρ rec) {l : Nat} {args : List AVal} {out : Out} (h : sRound rec l args H (H.m.get l) = some (out, H')) : JobOK K ρ H H' (.round l args) out := by
  unfold sRound at h
  split at h
  · rename_i st0 pend0 n tm ps asg bd d0 hg
    unfold sAssign at h
    split at h
    · rename_i e0 hputs
      cases hx : rec (.code asg e0) H with
      | none => rw [hx] at h; cases h
      | some q =>
        obtain ⟨o1, H1⟩ := q
        obtain ⟨x1, e1, rfl, hi1, n1, h1⟩ := (hrec _ _ _ _ hx).code
        rw [hx] at h
        unfold sBegin at h
        split at h
        · rename_i e1' H1' he
          cases he
          unfold sBegin2 at h
          split at h
          · rename_i pend1 n1' tm1 ps1 asg1 body1 d1 hg1
            cases hy : rec (.code bd e1) (H1.put l (.loop .busy pend1 n1' tm1 ps1 asg1 body1 d1)) with
            | none => rw [hy] at h; cases h
            | some q2 =>
              obtain ⟨o2, H2⟩ := q2
              obtain ⟨x2, e2, rfl, hi2, n2, h2⟩ := (hrec _ _ _ _ hy).code
              rw [hy] at h
              simp only [sEnd] at h
              have key : ∃ st2 pend2 n2' tm2 ps2 asg2 body2 d2 b, H2.m.get l = some (.loop st2 pend2 n2' tm2 ps2 asg2 body2 d2) ∧ out = .val (.bool b) ∧
                  ((x2 = .normal ∧ b = true ∧ H' = H2.put l (.loop .ready none n2' tm2 ps2 asg2 body2 d2)) ∨ (x2 = .ret ∧ b = false ∧ H' = H2.put l (.loop .done (some .ret) n2' tm2 ps2 asg2 body2 d2)) ∨
                   ∃ id, x2 = .exit id ∧ b = false ∧ H' = H2.put l (.loop .done (some (.exit id)) n2' tm2 ps2 asg2 body2 d2)) := by
                unfold sEnd2 at h
                split at h
                · rename_i hg2; cases h; exact ⟨_, _, _, _, _, _, _, _, true, hg2, rfl, .inl ⟨rfl, rfl, rfl⟩⟩
                · rename_i hg2; cases h; exact ⟨_, _, _, _, _, _, _, _, false, hg2, rfl, .inr (.inl ⟨rfl, rfl, rfl⟩)⟩
                · rename_i hg2; cases h; exact ⟨_, _, _, _, _, _, _, _, false, hg2, rfl, .inr (.inr ⟨_, rfl, rfl, rfl⟩)⟩
                · cases h
              obtain ⟨st2, pend2, n2', tm2, ps2, asg2, body2, d2, b, hg2, rfl, hcase⟩ := key
              intro μ S w hR hv hSl R hRR
              obtain ⟨fn, tmps, g1, genv, _⟩ := loop_blk hR hg
              obtain ⟨p1, p2, p3, p4, p5⟩ := putsB_sound (ρ := ρ) (μ := μ) (S := S) ps args _ e0 hputs
              have hsz : (concs μ ρ args).toArray.size = ps.toArray.size := by simp [concs_length, p4]
              refine ⟨fn, _, asg, bd, run_yield g1 hsz, ?_⟩
              have hE0 : ERel ρ μ S e0 { tmps := (ps.toArray.zip (concs μ ρ args).toArray).foldl (fun tmps (t, a) => tmps.setIfInBounds t a) tmps, defers := [] } := by
                refine ⟨?_, by rw [p3]; rfl, by rw [p3]; intro r hr; cases hr⟩
                have := p5 tmps genv hv
                simpa using this
              have hF0 : FOK (Fence.wide.inRound (μ l).blk) e0.inr := by rw [p1]; exact FOK.inRound _
              refine roundIn_of_wpIn trivial (walk.wp (h1 μ S w _ _ hR hE0 hF0 _ fun μ1 S1 a1 w1 hs1 hE1 => ?_))
              have hl1 : μ1 l = μ l := hs1.up l hSl
              obtain ⟨fn1, tmps1, k1, kenv, kput⟩ := loop_blk hs1.rel hg1
              rw [hl1] at k1 kput
              refine ⟨_, run_beginRound k1 rfl, ?_⟩
              have hsb := hs1.trans (kput .busy pend1)
              refine walk.wp (h2 μ1 S1 _ a1 _ hsb.rel hE1 (by rw [hi1]; exact hF0) _ fun μ2 S2 a2 w2 hs2 hE2 => ?_)
              have hl2 : μ2 l = μ l := (hs2.up l (hs1.sub l hSl)).trans hl1
              obtain ⟨fn2, tmps2, m1, menv, mput⟩ := loop_blk hs2.rel hg2
              rw [hl2] at m1 mput
              have hs12 := hsb.trans hs2
              rcases hcase with ⟨rfl, rfl, rfl⟩ | ⟨rfl, rfl, rfl⟩ | ⟨id, rfl, rfl, rfl⟩
              · refine ⟨_, _, run_endRound none m1, ?_⟩
                have := hRR _ _ _ (hs12.trans (mput .ready none)) VR.bool
                simpa [conc] using this
              · refine ⟨_, _, run_endRound (some .ret) m1, ?_⟩
                have := hRR _ _ _ (hs12.trans (mput .done (some .ret))) VR.bool
                simpa [conc] using this
              · refine ⟨_, _, run_endRound (some (.exit id)) m1, ?_⟩
                have := hRR _ _ _ (hs12.trans (mput .done (some (.exit id)))) VR.bool
                simpa [conc] using this
          · cases h
        · cases h
    · cases h
  · cases h

/-- What is known by other means is so. -/
def SumOK (K : Cfg) (ρ : Rho) : Prop := ∀ f g, sumOf K.sum f = some g → ∀ args H v H', g K.gam args H = some (v, H') → JobOK K ρ H H' (.call f args) (.val v)

theorem SumOK.none (h : K.sum = []) : SumOK K ρ := fun f g hg => by rw [h] at hg; cases hg

theorem step_ok (hK : COK K) (hS : SOK K ρ) (hU : SumOK K ρ) (hrec : RecOK K ρ rec) : RecOK K ρ (step K rec) := by
  intro j H out H' h
  cases j with
  | call f args =>
    simp only [step] at h
    unfold sSum at h
    split at h
    · rename_i g hg
      unfold sKnown at h
      split at h
      · rename_i v H1 hv
        cases h
        exact hU f g hg args H v H' hv
      · exact call_ok hK hrec h
    · exact call_ok hK hrec h
  | round l args => exact round_ok hrec h
  | code c e =>
    simp only [step] at h
    unfold sCode at h
    split at h
    · cases h
      exact JobOK.of rfl (by simp) fun μ S w a F hR hE hF Q hQ => wpIn_skip (hQ _ _ _ _ (Step.refl hR) hE)
    · exact region_ok hK hS hrec h
    · exact seq_ok hrec h
    · exact cond_ok hrec h
    · exact block_ok hrec h
    · exact loop_ok hrec h
    · cases h
      exact JobOK.of rfl (by simp) fun μ S w a F hR hE hF Q hQ => wpIn_exit (hQ _ _ _ _ (Step.refl hR) hE)
    · cases h
      exact JobOK.of rfl (by simp) fun μ S w a F hR hE hF Q hQ => wpIn_ret (hQ _ _ _ _ (Step.refl hR) hE)
    · exact range_ok hrec h
    · cases h

theorem ev_ok (hK : COK K) (hS : SOK K ρ) (hU : SumOK K ρ) : ∀ n, RecOK K ρ (ev K n)
  | 0 => fun _ _ _ _ h => by cases h
  | n + 1 => step_ok hK hS hU (ev_ok hK hS hU n)

/-- What the engine finds of a call holds of the machine's. -/
theorem calls_of_ev (hK : COK K) (hS : SOK K ρ) (hU : SumOK K ρ) {n : Nat} {f : FuncId} {args : List AVal} {v : AVal} (h : evk K n (.call f args) H = some (.val v, H')) (hR : Rel ρ μ S H w) (hv : VRs ρ μ S args) {R : Ending → World → Prop}
    (hRR : ∀ μ' S' w', Step ρ μ S H w μ' S' H' w' → VR ρ μ' S' v → R (.returned (conc μ' ρ v)) w') : Calls K.P f (concs μ ρ args).toArray w R := by
  rw [evk_eq] at h
  exact callsIn_wide.1 ((ev_ok hK hS hU n _ _ _ _ h) μ S w hR hv R hRR).2
end
end Go.Eng
