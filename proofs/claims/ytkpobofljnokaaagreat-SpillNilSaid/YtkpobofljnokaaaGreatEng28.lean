/- The engine, twenty-eighth part: code, calls, rounds: the engine's run is the machine's. -/
import Derived.Test.YtkpobofljnokaaaGreatEng27
namespace Go.Eng
section
variable {K : Cfg} {ρ : Rho} {μ : Mu} {S : Ids} {H H' : AH} {w : World} {a : Act} {F : Fence} {rec : Rec} {Q : Exit → Act → World → Prop}

theorem JobOK.code {c : Code} {e : Env} {out : Out} (h : JobOK K ρ H H' (.code c e) out) : ∃ x e', out = .done x e' ∧ JobOK K ρ H H' (.code c e) (.done x e') := by
  cases out with
  | done x e' => exact ⟨x, e', rfl, h⟩
  | val v => exact h.elim

/-- From a walk to a job. -/
theorem JobOK.of {c : Code} {e e' : Env} {x : AExit} (hi : e'.inr = e.inr) (hc : ∀ c', c ≠ .loop c') (h : ∀ (μ : Mu) (S : Ids) (w : World) (a : Act) (F : Fence), Rel ρ μ S H w → ERel ρ μ S e a → FOK F e.inr → ∀ Q : Exit → Act → World → Prop,
    (∀ μ' S' a' w', Step ρ μ S H w μ' S' H' w' → ERel ρ μ' S' e' a' → Q (exitOf x) a' w') → c.wpIn F 0 K.P Q a w) : JobOK K ρ H H' (.code c e) (.done x e') := by
  refine ⟨hi, 0, fun μ S w a F h1 h2 h3 Q hQ => ?_⟩
  have := h μ S w a F h1 h2 h3 Q hQ
  cases c <;> first | exact absurd rfl (hc _) | exact this

theorem region_ok (hK : COK K) (hS : SOK K ρ) (hrec : RecOK K ρ rec) {id : Nat} {ops : Array Oper} {draw : Bool} {e : Env} {out : Out} (h : sRegion K rec ops.toList draw e H = some (out, H')) : JobOK K ρ H H' (.code (.region id ops draw) e) out := by
  unfold sRegion at h
  split at h
  · unfold normR at h
    split at h
    · rename_i e1 H1 hd
      cases h
      refine JobOK.of ?_ (by simp) fun μ S w a F hR hE hF Q hQ => ?_
      · unfold drawnB at hd
        split at hd
        · split at hd
          · unfold drawnP at hd
            split at hd
            · unfold endD at hd
              split at hd
              · rename_i hput
                cases hd
                exact (putAll_sound _ _ _ hput).1
              · cases hd
            · cases hd
          · cases hd
        · cases hd
      · have := (drawn_ok hK hS hrec hF hd hR hE hQ id).1
        simpa using this
    · cases h
  · unfold normR at h
    split at h
    · rename_i e1 H1 hd
      cases h
      refine JobOK.of (plainB_inr _ _ _ _ _ hd) (by simp) fun μ S w a F hR hE hF Q hQ => ?_
      have := plain_ok hK hS hrec hF ops.toList e H e1 H' μ S w a hd hR hE hQ
      exact wpIn_region_list (by simpa using this)
    · cases h

theorem seq_ok (hrec : RecOK K ρ rec) {x y : Code} {e : Env} {out : Out} (h : sSeq rec y (rec (.code x e) H) = some (out, H')) : JobOK K ρ H H' (.code (.seq x y) e) out := by
  cases hx : rec (.code x e) H with
  | none => rw [hx] at h; cases h
  | some q =>
    obtain ⟨o1, H1⟩ := q
    have h1 := hrec _ _ _ _ hx
    obtain ⟨x1, e1, rfl, hi1, n1, h1⟩ := h1.code
    rw [hx] at h
    unfold sSeq at h
    split at h
    · rename_i e2 H2 he
      cases he
      have h2 := hrec _ _ _ _ h
      obtain ⟨x2, e3, rfl, hi2, n2, h2⟩ := h2.code
      refine JobOK.of (hi2.trans hi1) (by simp) fun μ S w a F hR hE hF Q hQ => ?_
      refine wpIn_seq (walk.wp (h1 μ S w a F hR hE hF _ fun μ1 S1 a1 w1 hs1 hE1 => ?_))
      exact walk.wp (h2 μ1 S1 w1 a1 F hs1.rel hE1 (hi1 ▸ hF) Q fun μ2 S2 a2 w2 hs2 hE2 => hQ _ _ _ _ (hs1.trans hs2) hE2)
    · rename_i hne
      cases h
      refine JobOK.of hi1 (by simp) fun μ S w a F hR hE hF Q hQ => ?_
      refine wpIn_seq (walk.wp (h1 μ S w a F hR hE hF _ fun μ1 S1 a1 w1 hs1 hE1 => ?_))
      have := hQ _ _ _ _ hs1 hE1
      cases x1 with
      | normal => exact absurd rfl (hne _ _)
      | exit id => exact this
      | ret => exact this

theorem loop_ok (hrec : RecOK K ρ rec) {c : Code} {e : Env} {out : Out} (h : sSeq rec (.loop c) (rec (.code c e) H) = some (out, H')) : JobOK K ρ H H' (.code (.loop c) e) out := by
  cases hx : rec (.code c e) H with
  | none => rw [hx] at h; cases h
  | some q =>
    obtain ⟨o1, H1⟩ := q
    have h1 := hrec _ _ _ _ hx
    obtain ⟨x1, e1, rfl, hi1, n1, h1⟩ := h1.code
    rw [hx] at h
    unfold sSeq at h
    split at h
    · rename_i e2 H2 he
      cases he
      have h2 := hrec _ _ _ _ h
      obtain ⟨x2, e3, rfl, hi2, n2, h2⟩ := h2.code
      refine ⟨hi2.trans hi1, n2 + 1, fun μ S w a F hR hE hF Q hQ => ?_⟩
      exact walk.wp (h1 μ S w a F hR hE hF _ fun μ1 S1 a1 w1 hs1 hE1 => h2 μ1 S1 w1 a1 F hs1.rel hE1 (hi1 ▸ hF) Q fun μ2 S2 a2 w2 hs2 hE2 => hQ _ _ _ _ (hs1.trans hs2) hE2)
    · rename_i hne
      cases h
      refine ⟨hi1, 1, fun μ S w a F hR hE hF Q hQ => ?_⟩
      refine walk.wp (h1 μ S w a F hR hE hF _ fun μ1 S1 a1 w1 hs1 hE1 => ?_)
      have := hQ _ _ _ _ hs1 hE1
      cases x1 with
      | normal => exact absurd rfl (hne _ _)
      | exit id => exact this
      | ret => exact this

theorem cond_ok (hrec : RecOK K ρ rec) {c : Operand} {x y : Code} {e : Env} {out : Out} (h : sCond rec x y e H (opd e.m c) = some (out, H')) : JobOK K ρ H H' (.code (.cond c x y) e) out := by
  unfold sCond at h
  split at h
  · rename_i hc
    obtain ⟨x2, e3, rfl, hi2, n2, h2⟩ := (hrec _ _ _ _ h).code
    refine JobOK.of hi2 (by simp) fun μ S w a F hR hE hF Q hQ => ?_
    exact wpIn_cond_true (by rw [(hE.env.orel c _ hc).1]; simp [conc]) (walk.wp (h2 μ S w a F hR hE hF Q hQ))
  · rename_i hc
    obtain ⟨x2, e3, rfl, hi2, n2, h2⟩ := (hrec _ _ _ _ h).code
    refine JobOK.of hi2 (by simp) fun μ S w a F hR hE hF Q hQ => ?_
    exact wpIn_cond_false (by rw [(hE.env.orel c _ hc).1]; simp [conc]) (walk.wp (h2 μ S w a F hR hE hF Q hQ))
  · cases h

theorem block_ok (hrec : RecOK K ρ rec) {id : Nat} {c : Code} {e : Env} {out : Out} (h : sBlock id (rec (.code c e) H) = some (out, H')) : JobOK K ρ H H' (.code (.block id c) e) out := by
  cases hx : rec (.code c e) H with
  | none => rw [hx] at h; cases h
  | some q =>
    obtain ⟨o1, H1⟩ := q
    obtain ⟨x1, e1, rfl, hi1, n1, h1⟩ := (hrec _ _ _ _ hx).code
    rw [hx] at h
    unfold sBlock at h
    split at h
    · rename_i j e2 H2 he
      cases he
      split at h
      · rename_i hj
        have := Nat.eq_of_beq_eq_true hj
        subst this
        cases h
        refine JobOK.of hi1 (by simp) fun μ S w a F hR hE hF Q hQ => ?_
        refine wpIn_block (walk.wp (h1 μ S w a F hR hE hF _ fun μ1 S1 a1 w1 hs1 hE1 => ?_))
        have := hQ _ _ _ _ hs1 hE1
        simpa [exitOf, Exit.inBlock] using this
      · rename_i hj
        have hne := Nat.ne_of_beq_eq_false hj
        cases h
        refine JobOK.of hi1 (by simp) fun μ S w a F hR hE hF Q hQ => ?_
        refine wpIn_block (walk.wp (h1 μ S w a F hR hE hF _ fun μ1 S1 a1 w1 hs1 hE1 => ?_))
        have := hQ _ _ _ _ hs1 hE1
        simpa [exitOf, Exit.inBlock, hne] using this
    · rename_i hne
      cases h
      refine JobOK.of hi1 (by simp) fun μ S w a F hR hE hF Q hQ => ?_
      refine wpIn_block (walk.wp (h1 μ S w a F hR hE hF _ fun μ1 S1 a1 w1 hs1 hE1 => ?_))
      have := hQ _ _ _ _ hs1 hE1
      cases x1 with
      | normal => exact this
      | exit id => exact absurd rfl (hne _ _ _)
      | ret => exact this

/-! ### Ranges over functions -/
theorem range_ok (hrec : RecOK K ρ rec) {f : Operand} {ps : Array Tmp} {asg body : Code} {e : Env} {out : Out} (h : sRange rec ps asg body e H e.inr (opd e.m f) = some (out, H')) : JobOK K ρ H H' (.code (.rangeFunc f ps asg body) e) out := by
  unfold sRange at h
  split at h
  · rename_i g first captured hinr hf
    cases hx : rec (.call g (first ++ [.yield (H.next + 1)] ++ captured)) ((H.alloc (.dfr true)).alloc (.loop .ready none e.n e.m ps.toList asg body H.next)) with
    | none => rw [hx] at h; cases h
    | some q =>
      obtain ⟨o1, H1⟩ := q
      have hj := hrec _ _ _ _ hx
      rw [hx] at h
      unfold sRangeR at h
      split at h
      · rename_i v H2 he
        cases he
        unfold sRangeE at h
        split at h
        · rename_i st pend n tm ps' asg' body' d hb
          split at h
          · rename_i hnb
            have hst : st ≠ .busy := fun q => by rw [q] at hnb; cases hnb
            have key : ∃ x, out = .done x ⟨e.n, e.m, H.next :: e.marks, e.inr⟩ ∧ H' = H1.put (H.next + 1) (.loop .exhausted pend n tm ps' asg' body' d) ∧ ((pend = none ∧ x = .normal) ∨ (pend = some .ret ∧ x = .ret) ∨ ∃ id, pend = some (.exit id) ∧ x = .exit id) := by
              unfold sJump at h
              split at h
              · cases h; exact ⟨_, rfl, rfl, .inl ⟨rfl, rfl⟩⟩
              · cases h; exact ⟨_, rfl, rfl, .inr (.inl ⟨rfl, rfl⟩)⟩
              · cases h; exact ⟨_, rfl, rfl, .inr (.inr ⟨_, rfl, rfl⟩)⟩
              · cases h
            obtain ⟨x, rfl, rfl, hx⟩ := key
            refine JobOK.of rfl (by simp) fun μ S w a F hR hE hF Q hQ => ?_
            refine wpIn_rangeFunc fun fn _ => ?_
            have hid0 : ¬ S H.next := fun q => Nat.lt_irrefl _ (hR.bnd _ q)
            obtain ⟨o1, o2⟩ := hE.env.orel f _ hf
            have hfc := o2.of_func
            -- the block for the deferred calls
            have s1 : Step ρ μ S H w (μ.at H.next (Place.of w.heap.size 0 0)) (S.and H.next) (H.alloc (.dfr true)) (w.alloc (.deferred (some []))) :=
              Step.alloc hR (fun k hk => by show (w.heap.push _)[k]? = _; exact heap_push_old hk) (by show _ ≤ (w.heap.push _).size; simp) rfl rfl rfl (by show (w.heap.push _)[w.heap.size]? = _; simp [openOf]) (New.plain rfl (Nat.le_refl _))
            have hE1 := hE.up s1.up s1.sub
            have s2 : Step ρ (μ.at H.next (Place.of w.heap.size 0 0)) (S.and H.next) (H.alloc (.dfr true)) (w.alloc (.deferred (some [])))
                ((μ.at H.next (Place.of w.heap.size 0 0)).at (H.next + 1) (Place.of (w.heap.size + 1) 0 0)) ((S.and H.next).and (H.next + 1)) ((H.alloc (.dfr true)).alloc (.loop .ready none e.n e.m ps.toList asg body H.next))
                ((w.alloc (.deferred (some []))).alloc (.loop { state := .ready, pending := none, fn, tmps := a.tmps, params := ps, assign := asg, body, defers := w.heap.size })) := by
              have hsz : (w.alloc (.deferred (some []))).heap.size = w.heap.size + 1 := by show (w.heap.push _).size = _; simp
              refine Step.alloc (p := (Place.of (w.heap.size + 1) 0 0)) s1.rel (fun k hk => by show ((w.alloc _).heap.push _)[k]? = _; exact heap_push_old hk) (by show _ ≤ ((w.alloc _).heap.push _).size; simp) rfl rfl rfl ?_ (New.plain rfl (Nat.le_of_eq hsz))
              have hid1 : ¬ (S.and H.next) (H.next + 1) := fun q => by have := s1.rel.bnd _ q; simp [AH.alloc] at this
              have hup := Mu.at_upto (μ.at H.next (Place.of w.heap.size 0 0)) (Place.of (w.heap.size + 1) 0 0) hid1
              refine ⟨.inl (Ids.and_self _ _), fun t v hv => (hE1.env.get t v hv).2.up hup (Ids.le_and _ _), fn, a.tmps, ?_, hE1.env.size, fun t v hv => ?_⟩
              · show ((w.alloc _).heap.push _)[w.heap.size + 1]? = _
                rw [← hsz]
                simp only [Array.getElem?_push_size, AH.alloc]
                rw [Mu.at_ne _ _ (by simp), Mu.at_self]
              · show a.tmps[t]? = some (conc ((μ.at H.next (Place.of w.heap.size 0 0)).at (H.next + 1) (Place.of (w.heap.size + 1) 0 0)) ρ v)
                rw [(hE1.env.get t v hv).2.eq hup]; exact (hE1.env.get t v hv).1
            have s12 := s1.trans s2
            have hyl : ((μ.at H.next (Place.of w.heap.size 0 0)).at (H.next + 1) (Place.of (w.heap.size + 1) 0 0)) (H.next + 1) = (Place.of (w.heap.size + 1) 0 0) := Mu.at_self _ _ _
            have hvr : VRs ρ ((μ.at H.next (Place.of w.heap.size 0 0)).at (H.next + 1) (Place.of (w.heap.size + 1) 0 0)) ((S.and H.next).and (H.next + 1)) (first ++ [.yield (H.next + 1)] ++ captured) :=
              ((hfc.1.up s12.up s12.sub).append (VRs.cons (VR.yield (Ids.and_self _ _)) VRs.nil)).append (hfc.2.up s12.up s12.sub)
            have hargs : concs ((μ.at H.next (Place.of w.heap.size 0 0)).at (H.next + 1) (Place.of (w.heap.size + 1) 0 0)) ρ (first ++ [.yield (H.next + 1)] ++ captured) = concs μ ρ first ++ [.func (.yield (w.heap.size + 1)) #[] #[]] ++ concs μ ρ captured := by
              have e1 := hfc.1.eq s12.up
              have e2 := hfc.2.eq s12.up
              rw [concs_eq] at e1 e2 ⊢
              rw [List.map_append, List.map_append, e1, e2]
              simp [conc, hyl]
            have hjj := hj _ _ _ s12.rel hvr (rangePost F 0 K.P (w.heap.size + 1) Q { a with defers := { target := .collected w.heap.size, args := #[] } :: a.defers }) (fun μ3 S3 w3 hs3 _ => by
              obtain ⟨hS3, hB3⟩ := hs3.rel.blk _ _ hb
              obtain ⟨hd3, ht3, fn3, tmps3, g1, g2, g3⟩ := hB3
              have hμ : (μ3 (H.next + 1)).blk = w.heap.size + 1 := by rw [hs3.up _ (Ids.and_self _ _), hyl]
              have g1' := g1
              rw [hμ] at g1
              refine ⟨pend, _, run_endLoop g1 hst, ?_⟩
              have s4 : Step ρ μ3 S3 H1 w3 μ3 S3 (H1.put (H.next + 1) (.loop .exhausted pend n tm ps' asg' body' d)) (w3.putObj (w.heap.size + 1) (.loop { state := .exhausted, pending := pend, fn := fn3, tmps := tmps3, params := ps'.toArray, assign := asg', body := body', defers := (μ3 d).blk })) := by
                have := Step.set (o' := .loop { state := .exhausted, pending := pend, fn := fn3, tmps := tmps3, params := ps'.toArray, assign := asg', body := body', defers := (μ3 d).blk }) (c := .loop .exhausted pend n tm ps' asg' body' d) hs3.rel hb rfl rfl rfl rfl g1' (fun w' hw => ⟨hd3, ht3, fn3, tmps3, hw, g2, g3⟩)
                rw [hμ] at this
                exact this
              have s5 := (s12.trans hs3).trans s4
              have hE5 : ERel ρ μ3 S3 ⟨e.n, e.m, H.next :: e.marks, e.inr⟩ { a with defers := { target := .collected w.heap.size, args := #[] } :: a.defers } := by
                have hE3 := hE.up s5.up s5.sub
                refine ⟨hE3.env, ?_, fun r hr => ?_⟩
                · have : (μ3 H.next).blk = w.heap.size := by
                    rw [hs3.up _ (.inl (Ids.and_self _ _)), Mu.at_ne _ _ (by omega), Mu.at_self]
                  simp only [List.map_cons, this]
                  rw [hE3.marks]
                · cases hr with
                  | head => exact hs3.sub _ (.inl (Ids.and_self _ _))
                  | tail _ hr => exact hE3.mem r hr
              have hq := hQ _ _ _ _ s5 hE5
              rcases hx with ⟨rfl, rfl⟩ | ⟨rfl, rfl⟩ | ⟨id, rfl, rfl⟩
              · exact hq
              · exact wpIn_ret hq
              · exact wpIn_exit hq)
            obtain ⟨j1, j2⟩ := hjj
            refine ⟨w.heap.size + 1, _, _, { target := .fn (.func g) (concs μ ρ captured).toArray, args := (concs μ ρ first).toArray ++ #[.func (.yield (w.heap.size + 1)) #[] #[]] }, ((w.alloc (.deferred (some []))).alloc (.loop { state := .ready, pending := none, fn, tmps := a.tmps, params := ps, assign := asg, body, defers := w.heap.size })), g, (concs μ ρ (first)).toArray ++ #[.func (.yield (w.heap.size + 1)) #[] #[]] ++ (concs μ ρ captured).toArray, ((w.alloc (.deferred (some []))).alloc (.loop { state := .ready, pending := none, fn, tmps := a.tmps, params := ps, assign := asg, body, defers := w.heap.size })),
              by rw [hF.inr hinr]; exact run_enterLoop_outer fn a.tmps ps asg body, ?_, fun f' _ => hF.fn f', ?_, (fun hd => by rw [hF.depth] at hd; cases hd), ?_⟩
            · simp only [resolve, o1, conc, Deferred.ofValue, Sem.run_pure, List.map_toArray]
              rfl
            · simp only [invoke]; exact j1 _
            · refine (hF.wide _ _ _ _ _).2 ?_
              rw [hargs] at j2
              have : (concs μ ρ first ++ [Value.func (.yield (w.heap.size + 1)) #[] #[]] ++ concs μ ρ captured).toArray = (concs μ ρ first).toArray ++ #[.func (.yield (w.heap.size + 1)) #[] #[]] ++ (concs μ ρ captured).toArray := by apply Array.ext'; simp
              rw [this] at j2
              exact j2
          · cases h
        · cases h
      · cases h
  · cases h
end
end Go.Eng
