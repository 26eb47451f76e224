/- The engine, eighteenth part: every operation with an effect. -/
import Derived.Test.YtkpobofljnokaaaGreatEng17
namespace Go.Eng
section
variable {K : Cfg} {ρ : Rho} {μ : Mu} {S : Ids} {H H' G : AH} {w : World} {P : Program} {r : Operand → Option AVal} {a : Act} {v : AVal}

theorem invokeB_run (hK : COK K) (h : Rel ρ μ S H w) {t : TypeId} {x : AVal} {name : String} {args : List AVal} {j : Job ⊕ (AVal × AH)} (hx : VR ρ μ S x) (hv : VRs ρ μ S args)
    (hc : invokeB K H t x name args = some j) : EffOut K ρ μ S H w (callMethod (.iface t (conc μ ρ x)) name (concs μ ρ args).toArray) j := by
  unfold invokeB at hc
  split at hc
  · rename_i i hi
    split at hc
    · rename_i me hm
      split at hc
      · rename_i f ptr hp hf
        split at hc
        · rename_i rv hr
          have hn : ∃ n, K.P.types.size + Made.depth = n + 1 := ⟨K.P.types.size + 99, rfl⟩
          obtain ⟨n, hn⟩ := hn
          obtain ⟨h1, h2⟩ := method_run hK h hx hi hm hp hf hr n
          have h3 := callB_run hK h (VRs.cons h2 hv) hc
          have h4 : (callMethod (.iface t (conc μ ρ x)) name (concs μ ρ args).toArray).run K.P w = (callFunc f (concs μ ρ (rv :: args)).toArray).run K.P w := by
            simp [callMethod, hn, h1, concs, Result.andThen]
          revert h3
          cases j with
          | inl j => cases j <;> simp only [EffOut, h4] <;> exact id
          | inr q => obtain ⟨q1, q2⟩ := q; simp only [EffOut, h4]; exact id
        · cases hc
      · cases hc
    · cases hc
  · cases hc

theorem EffOut.run {s s' : Sem Next} (hs : s.run K.P w = s'.run K.P w) {j : Job ⊕ (AVal × AH)} (h : EffOut K ρ μ S H w s' j) : EffOut K ρ μ S H w s j := by
  revert h
  cases j with
  | inl j => cases j <;> simp only [EffOut, hs] <;> exact id
  | inr q => obtain ⟨q1, q2⟩ := q; simp only [EffOut, hs]; exact id

theorem eBuiltin_run (hK : COK K) (hS : SOK K ρ) (h : Rel ρ μ S H w) {b : Builtin} {ts : Array TypeId} {ty : TypeId} {cs : Array Bool} {args : List AVal} {j : Job ⊕ (AVal × AH)} (hv : VRs ρ μ S args)
    (he : eBuiltin K H ts.toList (some args) b = some j) : EffOut K ρ μ S H w (builtin b ts ty cs (concs μ ρ args).toArray) j := by
  unfold eBuiltin at he
  split at he
  · unfold eAppend at he
    split at he
    · rename_i t0 t1 s x hts hag
      cases hag
      have hts' : ts = #[t0, t1] := by apply Array.ext'; simpa using hts
      subst hts'
      unfold effV at he
      split at he
      · rename_i q hq
        obtain ⟨v, H1⟩ := q
        cases he
        have := (appendB_run (ty := ty) hK hS h (hv s (by simp)) (hv x (by simp)) hq)
        simp only [builtin, concs]
        exact EffOut.val this
      · cases he
    · cases he
  · unfold eDelete at he
    split at he
    · rename_i t ts' x k hts hag
      cases hag
      have hts' : ts = (t :: ts').toArray := by apply Array.ext'; simpa using hts
      subst hts'
      unfold effT at he
      split at he
      · rename_i H1 hq
        cases he
        obtain ⟨w', h1, h2⟩ := del_run (t1 := ty) (ts := ts') hK h hq
        simp only [builtin, concs]
        exact EffOut.val ⟨μ, S, w', by rw [h1]; simp [conc, concs], h2, VR.tuple VRs.nil⟩
      · cases he
    · cases he
  · unfold eClear at he
    split at he
    · rename_i t x hts hag
      cases hag
      have hts' : ts = #[t] := by apply Array.ext'; simpa using hts
      subst hts'
      split at he
      · rename_i d hd
        unfold effT at he
        split at he
        · rename_i H1 hq
          cases he
          obtain ⟨w', h1, h2⟩ := clear_run (t1 := ty) hK h hd hq
          simp only [builtin, concs]
          exact EffOut.val ⟨μ, S, w', by rw [h1]; simp [conc, concs], h2, VR.tuple VRs.nil⟩
        · cases he
      · cases he
    · cases he
  · cases he

theorem eCallee_run (hK : COK K) (hS : SOK K ρ) (h : Rel ρ μ S H w) (ho : ORel ρ μ S r a) {c : Call} {ty : TypeId} {j : Job ⊕ (AVal × AH)} (he : eCallee K H r c.argTypes.toList (optAll r c.args.toList) c.callee = some j) :
    EffOut K ρ μ S H w (do let d ← resolve a.eval c ty; invoke d.target d.args) j := by
  obtain ⟨callee, args, argTypes⟩ := c
  simp only at he
  cases hag : optAll r args.toList with
  | none =>
    rw [hag] at he
    cases callee with
    | builtin b =>
      simp only [eCallee, eBuiltin] at he
      split at he
      · unfold eAppend at he; split at he <;> simp_all
      · unfold eDelete at he; split at he <;> simp_all
      · unfold eClear at he; split at he <;> simp_all
      · cases he
    | value f => simp only [eCallee, eCall] at he; split at he <;> simp_all
    | invoke r name => simp only [eCallee, eInvoke] at he; split at he <;> simp_all
  | some args' =>
    rw [hag] at he
    obtain ⟨h1, h2⟩ := args_run ho hag
    cases callee with
    | builtin b =>
      simp only [eCallee] at he
      refine EffOut.run ?_ (eBuiltin_run (ty := ty) (cs := args.map fun | .const _ => true | _ => false) hK hS h h2 he)
      simp only [resolve, invoke, Sem.run_bind, Sem.run_pure, Result.andThen_ok, h1]
      rfl
    | value f =>
      simp only [eCallee] at he
      unfold eCall at he
      split at he
      · rename_i g first captured args'' hf e2
        cases e2
        obtain ⟨h3, h4⟩ := ho f _ hf
        have h5 := h4.of_func
        refine EffOut.run ?_ (callB_run hK h ((h5.1.append h2).append h5.2) he)
        simp [resolve, h1, h3, conc, Deferred.ofValue, invoke, concs_eq]
      · rename_i l args'' hf e2
        cases e2
        cases he
        obtain ⟨h3, h4⟩ := ho f _ hf
        refine ⟨?_, h2, h4.of_yield⟩
        simp [resolve, h1, h3, conc, Deferred.ofValue, invoke]
      · cases he
    | invoke r name =>
      simp only [eCallee] at he
      unfold eInvoke at he
      split at he
      · rename_i t x args'' hf e2
        cases e2
        obtain ⟨h3, h4⟩ := ho r _ hf
        refine EffOut.run ?_ (invokeB_run hK h h4.of_iface h2 he)
        have hx : (#[Value.iface t (conc μ ρ x)] ++ (concs μ ρ args').toArray).extract 1 (#[Value.iface t (conc μ ρ x)] ++ (concs μ ρ args').toArray).size = (concs μ ρ args').toArray := by
          apply Array.ext'; simp
        simp only [resolve, h1, h3, conc, Sem.run_bind, Sem.run_pure, Result.andThen_ok, invoke, hx]
        simp
      · cases he

theorem eff_run (hK : COK K) (hS : SOK K ρ) (h : Rel ρ μ S H w) (ho : ORel ρ μ S r a) {o : Oper} {j : Job ⊕ (AVal × AH)} (he : effB K H r o = some j) : EffOut K ρ μ S H w (execOp a.eval o) j := by
  obtain ⟨dst, op, type, pos, after, guard⟩ := o
  cases op <;> simp only [effB] at he <;> try (cases he; done)
  case store t p x =>
    cases hp : r p with
    | none => simp [hp, eStore] at he
    | some p' =>
      cases hx : r x with
      | none => simp only [hp, hx] at he; unfold eStore at he; split at he <;> simp_all
      | some x' =>
        obtain ⟨h1, h2⟩ := ho p p' hp
        obtain ⟨h3, h4⟩ := ho x x' hx
        simp only [hp, hx] at he
        obtain ⟨H1, w', rfl, e2, e3⟩ := store_run hK hS h h4 he
        simp only [execOp, h1, h3]
        exact EffOut.skip ⟨w', e2, e3⟩
  case mapUpdate t x k y =>
    unfold eUpd at he
    split at he
    · rename_i x' k' y' hx hk hy
      obtain ⟨h1, h2⟩ := ho x _ hx
      obtain ⟨h3, h4⟩ := ho k _ hk
      obtain ⟨h5, h6⟩ := ho y _ hy
      cases hu : updB K H t x' k' y' with
      | none => simp [hu, effU] at he
      | some H1 =>
        simp only [hu, effU, Option.some.injEq] at he
        subst he
        simp only [execOp, h1, h3, h5]
        exact EffOut.skip (upd_run hK h h4 h6 hu)
    · cases he
  case insert t x k y =>
    unfold eUpd at he
    split at he
    · rename_i x' k' y' hx hk hy
      obtain ⟨h1, h2⟩ := ho x _ hx
      obtain ⟨h3, h4⟩ := ho k _ hk
      obtain ⟨h5, h6⟩ := ho y _ hy
      cases hu : updB K H t x' k' y' with
      | none => simp [hu, effU] at he
      | some H1 =>
        simp only [hu, effU, Option.some.injEq] at he
        subst he
        simp only [execOp, h1, h3, h5]
        exact EffOut.skip (upd_run hK h h4 h6 hu)
    · cases he
  case range t x =>
    unfold eRange at he
    split at he
    · rename_i x' hx
      obtain ⟨h1, h2⟩ := ho x _ hx
      unfold effV at he
      split at he
      · rename_i q hq
        obtain ⟨v, H1⟩ := q
        cases he
        simp only [execOp, h1]
        exact EffOut.val (range_run hK h hq)
      · cases he
    · cases he
  case next it b =>
    unfold eNext at he
    split at he
    · rename_i x' hx
      obtain ⟨h1, h2⟩ := ho it _ hx
      unfold effV at he
      split at he
      · rename_i q hq
        obtain ⟨v, H1⟩ := q
        cases he
        simp only [execOp, h1]
        exact EffOut.val (next_run h h2 hq)
      · cases he
    · cases he
  case call c =>
    have := eCallee_run (ty := type) hK hS h ho he
    simp only [execOp]; exact this
end
end Go.Eng
