/- The engine, seventeenth part: methods; every effect. -/
import Derived.Test.YtkpobofljnokaaaGreatEng16
import Derived.Laws.Externs
namespace Go.Eng
section
variable {K : Cfg} {ρ : Rho} {μ : Mu} {S : Ids} {H H' G : AH} {w : World} {P : Program} {r : Operand → Option AVal} {a : Act} {v : AVal}

theorem methB_find (name : String) : ∀ (l : List Method), methB name l = l.find? (·.name == name)
  | [] => rfl
  | m :: l => by
    simp only [methB, strEq, List.find?_cons, methB_find name l]
    cases m.name == name <;> rfl

theorem recv_run (hK : COK K) (h : Rel ρ μ S H w) {t : TypeId} {x rv : AVal} {ptr : Bool} {wr : Option String} (hx : VR ρ μ S x) (hr : recvB K H t x ptr = some rv) :
    (receiverAt t (.val (conc μ ρ x)) ptr wr).run K.P w = .ok (conc μ ρ rv) w ∧ VR ρ μ S rv := by
  unfold recvB at hr
  split at hr
  · rename_i e hu
    cases hr
    exact ⟨by simp [receiverAt, run_und hK hu, Place.get, Result.andThen], hx⟩
  · rename_i e hu
    split at hr
    · rename_i b o
      have hr' : loadB K H e b o = some rv := hr
      obtain ⟨h1, h2⟩ := run_loadB hK h (fun _ _ h => h) hr'
      refine ⟨?_, h2⟩
      have hp : conc μ ρ (.ptr b o) = .pointer (some ⟨(μ b).blk, (μ b).sh + o, none⟩) := by simp [conc]
      cases wr with
      | none => simp only [receiverAt, Sem.run_bind, run_und hK hu, Result.andThen_ok, Place.get, Sem.run_pure, hp, asAddr, h1]
      | some name =>
        have hw : ∀ s, Builtin.ssaWrapNilChk_ #[t] t #[.pointer (some ⟨(μ b).blk, (μ b).sh + o, none⟩), strVal "", strVal s] = pure (.pointer (some ⟨(μ b).blk, (μ b).sh + o, none⟩)) := fun _ => rfl
        simp only [receiverAt, Sem.run_bind, run_und hK hu, Result.andThen_ok, Place.get, Sem.run_pure, hp, hw, asAddr, h1]
    · cases hr
  · rename_i d hnp hu
    cases hr
    refine ⟨?_, hx⟩
    cases d <;> first | exact (hnp _ rfl).elim | simp [receiverAt, run_und hK hu, Place.get, Result.andThen]
  · cases hr

theorem method_run (hK : COK K) (h : Rel ρ μ S H w) {t : TypeId} {x rv : AVal} {i : TypeInfo} {me : Method} {f : FuncId} {ptr : Bool} {name : String} (hx : VR ρ μ S x) (hi : K.info t = some i)
    (hm : methB name i.methods.toList = some me) (hp : me.path.toList = []) (hf : me.func = some (f, ptr)) (hr : recvB K H t x ptr = some rv) (n : Nat) :
    (method (n + 1) t (conc μ ρ x) name).run K.P w = .ok (f, conc μ ρ rv) w ∧ VR ρ μ S rv := by
  rw [methB_find, Array.find?_toList] at hm
  obtain ⟨h1, h2⟩ := recv_run (wr := if me.path.isEmpty then some ((name.splitOn ".").getLastD name) else none) hK h hx hr
  refine ⟨?_, h2⟩
  unfold method
  simp only [Sem.run_bind, run_info hK hi, Result.andThen_ok, hm, hp, follow, Sem.run_pure, hf, h1]

/-- What an effect comes to: a call, or a value. -/
def EffOut (K : Cfg) (ρ : Rho) (μ : Mu) (S : Ids) (H : AH) (w : World) (s : Sem Next) : Job ⊕ (AVal × AH) → Prop
  | .inr (v, H') => ∃ μ' S' w', (s.run K.P w = .ok (.value (conc μ' ρ v)) w' ∨ (v = .undef ∧ s.run K.P w = .ok .skip w')) ∧ Step ρ μ S H w μ' S' H' w' ∧ VR ρ μ' S' v
  | .inl (.call f args) => s.run K.P w = (callFunc f (concs μ ρ args).toArray).run K.P w ∧ VRs ρ μ S args
  | .inl (.round l args) => s.run K.P w = (Instr.yield (μ l).blk (concs μ ρ args).toArray).run K.P w ∧ VRs ρ μ S args ∧ S l
  | .inl (.code _ _) => False

theorem EffOut.val {s : Sem Value} (h : EOut K ρ μ S H w v H' s) : EffOut K ρ μ S H w (do Pure.pure (Next.value (← s))) (.inr (v, H')) := by
  obtain ⟨μ', S', w', h1, h2, h3⟩ := h
  exact ⟨μ', S', w', .inl (by simp [h1]), h2, h3⟩

theorem EffOut.skip {s : Sem Unit} (h : ∃ w', s.run K.P w = .ok () w' ∧ Step ρ μ S H w μ S H' w') : EffOut K ρ μ S H w (do s; Pure.pure Next.skip) (.inr (.undef, H')) := by
  obtain ⟨w', h1, h2⟩ := h
  exact ⟨μ, S, w', .inr ⟨rfl, by simp [h1]⟩, h2, VR.undef⟩

theorem run_callFunc_ext (hK : COK K) {f : FuncId} {e : Ext} (he : extOf K.ext f = some e) (args : Array Value) :
    (callFunc f args).run K.P w = ((do Pure.pure (Next.value (← extFn e args))) : Sem Next).run K.P w := by
  obtain ⟨fn, h1, h2, h3, h4, h5⟩ := hK.ext f e he
  rw [run_callFunc_extern h1 h2 h3 h4 h5]
  simp

theorem callB_run (hK : COK K) (h : Rel ρ μ S H w) {f : FuncId} {args : List AVal} {j : Job ⊕ (AVal × AH)} (hv : VRs ρ μ S args) (hc : callB K H f args = some j) :
    EffOut K ρ μ S H w (callFunc f (concs μ ρ args).toArray) j := by
  unfold callB at hc
  split at hc
  · rename_i e he
    split at hc
    · rename_i q hx
      obtain ⟨v, H1⟩ := q
      cases hc
      obtain ⟨μ', S', w', h1, h2⟩ := (ext_run h hx).elim fun μ' h => h.elim fun S' h => h.elim fun w' h => (⟨μ', S', w', h⟩ : ∃ μ' S' w', (extFn e (concs μ ρ args).toArray).run K.P w = .ok (conc μ' ρ v) w' ∧ Step ρ μ S H w μ' S' H1 w' ∧ VR ρ μ' S' v)
      exact ⟨μ', S', w', .inl (by rw [run_callFunc_ext hK he]; simp [h1]), h2.1, h2.2⟩
    · cases hc
  · cases hc
    exact ⟨rfl, hv⟩
end
end Go.Eng
