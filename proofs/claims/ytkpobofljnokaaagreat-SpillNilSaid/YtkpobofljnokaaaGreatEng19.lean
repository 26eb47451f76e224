/- The engine, nineteenth part: what is to be shown of a job; one operation in a walk; regions in the order of the text. -/
import Derived.Test.YtkpobofljnokaaaGreatEng18
import Derived.Test.YtkpobofljnokaaaGreatEng2
import Derived.RangeFuncLeaves
import Derived.OrdersIn
import Derived.TacticsIn
import Derived.LoopNIn
import Derived.RangeFuncRecord
namespace Go.Eng

structure ERel (ρ : Rho) (μ : Mu) (S : Ids) (e : Env) (a : Act) : Prop where
  env : EnvRel ρ μ S e.n e.m a.tmps
  marks : a.defers = e.marks.map fun r => ({ target := .collected (μ r).blk, args := #[] } : Deferred)
  mem : ∀ r ∈ e.marks, S r

structure FOK (F : Fence) (inr : Bool) : Prop where
  fn : ∀ f, F.fn f
  depth : F.depth = none
  wide : ∀ P f args w R, CallsIn F 0 P f args w R ↔ CallsIn Fence.wide 0 P f args w R
  round : ∀ P l f tmps asg body w R, RoundIn F 0 P l f tmps asg body w R ↔ RoundIn Fence.wide 0 P l f tmps asg body w R
  inr : inr = false → F.round = none

theorem FOK.wide' : FOK Fence.wide false := ⟨fun _ => trivial, rfl, fun _ _ _ _ _ => Iff.rfl, fun _ _ _ _ _ _ _ _ => Iff.rfl, fun _ => rfl⟩
theorem FOK.inRound (l : Nat) : FOK (Fence.wide.inRound l) true := ⟨fun _ => trivial, rfl, fun _ _ _ _ _ => Iff.rfl, fun _ _ _ _ _ _ _ _ => Iff.rfl, fun h => by cases h⟩

def exitOf : AExit → Exit
  | .normal => .normal
  | .exit id => .exit id
  | .ret => .ret

/-- A walk; of a loop: of so many rounds. -/
def walk (F : Fence) (P : Program) (n : Nat) (Q : Exit → Act → World → Prop) (a : Act) (w : World) : Code → Prop
  | .loop c => Code.roundsIn F 0 P c Q n a w
  | c => c.wpIn F 0 P Q a w

theorem walk.wp {F : Fence} {P : Program} {n : Nat} {Q : Exit → Act → World → Prop} {a : Act} {w : World} {c : Code} (h : walk F P n Q a w c) : c.wpIn F 0 P Q a w := by
  cases c <;> first | exact wpIn_loop_rounds n h | exact h

/-- What a job's outcome tells of the machine. -/
def JobOK (K : Cfg) (ρ : Rho) (H : AH) (H' : AH) : Job → Out → Prop
  | .code c e, .done x e' => e'.inr = e.inr ∧ ∃ n, ∀ (μ : Mu) (S : Ids) (w : World) (a : Act) (F : Fence), Rel ρ μ S H w → ERel ρ μ S e a → FOK F e.inr → ∀ Q : Exit → Act → World → Prop,
      (∀ μ' S' a' w', Step ρ μ S H w μ' S' H' w' → ERel ρ μ' S' e' a' → Q (exitOf x) a' w') → walk F K.P n Q a w c
  | .call f args, .val v => ∀ (μ : Mu) (S : Ids) (w : World), Rel ρ μ S H w → VRs ρ μ S args → ∀ R : Ending → World → Prop,
      (∀ μ' S' w', Step ρ μ S H w μ' S' H' w' → VR ρ μ' S' v → R (.returned (conc μ' ρ v)) w') →
      (∀ args' : Array Value, (callFunc f args').run K.P w = .ok (.enter f args') w) ∧ CallsIn Fence.wide 0 K.P f (concs μ ρ args).toArray w R
  | .round l args, .val v => ∀ (μ : Mu) (S : Ids) (w : World), Rel ρ μ S H w → VRs ρ μ S args → S l → ∀ R : Ending → World → Prop,
      (∀ μ' S' w', Step ρ μ S H w μ' S' H' w' → VR ρ μ' S' v → R (.returned (conc μ' ρ v)) w') →
      ∃ fn tmps asg body, (Instr.yield (μ l).blk (concs μ ρ args).toArray).run K.P w = .ok (.round (μ l).blk fn tmps asg body) w ∧ RoundIn Fence.wide 0 K.P (μ l).blk fn tmps asg body w R
  | _, _ => False

def RecOK (K : Cfg) (ρ : Rho) (rec : Rec) : Prop := ∀ j H out H', rec j H = some (out, H') → JobOK K ρ H H' j out

section
variable {K : Cfg} {ρ : Rho} {μ μ' : Mu} {S S' : Ids} {H H' G : AH} {w : World} {r : Operand → Option AVal} {a : Act} {v : AVal} {F : Fence} {rec : Rec}

theorem ERel.up {e : Env} {T : Ids} (h : ERel ρ μ S e a) (hu : μ.upto S μ') (hs : S.le T) : ERel ρ μ' T e a :=
  ⟨h.env.up hu hs, by rw [h.marks]; exact List.map_congr_left fun r hr => by rw [hu r (h.mem r hr)], fun r hr => hs r (h.mem r hr)⟩

theorem ERel.put {e e' : Env} {d : Option Tmp} (h : ERel ρ μ S e a) (hv : VR ρ μ S v) (hp : e.put d v = some e') : ERel ρ μ S e' (a.put d (conc μ ρ v)) ∧ e'.inr = e.inr ∧ e'.n = e.n ∧ e'.marks = e.marks := by
  unfold Env.put at hp
  split at hp
  · cases hp; exact ⟨h, rfl, rfl, rfl⟩
  · rename_i t
    split at hp
    · rename_i hb
      cases hp
      have hlt : t < e.n := Nat.le_of_ble_eq_true hb
      exact ⟨⟨h.env.put hlt hv, h.marks, h.mem⟩, rfl, rfl, rfl⟩
    · cases hp

theorem conc_undef : conc μ ρ .undef = undef := by simp [AVal.undef, conc, concs, undef]

/-- One operation in a walk. -/
theorem op_ok (hK : COK K) (hS : SOK K ρ) (hrec : RecOK K ρ rec) {b : Bool} (hF : FOK F b) (h : Rel ρ μ S H w) (ho : ORel ρ μ S r a) {o : Oper} {id : Nat} (hid : ¬ S id) {next : Act → World → Prop} {Q : Exit → Act → World → Prop}
    (hop : (isEff o = true ∧ effR rec H (effB K H r o) = some (v, H') ∧ ∀ μ' S' w', Step ρ μ S H w μ' S' H' w' → VR ρ μ' S' v → next (a.put o.dst (conc μ' ρ v)) w') ∨
      (isEff o = false ∧ Sub G H ∧ valB K G id r o = some v ∧ ∃ ob, blkB K G id r o v = some ob ∧ ∀ μ' w', NOutN ρ μ S H w id v (.ok (.value (conc μ' ρ v)) w') ob → next (a.put o.dst (conc μ' ρ v)) w')) :
    o.wpIn F 0 K.P a w next Q := by
  have hnd : ∀ c, o.op ≠ .defer c := by
    intro c hc
    rcases hop with ⟨h1, _⟩ | ⟨_, _, h1, _⟩
    · unfold isEff at h1; rw [hc] at h1; cases h1
    · unfold valB at h1; rw [hc] at h1; cases h1
  refine ⟨fun f _ => hF.fn f, ?_⟩
  rw [Oper.semAt_eq F.round a.eval o hnd]
  rcases hop with ⟨_, h1, h2⟩ | ⟨_, hG, h1, ob, h2, h3⟩
  · unfold effR at h1
    split at h1
    · rename_i q hq
      cases h1
      obtain ⟨μ', S', w', hr, hs, hv⟩ := eff_run hK hS h ho hq
      rcases hr with hr | ⟨rfl, hr⟩
      · rw [hr]; exact h2 _ _ _ hs hv
      · rw [hr]; have := h2 _ _ _ hs hv; rw [conc_undef] at this; exact this
    · rename_i j hq
      split at h1
      · rename_i v1 H1 hj
        cases h1
        have hok := hrec _ _ _ _ hj
        have he := eff_run hK hS h ho hq
        cases j with
        | code c e => exact he.elim
        | call f args =>
          obtain ⟨e1, e2⟩ := he
          obtain ⟨q1, q2⟩ := hok μ S w h e2 (fun
              | .returned v, w'' => next (a.put o.dst v) w''
              | .panicked chain, w'' => Q (.panic chain) a w''
              | .outgrown, _ => LetsOut Q) h2
          rw [e1, q1]
          exact ⟨(fun hd => by rw [hF.depth] at hd; cases hd), (hF.wide _ _ _ _ _).2 q2⟩
        | round l args =>
          obtain ⟨e1, e2, e3⟩ := he
          obtain ⟨fn, tmps, asg, body, q1, q2⟩ := hok μ S w h e2 e3 (fun
              | .returned v, w'' => next (a.put o.dst v) w''
              | .panicked chain, w'' => Q (.panic chain) a w''
              | .outgrown, _ => LetsOut Q) h2
          rw [e1, q1]
          exact ⟨(fun hd => by rw [hF.depth] at hd; cases hd), (hF.round _ _ _ _ _ _ _ _).2 q2⟩
      · cases h1
    · cases h1
  · have hn := val_run hK hS h hG ho hid h1 h2
    cases ob with
    | none =>
      obtain ⟨w', e1, e2, e3⟩ := hn
      rw [e1]
      exact h3 μ w' ⟨w', rfl, e2, e3⟩
    | some bb =>
      obtain ⟨w', p, e1, e2⟩ := hn
      rw [e1]
      exact h3 _ w' ⟨w', p, rfl, e2⟩

theorem wanted_of {ops : List Oper} {m : PM AVal} {o : Oper} {b : Bool} {n : Nat} (he : EnvRel ρ μ S n m a.tmps) (hw : wantB ops m o = some b) : Region.wanted o (yielded ops.toArray a.tmps) = b := by
  unfold wantB at hw
  unfold Region.wanted
  split at hw
  · rename_i hg; cases hw; rw [hg]
  · rename_i j wnt hg
    rw [hg]
    have key : ∀ q, yieldB ops m j = some q → yielded ops.toArray a.tmps j = q := by
      intro q hq
      unfold yieldB at hq
      unfold yielded
      split at hq
      · rename_i oj hj
        rw [nth_eq] at hj
        split at hq
        · rename_i t ht
          split at hq
          · rename_i bb hm
            cases hq
            have := (he.get t _ hm).1
            simp [hj, ht, this, conc]
          · rename_i hm
            cases hq
            have := (he.get t _ hm).1
            simp [hj, ht, this, conc, concs]
          · cases hq
        · cases hq
      · cases hq
    split at hw
    · rename_i bb hy
      cases hw
      show (yielded ops.toArray a.tmps j == some wnt) = _
      rw [key _ hy]
      cases bb <;> cases wnt <;> rfl
    · rename_i hy
      cases hw
      show (yielded ops.toArray a.tmps j == some wnt) = _
      rw [key _ hy]
      rfl
    · cases hw

theorem plain_ok (hK : COK K) (hS : SOK K ρ) (hrec : RecOK K ρ rec) {ops : List Oper} {Q : Exit → Act → World → Prop} {inr : Bool} (hF : FOK F inr) : ∀ (l : List Oper) (e : Env) (H : AH) (e' : Env) (H' : AH) (μ : Mu) (S : Ids) (w : World) (a : Act),
    plainB K rec ops l e H = some (e', H') → Rel ρ μ S H w → ERel ρ μ S e a →
    (∀ μ' S' a' w', Step ρ μ S H w μ' S' H' w' → ERel ρ μ' S' e' a' → Q .normal a' w') → wpListIn F 0 K.P ops.toArray Q l a w
  | [], e, H, e', H', μ, S, w, a, hp, h, he, hQ => by
    cases hp
    exact hQ _ _ _ _ (Step.refl h) he
  | o :: l, e, H, e', H', μ, S, w, a, hp, h, he, hQ => by
    unfold plainB at hp
    split at hp
    · rename_i e1 H1 h1
      unfold oneB' at h1
      have cont : ∀ μ1 S1 w1 v1, Step ρ μ S H w μ1 S1 H1 w1 → VR ρ μ1 S1 v1 → e.put o.dst v1 = some e1 → wpListIn F 0 K.P ops.toArray Q l (a.put o.dst (conc μ1 ρ v1)) w1 := by
        intro μ1 S1 w1 v1 hs hv hput
        obtain ⟨q1, _⟩ := (he.up hs.up hs.sub).put hv hput
        exact plain_ok hK hS hrec hF l e1 H1 e' H' μ1 S1 w1 _ hp hs.rel q1 fun μ2 S2 a2 w2 hs2 he2 => hQ _ _ _ _ (hs.trans hs2) he2
      simp only [wpListIn]
      split at h1
      · rename_i hw
        rw [wanted_of he.env hw]
        simp only [if_true]
        unfold putR at h1
        split at h1
        · rename_i v1 H2 hop
          split at h1
          · rename_i e2 hput
            cases h1
            unfold opB at hop
            split at hop
            · rename_i heff
              exact op_ok (G := H) (id := H.next) hK hS hrec hF h he.env.orel (fun hs => Nat.lt_irrefl _ (h.bnd _ hs)) (.inl ⟨heff, hop, fun μ1 S1 w1 hs hv => cont _ _ _ _ hs hv hput⟩)
            · rename_i heff
              unfold valO at hop
              split at hop
              · rename_i v2 hv2
                unfold valR at hop
                split at hop
                · rename_i hb
                  cases hop
                  refine op_ok (H' := H) hK hS hrec hF h he.env.orel (fun hs => Nat.lt_irrefl _ (h.bnd _ hs)) (.inr ⟨heff, fun _ _ q => q, hv2, _, hb, fun μ1 w1 hn => ?_⟩)
                  obtain ⟨w2, e3, e4, e5⟩ := hn
                  simp only [Result.ok.injEq, Next.value.injEq] at e3
                  obtain ⟨e3, rfl⟩ := e3
                  rw [e3]
                  exact cont _ _ _ _ e5 e4 hput
                · rename_i bb hb
                  cases hop
                  refine op_ok (H' := H) hK hS hrec hF h he.env.orel (fun hs => Nat.lt_irrefl _ (h.bnd _ hs)) (.inr ⟨heff, fun _ _ q => q, hv2, _, hb, fun μ1 w1 hn => ?_⟩)
                  obtain ⟨w2, p, e3, e4, e5, e6, e7, e8, e9, e10, e11⟩ := hn
                  simp only [Result.ok.injEq, Next.value.injEq] at e3
                  obtain ⟨e3, rfl⟩ := e3
                  rw [e3]
                  exact cont _ _ _ _ (Step.alloc h e5 e6 e7 e8 e9 e10 e11) e4 hput
                · cases hop
              · cases hop
          · cases h1
        · cases h1
      · rename_i hw
        rw [wanted_of he.env hw]
        simp only [Bool.false_eq_true, if_false]
        unfold putR at h1
        split at h1
        · rename_i v1 H2 hop
          cases hop
          split at h1
          · rename_i e2 hput
            cases h1
            refine ⟨fun f _ => hF.fn f, ?_⟩
            have := cont μ S w .undef (Step.refl h) VR.undef hput
            rwa [conc_undef] at this
          · cases h1
        · cases h1
      · cases h1
    · cases hp

theorem plainB_inr {ops : List Oper} : ∀ (l : List Oper) (e : Env) (H : AH) (e' : Env) (H' : AH), plainB K rec ops l e H = some (e', H') → e'.inr = e.inr
  | [], e, H, e', H', hp => by cases hp; rfl
  | o :: l, e, H, e', H', hp => by
    unfold plainB at hp
    split at hp
    · rename_i e1 H1 h1
      have hput : ∀ d v e2, e.put d v = some e2 → e2.inr = e.inr := by
        intro d v e2 h
        unfold Env.put at h
        split at h
        · cases h; rfl
        · split at h
          · cases h; rfl
          · cases h
      rw [plainB_inr l e1 H1 e' H' hp]
      unfold oneB' at h1
      split at h1
      · unfold putR at h1
        split at h1
        · split at h1
          · rename_i hq; cases h1; exact hput _ _ _ hq
          · cases h1
        · cases h1
      · unfold putR at h1
        split at h1
        · split at h1
          · rename_i hq; cases h1; exact hput _ _ _ hq
          · cases h1
        · cases h1
      · cases h1
    · cases hp
end
end Go.Eng
