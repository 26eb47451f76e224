/- The engine, thirty-second part: pieces of code put together: one behind the other, loops, a function's body; states in canonical words between them. -/
import Derived.Test.YtkpobofljnokaaaGreatEng31
namespace Go.Eng

def JobX (P : Program) (ρ : Rho) (H : AH) (ρ' : Rho) (H' : AH) : Job → Out → Prop
  | .code c e, .done x e' => e'.inr = e.inr ∧ ∃ n, ∀ (μ : Mu) (S : Ids) (w : World) (a : Act) (F : Fence), Rel ρ μ S H w → ERel ρ μ S e a → FOK F e.inr → ∀ Q : Exit → Act → World → Prop,
      (∀ μ' S' a' w', Mov μ S H w μ' S' H' w' → Rel ρ' μ' S' H' w' → ERel ρ' μ' S' e' a' → Q (exitOf x) a' w') → walk F P n Q a w c
  | .call f args, .val v => ∀ (μ : Mu) (S : Ids) (w : World), Rel ρ μ S H w → VRs ρ μ S args → ∀ R : Ending → World → Prop,
      (∀ μ' S' w', Mov μ S H w μ' S' H' w' → Rel ρ' μ' S' H' w' → VR ρ' μ' S' v → R (.returned (conc μ' ρ' v)) w') →
      (∀ args' : Array Value, (callFunc f args').run P w = .ok (.enter f args') w) ∧ CallsIn Fence.wide 0 P f (concs μ ρ args).toArray w R
  | _, _ => False

section
variable {K : Cfg} {P : Program} {ρ ρ0 ρ1 ρ2 : Rho} {H H0 H1 H2 H' : AH} {c d : Code} {e e0 e1 e2 : Env} {x y : AExit} {f : FuncId} {args : List AVal} {v : AVal} {out : Out}

theorem JobX.of_code (h : JobOK K ρ H H' (.code c e) out) : JobX K.P ρ H ρ H' (.code c e) out := by
  obtain ⟨x, e', rfl, hi, n, h⟩ := h.code
  exact ⟨hi, n, fun μ S w a F hR hE hF Q hQ => h μ S w a F hR hE hF Q fun μ' S' a' w' hs hE' => hQ μ' S' a' w' hs.mov hs.rel hE'⟩

theorem JobX.of_call (h : JobOK K ρ H H' (.call f args) (.val v)) : JobX K.P ρ H ρ H' (.call f args) (.val v) :=
  fun μ S w hR hv R hRR => h μ S w hR hv R fun μ' S' w' hs hv' => hRR μ' S' w' hs.mov hs.rel hv'

theorem JobX.call_ok (h : JobX K.P ρ H ρ H' (.call f args) (.val v)) : JobOK K ρ H H' (.call f args) (.val v) :=
  fun μ S w hR hv R hRR => h μ S w hR hv R fun μ' S' w' hm hr hv' => hRR μ' S' w' (hm.step hr) hv'

theorem JobX.run (hK : COK K) (hS : SOK K ρ) (hU : SumOK K ρ) {n : Nat} (h : evk K n (.code c e) H = some (out, H')) : JobX K.P ρ H ρ H' (.code c e) out := by
  rw [evk_eq] at h
  exact JobX.of_code (ev_ok hK hS hU n _ _ _ _ h)

theorem JobX.runCall (hK : COK K) (hS : SOK K ρ) (hU : SumOK K ρ) {n : Nat} (h : evk K n (.call f args) H = some (.val v, H')) : JobX K.P ρ H ρ H' (.call f args) (.val v) := by
  rw [evk_eq] at h
  exact JobX.of_call (ev_ok hK hS hU n _ _ _ _ h)

/-- From a walk to a job. -/
theorem JobX.of (hi : e1.inr = e.inr) (hc : ∀ c', c ≠ .loop c') (h : ∀ (μ : Mu) (S : Ids) (w : World) (a : Act) (F : Fence), Rel ρ μ S H w → ERel ρ μ S e a → FOK F e.inr → ∀ Q : Exit → Act → World → Prop,
    (∀ μ' S' a' w', Mov μ S H w μ' S' H' w' → Rel ρ1 μ' S' H' w' → ERel ρ1 μ' S' e1 a' → Q (exitOf x) a' w') → c.wpIn F 0 P Q a w) : JobX P ρ H ρ1 H' (.code c e) (.done x e1) := by
  refine ⟨hi, 0, fun μ S w a F h1 h2 h3 Q hQ => ?_⟩
  have := h μ S w a F h1 h2 h3 Q hQ
  cases c <;> first | exact absurd rfl (hc _) | exact this

theorem JobX.seq (h1 : JobX P ρ H ρ1 H1 (.code c e) (.done .normal e1)) (h2 : JobX P ρ1 H1 ρ2 H2 (.code d e1) (.done x e2)) : JobX P ρ H ρ2 H2 (.code (.seq c d) e) (.done x e2) := by
  obtain ⟨hi1, n1, h1⟩ := h1
  obtain ⟨hi2, n2, h2⟩ := h2
  refine JobX.of (hi2.trans hi1) (by simp) fun μ S w a F hR hE hF Q hQ => ?_
  refine wpIn_seq (walk.wp (h1 μ S w a F hR hE hF _ fun μ1 S1 a1 w1 m1 r1 hE1 => ?_))
  exact walk.wp (h2 μ1 S1 w1 a1 F r1 hE1 (hi1 ▸ hF) Q fun μ2 S2 a2 w2 m2 r2 hE2 => hQ _ _ _ _ (m1.trans m2) r2 hE2)

theorem JobX.seqExit (hx : x ≠ .normal) (h1 : JobX P ρ H ρ1 H1 (.code c e) (.done x e1)) : JobX P ρ H ρ1 H1 (.code (.seq c d) e) (.done x e1) := by
  obtain ⟨hi1, n1, h1⟩ := h1
  refine JobX.of hi1 (by simp) fun μ S w a F hR hE hF Q hQ => ?_
  refine wpIn_seq (walk.wp (h1 μ S w a F hR hE hF _ fun μ1 S1 a1 w1 m1 r1 hE1 => ?_))
  have := hQ _ _ _ _ m1 r1 hE1
  cases x with
  | normal => exact absurd rfl hx
  | exit id => exact this
  | ret => exact this

theorem JobX.loopNext (h1 : JobX P ρ H ρ1 H1 (.code c e) (.done .normal e1)) (h2 : JobX P ρ1 H1 ρ2 H2 (.code (.loop c) e1) (.done x e2)) : JobX P ρ H ρ2 H2 (.code (.loop c) e) (.done x e2) := by
  obtain ⟨hi1, n1, h1⟩ := h1
  obtain ⟨hi2, n2, h2⟩ := h2
  refine ⟨hi2.trans hi1, n2 + 1, fun μ S w a F hR hE hF Q hQ => ?_⟩
  exact walk.wp (h1 μ S w a F hR hE hF _ fun μ1 S1 a1 w1 m1 r1 hE1 => h2 μ1 S1 w1 a1 F r1 hE1 (hi1 ▸ hF) Q fun μ2 S2 a2 w2 m2 r2 hE2 => hQ _ _ _ _ (m1.trans m2) r2 hE2)

theorem JobX.loopEnd (hx : x ≠ .normal) (h1 : JobX P ρ H ρ1 H1 (.code c e) (.done x e1)) : JobX P ρ H ρ1 H1 (.code (.loop c) e) (.done x e1) := by
  obtain ⟨hi1, n1, h1⟩ := h1
  refine ⟨hi1, 1, fun μ S w a F hR hE hF Q hQ => ?_⟩
  refine walk.wp (h1 μ S w a F hR hE hF _ fun μ1 S1 a1 w1 m1 r1 hE1 => ?_)
  have := hQ _ _ _ _ m1 r1 hE1
  cases x with
  | normal => exact absurd rfl hx
  | exit id => exact this
  | ret => exact this

theorem JobX.cond {o : Operand} (ho : opd e.m o = some (.bool true)) (h1 : JobX P ρ H ρ1 H1 (.code c e) (.done x e1)) : JobX P ρ H ρ1 H1 (.code (.cond o c d) e) (.done x e1) := by
  obtain ⟨hi1, n1, h1⟩ := h1
  refine JobX.of hi1 (by simp) fun μ S w a F hR hE hF Q hQ => ?_
  exact wpIn_cond_true (by rw [(hE.env.orel o _ ho).1]; simp [conc]) (walk.wp (h1 μ S w a F hR hE hF Q hQ))
theorem JobX.condF {o : Operand} (ho : opd e.m o = some (.bool false)) (h1 : JobX P ρ H ρ1 H1 (.code d e) (.done x e1)) : JobX P ρ H ρ1 H1 (.code (.cond o c d) e) (.done x e1) := by
  obtain ⟨hi1, n1, h1⟩ := h1
  refine JobX.of hi1 (by simp) fun μ S w a F hR hE hF Q hQ => ?_
  exact wpIn_cond_false (by rw [(hE.env.orel o _ ho).1]; simp [conc]) (walk.wp (h1 μ S w a F hR hE hF Q hQ))

/-- What a block makes of an exit. -/
def inBlock (id : Nat) : AExit → AExit
  | .exit j => match Nat.beq j id with
    | true => .normal
    | false => .exit j
  | x => x

theorem JobX.block {id : Nat} (h1 : JobX P ρ H ρ1 H1 (.code c e) (.done x e1)) : JobX P ρ H ρ1 H1 (.code (.block id c) e) (.done (inBlock id x) e1) := by
  obtain ⟨hi1, n1, h1⟩ := h1
  refine JobX.of hi1 (by simp) fun μ S w a F hR hE hF Q hQ => ?_
  refine wpIn_block (walk.wp (h1 μ S w a F hR hE hF _ fun μ1 S1 a1 w1 m1 r1 hE1 => ?_))
  have := hQ _ _ _ _ m1 r1 hE1
  cases x with
  | normal => exact this
  | ret => exact this
  | exit j =>
    cases hj : Nat.beq j id with
    | true =>
      have hj' := Nat.eq_of_beq_eq_true hj
      simp only [inBlock, hj] at this
      simpa [exitOf, Exit.inBlock, hj'] using this
    | false =>
      simp only [inBlock, hj] at this
      have hne := Nat.ne_of_beq_eq_false hj
      simpa [exitOf, Exit.inBlock, hne] using this

/-! ### States in canonical words -/
def camSlots (r : Ren) (m : PM AVal) : List (Nat × AVal) → Option Pairs
  | [] => some []
  | (t, v) :: l => match m.get t with
    | some v1 => both2 (camV r v1 v) (camSlots r m l)
    | none => none

def camMarks (r : Ren) : List Nat → List Nat → Bool
  | [], [] => true
  | a :: l, b :: l' => sameId (r.get b) a && camMarks r l l'
  | _, _ => false

/-- A state: slots, marks, blocks. -/
structure St where
  n : Nat
  slots : List (Nat × AVal)
  marks : List Nat
  inr : Bool
  next : Nat
  blks : List (Nat × ABlk)

def St.env (s : St) : Env := ⟨s.n, slotsOf s.slots, s.marks, s.inr⟩
def St.heap (s : St) : AH := AH.of s.next s.blks

def canSt (r : Ren) (e : Env) (H : AH) (s : St) : Option Pairs :=
  match r.ok s.next, Nat.beq e.n s.n, camMarks r e.marks s.marks, beq2 e.inr s.inr with
  | true, true, true, true => both2 (camSlots r e.m s.slots) (camBs r H s.blks)
  | _, _, _, _ => none

theorem camSlots_mem {r : Ren} {m : PM AVal} : ∀ {l : List (Nat × AVal)} {p : Pairs}, camSlots r m l = some p → ∀ t v, (t, v) ∈ l → ∃ v1 q, m.get t = some v1 ∧ camV r v1 v = some q ∧ ∀ z ∈ q, z ∈ p
  | [], p, _, t, v, h => by cases h
  | (t', v') :: l, p, h, t, v, hm => by
    unfold camSlots at h
    split at h
    · rename_i v1 h1
      obtain ⟨x, y, g1, g2, rfl⟩ := both2_some h
      cases hm with
      | head => exact ⟨v1, x, h1, g1, fun z hz => List.mem_append_left _ hz⟩
      | tail _ hm =>
        obtain ⟨v2, q, k1, k2, k3⟩ := camSlots_mem g2 t v hm
        exact ⟨v2, q, k1, k2, fun z hz => List.mem_append_right _ (k3 z hz)⟩
    · cases h

theorem camMarks_sound {r : Ren} {μ : Mu} {S : Ids} : ∀ {l l' : List Nat}, camMarks r l l' = true → (∀ x ∈ l, S x) → (l'.map fun x => ((r.mu μ) x).blk) = l.map (fun x => (μ x).blk) ∧ ∀ x ∈ l', r.ids S x
  | [], [], _, _ => ⟨rfl, fun _ h => by cases h⟩
  | [], _ :: _, h, _ => by simp [camMarks] at h
  | _ :: _, [], h, _ => by simp [camMarks] at h
  | a :: l, b :: l', h, hS => by
    simp only [camMarks, Bool.and_eq_true] at h
    have e := sameId_eq h.1
    obtain ⟨g1, g2⟩ := camMarks_sound (μ := μ) h.2 fun x hx => hS x (.tail _ hx)
    refine ⟨by simp [Ren.mu_some e, g1], fun x hx => ?_⟩
    cases hx with
    | head => exact Ren.ids_some e (hS a (.head _))
    | tail _ hx => exact g2 x hx

theorem canSt_sound (ho : ρ2.o = ρ1.o) {r : Ren} {s : St} {p : Pairs} (hc : canSt r e H s = some p) (ha : Agrees ρ1 ρ2 p) {μ0 μ : Mu} {S0 S : Ids} {w0 w : World} (hb0 : H0.next ≤ r.base) (hbnd : ∀ id, S0 id → id < H0.next)
    (hm : Mov μ0 S0 H0 w0 μ S H w) (hR : Rel ρ1 μ S H w) {a : Act} (hE : ERel ρ1 μ S e a) : Mov μ0 S0 H0 w0 (r.mu μ) (r.ids S) s.heap w ∧ Rel ρ2 (r.mu μ) (r.ids S) s.heap w ∧ ERel ρ2 (r.mu μ) (r.ids S) s.env a ∧ s.inr = e.inr := by
  unfold canSt at hc
  split at hc
  · rename_i h1 h2 h3 h4
    obtain ⟨x, y, g1, g2, rfl⟩ := both2_some hc
    have R := Ren.ok_sound h1
    have hn : ∀ i ∈ r.nils, r.get i = none := fun i hi => (R.nil i hi).1
    obtain ⟨k1, k2, k3⟩ := canon_rel ho h1 g2 ha.right hR
    have h2 := Nat.eq_of_beq_eq_true h2
    rw [beq2_eq] at h4
    simp at h4
    obtain ⟨m1, m2⟩ := camMarks_sound (μ := μ) h3 hE.mem
    refine ⟨canon_mov h1 hb0 hbnd k2 k3 hm, k1, ⟨⟨?_, fun t v hv => ?_⟩, ?_, m2⟩, h4.symm⟩
    · show s.n ≤ _; rw [← h2]; exact hE.env.size
    · obtain ⟨v1, q, q1, q2, q3⟩ := camSlots_mem g1 t v (foldr_get hv)
      obtain ⟨z1, z2⟩ := hE.env.get t v1 q1
      obtain ⟨z3, z4⟩ := camV_sound hn v1 v q q2 (fun z hz => ha z (List.mem_append_left _ (q3 z hz))) z2
      exact ⟨by rw [z3]; exact z1, z4⟩
    · rw [hE.marks]
      have : ∀ (l l' : List Nat) (m m' : Mu), l'.map (fun x => (m' x).blk) = l.map (fun x => (m x).blk) → l.map (fun r => ({ target := .collected (m r).blk, args := #[] } : Deferred)) = l'.map fun r => { target := .collected (m' r).blk, args := #[] } := by
        intro l
        induction l with
        | nil => intro l' m m' h; cases l' <;> simp at h ⊢
        | cons a l ih =>
          intro l' m m' h
          cases l' with
          | nil => simp at h
          | cons b l' => simp at h; simp [h.1, ih l' m m' h.2]
      exact this _ _ _ _ m1
  · cases hc

theorem JobX.post (h : JobX P ρ H ρ1 H1 (.code c e) (.done x e1)) (ho : ρ2.o = ρ1.o) {r : Ren} {s : St} {p : Pairs} (hb : H.next ≤ r.base) (hc : canSt r e1 H1 s = some p) (ha : Agrees ρ1 ρ2 p) :
    JobX P ρ H ρ2 s.heap (.code c e) (.done x s.env) := by
  obtain ⟨hi, n, h⟩ := h
  have hinr : s.inr = e1.inr := by
    unfold canSt at hc
    split at hc
    · rename_i h4
      rw [beq2_eq] at h4
      simp at h4
      exact h4.symm
    · cases hc
  refine ⟨hinr.trans hi, n, fun μ S w a F hR hE hF Q hQ => h μ S w a F hR hE hF Q fun μ1 S1 a1 w1 m1 r1 hE1 => ?_⟩
  obtain ⟨g1, g2, g3, _⟩ := canSt_sound ho hc ha hb hR.bnd m1 r1 hE1
  exact hQ _ _ _ _ g1 g2 g3

theorem JobX.pre {r : Ren} {s : St} {p : Pairs} (hb : H.next ≤ r.base) (hc : canSt r e H s = some p) (ha : Agrees ρ ρ1 p) (ho : ρ1.o = ρ.o) (h : JobX P ρ1 s.heap ρ2 H2 (.code c s.env) (.done x e2)) :
    JobX P ρ H ρ2 H2 (.code c e) (.done x e2) := by
  obtain ⟨hi, n, h⟩ := h
  have hinr : s.inr = e.inr := by
    unfold canSt at hc
    split at hc
    · rename_i h4
      rw [beq2_eq] at h4
      simp at h4
      exact h4.symm
    · cases hc
  refine ⟨hi.trans hinr, n, fun μ S w a F hR hE hF Q hQ => ?_⟩
  obtain ⟨g1, g2, g3, _⟩ := canSt_sound ho hc ha hb hR.bnd Mov.refl hR hE
  exact h _ _ _ _ F g2 g3 (by show FOK F s.inr; rw [hinr]; exact hF) Q fun μ' S' a' w' m' r' hE' => hQ _ _ _ _ (g1.trans m') r' hE'

/-! ### Which terms may differ -/
mutual
def lowT (N : Nat) : Tm → Bool
  | .lit _ => true
  | .sym i => Nat.blt i N
  | .op _ l => lowTs N l
  | .fn _ l => lowTs N l
def lowTs (N : Nat) : List Tm → Bool
  | [] => true
  | t :: l => match lowT N t with
    | true => lowTs N l
    | false => false
end

mutual
theorem lowT_ev {N : Nat} (hs : ∀ i, i < N → ρ1.s i = ρ2.s i) (hf : ρ1.f = ρ2.f) : ∀ (t : Tm), lowT N t = true → t.ev ρ1 = t.ev ρ2
  | .lit _, _ => by simp [Tm.ev]
  | .sym i, h => by simp only [lowT] at h; simp [Tm.ev, hs i (Nat.le_of_ble_eq_true h)]
  | .op o l, h => by simp only [lowT] at h; simp [Tm.ev, lowTs_ev hs hf l h]
  | .fn o l, h => by simp only [lowT] at h; simp [Tm.ev, lowTs_ev hs hf l h, hf]
theorem lowTs_ev {N : Nat} (hs : ∀ i, i < N → ρ1.s i = ρ2.s i) (hf : ρ1.f = ρ2.f) : ∀ (l : List Tm), lowTs N l = true → Tm.evs ρ1 l = Tm.evs ρ2 l
  | [], _ => by simp [Tm.evs]
  | t :: l, h => by
    simp only [lowTs] at h
    split at h
    · rename_i h1; simp [Tm.evs, lowT_ev hs hf t h1, lowTs_ev hs hf l h]
    · cases h
end

def memP (q : Tm × Tm) : Pairs → Bool
  | [] => false
  | (a, b) :: l => match teq q.1 a, teq q.2 b with
    | true, true => true
    | _, _ => memP q l

/-- Each pair is one term, of low symbols, or one of those that are wanted. -/
def pairsOK (N : Nat) (want : Pairs) : Pairs → Bool
  | [] => true
  | (a, b) :: l => match (teq a b && lowT N a) || memP (a, b) want with
    | true => pairsOK N want l
    | false => false

theorem memP_mem {q : Tm × Tm} : ∀ {l : Pairs}, memP q l = true → q ∈ l
  | [], h => by cases h
  | (a, b) :: l, h => by
    unfold memP at h
    split at h
    · rename_i h1 h2
      have e : q = (a, b) := Prod.ext (teq_eq _ _ h1) (teq_eq _ _ h2)
      rw [e]; exact .head _
    · exact .tail _ (memP_mem h)

/-- Two readings of the names that are alike below a bound. -/
structure Alike (N : Nat) (ρ1 ρ2 : Rho) : Prop where
  s : ∀ i, i < N → ρ1.s i = ρ2.s i
  f : ρ1.f = ρ2.f
  o : ρ2.o = ρ1.o

theorem Alike.refl {N : Nat} : Alike N ρ ρ := ⟨fun _ _ => rfl, rfl, rfl⟩

theorem pairsOK_sound {N : Nat} {want : Pairs} (hs : Alike N ρ1 ρ2) (hw : Agrees ρ1 ρ2 want) : ∀ {p : Pairs}, pairsOK N want p = true → Agrees ρ1 ρ2 p
  | [], _ => fun _ h => by cases h
  | (a, b) :: l, h => by
    unfold pairsOK at h
    split at h
    · rename_i h1
      intro q hq
      cases hq with
      | head =>
        simp only [Bool.or_eq_true, Bool.and_eq_true] at h1
        rcases h1 with ⟨h2, h3⟩ | h2
        · show a.ev ρ1 = b.ev ρ2
          rw [← teq_eq _ _ h2]; exact lowT_ev hs.s hs.f a h3
        · exact hw _ (memP_mem h2)
      | tail _ hq => exact pairsOK_sound hs hw h q hq
    · cases h

def pairsB (N : Nat) (want : Pairs) : Option Pairs → Bool
  | some p => pairsOK N want p
  | none => false

/-! ### One run, told in canonical words -/
def runCanB (r : Ren) (s : St) (x : AExit) (N : Nat) (want : Pairs) : Option (Out × AH) → Bool
  | some (.done y e, H) => (match x, y with
    | .normal, .normal => true
    | .ret, .ret => true
    | .exit i, .exit j => Nat.beq i j
    | _, _ => false) && pairsB N want (canSt r e H s)
  | _ => false

noncomputable def runCan (K : Cfg) (n : Nat) (c : Code) (s0 : St) (r : Ren) (s : St) (x : AExit) (N : Nat) (want : Pairs) : Bool :=
  Nat.ble s0.next r.base && runCanB r s x N want (evk K n (.code c s0.env) s0.heap)

theorem runCanB_some {r : Ren} {s : St} {N : Nat} {want : Pairs} {o : Option (Out × AH)} (h : runCanB r s x N want o = true) : ∃ e H p, o = some (.done x e, H) ∧ canSt r e H s = some p ∧ pairsOK N want p = true := by
  unfold runCanB at h
  split at h
  · rename_i y e H
    simp only [Bool.and_eq_true] at h
    obtain ⟨h1, h2⟩ := h
    have hxy : x = y := by
      cases x <;> cases y <;> simp at h1 <;> first | rfl | rw [h1]
    subst hxy
    unfold pairsB at h2
    split at h2
    · rename_i p hp
      exact ⟨e, H, p, rfl, hp, h2⟩
    · cases h2
  · cases h

theorem JobX.ofRun (hK : COK K) (hS : SOK K ρ) (hU : SumOK K ρ) {n : Nat} {s0 s : St} {r : Ren} {N : Nat} {want : Pairs} (h : runCan K n c s0 r s x N want = true) (hs : Alike N ρ ρ1) (hw : Agrees ρ ρ1 want) :
    JobX K.P ρ s0.heap ρ1 s.heap (.code c s0.env) (.done x s.env) := by
  simp only [runCan, Bool.and_eq_true] at h
  obtain ⟨h1, h2⟩ := h
  obtain ⟨e, H, p, g1, g2, g3⟩ := runCanB_some h2
  exact (JobX.run hK hS hU g1).post hs.o (Nat.le_of_ble_eq_true h1) g2 (pairsOK_sound hs hw g3)

/-- A state that is told in other words. -/
noncomputable def reCan (s0 : St) (r : Ren) (s : St) (N : Nat) (want : Pairs) : Bool :=
  Nat.ble s0.next r.base && pairsB N want (canSt r s0.env s0.heap s)

theorem JobX.preRe {s0 s : St} {r : Ren} {N : Nat} {want : Pairs} (h : reCan s0 r s N want = true) (hs : Alike N ρ ρ1) (hw : Agrees ρ ρ1 want) (hj : JobX P ρ1 s.heap ρ2 H2 (.code c s.env) (.done x e2)) :
    JobX P ρ s0.heap ρ2 H2 (.code c s0.env) (.done x e2) := by
  simp only [reCan, Bool.and_eq_true] at h
  obtain ⟨h1, h2⟩ := h
  unfold pairsB at h2
  split at h2
  · rename_i p hp
    exact JobX.pre (Nat.le_of_ble_eq_true h1) hp (pairsOK_sound hs hw h2) hs.o hj
  · cases h2

/-! ### A piece within a code -/
inductive Dir where
  | l
  | r
  | b
  | t
  | f

def Code.at : Code → List Dir → Option Code
  | c, [] => some c
  | .seq a _, .l :: p => Code.at a p
  | .seq _ b, .r :: p => Code.at b p
  | .block _ c, .b :: p => Code.at c p
  | .cond _ a _, .t :: p => Code.at a p
  | .cond _ _ b, .f :: p => Code.at b p
  | _, _ => none

/-- All that is done ahead of a piece. -/
noncomputable def preTo (K : Cfg) (n : Nat) : Code → List Dir → Env → AH → Option (Env × AH)
  | _, [], e, H => some (e, H)
  | .seq a _, .l :: p, e, H => preTo K n a p e H
  | .seq a b, .r :: p, e, H => match evk K n (.code a e) H with
    | some (.done .normal e1, H1) => preTo K n b p e1 H1
    | _ => none
  | .block _ c, .b :: p, e, H => preTo K n c p e H
  | .cond o a _, .t :: p, e, H => match opd e.m o with
    | some (.bool true) => preTo K n a p e H
    | _ => none
  | .cond o _ b, .f :: p, e, H => match opd e.m o with
    | some (.bool false) => preTo K n b p e H
    | _ => none
  | _, _, _, _ => none

/-- All that is done behind it. -/
noncomputable def postFrom (K : Cfg) (n : Nat) : Code → List Dir → AExit → Env → AH → Option (AExit × Env × AH)
  | _, [], x, e, H => some (x, e, H)
  | .seq a b, .l :: p, x, e, H => match postFrom K n a p x e H with
    | some (.normal, e1, H1) => match evk K n (.code b e1) H1 with
      | some (.done y e2, H2) => some (y, e2, H2)
      | _ => none
    | q => q
  | .seq _ b, .r :: p, x, e, H => postFrom K n b p x e H
  | .block id c, .b :: p, x, e, H => match postFrom K n c p x e H with
    | some (y, e1, H1) => some (inBlock id y, e1, H1)
    | none => none
  | .cond _ a _, .t :: p, x, e, H => postFrom K n a p x e H
  | .cond _ _ b, .f :: p, x, e, H => postFrom K n b p x e H
  | _, _, _, _, _ => none

theorem JobX.within (hK : COK K) (hS : SOK K ρ) (hU : SumOK K ρ) {K1 : Cfg} (hK1 : COK K1) (hS1 : SOK K1 ρ1) (hU1 : SumOK K1 ρ1) (hP : K1.P = K.P) {n m : Nat} {q : Code} : ∀ (c : Code) (p : List Dir) (e : Env) (H : AH) (y : AExit) (e2 : Env) (H2 : AH), Code.at c p = some q →
    preTo K n c p e H = some (e0, H0) → JobX K.P ρ H0 ρ1 H1 (.code q e0) (.done x e1) → postFrom K1 m c p x e1 H1 = some (y, e2, H2) → JobX K.P ρ H ρ1 H2 (.code c e) (.done y e2)
  | c, [], e, H, y, e2, H2, hq, h0, hj, h1 => by
    simp only [Code.at, Option.some.injEq] at hq
    subst hq
    simp only [preTo, Option.some.injEq, Prod.mk.injEq] at h0
    obtain ⟨rfl, rfl⟩ := h0
    simp only [postFrom, Option.some.injEq, Prod.mk.injEq] at h1
    obtain ⟨rfl, rfl, rfl⟩ := h1
    exact hj
  | c, dd :: p, e, H, y, e2, H2, hq, h0, hj, h1 => by
    cases c <;> cases dd <;> (try (simp [Code.at] at hq; done))
    case seq.l a b =>
      simp only [Code.at] at hq
      simp only [preTo] at h0
      simp only [postFrom] at h1
      split at h1
      · rename_i e3 H3 hp
        have ih := JobX.within hK hS hU hK1 hS1 hU1 hP a p e H _ _ _ hq h0 hj hp
        split at h1
        · rename_i y' e4 H4 hr
          cases h1
          have := JobX.run hK1 hS1 hU1 hr
          rw [hP] at this
          exact ih.seq this
        · cases h1
      · rename_i hne
        have ih := JobX.within hK hS hU hK1 hS1 hU1 hP a p e H _ _ _ hq h0 hj h1
        refine ih.seqExit fun hy => ?_
        subst hy
        exact hne _ _ h1
    case seq.r a b =>
      simp only [Code.at] at hq
      simp only [preTo] at h0
      simp only [postFrom] at h1
      split at h0
      · rename_i e3 H3 hr
        exact (JobX.run hK hS hU hr).seq (JobX.within hK hS hU hK1 hS1 hU1 hP b p e3 H3 _ _ _ hq h0 hj h1)
      · cases h0
    case block.b id c =>
      simp only [Code.at] at hq
      simp only [preTo] at h0
      simp only [postFrom] at h1
      split at h1
      · rename_i y' e3 H3 hp
        cases h1
        exact (JobX.within hK hS hU hK1 hS1 hU1 hP c p e H _ _ _ hq h0 hj hp).block
      · cases h1
    case cond.t o a b =>
      simp only [Code.at] at hq
      simp only [preTo] at h0
      simp only [postFrom] at h1
      split at h0
      · rename_i hv
        exact JobX.cond hv (JobX.within hK hS hU hK1 hS1 hU1 hP a p e H _ _ _ hq h0 hj h1)
      · cases h0
    case cond.f o a b =>
      simp only [Code.at] at hq
      simp only [preTo] at h0
      simp only [postFrom] at h1
      split at h0
      · rename_i hv
        exact JobX.condF hv (JobX.within hK hS hU hK1 hS1 hU1 hP b p e H _ _ _ hq h0 hj h1)
      · cases h0

/-! ### A function's body; a call's outcome in canonical words -/
def retB (K : Cfg) (fn : Func) : Option (AExit × Env × AH) → Option (AVal × AH)
  | some (.normal, e, H) => match sLeave K fn e (closeB e.marks H) with
    | some (.val v, H') => some (v, H')
    | _ => none
  | some (.ret, e, H) => match sLeave K fn e (closeB e.marks H) with
    | some (.val v, H') => some (v, H')
    | _ => none
  | _ => none

def nameOK (fn : Func) : Bool := !(strEq fn.name "runtime.NumGoroutine")

theorem JobX.body (hK : COK K) {fn : Func} (hf : K.fn.get f = some fn) (hb : fn.body = some c) (hn : nameOK fn = true) (hj : JobX K.P ρ H ρ1 H1 (.code c ⟨fn.ntmps, paramsB args 0 .e, [], false⟩) (.done x e1))
    (hr : retB K fn (some (x, e1, H1)) = some (v, H2)) : JobX K.P ρ H ρ1 H2 (.call f args) (.val v) := by
  have hpf := hK.fn f fn hf
  have hname' : (fn.name == "runtime.NumGoroutine") = false := by
    have : strEq fn.name "runtime.NumGoroutine" = false := by simpa [nameOK] using hn
    exact this
  obtain ⟨hi, n1, h1⟩ := hj
  have key : (x = .normal ∨ x = .ret) ∧ ∃ vs, closeB e1.marks H1 = some H2 ∧ resB K H2 e1.m fn.results.toList = some vs ∧ v = oneB vs := by
    have fin : ∀ {o : Option AH}, (match sLeave K fn e1 o with | some (.val v, H') => some (v, H') | _ => none) = some (v, H2) → ∃ vs, o = some H2 ∧ resB K H2 e1.m fn.results.toList = some vs ∧ v = oneB vs := by
      intro o h
      unfold sLeave at h
      cases o with
      | none => simp at h
      | some Hc =>
        simp only [sRes] at h
        cases hvs : resB K Hc e1.m fn.results.toList with
        | none => simp [hvs] at h
        | some vs =>
          simp only [hvs, Option.some.injEq, Prod.mk.injEq] at h
          obtain ⟨rfl, rfl⟩ := h
          exact ⟨vs, rfl, hvs, rfl⟩
    unfold retB at hr
    split at hr
    · rename_i he; cases he; exact ⟨.inl rfl, fin hr⟩
    · rename_i he; cases he; exact ⟨.inr rfl, fin hr⟩
    · cases hr
  obtain ⟨hxx, vs, hcl, hrs, rfl⟩ := key
  intro μ S w hR hv R hRR
  have h2 : fn.name ≠ "runtime.NumGoroutine" := by simpa using hname'
  refine ⟨fun args' => by simp [callFunc, hpf, h2, hb], ?_⟩
  refine callsIn_of_wp_marks hpf hb trivial (walk.wp (h1 μ S w _ Fence.wide hR ⟨params_env hv fn.ntmps, rfl, fun _ h => by cases h⟩ FOK.wide' _ fun μ1 S1 a1 w1 m1 r1 hE1 => ?_))
  have hl : LeavesInM Fence.wide 0 K.P fn a1.tmps R a1.defers .returning w1 := by
    rw [hE1.marks]
    refine closeB_run e1.marks H1 H2 w1 hcl r1 fun w2 hs2 => ?_
    obtain ⟨g1, g2⟩ := results_run hK hs2.rel hE1.env hrs
    exact ⟨_, g1, hRR μ1 S1 w2 (m1.trans hs2.mov) hs2.rel g2⟩
  rcases hxx with rfl | rfl
  · exact hl
  · exact hl

/-- A call's value and heap, in canonical words. -/
def canV (r : Ren) (v : AVal) (H : AH) (v2 : AVal) (next : Nat) (l : List (Nat × ABlk)) : Option Pairs :=
  match r.ok next with
  | true => both2 (camV r v v2) (camBs r H l)
  | false => none

theorem JobX.callPost (h : JobX P ρ H ρ1 H1 (.call f args) (.val v)) (ho : ρ2.o = ρ1.o) {r : Ren} {v2 : AVal} {next : Nat} {l : List (Nat × ABlk)} {p : Pairs} (hb : H.next ≤ r.base) (hc : canV r v H1 v2 next l = some p) (ha : Agrees ρ1 ρ2 p) :
    JobX P ρ H ρ2 (AH.of next l) (.call f args) (.val v2) := by
  unfold canV at hc
  split at hc
  · rename_i hok
    obtain ⟨x, y, g1, g2, rfl⟩ := both2_some hc
    have R := Ren.ok_sound hok
    have hn : ∀ i ∈ r.nils, r.get i = none := fun i hi => (R.nil i hi).1
    intro μ S w hR hv Q hQ
    refine h μ S w hR hv Q fun μ1 S1 w1 m1 r1 v1 => ?_
    obtain ⟨k1, k2, k3⟩ := canon_rel ho hok g2 ha.right r1
    obtain ⟨z1, z2⟩ := camV_sound hn _ _ _ g1 ha.left v1
    rw [← z1]
    exact hQ _ _ _ (canon_mov hok hb hR.bnd k2 k3 m1) k1 z2
  · cases hc

def callCanB (r : Ren) (v2 : AVal) (next : Nat) (l : List (Nat × ABlk)) (N : Nat) (want : Pairs) : Option (Out × AH) → Bool
  | some (.val v, H) => pairsB N want (canV r v H v2 next l)
  | _ => false

/-- A call, run and told in canonical words. -/
noncomputable def callCan (K : Cfg) (n : Nat) (f : FuncId) (args : List AVal) (next0 : Nat) (l0 : List (Nat × ABlk)) (r : Ren) (v2 : AVal) (next : Nat) (l : List (Nat × ABlk)) (N : Nat) (want : Pairs) : Bool :=
  Nat.ble next0 r.base && callCanB r v2 next l N want (evk K n (.call f args) (AH.of next0 l0))

theorem JobX.ofCall (hK : COK K) (hS : SOK K ρ) (hU : SumOK K ρ) {n next0 next N : Nat} {l0 l : List (Nat × ABlk)} {r : Ren} {v2 : AVal} {want : Pairs} (h : callCan K n f args next0 l0 r v2 next l N want = true) (hs : Alike N ρ ρ1) (hw : Agrees ρ ρ1 want) :
    JobX K.P ρ (AH.of next0 l0) ρ1 (AH.of next l) (.call f args) (.val v2) := by
  simp only [callCan, Bool.and_eq_true] at h
  obtain ⟨h1, h2⟩ := h
  unfold callCanB at h2
  split at h2
  · rename_i v H he
    unfold pairsB at h2
    split at h2
    · rename_i p hp
      exact (JobX.runCall hK hS hU he).callPost hs.o (Nat.le_of_ble_eq_true h1) hp (pairsOK_sound hs hw h2)
    · cases h2
  · cases h2

/-! ### A function with a piece that is known by other means: run up to it, and from it on -/
/-- What is asked behind a piece. -/
def contQ (F : Fence) (P : Program) : Code → List Dir → (Exit → Act → World → Prop) → Exit → Act → World → Prop
  | .seq a b, .l :: p, Q => contQ F P a p (Exit.then (b.wpIn F 0 P Q) Q)
  | .seq _ b, .r :: p, Q => contQ F P b p Q
  | .block id c, .b :: p, Q => contQ F P c p (Exit.inBlock id Q)
  | .cond _ a _, .t :: p, Q => contQ F P a p Q
  | .cond _ _ b, .f :: p, Q => contQ F P b p Q
  | _, _, Q => Q

theorem pre_walk (hK : COK K) (hS : SOK K ρ) (hU : SumOK K ρ) {n : Nat} {q : Code} {F : Fence} : ∀ (c : Code) (p : List Dir) (e : Env) (H : AH), Code.at c p = some q → preTo K n c p e H = some (e0, H0) →
    e0.inr = e.inr ∧ ∀ (μ : Mu) (S : Ids) (w : World) (a : Act), Rel ρ μ S H w → ERel ρ μ S e a → FOK F e.inr → ∀ Q : Exit → Act → World → Prop,
      (∀ μ' S' a' w', Mov μ S H w μ' S' H0 w' → Rel ρ μ' S' H0 w' → ERel ρ μ' S' e0 a' → q.wpIn F 0 K.P (contQ F K.P c p Q) a' w') → c.wpIn F 0 K.P Q a w
  | c, [], e, H, hq, h0 => by
    simp only [Code.at, Option.some.injEq] at hq
    subst hq
    simp only [preTo, Option.some.injEq, Prod.mk.injEq] at h0
    obtain ⟨rfl, rfl⟩ := h0
    refine ⟨rfl, fun μ S w a hR hE hF Q hQ => ?_⟩
    have := hQ μ S a w Mov.refl hR hE
    cases c <;> simpa only [contQ] using this
  | c, dd :: p, e, H, hq, h0 => by
    cases c <;> cases dd <;> (try (simp [Code.at] at hq; done))
    case seq.l a b =>
      simp only [Code.at] at hq
      simp only [preTo] at h0
      obtain ⟨hi, ih⟩ := pre_walk hK hS hU (F := F) a p e H hq h0
      exact ⟨hi, fun μ S w ac hR hE hF Q hQ => wpIn_seq (ih μ S w ac hR hE hF _ hQ)⟩
    case seq.r a b =>
      simp only [Code.at] at hq
      simp only [preTo] at h0
      split at h0
      · rename_i e3 H3 hr
        obtain ⟨hi1, n1, h1⟩ := JobX.run hK hS hU hr
        obtain ⟨hi, ih⟩ := pre_walk hK hS hU (F := F) b p e3 H3 hq h0
        refine ⟨hi.trans hi1, fun μ S w ac hR hE hF Q hQ => wpIn_seq (walk.wp (h1 μ S w ac F hR hE hF _ fun μ1 S1 a1 w1 m1 r1 hE1 => ?_))⟩
        exact ih μ1 S1 w1 a1 r1 hE1 (hi1 ▸ hF) Q fun μ2 S2 a2 w2 m2 r2 hE2 => hQ _ _ _ _ (m1.trans m2) r2 hE2
      · cases h0
    case block.b id c =>
      simp only [Code.at] at hq
      simp only [preTo] at h0
      obtain ⟨hi, ih⟩ := pre_walk hK hS hU (F := F) c p e H hq h0
      exact ⟨hi, fun μ S w ac hR hE hF Q hQ => wpIn_block (ih μ S w ac hR hE hF _ hQ)⟩
    case cond.t o a b =>
      simp only [Code.at] at hq
      simp only [preTo] at h0
      split at h0
      · rename_i hv
        obtain ⟨hi, ih⟩ := pre_walk hK hS hU (F := F) a p e H hq h0
        exact ⟨hi, fun μ S w ac hR hE hF Q hQ => wpIn_cond_true (by rw [(hE.env.orel o _ hv).1]; simp [conc]) (ih μ S w ac hR hE hF _ hQ)⟩
      · cases h0
    case cond.f o a b =>
      simp only [Code.at] at hq
      simp only [preTo] at h0
      split at h0
      · rename_i hv
        obtain ⟨hi, ih⟩ := pre_walk hK hS hU (F := F) b p e H hq h0
        exact ⟨hi, fun μ S w ac hR hE hF Q hQ => wpIn_cond_false (by rw [(hE.env.orel o _ hv).1]; simp [conc]) (ih μ S w ac hR hE hF _ hQ)⟩
      · cases h0

theorem post_walk (hK : COK K) (hS : SOK K ρ) (hU : SumOK K ρ) {n : Nat} {q : Code} {F : Fence} : ∀ (c : Code) (p : List Dir) (x : AExit) (e : Env) (H : AH) (y : AExit) (e2 : Env) (H2 : AH), Code.at c p = some q → postFrom K n c p x e H = some (y, e2, H2) →
    e2.inr = e.inr ∧ ∀ (μ : Mu) (S : Ids) (w : World) (a : Act), Rel ρ μ S H w → ERel ρ μ S e a → FOK F e.inr → ∀ Q : Exit → Act → World → Prop,
      (∀ μ' S' a' w', Mov μ S H w μ' S' H2 w' → Rel ρ μ' S' H2 w' → ERel ρ μ' S' e2 a' → Q (exitOf y) a' w') → contQ F K.P c p Q (exitOf x) a w
  | c, [], x, e, H, y, e2, H2, hq, h0 => by
    simp only [postFrom, Option.some.injEq, Prod.mk.injEq] at h0
    obtain ⟨rfl, rfl, rfl⟩ := h0
    refine ⟨rfl, fun μ S w a hR hE hF Q hQ => ?_⟩
    have := hQ μ S a w Mov.refl hR hE
    cases c <;> simpa only [contQ] using this
  | c, dd :: p, x, e, H, y, e2, H2, hq, h0 => by
    cases c <;> cases dd <;> (try (simp [Code.at] at hq; done))
    case seq.l a b =>
      simp only [Code.at] at hq
      simp only [postFrom] at h0
      split at h0
      · rename_i e3 H3 hp
        obtain ⟨hi, ih⟩ := post_walk hK hS hU (F := F) a p x e H _ _ _ hq hp
        split at h0
        · rename_i y' e4 H4 hr
          cases h0
          obtain ⟨hi1, n1, h1⟩ := JobX.run hK hS hU hr
          refine ⟨hi1.trans hi, fun μ S w ac hR hE hF Q hQ => ?_⟩
          simp only [contQ]
          refine ih μ S w ac hR hE hF _ fun μ1 S1 a1 w1 m1 r1 hE1 => ?_
          exact walk.wp (h1 μ1 S1 w1 a1 F r1 hE1 (hi ▸ hF) Q fun μ2 S2 a2 w2 m2 r2 hE2 => hQ _ _ _ _ (m1.trans m2) r2 hE2)
        · cases h0
      · rename_i hne
        obtain ⟨hi, ih⟩ := post_walk hK hS hU (F := F) a p x e H _ _ _ hq h0
        refine ⟨hi, fun μ S w ac hR hE hF Q hQ => ?_⟩
        simp only [contQ]
        refine ih μ S w ac hR hE hF _ fun μ1 S1 a1 w1 m1 r1 hE1 => ?_
        have := hQ _ _ _ _ m1 r1 hE1
        cases y with
        | normal => exact absurd h0 (hne _ _)
        | exit id => exact this
        | ret => exact this
    case seq.r a b =>
      simp only [Code.at] at hq
      simp only [postFrom] at h0
      obtain ⟨hi, ih⟩ := post_walk hK hS hU (F := F) b p x e H _ _ _ hq h0
      exact ⟨hi, fun μ S w ac hR hE hF Q hQ => by simp only [contQ]; exact ih μ S w ac hR hE hF Q hQ⟩
    case block.b id c =>
      simp only [Code.at] at hq
      simp only [postFrom] at h0
      split at h0
      · rename_i y' e3 H3 hp
        cases h0
        obtain ⟨hi, ih⟩ := post_walk hK hS hU (F := F) c p x e H _ _ _ hq hp
        refine ⟨hi, fun μ S w ac hR hE hF Q hQ => ?_⟩
        simp only [contQ]
        refine ih μ S w ac hR hE hF _ fun μ1 S1 a1 w1 m1 r1 hE1 => ?_
        have := hQ _ _ _ _ m1 r1 hE1
        cases y' with
        | normal => exact this
        | ret => exact this
        | exit j =>
          cases hj : Nat.beq j id with
          | true =>
            have hj' := Nat.eq_of_beq_eq_true hj
            simp only [inBlock, hj] at this
            simpa [exitOf, Exit.inBlock, hj'] using this
          | false =>
            simp only [inBlock, hj] at this
            have hne := Nat.ne_of_beq_eq_false hj
            simpa [exitOf, Exit.inBlock, hne] using this
      · cases h0
    case cond.t o a b =>
      simp only [Code.at] at hq
      simp only [postFrom] at h0
      obtain ⟨hi, ih⟩ := post_walk hK hS hU (F := F) a p x e H _ _ _ hq h0
      exact ⟨hi, fun μ S w ac hR hE hF Q hQ => by simp only [contQ]; exact ih μ S w ac hR hE hF Q hQ⟩
    case cond.f o a b =>
      simp only [Code.at] at hq
      simp only [postFrom] at h0
      obtain ⟨hi, ih⟩ := post_walk hK hS hU (F := F) b p x e H _ _ _ hq h0
      exact ⟨hi, fun μ S w ac hR hE hF Q hQ => by simp only [contQ]; exact ih μ S w ac hR hE hF Q hQ⟩

noncomputable def toB (K : Cfg) (n : Nat) (c : Code) (p : List Dir) (e : Env) (H : AH) (r : Ren) (s : St) (N : Nat) (want : Pairs) : Bool :=
  match preTo K n c p e H with
  | some (e1, H1) => pairsB N want (canSt r e1 H1 s)
  | none => false

noncomputable def fromB (K : Cfg) (n : Nat) (c : Code) (p : List Dir) (x : AExit) (s : St) (fn : Func) (r : Ren) (v2 : AVal) (next : Nat) (l : List (Nat × ABlk)) (N : Nat) (want : Pairs) : Bool :=
  match retB K fn (postFrom K n c p x s.env s.heap) with
  | some (v, H) => pairsB N want (canV r v H v2 next l)
  | none => false

/-- The same for a piece of code within a piece. -/
noncomputable def fromC (K : Cfg) (n : Nat) (c : Code) (p : List Dir) (x : AExit) (s : St) (y : AExit) (r : Ren) (s2 : St) (N : Nat) (want : Pairs) : Bool :=
  match postFrom K n c p x s.env s.heap with
  | some (z, e, H) => runCanB r s2 y N want (some (.done z e, H))
  | none => false

theorem JobX.codeWithin (hK : COK K) (hS : SOK K ρ) (hU : SumOK K ρ) {K2 : Cfg} (hK2 : COK K2) (hS2 : SOK K2 ρ2) (hU2 : SumOK K2 ρ2) (hP : K2.P = K.P)
    {p : List Dir} {q : Code} (hq : Code.at c p = some q) {n m N1 N3 : Nat} {r1 r2 : Ren} {s0 s1 s2 s3 : St} {w1 w3 : Pairs} {ρ3 : Rho}
    (h1 : toB K n c p s0.env s0.heap r1 s1 N1 w1 = true) (b1 : s0.next ≤ r1.base) (a1 : Alike N1 ρ ρ1) (g1 : Agrees ρ ρ1 w1)
    (hj : JobX K.P ρ1 s1.heap ρ2 s2.heap (.code q s1.env) (.done x s2.env))
    (h3 : fromC K2 m c p x s2 y r2 s3 N3 w3 = true) (b3 : s0.next ≤ r2.base) (a3 : Alike N3 ρ2 ρ3) (g3 : Agrees ρ2 ρ3 w3) (hc : ∀ c', c ≠ .loop c') :
    JobX K.P ρ s0.heap ρ3 s3.heap (.code c s0.env) (.done y s3.env) := by
  unfold toB at h1
  split at h1
  · rename_i e1 H1 hpre
    unfold pairsB at h1
    split at h1
    · rename_i pp hcan
      unfold fromC at h3
      split at h3
      · rename_i z e3 H3 hpost
        obtain ⟨e4, H4, p4, g4, g5, g6⟩ := runCanB_some h3
        cases g4
        have i1 := pre_walk hK hS hU (F := Fence.wide) c p _ _ hq hpre
        obtain ⟨hi2, n2, h2⟩ := hj
        have hsi : s1.inr = e1.inr ∧ s3.inr = e3.inr := by
          constructor
          · unfold canSt at hcan; split at hcan
            · rename_i h4; rw [beq2_eq] at h4; simp at h4; exact h4.symm
            · cases hcan
          · unfold canSt at g5; split at g5
            · rename_i h4; rw [beq2_eq] at h4; simp at h4; exact h4.symm
            · cases g5
        have i3 := post_walk hK2 hS2 hU2 (F := Fence.wide) c p x _ _ _ _ _ hq hpost
        refine JobX.of (hsi.2.trans (i3.1.trans (hi2.trans (hsi.1.trans i1.1)))) hc fun μ S w a F hR hE hF Q hQ => ?_
        refine (pre_walk hK hS hU (F := F) c p _ _ hq hpre).2 μ S w a hR hE hF Q fun μ1 S1 a1' w1' m1 r1' hE1 => ?_
        obtain ⟨k1, k2, k3, k4⟩ := canSt_sound (H0 := s0.heap) a1.o hcan (pairsOK_sound a1 g1 h1) b1 hR.bnd m1 r1' hE1
        have hF1 : FOK F s1.env.inr := by show FOK F s1.inr; rw [hsi.1, i1.1]; exact hF
        refine walk.wp (h2 _ _ _ _ F k2 k3 hF1 _ fun μ2 S2 a2 w2 m2 r2' hE2 => ?_)
        have hF2 : FOK F s2.env.inr := by rw [hi2]; exact hF1
        have := (post_walk hK2 hS2 hU2 (F := F) c p x _ _ _ _ _ hq hpost).2 μ2 S2 w2 a2 r2' hE2 hF2 Q fun μ3 S3 a3' w3' m3 r3 hE3 => ?_
        · rw [hP] at this; exact this
        · obtain ⟨z1, z2, z3, _⟩ := canSt_sound (H0 := s0.heap) a3.o g5 (pairsOK_sound a3 g3 g6) b3 hR.bnd ((k1.trans m2).trans m3) r3 hE3
          exact hQ _ _ _ _ z1 z2 z3
      · cases h3
    · cases h1
  · cases h1

theorem JobX.callWithin (hK : COK K) (hS : SOK K ρ) (hU : SumOK K ρ) {K2 : Cfg} (hK2 : COK K2) (hS2 : SOK K2 ρ2) (hU2 : SumOK K2 ρ2) (hP : K2.P = K.P) {fn : Func} (hf : K2.fn.get f = some fn) (hb : fn.body = some c) (hn : nameOK fn = true)
    {p : List Dir} {q : Code} (hq : Code.at c p = some q) {n m next0 next N1 N3 : Nat} {l0 l : List (Nat × ABlk)} {r1 r2 : Ren} {s1 s2 : St} {w1 w3 : Pairs} {v2 : AVal} {ρ3 : Rho}
    (h1 : toB K n c p ⟨fn.ntmps, paramsB args 0 .e, [], false⟩ (AH.of next0 l0) r1 s1 N1 w1 = true) (b1 : next0 ≤ r1.base) (a1 : Alike N1 ρ ρ1) (g1 : Agrees ρ ρ1 w1)
    (hj : JobX K.P ρ1 s1.heap ρ2 s2.heap (.code q s1.env) (.done x s2.env))
    (h3 : fromB K2 m c p x s2 fn r2 v2 next l N3 w3 = true) (b3 : next0 ≤ r2.base) (a3 : Alike N3 ρ2 ρ3) (g3 : Agrees ρ2 ρ3 w3) :
    JobX K.P ρ (AH.of next0 l0) ρ3 (AH.of next l) (.call f args) (.val v2) := by
  unfold toB at h1
  split at h1
  · rename_i e1 H1 hpre
    unfold pairsB at h1
    split at h1
    · rename_i pp hcan
      unfold fromB at h3
      split at h3
      · rename_i v H3 hret
        unfold pairsB at h3
        split at h3
        · rename_i p3 hcv
          cases hpost : postFrom K2 m c p x s2.env s2.heap with
          | none => rw [hpost] at hret; cases hret
          | some qq =>
            obtain ⟨y, e3, H4⟩ := qq
            rw [hpost] at hret
            rw [← hP]
            refine JobX.callPost (r := r2) (JobX.body (e1 := e3) (H1 := H4) (x := y) hK2 hf hb hn ?_ hret) a3.o b3 hcv (pairsOK_sound a3 g3 h3)
            obtain ⟨hi2, n2, h2⟩ := hj
            have hsi : s1.inr = e1.inr := by
              unfold canSt at hcan; split at hcan
              · rename_i h4; rw [beq2_eq] at h4; simp at h4; exact h4.symm
              · cases hcan
            have i1 := pre_walk hK hS hU (F := Fence.wide) c p _ _ hq hpre
            have i3 := post_walk hK2 hS2 hU2 (F := Fence.wide) c p x _ _ _ _ _ hq hpost
            have hwp : ∀ (μ : Mu) (S : Ids) (w : World) (a : Act) (F : Fence), Rel ρ μ S (AH.of next0 l0) w → ERel ρ μ S ⟨fn.ntmps, paramsB args 0 .e, [], false⟩ a → FOK F false → ∀ Q : Exit → Act → World → Prop,
                (∀ μ' S' a' w', Mov μ S (AH.of next0 l0) w μ' S' H4 w' → Rel ρ2 μ' S' H4 w' → ERel ρ2 μ' S' e3 a' → Q (exitOf y) a' w') → c.wpIn F 0 K.P Q a w := by
              intro μ S w a F hR hE hF Q hQ
              refine (pre_walk hK hS hU (F := F) c p _ _ hq hpre).2 μ S w a hR hE hF Q fun μ1 S1 a1' w1' m1 r1' hE1 => ?_
              obtain ⟨k1, k2, k3, k4⟩ := canSt_sound (H0 := AH.of next0 l0) a1.o hcan (pairsOK_sound a1 g1 h1) b1 hR.bnd m1 r1' hE1
              have hF1 : FOK F s1.env.inr := by show FOK F s1.inr; rw [hsi, i1.1]; exact hF
              refine walk.wp (h2 _ _ _ _ F k2 k3 hF1 _ fun μ2 S2 a2 w2 m2 r2' hE2 => ?_)
              have hF2 : FOK F s2.env.inr := by rw [hi2]; exact hF1
              have := (post_walk hK2 hS2 hU2 (F := F) c p x _ _ _ _ _ hq hpost).2 μ2 S2 w2 a2 r2' hE2 hF2 Q fun μ3 S3 a3' w3' m3 r3 hE3 => hQ _ _ _ _ ((k1.trans m2).trans m3) r3 hE3
              rw [hP] at this; exact this
            rw [hP]
            refine ⟨i3.1.trans (hi2.trans (hsi.trans i1.1)), ?_⟩
            by_cases hl : ∃ c', c = .loop c'
            · obtain ⟨c', rfl⟩ := hl
              cases p with
              | nil =>
                simp only [Code.at, Option.some.injEq] at hq
                subst hq
                simp only [preTo, Option.some.injEq, Prod.mk.injEq] at hpre
                obtain ⟨rfl, rfl⟩ := hpre
                simp only [postFrom, Option.some.injEq, Prod.mk.injEq] at hpost
                obtain ⟨rfl, rfl, rfl⟩ := hpost
                refine ⟨n2, fun μ S w a F hR hE hF Q hQ => ?_⟩
                obtain ⟨k1, k2, k3, k4⟩ := canSt_sound (H0 := AH.of next0 l0) a1.o hcan (pairsOK_sound a1 g1 h1) b1 hR.bnd Mov.refl hR hE
                have hF1 : FOK F s1.env.inr := by show FOK F s1.inr; rw [hsi]; exact hF
                exact h2 _ _ _ _ F k2 k3 hF1 _ fun μ2 S2 a2 w2 m2 r2' hE2 => hQ _ _ _ _ (k1.trans m2) r2' hE2
              | cons d p => cases d <;> simp [Code.at] at hq
            · refine ⟨0, fun μ S w a F hR hE hF Q hQ => ?_⟩
              have := hwp μ S w a F hR hE hF Q hQ
              cases c <;> first | exact absurd ⟨_, rfl⟩ hl | exact this
        · cases h3
      · cases h3
    · cases h1
  · cases h1
end
end Go.Eng
