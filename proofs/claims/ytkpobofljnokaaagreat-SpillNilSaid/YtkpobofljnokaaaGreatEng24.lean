/- The engine, twenty-fourth part: regions that draw their order: what holds while they run. -/
import Derived.Test.YtkpobofljnokaaaGreatEng23
namespace Go.Eng

structure RegOK (ops : List Oper) (p : Plan) (e : Env) (base : Nat) : Prop where
  hI : Items ops p.items
  chain : ∀ (i : Nat) (it : Item) (k : Nat) (kt : Item), p.items[i]? = some it → it.eff = true → k < i → p.items[k]? = some kt → kt.eff = true → Nat.testBit it.bf k = true
  prod1 : ∀ t it, p.prod.get t = some it → it ∈ p.items ∧ it.o.dst = some t
  prod2 : ∀ it ∈ p.items, ∀ t, it.o.dst = some t → p.prod.get t = some it
  effs : p.effs = effMask p.items
  bnd : base + ops.length < 1000000000
  dst : ∀ it ∈ p.items, ∀ t, it.o.dst = some t → t < e.n

structure Inv (ρ : Rho) (ops : List Oper) (p : Plan) (e : Env) (base : Nat) (μ0 : Mu) (S0 : Ids) (H0 : AH) (w0 : World) (D : Nat → Bool) (s : DS) (μ : Mu) (S : Ids) (w : World) (a : Act) : Prop where
  closed : ∀ (i : Nat) (it : Item), p.items[i]? = some it → D i = true → ∀ ed ∈ it.o.after.toList, Region.binds .any ed = true → D ed.on = true
  lt : ∀ i, D i = true → i < ops.length
  dn : ∀ (i : Nat) (it : Item), p.items[i]? = some it → it.eff = true → (D i = true ↔ Nat.testBit s.dn i = true)
  fix : ∀ i, Nat.testBit s.fix i = true → D i = true
  step : Step ρ μ0 S0 H0 w0 μ S (withQ s.H base D s.pend) w
  nxt : base + ops.length ≤ s.H.next
  free : ∀ i, i < ops.length → D i = false → ¬ S (base + i)
  clean : ∀ i b, (i, b) ∈ s.pend → s.H.m.get (base + i) = none
  env1 : ∀ t v, e.m.get t = some v → (∀ (i : Nat) (it : Item), p.items[i]? = some it → it.o.dst = some t → D i = false) → a.tmps[t]? = some (conc μ ρ v) ∧ VR ρ μ S v
  env2 : ∀ (i : Nat) (it : Item), p.items[i]? = some it → D i = true → ∃ v, s.vals.get i = some v ∧ ∀ t, it.o.dst = some t → a.tmps[t]? = some (conc μ ρ v) ∧ VR ρ μ S v
  size : e.n ≤ a.tmps.size
  marks : a.defers = e.marks.map fun r => ({ target := .collected (μ r).blk, args := #[] } : Deferred)
  mem : ∀ r ∈ e.marks, S r

section
variable {K : Cfg} {ρ : Rho} {ops : List Oper} {p : Plan} {e : Env} {base : Nat} {μ0 μ : Mu} {S0 S : Ids} {H0 : AH} {w0 w : World} {D : Nat → Bool} {s s' st : DS} {a : Act} {it : Item} {i : Nat}

theorem RegOK.at (R : RegOK ops p e base) {it : Item} (h : it ∈ p.items) : p.items[it.i]? = some it := by
  obtain ⟨k, hk⟩ := List.getElem?_of_mem h
  rw [(R.hI.op k it hk).1]; exact hk

theorem bf_closed (hI : Items ops p.items) (hcl : ∀ (i : Nat) (it : Item), p.items[i]? = some it → D i = true → ∀ ed ∈ it.o.after.toList, Region.binds .any ed = true → D ed.on = true) :
    ∀ (i : Nat) (it : Item), p.items[i]? = some it → (∀ ed ∈ it.o.after.toList, Region.binds .any ed = true → D ed.on = true) → ∀ j, Nat.testBit it.bf j = true → D j = true := by
  intro i
  induction i using Nat.strongRecOn with
  | _ i ih =>
    intro it hi hr j hj
    obtain ⟨ed, he, hb, h⟩ := hI.back i it hi j hj
    rcases h with rfl | ⟨jt, h1, h2⟩
    · exact hr ed he hb
    · obtain ⟨_, hlt, _⟩ := hI.edge i it hi ed he hb
      exact ih ed.on hlt jt h1 (hcl _ _ h1 (hr ed he hb)) j h2

theorem Inv.orel (R : RegOK ops p e base) (h : Inv ρ ops p e base μ0 S0 H0 w0 D s μ S w a) (hi : p.items[i]? = some it) (hD : D i = false)
    (hr : ∀ ed ∈ it.o.after.toList, Region.binds .any ed = true → D ed.on = true) {vals : PM AVal} (hv : ∀ j x, vals.get j = some x → s.vals.get j = some x) :
    ORel ρ μ S (lookB p e.m vals it) a := by
  have hbf := bf_closed R.hI h.closed i it hi hr
  have hii := (R.hI.op _ _ hi).1
  intro x v hx
  cases x with
  | const c => exact ⟨(ofValue_sound 8 c v hx μ).symm, ofValue_VR hx⟩
  | global g => cases hx
  | func f =>
    cases hx
    exact ⟨by simp [Act.eval, conc, concs], VR.func VRs.nil VRs.nil⟩
  | tmp t =>
    have key : a.tmps[t]? = some (conc μ ρ v) ∧ VR ρ μ S v := by
      simp only [lookB] at hx
      split at hx
      · rename_i hp
        refine h.env1 t v hx fun k kt hk hd => ?_
        have := R.prod2 kt (List.mem_of_getElem? hk) t hd
        rw [hp] at this; cases this
      · rename_i j hp
        obtain ⟨q1, q2⟩ := R.prod1 t j hp
        have hj := R.at q1
        split at hx
        · rename_i hb
          obtain ⟨v', g1, g2⟩ := h.env2 j.i j hj (hbf _ hb)
          rw [hv _ _ hx] at g1; cases g1
          exact g2 t q2
        · split at hx
          · rename_i hb
            refine h.env1 t v hx fun k kt hk hd => ?_
            have := R.prod2 kt (List.mem_of_getElem? hk) t hd
            rw [hp] at this; cases this
            have hkj : k = j.i := ((R.hI.op _ _ hk).1).symm
            subst hkj
            cases hDj : D j.i with
            | false => rfl
            | true =>
              have := bf_closed R.hI h.closed j.i j hj (h.closed j.i j hj hDj) it.i hb
              rw [hii, hD] at this; cases this
          · cases hx
    exact ⟨by simp [Act.eval, Array.getD_eq_getD_getElem?, key.1], key.2⟩

theorem Inv.wanted (R : RegOK ops p e base) (h : Inv ρ ops p e base μ0 S0 H0 w0 D s μ S w a) (hi : p.items[i]? = some it)
    (hr : ∀ ed ∈ it.o.after.toList, Region.binds .any ed = true → D ed.on = true) {vals : PM AVal} (hv : ∀ j x, vals.get j = some x → s.vals.get j = some x) {b : Bool} (hw : wantD ops vals it = some b) :
    Region.wanted it.o (yielded ops.toArray a.tmps) = b := by
  have hbf := bf_closed R.hI h.closed i it hi hr
  unfold wantD at hw
  unfold Region.wanted
  split at hw
  · rename_i hg; cases hw; rw [hg]
  · rename_i j wnt hg
    rw [hg]
    show (yielded ops.toArray a.tmps j == some wnt) = b
    split at hw
    · rename_i hb
      split at hw
      · rename_i oj hj
        rw [nth_eq] at hj
        have hlt : j < p.items.length := by rw [R.hI.len]; exact (List.getElem?_eq_some_iff.1 hj).1
        have hjt := List.getElem?_eq_getElem hlt
        obtain ⟨v, g1, g2⟩ := h.env2 j _ hjt (hbf j hb)
        have hoj := (R.hI.op _ _ hjt).2.1
        rw [hj] at hoj
        split at hw
        · rename_i t ht
          have htt := (g2 t (by rw [← Option.some.inj hoj]; exact ht)).1
          unfold yielded
          split at hw
          · rename_i c hc
            rw [hv _ _ hc] at g1; cases g1
            cases hw
            simp only [List.getElem?_toArray, hj, Option.bind_some, ht, htt, conc]
            cases c <;> cases wnt <;> rfl
          · rename_i hc
            rw [hv _ _ hc] at g1; cases g1
            cases hw
            simp only [List.getElem?_toArray, hj, Option.bind_some, ht, htt, conc]
            rfl
          · cases hw
        · cases hw
      · cases hw
    · cases hw

/-- After a stage what held holds. -/
theorem Inv.stage (R : RegOK ops p e base) (hW : WS K ops p e.m base s) (hW' : WS K ops p e.m base st) (hM : Mono s st) (h : Inv ρ ops p e base μ0 S0 H0 w0 D s μ S w a) : Inv ρ ops p e base μ0 S0 H0 w0 D st μ S w a := by
  have hb : ∀ i b, (i, b) ∈ st.pend → base + i < 1073741823 := fun i b hm => by have := (hW'.val i b hm).2; have := R.bnd; omega
  have hb0 : ∀ i b, (i, b) ∈ s.pend → base + i < 1073741823 := fun i b hm => hb i b (hM.pend _ hm)
  have hnone : ∀ i b, (i, b) ∈ st.pend → (i, b) ∉ s.pend → D i = false := by
    intro i b hm hn
    rcases hM.fresh i b hm with h1 | h1
    · exact absurd h1 hn
    · cases hD : D i with
      | false => rfl
      | true =>
        have hl := h.lt i hD
        rw [← R.hI.len] at hl
        obtain ⟨v, g1, _⟩ := h.env2 i _ (List.getElem?_eq_getElem hl) hD
        rw [h1] at g1; cases g1
  refine ⟨h.closed, h.lt, fun i it hi he => by rw [hM.dn]; exact h.dn i it hi he, fun i hf => h.fix i (by rw [← hM.fix]; exact hf), ?_, by rw [hM.H]; exact h.nxt, h.free, fun i b hm => ?_, h.env1,
    fun i it hi hD => ?_, h.size, h.marks, h.mem⟩
  · refine h.step.trans (Step.less h.step.rel (by rw [withQ_next, withQ_next, hM.H]; exact Nat.le_refl _) fun id c hc => ?_)
    rw [hM.H] at hc
    rcases withQ_cases _ id c hb hc with ⟨i, h1, h2, rfl⟩ | ⟨h1, h2⟩
    · have : (i, c) ∈ s.pend := Classical.byContradiction fun hn => by rw [hnone i c h1 hn] at h2; cases h2
      exact withQ_mem _ i c hb0 hW.uniq this h2
    · rw [withQ_out _ id hb0 fun i b hm hD => h1 i b (hM.pend _ hm) hD]; exact h2
  · rw [hM.H]
    by_cases hs : (i, b) ∈ s.pend
    · exact h.clean i b hs
    · have hD := hnone i b hm hs
      have hl := (hW'.val i b hm).2
      cases hg : s.H.m.get (base + i) with
      | none => rfl
      | some c =>
        exfalso
        refine h.free i hl hD (h.step.rel.blk (base + i) c ?_).1
        rw [withQ_out _ _ hb0 fun j d hj hDj => ?_]
        · exact hg
        · intro he
          have : j = i := by omega
          subst this
          rw [hD] at hDj; cases hDj
  · obtain ⟨v, g1, g2⟩ := h.env2 i it hi hD
    exact ⟨v, hM.vals _ _ g1, g2⟩

/-- How the variables go on when an operation is done. -/
theorem Inv.env (R : RegOK ops p e base) (h : Inv ρ ops p e base μ0 S0 H0 w0 D s μ S w a) (hi : p.items[i]? = some it) (hD : D i = false) {D' : Nat → Bool} (hD' : ∀ j, D' j = (D j || decide (j = i)))
    {μ' : Mu} {S' : Ids} (hup : μ.upto S μ') (hsub : S.le S') {vals : PM AVal} (hvals : ∀ j x, s.vals.get j = some x → vals.get j = some x) {v : AVal} (hv : vals.get i = some v) (hvr : VR ρ μ' S' v) :
    (∀ t x, e.m.get t = some x → (∀ (k : Nat) (kt : Item), p.items[k]? = some kt → kt.o.dst = some t → D' k = false) → (a.put it.o.dst (conc μ' ρ v)).tmps[t]? = some (conc μ' ρ x) ∧ VR ρ μ' S' x) ∧
    (∀ (k : Nat) (kt : Item), p.items[k]? = some kt → D' k = true → ∃ x, vals.get k = some x ∧ ∀ t, kt.o.dst = some t → (a.put it.o.dst (conc μ' ρ v)).tmps[t]? = some (conc μ' ρ x) ∧ VR ρ μ' S' x) ∧
    e.n ≤ (a.put it.o.dst (conc μ' ρ v)).tmps.size ∧ (a.put it.o.dst (conc μ' ρ v)).defers = e.marks.map (fun r => ({ target := .collected (μ' r).blk, args := #[] } : Deferred)) := by
  have hitm := List.mem_of_getElem? hi
  have put_ne : ∀ t, it.o.dst ≠ some t → (a.put it.o.dst (conc μ' ρ v)).tmps[t]? = a.tmps[t]? := by
    intro t ht
    unfold Act.put
    cases hd : it.o.dst with
    | none => rfl
    | some d => simp only; rw [Array.getElem?_setIfInBounds_ne (fun q => ht (by rw [hd, q]))]
  refine ⟨fun t x hx hno => ?_, fun k kt hk hDk => ?_, ?_, ?_⟩
  · have hne : it.o.dst ≠ some t := fun q => by have := hno i it hi q; rw [hD'] at this; simp at this
    obtain ⟨g1, g2⟩ := h.env1 t x hx fun k kt hk hd => by have := hno k kt hk hd; rw [hD'] at this; simp at this; exact this.1
    rw [put_ne t hne, g2.eq hup]
    exact ⟨g1, g2.up hup hsub⟩
  · by_cases hki : k = i
    · subst hki
      rw [hi] at hk; cases hk
      refine ⟨v, hv, fun t ht => ⟨?_, hvr⟩⟩
      have hlt : t < a.tmps.size := Nat.lt_of_lt_of_le (R.dst _ hitm t ht) h.size
      simp [Act.put, ht, hlt]
    · rw [hD'] at hDk
      simp [hki] at hDk
      obtain ⟨x, g1, g2⟩ := h.env2 k kt hk hDk
      refine ⟨x, hvals _ _ g1, fun t ht => ?_⟩
      have hne : it.o.dst ≠ some t := fun q => by
        have h1 := R.prod2 _ hitm t q
        have h2 := R.prod2 _ (List.mem_of_getElem? hk) t ht
        rw [h1] at h2; cases h2
        rw [← (R.hI.op _ _ hk).1, (R.hI.op _ _ hi).1] at hki
        exact hki rfl
      obtain ⟨g3, g4⟩ := g2 t ht
      rw [put_ne t hne, g4.eq hup]
      exact ⟨g3, g4.up hup hsub⟩
  · unfold Act.put
    cases it.o.dst with
    | none => exact h.size
    | some d => simpa using h.size
  · have : (a.put it.o.dst (conc μ' ρ v)).defers = a.defers := by unfold Act.put; cases it.o.dst <;> rfl
    rw [this, h.marks]
    exact List.map_congr_left fun r hr => by rw [hup r (h.mem r hr)]
end
end Go.Eng
