/- The engine, twenty-sixth part: regions that draw their order: an effect's step; the whole. -/
import Derived.Test.YtkpobofljnokaaaGreatEng25
namespace Go.Eng
section
variable {K : Cfg} {ρ : Rho} {ops : List Oper} {p : Plan} {e : Env} {base : Nat} {μ0 μ : Mu} {S0 S : Ids} {H0 H1 : AH} {w0 w : World} {D D' : Nat → Bool} {s s1 s' st sf : DS} {a : Act} {it : Item} {i : Nat} {F : Fence} {rec : Rec}
  {Q : Exit → Act → World → Prop} {next : Act → World → Prop} {v : AVal}

theorem effS_some {r : Option (AVal × AH)} (h : effS base st it r = some s1) : ∃ v H1, r = some (v, H1) ∧ st.vals.get it.i = none ∧ cleanB base H1 (lessP it.bf st.pend) = true ∧
    s1 = ⟨st.vals.set it.i (some v), lessP it.bf st.pend, H1, Nat.lor st.dn (bit it.i), Nat.lor st.fix it.bf⟩ := by
  unfold effS at h
  split at h
  · rename_i v H1
    split at h
    · cases h
    · rename_i hn
      unfold effC at h
      split at h
      · rename_i hc
        cases h
        exact ⟨v, H1, rfl, hn, hc, rfl⟩
      · cases h
  · cases h

theorem effD_some (h : effD K rec ops p e.m base it st = some s1) : ∃ b v H1, wantD ops st.vals it = some b ∧
    (if b then effR rec (withP st.H base it.bf st.pend) (effB K (withP st.H base it.bf st.pend) (lookB p e.m st.vals it) it.o) else some (.undef, withP st.H base it.bf st.pend)) = some (v, H1) ∧
    st.vals.get it.i = none ∧ cleanB base H1 (lessP it.bf st.pend) = true ∧ s1 = ⟨st.vals.set it.i (some v), lessP it.bf st.pend, H1, Nat.lor st.dn (bit it.i), Nat.lor st.fix it.bf⟩ := by
  unfold effD at h
  split at h
  · rename_i hw
    obtain ⟨v, H1, h1, h2, h3, h4⟩ := effS_some h
    exact ⟨true, v, H1, hw, h1, h2, h3, h4⟩
  · rename_i hw
    obtain ⟨v, H1, h1, h2, h3, h4⟩ := effS_some h
    exact ⟨false, v, H1, hw, h1, h2, h3, h4⟩
  · cases h

theorem eff_WS (R : RegOK ops p e base) (hW : WS K ops p e.m base st) (hi : p.items[i]? = some it) (he : it.eff = true) (hn : st.vals.get i = none) :
    WS K ops p e.m base ⟨st.vals.set i (some v), lessP it.bf st.pend, H1, Nat.lor st.dn (bit i), Nat.lor st.fix it.bf⟩ := by
  have hlt : i < ops.length := by rw [← R.hI.len]; exact (List.getElem?_eq_some_iff.1 hi).1
  have hb : i < 1073741823 := by have := R.bnd; omega
  have hv := set_vals (v := v) hb hn
  refine ⟨fun j jt x hj hje hx hf => ?_, fun j c d hc hd => hW.uniq _ _ _ ((lessP_mem _ _ _).1 hc).1 ((lessP_mem _ _ _).1 hd).1, fun j c hc => ?_⟩
  · have hne : j ≠ i := fun q => by subst q; rw [hi] at hj; cases hj; rw [he] at hje; cases hje
    simp only [PM.get_set_all hb, if_neg hne] at hx
    simp only [lor_test, Bool.or_eq_false_iff] at hf
    refine (hW.ev j jt x hj hje hx hf.1).mono hv fun c => ?_
    rw [lessP_mem]
    exact ⟨fun h => h.1, fun h => ⟨h, hf.2⟩⟩
  · obtain ⟨⟨x, hx⟩, hl⟩ := hW.val j c ((lessP_mem _ _ _).1 hc).1
    exact ⟨⟨x, hv _ _ hx⟩, hl⟩

theorem eff_step (hK : COK K) (hS : SOK K ρ) (hrec : RecOK K ρ rec) {b : Bool} (hF : FOK F b) (R : RegOK ops p e base) (hWst : WS K ops p e.m base st)
    (h : Inv ρ ops p e base μ0 S0 H0 w0 D st μ S w a) (hi : p.items[i]? = some it) (he : it.eff = true) (hD : D i = false) (hr : ∀ ed ∈ it.o.after.toList, Region.binds .any ed = true → D ed.on = true)
    (hD' : ∀ j, D' j = (D j || decide (j = i))) (heff : effD K rec ops p e.m base it st = some s1) (hnext : ∀ μ' S' a' w', Inv ρ ops p e base μ0 S0 H0 w0 D' s1 μ' S' w' a' → next a' w') : wpOpIn F 0 K.P ops.toArray Q i next a w := by
  obtain ⟨hii, hop, hieff⟩ := R.hI.op _ _ hi
  have hlt : i < ops.length := (List.getElem?_eq_some_iff.1 hop).1
  have hbf := bf_closed R.hI h.closed i it hi hr
  have hb : ∀ i b, (i, b) ∈ st.pend → base + i < 1073741823 := fun i b hm => by have := (hWst.val i b hm).2; have := R.bnd; omega
  obtain ⟨bb, v, H1, hw, hrun, hnone, hclean, rfl⟩ := effD_some heff
  rw [hii] at hnone hnext
  have hbi : i < 1073741823 := by have := R.bnd; omega
  have hclean' := cleanB_sound _ hclean
  have hvals := set_vals (v := v) hbi hnone
  have hvi : (st.vals.set i (some v)).get i = some v := by rw [PM.get_set_all hbi, if_pos rfl]
  have hcl : ∀ (k : Nat) (kt : Item), p.items[k]? = some kt → D' k = true → ∀ ed ∈ kt.o.after.toList, Region.binds .any ed = true → D' ed.on = true := by
    intro k kt hk hDk ed hed hbd
    rw [hD'] at hDk ⊢
    by_cases hki : k = i
    · subst hki; rw [hi] at hk; cases hk; rw [hr ed hed hbd]; rfl
    · simp [hki] at hDk; rw [h.closed k kt hk hDk ed hed hbd]; rfl
  have hlt' : ∀ j, D' j = true → j < ops.length := fun j hj => by
    rw [hD'] at hj; simp at hj
    rcases hj with hj | rfl
    · exact h.lt j hj
    · exact hlt
  have hdn : ∀ (k : Nat) (kt : Item), p.items[k]? = some kt → kt.eff = true → (D' k = true ↔ Nat.testBit (Nat.lor st.dn (bit i)) k = true) := by
    intro k kt hk hke
    rw [hD', lor_test, bit_test, Bool.or_eq_true, Bool.or_eq_true, h.dn k kt hk hke]
  have hfx : ∀ j, Nat.testBit (Nat.lor st.fix it.bf) j = true → D' j = true := fun j hj => by
    rw [lor_test, Bool.or_eq_true] at hj
    rw [hD']
    rcases hj with hj | hj
    · rw [h.fix j hj]; rfl
    · rw [hbf j hj]; rfl
  have hsubG := h.sub R hWst hbf rfl (fun q hq => hq)
  have hGn : (withP st.H base it.bf st.pend).next = st.H.next := by rw [withP_eq, withQ_next]
  have hrelG : Rel ρ μ S (withP st.H base it.bf st.pend) w := h.step.rel.less (by rw [hGn, withQ_next]; exact Nat.le_refl _) hsubG
  have hpl : ∀ j c, (j, c) ∈ lessP it.bf st.pend → (j, c) ∈ st.pend := fun j c hc => ((lessP_mem _ _ _).1 hc).1
  have fin : ∀ μ' S' w', Step ρ μ S (withP st.H base it.bf st.pend) w μ' S' H1 w' → VR ρ μ' S' v → next (a.put it.o.dst (conc μ' ρ v)) w' := by
    intro μ' S' w' hs hv
    have hHn : st.H.next ≤ H1.next := by have := hs.next; rw [hGn] at this; exact this
    obtain ⟨q1, q2, q3, q4⟩ := h.env R hi hD hD' hs.up hs.sub hvals hvi hv
    refine hnext μ' S' _ w' ⟨hcl, hlt', hdn, hfx, ?_, Nat.le_trans h.nxt hHn, fun j hj hDj => ?_, fun j c hc => hclean' j c hc, q1, q2, q3, q4, fun r hr => hs.sub r (h.mem r hr)⟩
    · refine h.step.trans (Step.frame h.step.rel hsubG hs (by rw [hGn, withQ_next]) (by rw [withQ_next]; exact Nat.le_refl _) fun id c hc => ?_)
      rcases withQ_cases _ id c (fun j d hm => hb j d (hpl j d hm)) hc with ⟨j, h1, h2, rfl⟩ | ⟨_, h2⟩
      · right
        obtain ⟨g1, g2⟩ := (lessP_mem _ _ _).1 h1
        have hji : j ≠ i := fun q => by
          subst q
          obtain ⟨⟨x, hx⟩, _⟩ := hWst.val j c g1
          rw [hnone] at hx; cases hx
        rw [hD'] at h2; simp [hji] at h2
        refine ⟨withQ_mem _ j c hb hWst.uniq g1 h2, ?_⟩
        rw [withP_eq, withQ_out _ _ hb fun k d hm hq he => ?_]
        · exact h.clean j c g1
        · have : k = j := by omega
          subst this; rw [g2] at hq; cases hq
      · exact .inl h2
    · rw [hD'] at hDj; simp at hDj
      intro hs'
      rcases hs.new _ hs' with g | g
      · exact h.free j hj hDj.1 g
      · rw [hGn] at g; have := h.nxt; omega
  unfold wpOpIn
  simp only [List.getElem?_toArray, hop]
  rw [h.wanted R hi hr (fun _ _ h => h) hw]
  cases bb with
  | true =>
    simp only [if_true] at hrun ⊢
    exact op_ok (G := H1) (id := 0 + (withP st.H base it.bf st.pend).next) hK hS hrec hF hrelG (h.orel R hi hD hr fun _ _ h => h) (fun hs => by have := hrelG.bnd _ hs; omega) (.inl ⟨hieff ▸ he, hrun, fin⟩)
  | false =>
    simp only [Bool.false_eq_true, if_false, Option.some.injEq, Prod.mk.injEq] at hrun ⊢
    obtain ⟨rfl, rfl⟩ := hrun
    refine ⟨fun f _ => hF.fn f, ?_⟩
    have := fin μ S w (Step.refl hrelG) VR.undef
    rwa [conc_undef] at this

/-- What is left of a region, once a stage is done. -/
def Rest (K : Cfg) (rec : Rec) (ops : List Oper) (p : Plan) (m : PM AVal) (base : Nat) (sf : DS) (l : List Item) (st : DS) : Prop :=
  ((∀ x ∈ l, x.eff = false) ∧ st = sf) ∨ ∃ l1 it l2 s1, l = l1 ++ it :: l2 ∧ (∀ x ∈ l1, x.eff = false) ∧ it.eff = true ∧ effD K rec ops p m base it st = some s1 ∧ allD K rec ops p m base l2 s1 = some sf

theorem allD_rest {m : PM AVal} : ∀ (l : List Item) (s : DS), allD K rec ops p m base l s = some sf → ∃ st, stageB K ops p m base p.items s = some st ∧ Rest K rec ops p m base sf l st
  | [], s, h => ⟨sf, h, .inl ⟨by simp, rfl⟩⟩
  | x :: l, s, h => by
    unfold allD at h
    split at h
    · rename_i hx
      split at h
      · rename_i st hst
        split at h
        · rename_i s1 he
          exact ⟨st, hst, .inr ⟨[], x, l, s1, rfl, by simp, hx, he, h⟩⟩
        · cases h
      · cases h
    · rename_i hx
      obtain ⟨st, h1, h2⟩ := allD_rest l s h
      refine ⟨st, h1, ?_⟩
      rcases h2 with ⟨g1, g2⟩ | ⟨l1, it, l2, s1, rfl, g2, g3⟩
      · exact .inl ⟨fun y hy => by cases hy with | head => exact hx | tail _ hy => exact g1 y hy, g2⟩
      · exact .inr ⟨x :: l1, it, l2, s1, rfl, fun y hy => by cases hy with | head => exact hx | tail _ hy => exact g2 y hy, g3⟩

theorem ready_all (R : RegOK ops p e base) {listed : Array Bool} (hsz : listed.size = ops.length) (hr : Region.ready .any ops.toArray listed = []) : ∀ j, j < ops.length → listed.getD j false = true := by
  intro j
  induction j using Nat.strongRecOn with
  | _ j ih =>
    intro hj
    cases hl : listed.getD j false with
    | true => rfl
    | false =>
      exfalso
      have : j ∈ Region.ready .any ops.toArray listed := by
        rw [mem_ready]
        refine ⟨?_, ops[j], by simp [hj], fun ed hed hb => ?_⟩
        · rw [Array.getD_eq_getD_getElem?] at hl ⊢
          rw [Array.getElem?_eq_getElem (by omega)] at hl ⊢
          exact hl
        · have hjl : j < p.items.length := by rw [R.hI.len]; exact hj
          have hit := List.getElem?_eq_getElem hjl
          have ho := (R.hI.op _ _ hit).2.1
          rw [List.getElem?_eq_getElem hj] at ho
          rw [Option.some.inj ho] at hed
          have := (R.hI.edge _ _ hit ed (by simpa using hed) hb).2.1
          exact ih ed.on this (by omega)
      rw [hr] at this; cases this

theorem drawn_go (hK : COK K) (hS : SOK K ρ) (hrec : RecOK K ρ rec) {b : Bool} (hF : FOK F b) (R : RegOK ops p e base) (h0 : H0.next = base)
    (hQ : ∀ D μ S w a, (∀ j, j < ops.length → D j = true) → WS K ops p e.m base sf → Inv ρ ops p e base μ0 S0 H0 w0 D sf μ S w a → Q .normal a w) :
    ∀ (fuel : Nat) (listed : Array Bool) (todo : List Nat) (pre l : List Item) (s st : DS) (μ : Mu) (S : Ids) (w : World) (a : Act), listed.size = ops.length → todo.length = fuel → (∀ j, j < ops.length → listed.getD j false = false → j ∈ todo) →
      p.items = pre ++ l → (∀ (k : Nat) (kt : Item), p.items[k]? = some kt → kt.eff = true → (listed.getD k false = false ↔ pre.length ≤ k)) →
      WS K ops p e.m base s → stageB K ops p e.m base p.items s = some st → Rest K rec ops p e.m base sf l st → Inv ρ ops p e base μ0 S0 H0 w0 (fun j => listed.getD j false) st μ S w a →
      wpAnyIn F 0 K.P .any ops.toArray Q fuel listed a w := by
  have hlen : ops.length < 1073741823 := by have := R.bnd; omega
  have done : ∀ (listed : Array Bool) (pre l : List Item) (s st : DS) (μ : Mu) (S : Ids) (w : World) (a : Act), listed.size = ops.length → p.items = pre ++ l →
      (∀ (k : Nat) (kt : Item), p.items[k]? = some kt → kt.eff = true → (listed.getD k false = false ↔ pre.length ≤ k)) → WS K ops p e.m base s → stageB K ops p e.m base p.items s = some st → Rest K rec ops p e.m base sf l st →
      Inv ρ ops p e base μ0 S0 H0 w0 (fun j => listed.getD j false) st μ S w a → (∀ j, j < ops.length → listed.getD j false = true) → Q .normal a w := by
    intro listed pre l s st μ S w a hsz hpl heff hW hst hrest hinv hall
    have hWst := (stage_sound R.hI hlen p.items s st (fun _ h => h) hW hst).2.1
    rcases hrest with ⟨_, rfl⟩ | ⟨l1, it, l2, s1, rfl, _, g3, _⟩
    · exact hQ _ μ S w a hall hWst hinv
    · exfalso
      have hit : p.items[pre.length + l1.length]? = some it := by rw [hpl]; simp
      have := (heff _ it hit g3).2 (by omega)
      rw [hall _ (by rw [← R.hI.len]; exact (List.getElem?_eq_some_iff.1 hit).1)] at this
      cases this
  intro fuel
  induction fuel with
  | zero =>
    intro listed todo pre l s st μ S w a hsz htl htodo hpl heff hW hst hrest hinv
    have hall : ∀ j, j < ops.length → listed.getD j false = true := fun j hj => by
      cases hl : listed.getD j false with
      | true => rfl
      | false => have := htodo j hj hl; rw [List.length_eq_zero_iff.1 htl] at this; cases this
    refine ⟨?_, done listed pre l s st μ S w a hsz hpl heff hW hst hrest hinv hall⟩
    apply List.eq_nil_iff_forall_not_mem.2
    intro j hj
    obtain ⟨h1, o, h2, _⟩ := mem_ready.1 hj
    have hjl : j < ops.length := by simpa using (Array.getElem?_eq_some_iff.1 h2).1
    have := hall j hjl
    rw [Array.getD_eq_getD_getElem?, Array.getElem?_eq_getElem (by omega)] at this h1
    simp at this h1
    rw [this] at h1; cases h1
  | succ fuel ih =>
    intro listed todo pre l s st μ S w a hsz htl htodo hpl heff hW hst hrest hinv
    refine ⟨fun hr => done listed pre l s st μ S w a hsz hpl heff hW hst hrest hinv (ready_all R hsz hr), fun i hir => ?_⟩
    obtain ⟨h1, o, h2, h3⟩ := mem_ready.1 hir
    have hil : i < ops.length := by simpa using (Array.getElem?_eq_some_iff.1 h2).1
    have hD : listed.getD i false = false := by
      rw [Array.getD_eq_getD_getElem?, Array.getElem?_eq_getElem (by omega)] at h1 ⊢
      exact h1
    have hilen : i < p.items.length := by rw [R.hI.len]; exact hil
    obtain ⟨it, hit⟩ : ∃ it, p.items[i]? = some it := ⟨_, List.getElem?_eq_getElem hilen⟩
    have ho := (R.hI.op _ _ hit).2.1
    have hoo : o = it.o := by
      rw [List.getElem?_toArray] at h2
      rw [ho] at h2; cases h2; rfl
    subst hoo
    have hr : ∀ ed ∈ it.o.after.toList, Region.binds .any ed = true → listed.getD ed.on false = true := fun ed hed hb => h3 ed (by simpa using hed) hb
    have hD' : ∀ j, (listed.setIfInBounds i true).getD j false = (listed.getD j false || decide (j = i)) := by
      intro j
      rw [Array.getD_eq_getD_getElem?, Array.getD_eq_getD_getElem?, Array.getElem?_setIfInBounds]
      by_cases hji : i = j
      · subst hji; simp [hsz, hil]
      · have : ¬ j = i := fun q => hji q.symm
        simp [hji, this]
    have htodo' : ∀ j, j < ops.length → (listed.setIfInBounds i true).getD j false = false → j ∈ todo.erase i := by
      intro j hj hl
      rw [hD'] at hl; simp at hl
      exact (List.mem_erase_of_ne hl.2).2 (htodo j hj (by rw [Array.getD_eq_getD_getElem?]; exact hl.1))
    have htl' : (todo.erase i).length = fuel := by rw [List.length_erase_of_mem (htodo i hil hD)]; omega
    have hsz' : (listed.setIfInBounds i true).size = ops.length := by simpa using hsz
    have hWst := (stage_sound R.hI hlen p.items s st (fun _ h => h) hW hst).2.1
    cases hie : it.eff with
    | false =>
      refine value_step hK hS hrec hF R h0 hW hst hinv hit hie hD hr hD' fun μ' S' a' w' hinv' => ?_
      refine ih _ _ pre l s st μ' S' w' a' hsz' htl' htodo' hpl (fun k kt hk hke => ?_) hW hst hrest hinv'
      rw [hD', ← heff k kt hk hke]
      have : k ≠ i := fun q => by subst q; rw [hit] at hk; cases hk; rw [hie] at hke; cases hke
      simp [this]
    | true =>
      have hpi := (heff i it hit hie).1 hD
      rcases hrest with ⟨g1, _⟩ | ⟨l1, E, l2, s1, rfl, g2, g3, g4, g5⟩
      · exfalso
        rw [hpl, List.getElem?_append_right hpi] at hit
        rw [g1 it (List.mem_of_getElem? hit)] at hie; cases hie
      · have hE : p.items[pre.length + l1.length]? = some E := by rw [hpl]; simp
        have hiE : i = pre.length + l1.length := by
          rcases Nat.lt_trichotomy i (pre.length + l1.length) with h | h | h
          · exfalso
            rw [hpl, List.getElem?_append_right hpi, List.getElem?_append_left (by omega)] at hit
            rw [g2 it (List.mem_of_getElem? hit)] at hie; cases hie
          · exact h
          · exfalso
            have hb := R.chain i it _ E hit hie h hE g3
            have := bf_closed R.hI hinv.closed i it hit hr _ hb
            have h4 := (heff _ E hE g3).2 (by omega)
            rw [h4] at this; cases this
        have hEit : E = it := by rw [← hiE, hit] at hE; cases hE; rfl
        subst hEit
        have hpl' : p.items = (pre ++ l1 ++ [E]) ++ l2 := by rw [hpl]; simp
        have hnone : st.vals.get i = none := by
          obtain ⟨_, _, _, _, _, q, _, _⟩ := effD_some g4
          rw [(R.hI.op _ _ hit).1] at q; exact q
        have hWs1 : WS K ops p e.m base s1 := by
          obtain ⟨_, v, H1, _, _, _, _, rfl⟩ := effD_some g4
          rw [(R.hI.op _ _ hit).1]
          exact eff_WS R hWst hit hie hnone
        obtain ⟨st1, hst1, hrest1⟩ := allD_rest l2 s1 g5
        obtain ⟨hM1, hWst1, _⟩ := stage_sound R.hI hlen p.items s1 st1 (fun _ h => h) hWs1 hst1
        refine eff_step hK hS hrec hF R hWst hinv hit hie hD hr hD' g4 fun μ' S' a' w' hinv' => ?_
        refine ih _ _ (pre ++ l1 ++ [E]) l2 s1 st1 μ' S' w' a' hsz' htl' htodo' hpl' (fun k kt hk hke => ?_) hWs1 hst1 hrest1 (hinv'.stage R hWs1 hWst1 hM1)
        rw [hD']
        simp only [Bool.or_eq_false_iff, decide_eq_false_iff_not, heff k kt hk hke, List.length_append, List.length_singleton]
        constructor
        · rintro ⟨q1, q2⟩
          rcases Nat.lt_trichotomy k (pre.length + l1.length) with h | h | h
          · exfalso
            rw [hpl, List.getElem?_append_right q1, List.getElem?_append_left (by omega)] at hk
            rw [g2 kt (List.mem_of_getElem? hk)] at hke; cases hke
          · omega
          · omega
        · intro q; omega
end
end Go.Eng
